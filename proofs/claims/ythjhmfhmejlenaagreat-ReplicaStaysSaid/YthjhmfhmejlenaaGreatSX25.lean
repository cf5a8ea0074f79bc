/-
  A WALKER OF CODE IN SMALL, part 25: all code; functions gone through where they are called.
-/
import Derived.Test.YthjhmfhmejlenaaGreatSX21
import Derived.Test.YthjhmfhmejlenaaGreatAL24
set_option linter.unusedSectionVars false
set_option linter.unusedVariables false
set_option linter.unusedSimpArgs false
section
namespace Go.bO.cK
variable {dm:Bool} {T:bG} [e8 T] {E:dS} {R aL:cj} {G G':Nat→cR} {W:aH} {V:aO} {se:bE} {env:aP}
theorem akn (h:aW T E R G W V):∃aL,dk R W aL (IU T W)∧aW T E aL G (IU T W) V:=by
 unfold IU;split
 ·rename_i W' af;obtain⟨aL,az,ao,_⟩:=Bq h af;exact⟨aL,az,ao⟩
 ·exact⟨R,.refl _ _,h⟩
theorem akt {an:gE} {sc scq:iy} {la:List dX} (b:fK):(∃d s l q,b=.seq (.region (⟨d,none,.next (.tmp s)⟩::l)) q)∨iU T an sc scq (.loop b) la se W=match vw b with
  |none=>xv T (CR la) b (iU T an sc scq b (oH 1 la)) se W
  |some _=>none:=by
 cases b with
 |seq a q=>
  cases a with
  |region ops=>
   cases ops with
   |nil=>exact .inr rfl
   |cons o l=>
    obtain⟨d,g,op⟩:=o;cases g with
    |some g=>exact .inr rfl
    |none=>
     cases op with
     |next x=>
      cases x with
      |tmp s=>exact .inl ⟨d,s,l,q,rfl⟩
      |const a=>exact .inr rfl
     |_=>exact .inr rfl
  |_=>exact .inr rfl
 |_=>exact .inr rfl
theorem wL {an:gE} (tA:an.md=true→dm=false) {call:Nat→dw} {sc scq:iy} (gy:kj dm T call sc) (kR:kj true T call scq):∀(c:fK) (la:List dX),kh dm T (iU T an sc scq c la) (jE an.md c call kZ none)
 |.skip,la=>fun E aC R G W V se env outs ec fO ay=>by
  cases ay;exact bj.sJ ⟨se,W,R,G,iS.2 rfl,.refl _ _,ec,fO⟩
 |.region ops,la=>fun E aC R G W V se env outs ec fO ay=>To (Tn gy aC ops ec fO) ay
 |.drawn B ops,la=>fun E aC R G W V se env outs ec fO ay=>by
  obtain⟨aL,az,ao⟩:=akn ec;exact(To (Xz gy kR aC ops ao (alB (fO.later az) ops)) ay).later az
 |.seq a b,la=>Uk (wL tA gy kR a la) (wL tA gy kR b (oH (qc a) la))
 |.cond c a b,la=>fun E aC R G W V se env outs ec fO ay=>by
  simp only[iU]at ay;split at ay
  ·rename_i s hs;obtain⟨e1,bf⟩:=fM fO hs;split at ay
   ·rename_i f ax;obtain⟨aN,c2⟩:=DV (R:=R) ax;obtain⟨W',l,az,ao,aX,bD,c8⟩:=NG ec (c2 _ bf) ay;have YD:ch R W'.aD se env:=by rw[aX];exact fO
    have b6:jE an.md (.cond c a b) call kZ none env V= @Bool.rec (fun _=>bj) (jE an.md b call kZ none env V) (jE an.md a call kZ none env V) (f.ai R):=by
     show Go.bO.Oe (bV c env) _ _ env V=_;rw[e1,aN];rfl
    rw[b6];cases ar:f.ai R with
    |true=>
     rw[ar]at bD;exact((wL tA gy kR a la E aC R G W' V se env l ao YD bD).mem c8).later az
    |false=>
     rw[ar]at bD;exact((wL tA gy kR b (oH (qc a) la) E aC R G W' V se env l ao YD bD).mem c8).later az
   ·cases ay
  ·cases ay
 |.block id b,la=>ajG (wL tA gy kR b la)
 |.loop b,la=>fun E aC R G W V se env outs ec fO ay=>by
  have plain:vw b=none→xv T (CR la) b (iU T an sc scq b (oH 1 la)) se W=some outs→l1 dm T E R W outs (jE an.md (.loop b) call kZ none env V):=by
   intro aK ay;have b6:jE an.md (.loop b) call kZ none env V=sx (jE an.md b call kZ none) kZ env V:=by
    show KO an.md (vw b) (jE an.md b call kZ) kZ env V=_;rw[aK];rfl
   rw[b6];exact aqG (wL tA gy kR b (oH 1 la)) E aC R G W V se env outs ec fO ay
  rcases akt (T:=T) (an:=an) (sc:=sc) (scq:=scq) (la:=la) (se:=se) (W:=W) b with⟨d,s,l,q,rfl⟩|he
  ·have ay:(bif an.md then K4 T (CR la) (.seq (.region (⟨d,none,.next (.tmp s)⟩::l)) q) (fun e W=>x5 (C0 (CZ T an sc l e W)) (iU T an sc scq q (oH 1 la))) s d se W else none)=some outs:=ay
   obtain⟨hm,ay⟩:=eF ay;have aB:=wL tA gy kR q (oH 1 la);have aQ:=tA hm;subst aQ;have aoa:kh false T (fun e W=>C0 (CZ T an sc l e W)) (fun env V=>vD call l (.done .normal) env V):=fun E aC R G W V se env outs ec fO ay=>To (Tn gy aC l ec fO) ay;have amF:=Uk aoa aB;have:=aq1 (la:=CR la) (code:=.seq (.region (⟨d,none,.next (.tmp s)⟩::l)) q) amF (run:=jE true (.seq (.region (⟨d,none,.next (.tmp s)⟩::l)) q) call kZ) (s:=s) (d:=d) (fun v env V=>by rw[hm];rfl) E aC R G W V se env outs ec fO ay
   show l1 false T E R W outs (KO an.md (some s) (jE an.md (.seq (.region (⟨d,none,.next (.tmp s)⟩::l)) q) call kZ) kZ env V);rw[hm];exact this
  ·rw[he]at ay;split at ay
   ·rename_i aK;exact plain aK ay
   ·cases ay
 |.exit id,la=>fun E aC R G W V se env outs ec fO ay=>by
  cases ay;exact bj.sJ ⟨se,W,R,G,iS.2 rfl,.refl _ _,ec,fO⟩
 |.ret,la=>fun E aC R G W V se env outs ec fO ay=>by
  cases ay;exact bj.sJ ⟨se,W,R,G,iS.2 rfl,.refl _ _,ec,fO⟩
theorem V5 {n:Nat}:∀{l:List al} {i:Nat} {se:bE} {env:aP},ch R n se env→cls n l=true→ch R n (Ek l i se) (wo (aM R l) i env)
 | [],i,se,env,h,_=>h
 |s::l,i,se,env,h,af=>V5 (l:=l) (h.put i (x:=.val s) rfl (a6 af).1) (a6 af).2
theorem aqq (R:cj) (n:Nat):ch R n .dL .dL:=⟨fun s=>by rw[afq];trivial,fun s=>by rw[afq];rfl⟩
theorem asY (h:aW T E R G W V) (he:ch R W.aD se env) {r:kg} {s:al} {W':aH} (ah:LW T se W r=some (s,W')):∃aL,dk R W aL W'∧aW T E aL G W' V∧s.bh W'.aD=true∧ri env V r=some (s.ai aL):=by
 cases r with
 |tmp t=>
  simp only[LW]at ah;obtain⟨U,aa⟩:=mg he (.tmp t);split at ah
  ·rename_i x ad;cases ah;rw[ad]at U aa;simp only[cZ]at U;refine⟨R,.refl _ _,h,aa,?_⟩;simp only[ri];rw[U]
  ·cases ah
 |cell agg n t=>
  simp only[LW]at ah;obtain⟨U,aa⟩:=mg he (.tmp t);split at ah
  ·rename_i b o ad;rw[ad]at U;simp only[cZ]at U;simp only[ri];rw[U];have aj:=he.mf b;have jl:=he.bh b;simp only[zR]at ah;split at ah
   ·rename_i l ak;rw[ak]at aj jl;simp only[cZ]at aj;split at ah
    ·rename_i q aB;cases ah;obtain⟨et,eY⟩:=Dm (n:=W.aD) (R:=R) aB;refine⟨R,.refl _ _,h,eY jl,?_⟩;simp only;rw[Sa,aj];exact et
    ·cases ah
   ·cases ah
  ·rename_i v o ad;rw[ad]at U aa;simp only[cZ,al.ai]at U;obtain⟨aL,i,bd,bx,bT,dp,g9⟩:=KM h (e9 aa) ah;refine⟨aL,bd,bx,bT,?_⟩;simp only[ri];rw[U,dp];show vp agg n (0+o) (i' V i)=_;rw[fy];exact g9
  ·rename_i v ad;rw[ad]at U aa;simp only[cZ,al.ai]at U;obtain⟨aL,i,bd,bx,bT,dp,g9⟩:=KM h (e9 aa) ah;refine⟨aL,bd,bx,bT,?_⟩;simp only[ri];rw[U,dp];exact g9
  ·cases ah
theorem aeV:∀{res:List kg} {R:cj} {W:aH} {ss:List al} {W':aH},aW T E R G W V→ch R W.aD se env→Ai T se res W=some (ss,W')→∃aL,dk R W aL W'∧aW T E aL G W' V∧cls W'.aD ss=true∧tW env V res=some (aM aL ss)
 | [],R,W,ss,W',h,he,ah=>by cases ah;exact⟨R,.refl _ _,h,rfl,rfl⟩
 |r::l,R,W,ss,W',h,he,ah=>by
  simp only[Ai]at ah;split at ah
  ·rename_i s W1 U;split at ah
   ·rename_i Uy cD aa;cases ah;obtain⟨dM,az,ao,aX,bD⟩:=asY h he U;obtain⟨dQ,bd,bx,bT,dp⟩:=aeV ao (he.later az) aa;obtain⟨b',ct⟩:=bd.ai aX;refine⟨dQ,az.trans bd,bx,by simp only[cls,ct,bT];rfl,?_⟩
    show TW (ri env V r) (tW env V l)=_;rw[bD,dp];simp only[aM,b'];rfl
   ·cases ah
  ·cases ah
theorem agN (R:cj) (l:List al):(ue l).ai R=AR (aM R l):=by
 cases l with
 |nil=>rfl
 |cons a l=>cases l<;>rfl
theorem agM {n:Nat} {l:List al} (h:cls n l=true):(ue l).bh n=true:=by
 cases l with
 |nil=>rfl
 |cons a l=>
  cases l with
  |nil=>exact(a6 h).1
  |cons b l=>exact h
theorem XH {res:List kg}:∀{l:List gv} {o:List (al × aH)},uL T res l=some o→∀x e W,(x,e,W)∈l→(∀i,x≠.exit i)∧∃ss W',Ai T e res W=some (ss,W')∧(ue ss,W')∈o
 | [],o,_,x,e,W,h=>by cases h
 |(h3,cE,cS)::l,o,ay,x,e,W,h=>by
  have step:(∀i,h3≠.exit i)∧∃ss W' r,Ai T cE res cS=some (ss,W')∧uL T res l=some r∧o=(ue ss,W')::r:=by
   cases h3 with
   |exit i=>cases ay
   |normal=>
    simp only[uL]at ay;split at ay
    ·rename_i ss W' r U aa;cases ay;exact⟨(fun i aF=>by cases aF),ss,W',r,U,aa,rfl⟩
    ·cases ay
   |ret=>
    simp only[uL]at ay;split at ay
    ·rename_i ss W' r U aa;cases ay;exact⟨(fun i aF=>by cases aF),ss,W',r,U,aa,rfl⟩
    ·cases ay
  obtain⟨aV,ss,W',r,U,aa,au⟩:=step;rcases cu.1 h with h|h
  ·cases h;exact⟨aV,ss,W',U,by rw[au];exact cz ..⟩
  ·obtain⟨hH,sM,A1,bg,bl⟩:=XH aa x e W h;exact⟨hH,sM,A1,bg,by rw[au];exact cv _ bl⟩
theorem akX {dg:kF} {bU:dT→aP→aO→Prop} {oK:ab→aO→Prop} {r:bj} (h:bj.iO dm r bU) (aq:∀x env V,bU x env V→∃a V',E4 dg x env V=.jX a V'∧oK a V'):eS.iO dm (Jd dg r) oK:=by
 refine⟨fun aQ=> ?_,?_⟩
 ·obtain⟨x,e,V,rfl,U⟩:=h.1 aQ;exact aq x e V U
 ·have aa:=h.2;clear h
  induction r with
  |done x e V=>
   obtain⟨a,V',au,ba⟩:=aq x e V aa;show(E4 dg x e V).all oK;rw[au];exact ba
  |bad=>cases aa
  |alt a b ou nF=>exact⟨ou aa.1,nF aa.2⟩
theorem ZS {an:gE} (tA:an.md=true→dm=false) {la:List dX} {dg:kF} {call:Nat→dw} {sc scq:iy} (gy:kj dm T call sc) (kR:kj true T call scq) (aC:gj E) (h:aW T E R G W V) {as:List al} {outs:List (al × aH)} (af:cls W.aD as=true) (ay:F9 T an la dg sc scq as W=some outs):
  eS.iO dm (Al an.md call dg (aM R as) V) fun a V'=>∃s W' aL G',(s,W')∈outs∧dk R W aL W'∧aW T E aL G' W' V'∧s.ai aL=a∧s.bh W'.aD=true:=by
 unfold F9 at ay;obtain⟨aK,ay⟩:=eF ay;split at ay
 ·rename_i l ak;have p2:Nat.ble (j9 (aM R as) 0) dg.n=true:=by
   rw[m3,fy,hp,←hl];exact aK
  show eS.iO dm (bif Nat.ble (j9 (aM R as) 0) dg.n then Jd dg (jE an.md dg.body call kZ none (wo (aM R as) 0 .dL) V)else .fail) _
  rw[p2];refine akX (wL tA gy kR dg.body la E aC R G W V _ (wo (aM R as) 0 .dL) l h (V5 (aqq R W.aD) af) ak) ?_;rintro x bP V' ⟨gA,W',aL,G',b_,dh,hD,iA⟩;obtain⟨hH,ss,cD,bg,bl⟩:=XH ay x gA W' b_;obtain⟨dQ,az,ao,aX,bD⟩:=aeV hD iA bg;refine⟨(ue ss).ai dQ,V',?_,ue ss,cD,dQ,G',bl,dh.trans az,ao,rfl,agM aX⟩;have r4:E4 dg x bP V'=Pr V' (tW bP V' dg.res):=by
   cases x with
   |exit i=>exact absurd rfl (hH i)
   |normal=>rfl
   |ret=>rfl
  rw[r4,bD,agN];rfl
 ·cases ay
def uQ (an:gE) (dg:kF):sU:=bif an.md then .EY dg else .code dg
theorem NS (call:Nat→dw) (an:gE) (dg:kF):wF call (uQ an dg)=Al an.md call dg:=by
 unfold uQ;cases an.md<;>rfl
theorem X_ {α β:Type} {k:α→Option β} {r:β}:∀{l:List α},uT k l=some r→∃c∈l,k c=some r
 | [],h=>by cases h
 |c::l,h=>by
  simp only[uT]at h;split at h
  ·rename_i x ad;cases h;exact⟨c,cz ..,ad⟩
  ·obtain⟨bF,U,aa⟩:=X_ h;exact⟨bF,cv _ U,aa⟩
theorem Uj {F:oN} {fh:oO} {R0:Nat} (PY:∀f an la dg,F f=.code an la dg→cg.get .none fh f=uQ an dg)
  (PV:∀f,∀c∈Br (F f),∀k,R0≤k→kj c.fw T (jg fh k) (fun g as W=>if g=f then yQ T c as W else none)):∀(n:Nat) (dm:Bool) (k:Nat),R0+n≤k→kj dm T (jg fh k) (qk T F n dm)
 |0,dm,k,_=>fun E R G W V f as outs aC ec af ay=>by cases ay
 |n+1,dm,0,aq=>by omega
 |n+1,dm,k+1,aq=>by
  intro E R G W V f as outs aC ec af ay;have W_:∀c∈Br (F f),(bif !dm||c.fw then yQ T c as W else none)=some outs→eS.iO dm (jg fh (k+1) f (aM R as) V) fun a V'=>∃s W' aL G',(s,W')∈outs∧dk R W aL W'∧aW T E aL G' W' V'∧s.ai aL=a∧s.bh W'.aD=true:=by
   intro c ax ay;obtain⟨aQ,ay⟩:=eF ay;have:=PV f c ax (k+1) (by omega) E R G W V f as outs aC ec af (by simpa using ay)
   cases Qd:c.fw with
   |true=>rw[Qd]at this;exact eS.atp this
   |false=>
    rw[Qd]at this aQ;have:dm=false:=by cases dm<;>first|rfl|cases aQ
    subst this;rw[Qd]at*
    assumption
  simp only[qk]at ay;split at ay
  ·cases ay
  ·rename_i c ax;exact W_ c (by rw[ax];exact iS.2 rfl) ay
  ·rename_i cs ax;obtain⟨c,hm,ay⟩:=X_ ay;exact W_ c (by rw[ax];exact hm) ay
  ·rename_i an la dg ax;obtain⟨aQ,ay⟩:=eF ay;have:=ZS (dm:=dm) (fun hm=>by rw[hm]at aQ;cases dm<;>first|rfl|cases aQ) (Uj PY PV n dm k (by omega)) (Uj PY PV n true k (by omega)) aC ec af ay
   show eS.iO dm (wF (jg fh k) (cg.get .none fh f) (aM R as) V) _;rw[PY f an la dg ax,NS];exact this
end Go.bO.cK
end
section
namespace Go.bO.cK
variable {T:bG} [e8 T] {E:dS} {R aL:cj} {G G':Nat→cR} {W:aH} {V V':aO}
noncomputable def jh (V:aO) (as:List ab) (ce:List (Nat × List Nat)):List ab:=ce.map fun p=>lB V p.2 ((as[p.1]?).getD .top)
theorem LU {as:List al}:∀{ce:List (Nat × List Nat)} {xs:List al} {R:cj} {W W':aH},aW T E R G W V→cls W.aD as=true→Ah T as ce W=some (xs,W')→∃aL,dk R W aL W'∧aW T E aL G W' V∧aM aL xs=jh V (aM R as) ce∧cls W'.aD xs=true
 | [],xs,R,W,W',h,af,ah=>by cases ah;exact⟨R,.refl _ _,h,rfl,rfl⟩
 |(k,p)::r,xs,R,W,W',h,af,ah=>by
  simp only[Ah]at ah;split at ah
  ·rename_i s hs;rw[j_]at hs;split at ah
   ·rename_i x W1 U;split at ah
    ·rename_i ys cD aa;cases ah;obtain⟨dM,az,ao,aX,bD⟩:=Dv h (lP hs af) U;obtain⟨b',ct⟩:=az.aM af;obtain⟨dQ,bd,bx,bT,dp⟩:=LU ao ct aa;obtain⟨bg,bl⟩:=bd.ai bD;refine⟨dQ,az.trans bd,bx,?_,by simp only[cls,bl,dp];rfl⟩
     simp only[aM,bg,bT,b',aX];simp only[jh,gM];rw[mj hs];rfl
    ·cases ah
   ·cases ah
  ·cases ah
theorem W6 {as:List al} {ce:List (Nat × List Nat)} {xs:List al} {W':aH} (h:aW T E R G W V) (af:cls W.aD as=true) (ah:IT T as ce W=some (xs,W')):
  ∃aL,dk R W aL W'∧aW T E aL G W' V∧aM aL xs=jh V (aM R as) ce∧cls W'.aD xs=true∧W'.op=[]∧W'.cA=[]∧W'.lt=none:=by
 unfold IT at ah;split at ah
 ·rename_i ys W1 U;split at ah
  ·rename_i cD aa;split at ah
   ·rename_i aj bw;cases ah;obtain⟨dM,az,ao,aX,bD⟩:=LU h af U;obtain⟨dQ,bd,bx,bT⟩:=Bq ao aa;obtain⟨b',ct⟩:=bd.aM bD;exact⟨dQ,az.trans bd,bx,by rw[b'];exact aX,ct,bT,aj,bw⟩
   ·cases ah
  ·cases ah
 ·cases ah
noncomputable def pJ (ls:List (List ab)) (v:Nat):ab:=(((ls[v/100]?).getD [])[v%100]?).getD .top
noncomputable def yx (ls:List (List ab)):At→Int
 |.i v=>intOf (pJ ls v)
 |.l v=>lenOf (pJ ls v)
noncomputable def Ip (ls:List (List ab)):List (Int × At)→Int
 | []=>0
 |(k,a)::r=>k*yx ls a+Ip ls r
noncomputable def uu (ls:List (List ab)) (l:bn):Int:=l.c+Ip ls l.t
def lQ (n:Nat) (ls:List (List al)):Prop:=∀l∈ls,cls n l=true
theorem A5 {ls:List (List al)} {v n:Nat} {s:al} (aA:lQ n ls) (h:s4 ls v=some s):pJ (ls.map (aM R)) v=s.ai R∧s.bh n=true:=by
 unfold s4 at h;have U:Nat.div v 100=v/100:=rfl;have aa:Nat.mod v 100=v%100:=rfl;rw[U,aa,j_]at h;unfold pJ;rw[ic];split at h
 ·rename_i l ak;rw[j_]at h;rw[ak];simp only[nj,lL];rw[mj h];exact⟨rfl,lP h (aA l (lM ak))⟩
 ·cases h
theorem ajf (h:aW T E R G W V) {ls:List (List al)} (aA:lQ W.aD ls) {a:At} {l:bn} (ak:Ik W ls a=some l):l.ai R=yx (ls.map (aM R)) a∧l.bh W.aD=true:=by
 cases a with
 |i v=>
  simp only[Ik]at ak;split at ak
  ·rename_i s hs;obtain⟨e1,bf⟩:=A5 (R:=R) aA hs;split at ak
   ·rename_i k x ad;cases ak;obtain⟨aN,c2⟩:=gP (R:=R) ad;exact⟨by simp only[yx,e1,aN,intOf],c2 _ bf⟩
   ·cases ak
  ·cases ak
 |l v=>
  simp only[Ik]at ak;split at ak
  ·rename_i s hs;obtain⟨e1,bf⟩:=A5 (R:=R) aA hs;split at ak
   ·rename_i x ad;cases ak;obtain⟨⟨xs,nl,tok,aN,bL⟩,c2⟩:=U8 h ad;exact⟨by simp only[yx,e1,aN,lenOf,bL],c2 bf⟩
   ·split at ak
    ·rename_i x ad;cases ak;obtain⟨⟨ys,aN,bL⟩,c2⟩:=HH h ad;exact⟨by simp only[yx,e1,aN,lenOf,bL],c2 bf⟩
    ·obtain⟨⟨n,bL,aN⟩,c2⟩:=U9 h ak;refine⟨?_,c2 bf⟩;rcases aN with⟨g,c,aN⟩|⟨nR,nl,tok,aN,eB⟩
     ·simp only[yx,e1,aN,lenOf,bL]
     ·simp only[yx,e1,aN,lenOf,bL,eB]
  ·cases ak
theorem V3 (h:aW T E R G W V) {ls:List (List al)} (aA:lQ W.aD ls):∀{t:List (Int × At)} {l:bn},Io W ls t=some l→l.ai R=Ip (ls.map (aM R)) t∧l.bh W.aD=true
 | [],l,ak=>by cases ak;exact⟨by simp[Ip],rfl⟩
 |(k,a)::r,l,ak=>by
  simp only[Io]at ak;split at ak
  ·rename_i x y ad aI;cases ak;obtain⟨U,aa⟩:=ajf h aA ad;obtain⟨au,ba⟩:=V3 h aA aI;exact⟨by rw[wY,BJ,U,au];rfl,EO (EP aa) ba⟩
  ·cases ak
theorem Nt (h:aW T E R G W V) {ls:List (List al)} (aA:lQ W.aD ls):∀{l x:List bn},rF W ls l=some x→x.map (bn.ai R)=l.map (uu (ls.map (aM R)))∧∀y∈x,y.bh W.aD=true
 | [],x,ak=>by cases ak;exact⟨rfl,fun y aI=>by cases aI⟩
 |a::l,x,ak=>by
  simp only[rF]at ak;split at ak
  ·rename_i y z aI a';cases ak;obtain⟨U,aa⟩:=V3 h aA aI;obtain⟨au,ba⟩:=Nt h aA a';refine⟨?_,fun w hw=>(cu.1 hw).elim (fun e=>e▸qL aa) (ba w)⟩;simp only[gM,au];rw[fe,U];simp only[uu];rw[Int.add_comm]
  ·cases ak
theorem V0 (h:aW T E R G W V) {ls:List (List al)} (aA:lQ W.aD ls) {l x:List bn} (ak:rF W ls l=some x) (av:tp W x=true):∀y∈l,0≤uu (ls.map (aM R)) y:=by
 intro y aI;have:uu (ls.map (aM R)) y∈l.map (uu (ls.map (aM R))):=eO.2 ⟨y,aI,rfl⟩;rw[←(Nt h aA ak).1]at this;obtain⟨z,a',aB⟩:=eO.1 this;rw[←aB];exact Fi h av z a'
theorem VZ (h:aW T E R G W V) {ls:List (List al)} (aA:lQ W.aD ls) {l x:List bn} (ak:rF W ls l=some x) (av:∀y∈l,0≤uu (ls.map (aM R)) y):aW T E R G (hB x W) V∧(hB x W).aD=W.aD:=by
 obtain⟨ep,dV⟩:=Nt h aA ak;refine Na h fun y aI=>⟨?_,dV y aI⟩;have:y.ai R∈x.map (bn.ai R):=eO.2 ⟨y,aI,rfl⟩;rw[ep]at this;obtain⟨z,a',aB⟩:=eO.1 this;rw[←aB];exact av z a'
theorem V2 {n:Nat} {ls:List (List al)} (aA:lQ n ls):∀{l:List Nat} {r:List al},Im ls l=some r→aM R r=l.map (pJ (ls.map (aM R)))∧cls n r=true
 | [],r,h=>by cases h;exact⟨rfl,rfl⟩
 |v::l,r,h=>by
  simp only[Im]at h;split at h
  ·rename_i s q hs aB;cases h;obtain⟨U,aa⟩:=A5 (R:=R) aA hs;obtain⟨au,ba⟩:=V2 aA aB;exact⟨by simp only[aM,gM,U,au],by simp only[cls,aa,ba];rfl⟩
  ·cases h
noncomputable def pv (ls:List (List ab)) (p:Nat × List Nat):Nat × List ab:=(p.1,p.2.map (pJ ls))
theorem Il {n:Nat} {ls:List (List al)} (aA:lQ n ls):∀{l:List (Nat × List Nat)} {q:List (Nat × List al)},qE ls l=some q→q.map (fun p=>(p.1,aM R p.2))=l.map (pv (ls.map (aM R)))∧∀p∈q,cls n p.2=true
 | [],q,h=>by cases h;exact⟨rfl,fun p ae=>by cases ae⟩
 |(k,l)::r,q,h=>by
  simp only[qE]at h;split at h
  ·rename_i s ka hs aB;cases h;obtain⟨U,aa⟩:=V2 (R:=R) aA hs;obtain⟨au,ba⟩:=Il aA aB;exact⟨by simp only[gM,U,au,pv],fun p ae=>(cu.1 ae).elim (fun e=>e▸aa) (ba p)⟩
  ·cases h
theorem V1 (bY:Ok T G R W) {n:Nat} {ls:List (List al)} (aA:lQ n ls) {l:List (Nat × List Nat)} {q:List (Nat × List al)} (aB:qE ls l=some q) (ae:tT T W q=true):∀p∈l,eu T (pv (ls.map (aM R)) p).1 (pv (ls.map (aM R)) p).2:=by
 intro p hm;have:pv (ls.map (aM R)) p∈l.map (pv (ls.map (aM R))):=eO.2 ⟨p,hm,rfl⟩;rw[←(Il aA aB).1]at this;obtain⟨y,aI,e⟩:=eO.1 this;rw[←e];exact TA bY ae y aI
theorem ajg (h:aW T E R G W V) {ls:List (List al)} (aA:lQ W.aD ls) {l:List (Nat × List Nat)} {q:List (Nat × List al)} (aB:qE ls l=some q) (ae:∀p∈l,eu T (pv (ls.map (aM R)) p).1 (pv (ls.map (aM R)) p).2):
  aW T E R G (ie q W) V∧(ie q W).aD=W.aD:=by
 obtain⟨U,aa⟩:=Il (R:=R) aA aB;refine Nb h fun p hm=>⟨?_,aa p hm⟩;have:(p.1,aM R p.2)∈q.map (fun p=>(p.1,aM R p.2)):=eO.2 ⟨p,hm,rfl⟩;rw[U]at this;obtain⟨y,aI,e⟩:=eO.1 this;have:=ae y aI;rw[e]at this;exact this
theorem acY:∀{q:List (Nat × List al)} {W:aH},aW T E R G W V→(∀p∈q,eu T p.1 (aM R p.2)∧cls W.aD p.2=true)→aW T E R G (sC T q W) V∧(sC T q W).aD=W.aD
 | [],W,h,_=>⟨h,rfl⟩
 |(k,as)::r,W,h,aB=>by
  obtain⟨U,aa⟩:=aB _ (cz ..);obtain⟨b',ct⟩:=h.note aa U;have:=acY (q:=r) b' fun p ae=>by rw[ct];exact aB p (cv _ ae)
  rw[ct]at this;exact this
theorem ajh (h:aW T E R G W V) {ls:List (List al)} (aA:lQ W.aD ls) {l:List (Nat × List Nat)} {q:List (Nat × List al)} (aB:qE ls l=some q) (ae:∀p∈l,eu T (pv (ls.map (aM R)) p).1 (pv (ls.map (aM R)) p).2):
  aW T E R G (sC T q W) V∧(sC T q W).aD=W.aD:=by
 obtain⟨U,aa⟩:=Il (R:=R) aA aB;refine acY h fun p hm=>⟨?_,aa p hm⟩;have:(p.1,aM R p.2)∈q.map (fun p=>(p.1,aM R p.2)):=eO.2 ⟨p,hm,rfl⟩;rw[U]at this;obtain⟨y,aI,e⟩:=eO.1 this;have:=ae y aI;rw[e]at this;exact this
theorem akK (h:Ok T G R W):E2 W=false:=by
 cases aQ:E2 W with
 |false=>rfl
 |true=>
  obtain⟨l,ak,aB⟩:=h4.1 aQ;have aV:=h.ge l ak;split at aB
  ·rename_i aw;rw[tH]at aB;simp only[bn.ai,aw,ho]at aV;have:¬(0:Int)≤l.c:=by simpa using aB
   omega
  ·cases aB
inductive qu (aS:b9) (V:aO) (G:Nat→cR) (as:List ab):Nat→Prop
 |cls (i c:Nat) (af:c∈aS.M) (h:G i=.cls c):qu aS V G as i
 |arg (i k:Nat) (aq:k∈aS.P) (h:lx (pJ [as,[],jh V as aS.ce] k)=some i):qu aS V G as i
 |row (i:Nat) (h:i∈fi aS.br as):qu aS V G as i
 |tok (i j o:Nat) (h:G i=.tok j o) (aU:qu aS V G as j):qu aS V G as i
def uK (aS:b9) (V:aO) (G:Nat→cR) (as:List ab):dS:=⟨V,G,qu aS V G as⟩
structure World (T:bG) (E:dS) (G:Nat→cR) (V:aO):Prop where
 wf:∀i c,G i=.cls c→i<V.n∧we T G V (fun _ _=>False) i (T.K c)
 out:∀i,V.n≤i→G i=.no
 n:E.V.n≤V.n
 g:V.g=E.V.g
 f':∀i,i<E.V.n→¬E.eT i→V.at i=E.V.at i∧G i=E.G i
 cls:∀i,i<E.V.n→∀c,(G i=.cls c→ku T c=false→E.G i=.cls c)∧(E.G i=.cls c→G i=.cls c)
 tok:∀g,g<E.V.n→∀i j,G g=.tok i j→E.G g=.tok i j∨E.eT g
 fQ:∀g i j,G g=.tok i j→i<V.n
 hi:∀i c cs,G i=.cls c→T.kept c=true→V.at i=.obj cs→D6 T E i c cs
def H0 (T:bG) (G:Nat→cR) (V:aO) (as:List ab) (q:Nat × Nat × Nat × bb):Prop:=
 ∃a xs nl tok x,as[q.1]? =some a∧lB V [q.2.1] a=.slice xs nl tok∧xs[q.2.2.1]? =some x∧bR T.D G (l0 q.2.2.2) x
structure Entry (T:bG) (aS:b9) (V:aO) (G:Nat→cR) (as:List ab):Prop where
 akW:gj (uK aS V G as)
 wd:World T (uK aS V G as) G V
 len:aS.br.length=as.length
 y4:∀(j:Nat) (t:bb) (a:ab),aS.br[j]? =some t→as[j]? =some a→hf T (uK aS V G as) G V t a
 fr:(fi aS.br as).Nodup
 S5:∀l∈aS.pre,0≤uu [as,[],jh V as aS.ce] l
 b2:∀q∈aS.pp,eu T (pv [as,[],jh V as aS.ce] q).1 (pv [as,[],jh V as aS.ce] q).2
 pW:∀q∈aS.pW,H0 T G V as q
structure Exit (T:bG) (aS:b9) (V:aO) (G:Nat→cR) (as:List ab) (p:List bb × List bn × List (Nat × List Nat)) (rs:List ab) (V':aO) (G':Nat→cR):Prop where
 wd:World T (uK aS V G as) G' V'
 len:p.1.length=rs.length
 y4:∀(j:Nat) (t:bb) (a:ab),p.1[j]? =some t→rs[j]? =some a→hf T (uK aS V G as) G' V' t a
 fr:(fi p.1 rs).Nodup
 S5:∀l∈p.2.1,0≤uu [as,rs,jh V as aS.ce,jh V' as aS.ce] l
 b2:∀q∈p.2.2,eu T (pv [as,rs,jh V as aS.ce,jh V' as aS.ce] q).1 (pv [as,rs,jh V as aS.ce,jh V' as aS.ce] q).2
 su:∀i∈aS.su,(jh V' as aS.ce)[i]? =(jh V as aS.ce)[i]?
def kG (T:bG) (call:dw) (aS:b9):Prop:=
 ∀V G as,Entry T aS V G as→eS.iO aS.fw (call as V) fun a V'=>∃rs G' p,a=AR rs∧p∈aS.outs∧Exit T aS V G as p rs V' G'
theorem ag3 (h:World T E G V) (aj:W.cA=[]) (eX:W.op=[]) (bw:W.lt=none) (af:∀p∈W.cells,∃i cs c,R p.1=.ptr i 0∧V.at i=.obj cs∧cs[p.2.1]? =some (p.2.2.ai R)∧G i=.cls c) (ak:∀p∈W.live,mK T E G V (mI R p.2.2) p.2.1 p.2.2 (R p.1))
  (aQ:W.live.Pairwise fun p q=>∀g,dv (R p.1)=some g→dv (R q.1)≠some g) (hw:∀v∈W.wr,∀i,lx (R v)=some i→E.V.n≤i∨E.eT i) (Fu:∀c∈W.M,ku T c=false→∀i,E.G i=.cls c→E.eT i) (di:W.rd=none):sX T E R G W V where
 wf i c hi:=by
  have:l4 R W.cA=fun _ _=>False:=by
   funext i j
   rw[aj];exact propext ⟨(fun⟨p,ae,_⟩=>by cases ae),fun h=>h.elim⟩
  rw[this];exact⟨(h.wf i c hi).1,fun _=>(h.wf i c hi).2⟩
 cells:=af
 live:=ak
 gw:=aQ
 wr:=hw
 M:=Fu
 out:=h.out
 n:=h.n
 g:=h.g
 f':=h.f'
 cls:=h.cls
 tok:=h.tok
 fQ:=h.fQ
 hi:=⟨fun p ae=>(by rw[eX]at ae;cases ae),fun i c cs U aa au=>⟨fun _=>h.hi i c cs U aa au,fun p ae=>(by rw[eX]at ae;cases ae)⟩⟩
 lt p ae:=by rw[bw]at ae;cases ae
 rd p ae:=absurd ae (LS di)
theorem aW.world (h:aW T E R G W V) (aj:W.cA=[]) (eX:W.op=[]) (bw:W.lt=none):World T E G V where
 wf i c hi:=by
  have:l4 R W.cA=fun _ _=>False:=by
   funext i j
   rw[aj];exact propext ⟨(fun⟨p,ae,_⟩=>by cases ae),fun h=>h.elim⟩
  rw[←this];exact⟨(h.aE.wf i c hi).1,(h.aE.wf i c hi).2 (KK bw)⟩
 out:=h.aE.out
 n:=h.aE.n
 g:=h.aE.g
 f':=h.aE.f'
 cls:=h.aE.cls
 tok:=h.aE.tok
 fQ:=h.aE.fQ
 hi i c cs U aa au:=(h.aE.hi.ok i c cs U aa au).1 fun p ae=>by rw[eX]at ae;cases ae
theorem TK {ls:List (List al)}:∀{P:List Nat} {v:Nat},v∈Ac ls P→∃k∈P,s4 ls k=some (.x v)
 | [],v,h=>by cases h
 |k::l,v,h=>by
  have h:v∈(match s4 ls k with
   |some (.x v)=>v::Ac ls l
   |_=>Ac ls l):=h
  split at h
  ·rename_i w hw;rcases cu.1 h with rfl|h
   ·exact⟨k,cz ..,hw⟩
   ·obtain⟨k',U,aa⟩:=TK h;exact⟨k',cv _ U,aa⟩
  ·obtain⟨k',U,aa⟩:=TK h;exact⟨k',cv _ U,aa⟩
theorem agO (W:aH) (h:W.ty=.dL) (v:Nat):W.df v=.any:=by
 unfold aH.df;rw[h];cases ja v<;>rfl
theorem yL {n:Nat}:lQ n []:=fun l h=>by cases h
theorem jD {n:Nat} {l:List al} {ls:List (List al)} (h:cls n l=true) (hs:lQ n ls):lQ n (l::ls):=fun x ad=>(cu.1 ad).elim (fun e=>e▸h) (hs x)
theorem Yo {ss:List al} {as:List ab}:∀{pW:List (Nat × Nat × Nat × bb)} {R:cj} {W W':aH},aW T E R G W V→aM R ss=as→cls W.aD ss=true→(∀q∈pW,H0 T G V as q)→Jt T ss pW W=some W'→∃aL,dk R W aL W'∧aW T E aL G W' V
 | [],R,W,W',h,_,_,_,aj=>by cases aj;exact⟨R,.refl _ _,h⟩
 |(k,o,i,t)::r,R,W,W',h,hs,af,aB,aj=>by
  obtain⟨a,xs,nl,tok,x,bg,bl,bS,cP⟩:=aB (k,o,i,t) (cz ..);simp only at bg bl bS cP;simp only[Jt]at aj;split at aj
  ·rename_i s aq;rw[j_]at aq;have Q7:s.ai R=a:=by
    have:=mj (R:=R) aq;rw[hs,bg]at this;exact(yI this).symm
   split at aj
   ·rename_i v W1 ah;obtain⟨dM,az,ao,aX,bD⟩:=Dv h (lP aq af) ah;rw[Q7,bl]at aX;have aX:dM v=.slice xs nl tok:=aX;cases ax:cW W1 (l0 t)with
    |mk e cD=>
     rw[ax]at aj;simp only at aj;obtain⟨dQ,bd,bx,bT,dp⟩:=mQ (l0 t) ao cP ax;have ar:dQ v=.slice xs nl tok:=by rw[←bd.dq v (e9 bD)];exact aX
     have aoh:aW T E dQ G (cD.l7 0 [.x v,.i .i64 (.k (.ofNat i)),e]) V:=by
      refine bx.l7 ?_ (.inl ?_)
      ·have:Nat.blt v cD.aD=true:=gp (eE (e9 bD) bd.n);simp only[cls,al.bh,this,dp];rfl
      ·have j1:(al.i .i64 (.k (.ofNat i))).ai dQ=.int .i64 i:=by simp[al.ai]
       simp only[aM,j1,bT];show gQ 0 [dQ v,.int .i64 i,x];rw[ar];exact .idx xs nl tok .i64 i x bS
     have ak:=az.trans bd;obtain⟨b',ct⟩:=ak.aM af;obtain⟨lG,ia,oI⟩:=Yo aoh (by rw[b'];exact hs) ct (fun q hm=>aB q (cv _ hm)) aj
     exact⟨lG,ak.trans ⟨ia.n,ia.dq⟩,oI⟩
   ·cases aj
  ·cases aj
theorem Yp {ss:List al} {as:List ab}:∀{pW:List (Nat × Nat × Nat × bb)} {R:cj} {W W':aH},aW T E R G W V→aM R ss=as→cls W.aD ss=true→Ju T ss pW W=some W'→∃aL,dk R W aL W'∧aW T E aL G W' V∧∀q∈pW,H0 T G V as q
 | [],R,W,W',h,_,_,aj=>by cases aj;exact⟨R,.refl _ _,h,fun q aB=>by cases aB⟩
 |(k,o,i,t)::r,R,W,W',h,hs,af,aj=>by
  simp only[Ju]at aj;split at aj
  ·rename_i s aq;rw[j_]at aq;have Q7:as[k]? =some (s.ai R):=by
    rw[←hs];exact mj (R:=R) aq
   split at aj
   ·rename_i v W1 ah;obtain⟨dM,az,ao,aX,bD⟩:=Dv h (lP aq af) ah;have aX:dM v=lB V [o] (s.ai R):=aX;split at aj
    ·rename_i t0 sw od e cY he;obtain⟨av,aj⟩:=eF aj;obtain⟨cD,av⟩:=yN.1 av;obtain⟨lv,_,_,bu,_⟩:=Ys ao av;have vd:=ao.ok.ty v;rw[cY]at vd;obtain⟨xs,nl,tok,ad⟩:∃xs nl tok,dM v=.slice xs nl tok:=by
      generalize dM v=a at vd;cases vd with
      |bN _ _ _ xs nl tok=>exact⟨xs,nl,tok,rfl⟩
     obtain⟨f1,_⟩:=Pt ao he ad (n:=i) (by simp)
     obtain⟨b',ct⟩:=az.aM af;obtain⟨lG,ia,oI,AS⟩:=Yp (as:=as) ao (by rw[b'];exact hs) ct aj
     refine⟨lG,az.trans ia,oI,fun q aB=> ?_⟩;rcases cu.1 aB with rfl|aB
     ·exact⟨_,xs,nl,tok,e.ai dM,Q7,aX.symm.trans ad,f1,bu.1⟩
     ·exact AS q aB
    ·cases aj
   ·cases aj
  ·cases aj
theorem ajq {aS:b9} {as:List ab} (he:Entry T aS V G as) {ss cd:List al} {W:aH} (aj:begin T aS=some (ss,cd,W)):
  ∃R,aW T (uK aS V G as) R G W V∧aM R ss=as∧cls W.aD ss=true∧aM R cd=jh V as aS.ce∧cls W.aD cd=true:=by
 unfold begin at aj;obtain⟨g5,aj⟩:=eF aj;cases ax:e3 (M8 aS) aS.br with
 |mk s1 W1=>
  rw[ax]at aj;simp only at aj;split at aj
  case h_2=>cases aj
  rename_i ahB mn;split at aj
  case h_2=>cases aj
  rename_i bf cD di;split at aj
  ·rename_i l q ak aB;simp only[bk,Prod.mk.injEq]at aj;obtain⟨rfl,rfl,rfl⟩:=aj;have aV:aW T (uK aS V G as) (fun _=>.top) G (M8 aS) V:=by
    refine⟨⟨fun v=>by rw[agO _ rfl];exact .any _,fun v _=>agO _ rfl v,(fun l ak=>by cases ak),(fun l ak=>by cases ak),(fun l ak=>by cases ak),(fun l ak=>by cases ak)⟩,⟨(fun l ak=>by cases ak),(fun l ak=>by cases ak),(fun l ak=>by cases ak),(fun l ak=>by cases ak),(fun l ak=>by cases ak),(fun l ak=>by cases ak),(fun l ak=>by cases ak),(fun l ak=>by cases ak),(fun l ak=>by cases ak),(fun l ak=>by cases ak),(fun l ak=>by cases ak),(fun l ak=>by cases ak)⟩,?_⟩
    exact ag3 he.wd rfl rfl rfl (fun p ae=>by cases ae) (fun p ae=>by cases ae) .nil (fun p ae=>by cases ae) (fun c af _ i hi=>.cls i c af hi) rfl
   obtain⟨dM,az,ao,aX,bD⟩:=Jr aS.br g5 aV he.len he.y4 he.fr (fun g av p ae=>by cases ae) ax
   obtain⟨ag',bu,bC⟩:=Yo ao aX bD he.pW mn;obtain⟨hc,fJ⟩:=bu.aM bD;have aX:aM ag' s1=as:=by rw[hc];exact aX
   obtain⟨R,cc,b4,dP,kb⟩:=LU bC fJ di;obtain⟨b',ct⟩:=cc.aM fJ;rw[aX]at b' dP;have ej:lQ cD.aD [s1,[],bf]:=jD ct (jD rfl (jD kb yL));obtain⟨b3,cI⟩:=VZ b4 ej ak (fun y aI=>by
    have:=he.S5 y aI;simp only[gM,pK,b',dP];exact this)
   obtain⟨b3,a3⟩:=ajg b3 (by rw[cI];exact ej) aB (fun y aI=>by
    have:=he.b2 y aI;simp only[gM,pK,b',dP];exact this)
   rw[cI]at a3;have pe:∀v∈Ac [s1,[],bf] aS.P,v<cD.aD∧∀i,lx (R v)=some i→qu aS V G as i:=by
    intro v ar;obtain⟨k,aq,hs⟩:=TK ar;obtain⟨bg,bl⟩:=A5 (R:=R) ej hs;refine⟨e9 bl,fun i hi=>.arg i k aq ?_⟩;simp only[gM,pK,b',dP]at bg;have bg:pJ [as,[],jh V as aS.ce] k=R v:=bg;rw[bg];exact hi
   refine⟨R,⟨⟨b3.ok.ty,b3.ok.top,b3.ok.ge,b3.ok.da,b3.ok.cC,b3.ok.b2⟩,⟨b3.aT.ge,b3.aT.da,b3.aT.cC,b3.aT.cells,b3.aT.live,b3.aT.cA,fun v ar=> ?_,b3.aT.b2,b3.aT.op,b3.aT.lt,b3.aT.gz,b3.aT.rd⟩,
    ⟨b3.aE.wf,b3.aE.cells,b3.aE.live,b3.aE.gw,fun v ar i hi=>.inr ((pe v ar).2 i hi),b3.aE.M,b3.aE.out,b3.aE.n,b3.aE.g,b3.aE.f',b3.aE.cls,b3.aE.tok,b3.aE.fQ,b3.aE.hi,b3.aE.lt,b3.aE.rd⟩⟩,b',?_,dP,?_⟩
   ·show v<(ie q (hB l cD)).aD;rw[a3];exact(pe v ar).1
   ·show cls (ie q (hB l cD)).aD s1=true;rw[a3];exact ct
   ·show cls (ie q (hB l cD)).aD bf=true;rw[a3];exact kb
  ·cases aj
theorem Xb {aS:b9} {ss cd:List al}:∀{l:List (al × aH)},wM T aS ss cd l=true→∀s W,(s,W)∈l→aW T E R G W V→s.bh W.aD=true→
  ∃dy W',dk R W R W'∧aW T E R G W' V∧dy.ai R=s.ai R∧dy.bh W'.aD=true∧∃p∈aS.outs,IW T aS.br ss aS.ce aS.su cd (vW (fH p.1) dy) W' p=true
 | [],_,s,W,h=>by cases h
 |(fa,cS)::l,ay,s,W,h=>by
  intro ec af;simp only[wM]at ay;obtain⟨U,aa⟩:=a6 ay;rcases cu.1 h with h|h
  ·cases h;split at U
   ·rename_i aj;rcases Bool.or_eq_true_iff.1 U with U|U
    ·obtain⟨p,ae,aB⟩:=h4.1 U;exact⟨_,_,.refl _ _,ec,rfl,af,p,ae,aB⟩
    ·unfold Xa at U;split at U
     ·split at U
      ·rename_i q aB;obtain⟨W',c_,cp,b_,dh,hD,iA⟩:=NG ec af aB;cases hD;have:=dI.1 U _ (iA _ (cz ..));obtain⟨p,ae,aB⟩:=h4.1 this;exact⟨al.k (.bool (Lit.ai R _)),W',cp,b_,rfl,rfl,p,ae,aB⟩
      ·cases U
     ·cases U
   ·cases U
  ·exact Xb aa s W h ec af
theorem au_ {n:Nat} {s:al} {m:Nat} (ak:n=(vW n s).length) (af:s.bh m=true):s.ai R=AR (aM R (vW n s))∧cls m (vW n s)=true:=by
 unfold vW at ak⊢;split at ak
 ·exact⟨rfl,by simp only[cls,af];rfl⟩
 ·rename_i aK;split at ak
  ·rename_i l aw;obtain⟨U,aa⟩:=agF (R:=R) aw;refine⟨?_,aa _ af⟩;rw[U];cases l with
   |nil=>rfl
   |cons a l=>
    cases l with
    |nil=>exact absurd ak aK
    |cons b l=>rfl
  ·exact absurd ak aK
theorem ai1 {T:bG} {a b:List bb} (h:gN (jQ fuel) a b=true) {j:Nat} {t:bb} (aw:b[j]? =some t):∃u,a[j]? =some u∧jQ fuel u t=true:=by
 obtain⟨U,aa⟩:=sZ h;obtain⟨u,hu⟩:=rX U aw;exact⟨u,hu,aa j u t hu aw⟩
theorem ass (h:aW T E R G W V) {p:Nat × Nat × Nat} (ae:p∈W.live):∃G',aW T E R G' (tU T W p) V∧(∀i c,G i=.cls c→G' i=.cls c)∧(tU T W p).aD=W.aD∧(tU T W p).cA=W.cA∧(tU T W p).op=W.op∧(tU T W p).lt=W.lt∧(tU T W p).rd=W.rd:=by
 unfold tU;split
 case h_2=>exact⟨G,h,fun _ _ h=>h,rfl,rfl,rfl,rfl,rfl⟩
 rename_i lo hi cY;cases aj:gr p.2.2&&(Nat.blt p.2.2 1000000000&&(iV T p.2.1 (T.D p.2.2)&&(iV T p.2.1 (T.E p.2.2)&&gN (jQ fuel) (iT (T.E p.2.2)) (iT (T.D p.2.2)))))with
 |false=>exact⟨G,h,fun _ _ h=>h,rfl,rfl,rfl,rfl,rfl⟩
 |true=>
 simp only[cond_true];split
 case h_2=>exact⟨G,h,fun _ _ h=>h,rfl,rfl,rfl,rfl,rfl⟩
 rename_i l oq;obtain⟨cp,aj⟩:=a6 aj;obtain⟨b_,aj⟩:=a6 aj;obtain⟨dh,aj⟩:=a6 aj;obtain⟨hD,iA⟩:=a6 aj;have b_:=e9 b_;have a':gJ p.2.2=0:=Ot b_;have P5:hT p.2.2=p.2.2:=L5 a';obtain⟨ep,dV,e1,aN⟩:=Hz oq;have fq:l.Sublist W.live:=by rw[e1,aN];exact EH (.refl _) (EI ..)
 have j4:=h.aT.live p ae;have J8:∀v,({W with live:=l,ty:=ts .any (.rs p.2.2 lo hi) (ja p.1) W.ty}:aH).df v=if p.1=v then .rs p.2.2 lo hi else W.df v:=by
  intro v;show h1 .any (ja v) (ts .any _ (ja p.1) W.ty)=_;rw[yh];by_cases ar:p.1=v
  ·subst ar;rw[if_pos rfl,if_pos rfl]
  ·rw[if_neg (fun aF=>ar (G3.1 aF)),if_neg ar];rfl
 have YQ:pE {W with live:=l,ty:=ts .any (.rs p.2.2 lo hi) (ja p.1) W.ty}:=⟨h.aT.ge,h.aT.da,h.aT.cC,h.aT.cells,fun q aB=>h.aT.live q (fq.subset aB),h.aT.cA,h.aT.wr,h.aT.b2,h.aT.op,h.aT.lt,fun q aB=>h.aT.gz q (fq.subset aB),h.aT.rd⟩;have mq:=h.ok.ty p.1;rw[cY]at mq;have aQ:=h.aE.gw;rw[e1]at aQ;have aQ:=rH.1 aQ;rcases h.aE.live p ae with ak|⟨aV,_⟩|⟨_,g,n,U,⟨cs,aa,au,ba,cb⟩,du,ew,hW⟩
 ·refine⟨G,⟨⟨fun v=> ?_,fun v ar=> ?_,h.ok.ge,h.ok.da,h.ok.cC,h.ok.b2⟩,YQ,(h.vo fq).aE.same rfl rfl rfl rfl rfl rfl rfl rfl⟩,fun _ _ h=>h,rfl,rfl,rfl,rfl,rfl⟩
  ·rw[J8];by_cases ar:p.1=v
   ·subst ar;rw[if_pos rfl,ak];rw[ak]at mq;cases mq with
    |m8 _=>exact .nP _ _ _ [] true none (fv _) (fv _) (fun _=>rfl) (fun x ad=>by cases ad)
   ·rw[if_neg ar];exact h.ok.ty v
  ·have ar:W.aD≤v:=ar;rw[J8,if_neg (by omega)];exact h.ok.top v ar
 ·rw[cp]at aV;cases aV
 ·have jH:∃gF:Nat→cR,gF g=.cls (vM p.2.2 n)∧∀x,x≠g→gF x=G x:=⟨fun x=>if x=g then .cls (vM p.2.2 n)else G x,by simp,fun x ad=>by simp[ad]⟩
  obtain⟨gF,r7,cm⟩:=jH;have Y5:∀x,G x≠.no→x≠g:=fun x ad e=>ad (by rw[e];exact du)
  have fX:∀i c,G i=.cls c→gF i=.cls c:=fun i c hi=>by
   rw[cm i (Y5 i (by rw[hi];intro aF;cases aF))];exact hi
  have fG:∀t a,bR T.D G t a→bR T.D gF t a:=fun t a h=>h.mono fX;have eV:=e8.row (T:=T) p.2.2 n (by omega)
  have amK:(iT (T.D p.2.2)).length=p.2.1:=by
   obtain⟨bg,_⟩:=a6 dh;rw[hl]at bg;exact b5 bg
  refine⟨gF,⟨⟨fun v=> ?_,fun v ar=> ?_,h.ok.ge,h.ok.da,h.ok.cC,h.ok.b2⟩,YQ,⟨fun x c ad=> ?_,fun q aB=> ?_,fun q aB=> ?_,h.aE.gw.sublist fq,h.aE.wr,h.aE.M,fun x ad=> ?_,h.aE.n,h.aE.g,fun x ad eQ=> ?_,fun x ad c=> ?_,fun x ad i j e_=> ?_,fun x i j e_=> ?_,⟨fun q aB=> ?_,fun x c e2 ad aq gb=> ?_⟩,fun q aB=> ?_,h.aE.rd⟩⟩,fX,rfl,rfl,rfl,rfl,rfl⟩
  ·rw[J8];by_cases ar:p.1=v
   ·subst ar;rw[if_pos rfl,U];rw[U]at mq;cases mq with
    |rv _ _ _ _ bg bl=>exact .rl _ _ _ g n 1 n bg bl r7 (b1 _)
   ·rw[if_neg ar];exact fG _ _ (h.ok.ty v)
  ·have ar:W.aD≤v:=ar;rw[J8,if_neg (by omega)];exact h.ok.top v ar
  ·by_cases mX:x=g
   ·subst mX;rw[r7]at ad;cases ad;refine⟨hW,fun _=> ?_⟩;rw[eV,hl,amK];refine⟨cs,aa,au,fun j t a aw aA=> ?_⟩;obtain⟨u,hu,hs⟩:=ai1 (T:=T) iA aw;rw[P5]at ba;exact fG _ _ (mH hs (ba j u a hu aA))
   ·rw[cm x mX]at ad;obtain⟨az,ao⟩:=h.aE.wf x c ad;refine⟨az,fun eP=> ?_⟩;have ao:=ao eP;cases dU:T.K c with
    |none=>rw[dU]at ao;exact ao.elim
    |row z k m=>rw[dU]at ao;obtain⟨e2,bd,bx,bT⟩:=ao;exact⟨e2,bd,bx,fun j t a aw aA=>fG _ _ (bT j t a aw aA)⟩
    |map a7 t cH=>rw[dU]at ao;obtain⟨ko,es,bd,bx,bT⟩:=ao;exact⟨ko,es,bd,bx,fun e he=>⟨fG _ _ (bT e he).1,fG _ _ (bT e he).2⟩⟩
    |obj agL=>
     rw[dU]at ao;obtain⟨e2,bd,bx,bT⟩:=ao;refine⟨e2,bd,bx,fun j t a aw aA=> ?_⟩;obtain⟨bu,bC⟩:=bT j t a aw aA;refine⟨fG _ _ bu,fun cn sz e lo hi he aK=> ?_⟩;have ay:=bC cn sz e lo hi he aK;exact ay.e6 (fun _ _=>rfl) (fun eH eW=>by
      have:=(ay.tok eW).1;rw[cm eH (Y5 eH (by rw[this];intro aF;cases aF))];exact this) (b1 _) fG (fun _ h=>h)
  ·obtain⟨i,e2,c,az,ao,aX,bD⟩:=h.aE.cells q aB;exact⟨i,e2,c,az,ao,aX,fX i c bD⟩
  ·have Zd:=h.aE.live q (fq.subset aB);have aB:q∈ep++dV:=by rw[←aN];exact aB
   have e_:dv (R p.1)=some g:=by rw[U];rfl
   refine Zd.e6 (fun _ _=>rfl) (fun eH eW=> ?_) (b1 _) (fun _ _ h=>h) fG (fun _ h=>h);rw[cm eH (fun e=> ?_)]
   ·exact(Zd.tok eW).1
   ·subst e;rcases fu.1 aB with aB|aB
    ·exact aQ.2.2 q aB _ (cz ..) eH eW e_
    ·exact(kk.1 aQ.2.1).1 q aB eH e_ eW
  ·rw[cm x (fun e=>by have ad:V.n≤x:=ad;omega)];exact h.aE.out x ad
  ·obtain⟨az,ao⟩:=h.aE.f' x ad eQ;exact⟨az,by rw[cm x (fun e=>by subst e;exact ew.elim (fun aF=>by omega) eQ)];exact ao⟩
  ·by_cases mX:x=g
   ·subst mX;refine⟨fun aF ah=> ?_,fun aF=> ?_⟩
    ·rw[r7]at aF;cases aF;unfold ku at ah;rw[eV]at ah;cases ah
    ·have:=(h.aE.cls x ad c).2 aF;rw[du]at this;cases this
   ·rw[cm x mX];exact h.aE.cls x ad c
  ·have:x≠g:=fun e=>by subst e;rw[r7]at e_;cases e_
   rw[cm x this]at e_;exact h.aE.tok x ad i j e_
  ·have:x≠g:=fun e=>by subst e;rw[r7]at e_;cases e_
   rw[cm x this]at e_;exact h.aE.fQ x i j e_
  ·obtain⟨i,c,az,ao⟩:=h.aE.hi.own q aB;exact⟨i,c,az,fX i c ao⟩
  ·have mX:x≠g:=fun e=>by subst e;rw[aa]at gb;cases gb
   rw[cm x mX]at ad;exact h.aE.hi.ok x c e2 ad aq gb
  ·refine(h.aE.lt q aB).e6 ⟨rfl,rfl,fun _ _=>⟨rfl,rfl⟩⟩ (b1 _) (fun _ _ _=>rfl) fX (fun x _ di gf=> ?_) fG;rw[cm x (fun e=>by subst e;rw[aa]at di;rcases di with aF|⟨_,_,_,_,_,aF⟩|aF<;>cases aF)];exact gf
theorem asr {p:Nat × Nat × Nat} (h:p∉W.live):tU T W p=W:=by
 unfold tU;split
 case h_2=>rfl
 generalize (gr p.2.2&&_)=uA;cases uA with
 |false=>rfl
 |true=>
  simp only[cond_true];split
  ·rename_i l ak;obtain⟨ep,dV,e1,aN⟩:=Hz ak;exact absurd (by rw[e1];simp) h
  ·rfl
theorem TL:∀{l:List (Nat × Nat × Nat)} {W:aH} {G:Nat→cR},aW T E R G W V→∃G',aW T E R G' (tV T l W) V∧(∀i c,G i=.cls c→G' i=.cls c)∧(tV T l W).aD=W.aD∧(tV T l W).cA=W.cA∧(tV T l W).op=W.op∧(tV T l W).lt=W.lt∧(tV T l W).rd=W.rd
 | [],W,G,h=>⟨G,h,fun _ _ h=>h,rfl,rfl,rfl,rfl,rfl⟩
 |p::r,W,G,h=>by
  simp only[tV];by_cases ae:p∈W.live
  ·obtain⟨gF,az,ao,aX,bD,c8,e',sr⟩:=ass h ae;obtain⟨M1,bd,bx,bT,dp,g9,vr,Sl⟩:=TL (l:=r) az;exact⟨M1,bd,fun i c h=>bx i c (ao i c h),bT.trans aX,dp.trans bD,g9.trans c8,vr.trans e',Sl.trans sr⟩
  ·rw[asr ae];exact TL h
theorem ZY:∀{n o:Nat} {ce:List (Nat × List Nat)},Co n o ce=true→∀j,j<n→ce[j]? =some (0,[o+j])
 |0,o,ce,_,j,aU=>by omega
 |n+1,o,[],h,j,aU=>by cases h
 |n+1,o,(k+1,_)::r,h,j,aU=>by cases h
 |n+1,o,(0,[])::r,h,j,aU=>by cases h
 |n+1,o,(0,_::_::_)::r,h,j,aU=>by cases h
 |n+1,o,(0,[q])::r,h,j,aU=>by
  obtain⟨U,aa⟩:=a6 (show(Nat.beq o q&&Co n (Nat.add o 1) r)=true from h)
  have U:=b5 U;cases j with
  |zero=>rw[pN,←U];rfl
  |succ j=>
   have:=ZY aa j (by omega)
   rw[nV,this]
   congr 3
   show o+1+j=o+(j+1);omega
theorem HA:∀{n:Nat} {l r:List al},ru n l=some r→r=l.take n
 |0,l,r,h=>by cases h;simp
 |n+1,[],r,h=>by cases h
 |n+1,a::l,r,h=>by
  simp only[ru]at h;split at h
  ·rename_i q aB;cases h;rw[HA aB];rfl
  ·cases h
theorem Wv {V:aO} {i n:Nat} {as:List ab} {ce:List (Nat × List Nat)} {cs:List ab} (aA:as[0]? =some (.ptr i 0)) (bM:V.at i=.obj cs) (ak:cs.length=n) (aj:Co n 0 ce=true):(jh V as ce).take n=cs:=by
 apply Bw;intro j;by_cases aU:j<n
 ·rw[wH aU];unfold jh;rw[ic,ZY aj j aU,fy];simp only[nj,aA,lL,lB,bM];have:j<cs.length:=by omega
  rw[eU this];rfl
 ·rw[kI (by rw[nm];omega),kI (by omega)]
theorem ank {aS:b9} {dD:aO} {fD:Nat→cR} {as:List ab} (he:Entry T aS dD fD as) (h:aW T (uK aS dD fD as) R G W V) (eX:W.op=[]) {ss cd bf:List al} (hs:aM R ss=as) (aV:aM R cd=jh dD as aS.ce) (U:aM R bf=jh V as aS.ce) (jo:cls W.aD cd=true) (az:cls W.aD bf=true):
  aW T (uK aS dD fD as) R G (xb T aS.br ss aS.ce cd bf W) V∧(xb T aS.br ss aS.ce cd bf W).aD=W.aD∧(xb T aS.br ss aS.ce cd bf W).cA=W.cA∧(xb T aS.br ss aS.ce cd bf W).op=W.op∧(xb T aS.br ss aS.ce cd bf W).lt=W.lt:=by
 unfold xb;split
 case h_2=>exact⟨h,rfl,rfl,rfl,rfl⟩
 rename_i v r bF nl fl lY;split
 case h_2=>exact⟨h,rfl,rfl,rfl,rfl⟩
 rename_i c af;cases aj:(Nat.beq c bF&&T.kept c)&&Co (fH (hE (T.K c))) 0 aS.ce with
 |false=>exact⟨h,rfl,rfl,rfl,rfl⟩
 |true=>
  simp only[cond_true];split
  case h_2=>exact⟨h,rfl,rfl,rfl,rfl⟩
  rename_i l c_ ak gx;obtain⟨aj,qT⟩:=a6 aj;obtain⟨lf,aq⟩:=a6 aj;have:=b5 lf;subst this;obtain⟨i,hi,av⟩:=tf h af;have aA:as[0]? =some (.ptr i 0):=by rw[←hs];simp only[aM,l5,al.ai,hi]
  have lg:=(he.y4 0 (.ptr c nl) (.ptr i 0) (by rw[lY];rfl) aA).1
  have amj:fD i=.cls c:=by
   cases lg with
   |ptr _ _ _ q=>exact q
  obtain⟨hc,fJ⟩:=he.wd.wf i c amj;cases eV:T.K c with
  |none=>exact absurd aq (e8.zH (T:=T) c (by rw[eV];intro _ aF;cases aF))
  |row z k n=>exact absurd aq (e8.zH (T:=T) c (by rw[eV];intro _ aF;cases aF))
  |map a7 t cH=>exact absurd aq (e8.zH (T:=T) c (by rw[eV];intro _ aF;cases aF))
  |obj HM=>
   rw[eV]at fJ;obtain⟨uG,b3,cI,_⟩:=fJ;have xm:=(h.aE.obj av (by rw[eV];intro _ _ _ aF;cases aF)).2
   rw[eV]at xm;obtain⟨qM,d1,d2,_⟩:=xm;rw[eV]at ak gx qT;simp only[hE,hl]at ak gx qT;have cE:aM R l=uG:=by
    rw[HA ak,hO,List.map_take,←hO,aV];exact Wv aA b3 cI.symm qT
   have e1:aM R c_=qM:=by
    rw[HA gx,hO,List.map_take,←hO,U];exact Wv aA d1 d2.symm qT
   have JQ:=(h.aE.hi.ok i c qM av aq d1).1 fun p ae=>by rw[eX]at ae;cases ae
   have an1:=JQ.2 hc uG b3;refine⟨h.l7 ?_ ?_,rfl,rfl,rfl,rfl⟩
   ·simp only[cls,al.bh,HA ak,HA gx,(EW _ jo).1,(EW _ az).1];rfl
   ·simp only[aM,al.ai,cE,e1];exact an1
theorem afc {F:oN} {call:Nat→dw} {n:Nat} {aS:b9} {an:gE} {la:List dX} {dg:kF} (gy:kj aS.fw T call (qk T F n aS.fw)) (kR:kj true T call (qk T F n true)) (pZ:yH T F n aS an la dg=true):kG T (Al an.md call dg) aS:=by
 intro V G as he;unfold yH at pZ;split at pZ
 ·rename_i ss cd W aj;obtain⟨R,h,e1,bf,aN,c2⟩:=ajq he aj;split at pZ
  ·rename_i o ay;obtain⟨YV,pZ⟩:=a6 pZ;have iH:=ZS (dm:=aS.fw) (fun hm=>by rw[hm]at YV;simpa using YV) gy kR he.akW h bf ay
   rw[e1]at iH;refine eS.tY iH ?_;rintro a V' ⟨s,W',aL,G',ao,aX,bD,c8,e'⟩;obtain⟨dy,A1,bZ,cB,z3,z4,p,bx,bT⟩:=Xb pZ s W' ao bD e';have aX:=aX.trans bZ;have bD:=cB;have c8:=z3.trans c8;have e':=z4;clear bZ cB z3 z4 ao;generalize dy=s at*;generalize A1=W' at*;unfold IW at bT;split at bT
   case h_2=>cases bT
   rename_i d1 cD di;obtain⟨b',ct⟩:=aX.aM bf;obtain⟨jr,sA⟩:=aX.aM c2;obtain⟨dQ,cc,b4,dP,kb,vI,G9,G_⟩:=W6 bD ct di;obtain⟨de,cy⟩:=cc.aM ct;obtain⟨e5,oz⟩:=cc.aM sA;obtain⟨kA,ra⟩:=cc.ai e';rw[b',e1]at dP;rw[jr,aN]at e5;obtain⟨ij,bu,bC,c4,eb⟩:=ank he b4 vI (de.trans (b'.trans e1)) e5 dP oz kb;obtain⟨M1,asb,av9,et,eY,m7,z',_⟩:=TL (l:=bif p.1.any (JI fuel)then cD.live else []) ij
   simp only at bT;generalize avM:tV T (bif p.1.any (JI fuel)then cD.live else []) (xb T aS.br ss aS.ce cd d1 cD)=Ef at*
   have j4:Ef.aD=cD.aD:=et.trans bu;have b4:=asb;have vI:Ef.op=[]:=(m7.trans c4).trans vI;have G9:Ef.cA=[]:=(eY.trans bC).trans G9;have G_:Ef.lt=none:=(z'.trans eb).trans G_;rw[←j4]at cy oz ra kb;split at bT
   case h_2=>cases bT
   ·rename_i l oQ dV av' av ak Zn;obtain⟨bT,g9⟩:=a6 bT;obtain⟨bT,dp⟩:=a6 bT;obtain⟨q,bg,bl,bS,cP,eC,iM⟩:=uV b4 av;rw[hl]at bS av ak Zn;obtain⟨ia,oI⟩:=au_ (R:=dQ) (n:=p.1.length) bS ra;have ej:lQ Ef.aD [ss,vW p.1.length s,cd,d1]:=jD cy (jD oI (jD oz (jD kb yL)));have hw:=b4.world G9 vI G_;refine⟨aM dQ (vW p.1.length s),M1,p,?_,bx,⟨hw,by rw[hp];exact bS,fun j t a aw aA=>cP j t a aw (by rw[hl];exact aA),by rw[hl]at eC;exact eC,fun x ad=> ?_,fun x ad=> ?_,fun x ad=> ?_⟩⟩
    ·rw[←ia,kA,c8]
    ·have:=V0 b4 ej ak bT x ad;simp only[gM,pK,de,b',e1,e5,dP]at this;exact this
    ·have:=V1 b4.ok ej Zn dp x ad;simp only[gM,pK,de,b',e1,e5,dP]at this;exact this
    ·have hs:=dI.1 g9 x ad;rw[←dP,←e5];split at hs
     ·rename_i a b aA aj;rw[j_]at aA aj;rw[mj aA,mj aj,o2 hs]
     ·cases hs
  ·cases pZ
 ·cases pZ
end Go.bO.cK
end
section
namespace Go.bO.cK
variable {T:bG} [e8 T] {E:dS} {R aL:cj} {G G':Nat→cR} {W:aH} {V V':aO}
theorem aet {s:al} {v i:Nat} (ae:qi s=some v) (hi:lx (s.ai R)=some i):lx (R v)=some i:=by
 unfold qi at ae;split at ae
 ·cases ae;exact hi
 ·simp only[bk]at ae;rw[ae]at hi;simp only[al.ai]at hi;cases ar:R v<;>rw[ar]at hi<;>simp only[sD,lx]at hi<;>first|(cases hi;rfl)|cases hi
 ·cases ae
theorem acr (h:aW T E R G W V) {as cd:List al} {k i:Nat} (af:lQ W.aD [as,[],cd]) (hm:KS T W as cd k=true) (hi:lx (pJ [aM R as,[],aM R cd] k)=some i):(E.V.n≤i∨E.eT i)∧∃c,G i=.cls c:=by
 unfold KS at hm;split at hm
 ·rename_i s hs;have BX:=(A5 (R:=R) af hs).1;simp only[gM,pK]at BX;have BX:pJ [aM R as,[],aM R cd] k=s.ai R:=BX;rw[BX]at hi;split at hm
  ·rename_i v ar;have lV:=aet ar hi;have cY:=h.ok.ty v;split at hm
   ·rename_i c nl qU;obtain⟨ah,aa⟩:=a6 hm;obtain⟨_,aa⟩:=a6 aa;have ah:ku T c=false:=by simpa using ah
    rw[qU]at cY;generalize ad:R v=x at cY lV;cases cY with
    |ptr _ _ j av=>
     simp only[lx,bk]at lV;subst lV;exact⟨xB h ah aa (by rw[ad];rfl) av,c,av⟩
    |cX=>cases lV
   ·rename_i c nl qU;obtain⟨ah,aa⟩:=a6 hm;obtain⟨_,aa⟩:=a6 aa;have ah:ku T c=false:=by simpa using ah
    rw[qU]at cY;generalize ad:R v=x at cY lV;cases cY with
    |map _ _ j av=>
     simp only[lx,bk]at lV;subst lV;exact⟨xB h ah aa (by rw[ad];rfl) av,c,av⟩
    |qf=>cases lV
   ·cases hm
  ·cases hm
 ·cases hm
theorem Xc {as cd:List al} {ce:List (Nat × List Nat)}:∀{l:List (List bb × List bn × List (Nat × List Nat))} {outs:List (al × aH)} {W:aH},EZ T W as ce cd l=some outs→∀p∈l,p.1.all tQ=true∧∃rs W1 bf cD x q,e3 W p.1=(rs,W1)∧Ah T as ce W1=some (bf,cD)∧rF cD [as,rs,cd,bf] p.2.1=some x∧qE [as,rs,cd,bf] p.2.2=some q∧(E2 (sC T q (hB x cD))=false→(ue rs,sC T q (hB x cD))∈outs)
 | [],outs,W,_,p,ae=>by cases ae
 |(HM,fs,br)::r,outs,W,h,p,ae=>by
  simp only[EZ]at h;obtain⟨g5,h⟩:=eF h;cases ax:e3 W HM with
  |mk rs W1=>
   rw[ax]at h;simp only at h;split at h
   case h_2=>cases h
   rename_i bf cD di;split at h
   ·rename_i l q o ak aB ay;cases h;rcases cu.1 ae with rfl|ae
    ·exact⟨g5,rs,W1,bf,cD,l,q,ax,di,ak,aB,fun aQ=>by rw[aQ];exact cz ..⟩
    ·obtain⟨anH,as_,ahx,EA,ahz,x,ka,bg,bl,bS,eC,cP⟩:=Xc ay p ae;refine⟨anH,as_,ahx,EA,ahz,x,ka,bg,bl,bS,eC,fun aQ=> ?_⟩;cases E2 (sC T q (hB l cD))with
     |true=>exact cP aQ
     |false=>exact cv _ (cP aQ)
   ·cases h
theorem RM {as cd:List al} {ce:List (Nat × List Nat)} {p:Nat × Nat × al}:∀{l:List Nat},p∈p9 T W as ce cd l→∃v o s a j c,p=(v,o,s)∧(∃k,ce[j]? =some (k,[o])∧as[k]? =some a)∧cd[j]? =some s∧qi a=some v∧nq W v=some c∧(fk (hE (T.K c)) o).isSome=true∧j∈l
 | [],h=>by cases h
 |i::r,h=>by
  have rest:p∈p9 T W as ce cd r→∃v o s a j c,p=(v,o,s)∧(∃k,ce[j]? =some (k,[o])∧as[k]? =some a)∧cd[j]? =some s∧qi a=some v∧nq W v=some c∧(fk (hE (T.K c)) o).isSome=true∧j∈i::r:=fun h=>by
   obtain⟨v,o,s,a,j,c,U,aa,au,ba,cb,du,ew⟩:=RM h;exact⟨v,o,s,a,j,c,U,aa,au,ba,cb,du,cv _ ew⟩
  simp only[p9]at h;split at h
  ·rename_i k o s aq hs;split at h
   ·rename_i a aA;split at h
    ·rename_i v ar;split at h
     ·rename_i c af;cases aj:(fk (hE (T.K c)) o).isSome with
      |true=>
       rw[aj]at h;rcases cu.1 h with h|h
       ·rw[j_]at aq hs aA;exact⟨v,o,s,a,i,c,h,⟨k,aq,aA⟩,hs,ar,af,aj,cz ..⟩
       ·exact rest h
      |false=>rw[aj]at h;exact rest h
     ·exact rest h
    ·exact rest h
   ·exact rest h
  ·exact rest h
theorem apK {W1:aH} {n:Nat} {as cd:List al} {ce:List (Nat × List Nat)} {p:Nat × Nat × al} {l:List Nat} (aA:cls n as=true) (aV:cls n cd=true) (h:p∈p9 T W1 as ce cd l):p.1<n∧p.2.2.bh n=true:=by
 obtain⟨v,o,s,a,j,c,rfl,⟨k,_,aa⟩,au,ba,_⟩:=RM h;exact⟨aer ba (lP aa aA),lP au aV⟩
theorem ai5 (h:aW T E R G W V) {as cd:List al} {c u k i:Nat} (af:lQ W.aD [as,[],cd]) (aA:Nh W as cd c u k=true) (hu:R u=.ptr i 0) (av:G i=.cls c) (hi:lx (pJ [aM R as,[],aM R cd] k)=some i):False:=by
 unfold Nh at aA;split at aA
 ·rename_i s hs;have BX:pJ [aM R as,[],aM R cd] k=s.ai R:=(A5 (R:=R) af hs).1;rw[BX]at hi;split at aA
  ·rename_i v ar;have lV:=aet ar hi;have cY:=h.ok.ty v;split at aA
   ·rename_i bF nl qU;rw[qU]at cY;generalize ad:R v=x at cY lV;cases cY with
    |ptr _ _ j FG=>
     simp only[lx,bk]at lV;subst lV;rw[av]at FG;cases FG;rcases g1 _ _|>.mp aA with aA|aA
     ·simp at aA
     ·obtain⟨q,aB,aQ⟩:=h4.1 aA;have sh:=h.ok.b2 q aB;unfold Z0 at aQ;split at aQ
      ·rename_i a b;have jZ:=G4 (T:=T) (show 12<100 by decide) sh
       simp only[aM,al.ai]at jZ;rcases g1 _ _|>.mp aQ with aQ|aQ
       ·obtain⟨d1,d2⟩:=a6 aQ;have:=b5 d1;subst this;have:=b5 d2;subst this;rw[hu,ad]at jZ;cases jZ with
        |OJ _ _ cm=>exact cm rfl
       ·obtain⟨d1,d2⟩:=a6 aQ;have:=b5 d1;subst this;have:=b5 d2;subst this;rw[hu,ad]at jZ;cases jZ with
        |OJ _ _ cm=>exact cm rfl
      ·cases aQ
    |cX=>cases lV
   ·rename_i bF nl qU;rw[qU]at cY;generalize ad:R v=x at cY lV;cases cY with
    |map _ _ j FG=>
     simp only[lx,bk]at lV;subst lV;rw[av]at FG;cases FG;simp at aA
    |qf=>cases lV
   ·cases aA
  ·cases aA
 ·cases aA
def Vz (T:bG) (G:Nat→cR) (V:aO) (G':Nat→cR) (V':aO):Prop:=
 ∀i c cd,G i=.cls c→T.kept c=true→V.at i=.obj cd→∃bf,V'.at i=.obj bf∧cd.length=bf.length∧G' i=.cls c∧eu T (hY c) [.agg bf]∧eu T (iu c) [.agg cd,.agg bf]
theorem Ks {v c:Nat}:∀{l:List (Nat × Nat × al)} {acc:List (Nat × Nat)},(v,c)∈zI T W l acc→(v,c)∈acc∨(nq W v=some c∧T.kept c=true)
 | [],acc,h=>.inl h
 |(u,o,s)::r,acc,h=>by
  simp only[zI]at h;split at h
  ·rename_i bF af;cases aj:T.kept bF&& !YI u acc with
   |true=>
    rw[aj]at h;rcases Ks h with h|h
    ·rcases cu.1 h with h|h
     ·cases h;exact .inr ⟨af,(a6 aj).1⟩
     ·exact .inl h
    ·exact .inr h
   |false=>rw[aj]at h;exact Ks h
  ·exact Ks h
theorem Se:∀{l:List (Nat × Nat)} {R:cj} {W:aH} (_:aW T E R G W V) {hs:List (Nat × Nat × List al)} {W':aH},(∀p∈l,p.1<W.aD∧T.kept p.2=true∧∃i,R p.1=.ptr i 0∧G i=.cls p.2)→zQ T l W=(hs,W')→
  ∃aL,dk R W aL W'∧aW T E aL G W' V∧∀p∈hs,(p.1<W'.aD∧cls W'.aD p.2.2=true)∧T.kept p.2.1=true∧∃i,aL p.1=.ptr i 0∧G i=.cls p.2.1∧V.at i=.obj (aM aL p.2.2)
 | [],R,W,h,hs,W',_,he=>by cases he;exact⟨R,.refl _ _,h,fun p ae=>by cases ae⟩
 |(v,c)::r,R,W,h,hs,W',ak,he=>by
  obtain⟨ar,aq,i,hi,av⟩:=ak (v,c) (cz ..);have ah:=fun p ae=>ak p (cv _ ae);simp only[zQ]at he;split at he
  ·rename_i l W1 xf;obtain⟨dM,cs,az,ao,aX,bD,c8⟩:=Gp h ar hi av xf;cases aB:zQ T r W1 with
   |mk J4 cD=>
    rw[aB]at he;cases he;obtain⟨dQ,bd,bx,bT⟩:=Se ao (fun p ae=>by
     obtain⟨b3,cI,j,a3,a4⟩:=ah p ae;exact⟨eE b3 az.n,cI,j,by rw[←az.dq _ b3];exact a3,a4⟩) aB
    refine⟨dQ,az.trans bd,bx,fun p ae=> ?_⟩;rcases cu.1 ae with rfl|ae
    ·obtain⟨b',ct⟩:=bd.aM c8;refine⟨⟨eE ar (fp az.n bd.n),ct⟩,aq,i,?_,av,?_⟩
     ·rw[←bd.dq _ (eE ar az.n),←az.dq _ ar];exact hi
     ·show V.at i=.obj (aM dQ l);rw[b',bD];exact aX
    ·exact bT p ae
  ·exact Se h ah he
theorem X' {v i c:Nat} {l:List al} {cs:List ab} (ak:cls W.aD l=true) (ar:v<W.aD) (hi:R v=.ptr i 0) (bM:V.at i=.obj cs) (av:G i=.cls c) (cl:(aM R l).length=cs.length) (h:aW T E R G W V):∀{os:List Nat},(∀o∈os,((aM R l)[o]?).getD .top=(cs[o]?).getD .top)→aW T E R G {W with cells:=Fa v l os++W.cells} V
 | [],_=>h
 |o::r,ay=>by
  have bm:=X' ak ar hi bM av cl h (os:=r) (fun o hm=>ay o (cv _ hm));simp only[Fa];split
  ·rename_i s hs;rw[j_]at hs;have e1:=mj (R:=R) hs;have bw:o<cs.length:=by rw[←cl];exact(hn.1 e1).1
   have aN:=ay o (cz ..);rw[e1,eU bw,lL,lL]at aN;exact bm.VF (v:=v) (o:=o) (s:=s) ar (lP hs ak) hi bM (by rw[eU bw,aN]) av
  ·exact bm
theorem S2:∀{hs:List (Nat × Nat × List al)} {R:cj} {W:aH} (_:aW T E R G W V),
  (∀p∈hs,(p.1<W.aD∧cls W.aD p.2.2=true)∧∃i cs,R p.1=.ptr i 0∧G i=.cls p.2.1∧V.at i=.obj cs∧(aM R p.2.2).length=cs.length∧eu T (hY p.2.1) [.agg cs]∧eu T (iu p.2.1) [.agg (aM R p.2.2),.agg cs])→∃aL,dk R W aL (CQ T hs W)∧aW T E aL G (CQ T hs W) V
 | [],R,W,h,_=>⟨R,.refl _ _,h⟩
 |(v,c,l)::r,R,W,h,ae=>by
  obtain⟨⟨ar,ak⟩,i,cs,hi,av,bM,cl,o5,BT⟩:=ae (v,c,l) (cz ..);have ah:=fun p hm=>ae p (cv _ hm);simp only[CQ];split
  ·rename_i c_ W1 xf;have aV:=X' ak ar hi bM av cl h (os:=T.fix c) (fun o ay=>e8.fix (T:=T) c o _ _ ay BT);obtain⟨dM,cU,az,ao,aX,bD,c8⟩:=Gp aV ar hi av xf;rw[bM]at aX;cases aX;obtain⟨b',ct⟩:=az.aM ak;have ct:cls W1.aD l=true:=ct;obtain⟨s1,s2⟩:=ao.note (k:=iu c) (as:=[.agg l,.agg c_]) (by simp only[cls,al.bh,ct,c8];rfl) (by simp only[aM,al.ai,b',bD];exact BT)
   obtain⟨Hl,Hm⟩:=s1.note (k:=hY c) (as:=[.agg c_]) (by rw[s2];simp only[cls,al.bh,c8];rfl) (by simp only[aM,al.ai,bD];exact o5)
   have aK:W.aD≤W1.aD:=az.n;obtain⟨dQ,bd,bx⟩:=S2 Hl (hs:=r) (fun p hm=>by
    obtain⟨⟨b3,cI⟩,j,e2,a3,a4,a5,wi,aiK,aiR⟩:=ah p hm;obtain⟨cp,b_⟩:=az.aM cI;refine⟨⟨by rw[Hm,s2];exact eE b3 aK,by rw[Hm,s2];exact b_⟩,j,e2,?_,a4,a5,by rw[cp];exact wi,aiK,by rw[cp];exact aiR⟩
    rw[←az.dq _ b3];exact a3)
   exact⟨dQ,dk.trans ⟨by rw[Hm,s2];exact aK,az.dq⟩ bd,bx⟩
  ·exact S2 h ah
theorem akw {call:dw} {aS:b9} (xk:kG T call aS) (aC:gj E) (h:aW T E R G W V) {as cd:List al} {outs:List (al × aH)} {W1:aH} {l:List bn} (af:cls W.aD as=true) (iD:cls W.aD cd=true) (iY:aM R cd=jh V (aM R as) aS.ce)
  (o6:W.cA=[]) (eX:W.op=[]) (lX:W.lt=none) (Qr:∀q∈aS.pW,H0 T G V (aM R as) q) (av:k9 T W as aS.br=some W1) (ak:rF W [as,[],cd] aS.pre=some l) {jt:List (Nat × List al)} (J2:qE [as,[],cd] aS.pp=some jt)
  (ay:(bif(tp W l&&tT T W jt)&&(aS.M.all (fun c=>hF c W.M&& !ku T c)&&aS.P.all (KS T W as cd))then EZ T {W1 with cells:=p9 T W1 as aS.ce cd aS.su++NR W1 aS as cd,rd:=none} as aS.ce cd aS.outs else none)=some outs):
  eS.iO aS.fw (call (aM R as) V) fun a V'=>∃s W' aL G',(s,W')∈outs∧dk R W aL W'∧aW T E aL G' W' V'∧(s.ai aL=a∧s.bh W'.aD=true)∧Vz T G V G' V':=by
 ··obtain⟨d_,ay⟩:=eF ay;obtain⟨d_,amn⟩:=a6 d_;obtain⟨d_,an4⟩:=a6 d_;obtain⟨Fu,y8⟩:=a6 amn;rw[dI]at Fu y8;have YA:∀c∈aS.M,ku T c=false:=fun c af=>by simpa using(a6 (Fu c af)).2
   obtain⟨lv,rfl,s1,s2,Hl,Hm,afi⟩:=uV h av;have Qe:lQ W.aD [as,[],cd]:=jD af (jD (l:=[]) rfl (jD iD yL));have g6:∀i,qu aS V G (aM R as) i→E.V.n≤i∨E.eT i:=by
    have amm:∀i c,c∈aS.M→G i=.cls c→E.V.n≤i∨E.eT i:=by
     intro i c iF hi;have:=(a6 (Fu c iF)).1;simp only[hF,h4]at this;obtain⟨bF,rZ,he⟩:=this;have:=b5 he;subst this;rcases lJ i E.V.n with bw|d_
     ·exact .inr (h.aE.M c rZ (YA c iF) i ((h.aE.cls i bw c).1 hi (YA c iF)))
     ·exact .inl d_
    intro i hi
    induction hi with
    |cls i c iF hi=>exact amm i c iF hi
    |arg i k aq hi=>exact(acr h Qe (y8 k aq) (by rw[iY];exact hi)).1
    |row i hi=>exact(HJ Hl).new i hi
    |tok i j o hi _ xd=>
     rcases lJ i E.V.n with bw|d_
     ·rcases h.aE.tok i bw j o hi with U|U
      ·obtain⟨aa,au⟩:=aC.DU i j o U;rcases xd with xd|xd
       ·omega
       ·exact .inr (au xd)
      ·exact .inr U
     ·exact .inl d_
   have mW:=HJ Hl;have am0:Entry T aS V G (aM R as):=by
    refine⟨⟨?_,?_,?_,h.aE.out⟩,?_,by rw[hp];exact s2,fun j t a aw aA=> ?_,Hm,fun x ad=> ?_,fun x ad=> ?_,Qr⟩
    ·show V.g≤V.n;rw[h.aE.g];exact fp aC.g h.aE.n
    ·intro i hi;show V.g≤i;rw[h.aE.g];rcases g6 i hi with U|U
     ·exact fp aC.g U
     ·exact aC.MC i U
    ·intro g i j e_;exact⟨h.aE.fQ g i j e_,fun hi=>.tok g i j e_ hi⟩
    ·have hw:=h.world o6 eX lX;refine⟨hw.wf,hw.out,b1 _,rfl,fun _ _ _=>⟨rfl,rfl⟩,fun _ _ _=>⟨fun h _=>h,id⟩,fun _ _ _ _ aF=>.inl aF,hw.fQ,fun i c cs U aa au=>⟨(hw.hi i c cs U aa au).1,fun _ cd iD=> ?_⟩⟩;have iD:V.at i=.obj cd:=iD;rw[au]at iD;cases iD;exact e8.refl c _ aa
    ·obtain⟨bg,bl⟩:=Hl j t a aw aA;refine⟨bg,fun cn sz e lo hi he=> ?_⟩;have aB:=bl cn sz e lo hi he;exact aB.e6 (fun _ _=>rfl) (fun g av=>(aB.tok av).1) (b1 _) (fun g av _=>.inr (.row g (KW aw aA (by rw[he];rfl) av))) (fun _ _ h=>h) (fun _ h=>h)
    ·have:=V0 h (jD af (jD (l:=[]) rfl (jD iD yL))) ak d_ x ad;simp only[gM,pK,iY]at this;exact this
    ·have:=V1 h.ok (jD af (jD (l:=[]) rfl (jD iD yL))) J2 an4 x ad;simp only[gM,pK,iY]at this;exact this
   refine eS.tY (xk V G (aM R as) am0) ?_;rintro _ V' ⟨rs,G',p,rfl,ao,aX⟩;have gf:∀i,(∀k∈aS.P,lx (pJ [aM R as,[],aM R cd] k)≠some i)→(∀j o,G i≠.tok j o)→(∀c∈aS.M,G i≠.cls c)→i∉fi aS.br (aM R as)→¬qu aS V G (aM R as) i:=by
    intro i U aa au ba aw;cases aw with
    |cls _ c iF hi=>exact au c iF hi
    |arg _ k aq hi=>exact U k aq (by rw[iY];exact hi)
    |row _ hi=>exact ba hi
    |tok _ j o hi _=>exact aa j o hi
   have j6:∀g,G g=.no→g∉fi aS.br (aM R as)→¬qu aS V G (aM R as) g:=by
    intro g av aK;refine gf g (fun k aq hi=> ?_) (fun j o he=>by rw[av]at he;cases he) (fun c _ he=>by rw[av]at he;cases he) aK
    obtain⟨_,c,U⟩:=acr h Qe (y8 k aq) hi;rw[av]at U;cases U
   have jm:∀i c,G i=.cls c→G' i=.cls c:=fun i c hi=>(aX.wd.cls i (h.aE.wf i c hi).1 c).2 hi;have aa:aW T E R G' {{W with live:=lv}with cells:=p9 T {W with live:=lv} as aS.ce cd aS.su++NR {W with live:=lv} aS as cd,rd:=none} V':=by
    have fB:=h.ok.mono jm;refine⟨⟨fB.ty,fB.top,fB.ge,fB.da,fB.cC,fB.b2⟩,⟨h.aT.ge,h.aT.da,h.aT.cC,fun p ae=>(fu.1 ae).elim (fun ae=>apK af iD ae) (fun ae=>h.aT.cells p (ma.1 ae).1),fun p ae=>h.aT.live p (s1.subset ae),h.aT.cA,h.aT.wr,h.aT.b2,h.aT.op,h.aT.lt,fun p ae=>h.aT.gz p (s1.subset ae),fun p ae=>by cases ae⟩,?_⟩
    refine ag3 ⟨aX.wd.wf,aX.wd.out,fp h.aE.n aX.wd.n,aX.wd.g.trans h.aE.g,fun i hi eQ=> ?_,fun i hi c=> ?_,fun g av i j e_=> ?_,aX.wd.fQ,fun i c cs U PS au=> ?_⟩ o6 eX lX (fun p ae=> ?_) (fun p ae=> ?_) (h.aE.gw.sublist s1) h.aE.wr h.aE.M rfl
    ·have QK:¬qu aS V G (aM R as) i:=fun aw=>(g6 i aw).elim (fun U=>by omega) eQ
     obtain⟨bg,bl⟩:=aX.wd.f' i (eE hi h.aE.n) QK;obtain⟨bS,cP⟩:=h.aE.f' i hi eQ;exact⟨bg.trans bS,bl.trans cP⟩
    ·obtain⟨b3,cI⟩:=aX.wd.cls i (eE hi h.aE.n) c;obtain⟨cp,b_⟩:=h.aE.cls i hi c;exact⟨fun h ah=>cp (b3 h ah) ah,fun h=>cI (b_ h)⟩
    ·rcases aX.wd.tok g (eE av h.aE.n) i j e_ with U|U
     ·exact h.aE.tok g av i j U
     ·exact .inr ((g6 g U).elim (fun U=>by omega) id)
    ·obtain⟨bg,bl⟩:=aX.wd.hi i c cs U PS au;refine⟨bg,fun bw cd iD=> ?_⟩;have FP:i<V.n:=eE bw h.aE.n;have nC:ku T c=false:=by
      cases eV:T.K c with
      |row z k n=>
       have hw:=(aX.wd.wf i c U).2;rw[eV]at hw;obtain⟨e2,e1,_⟩:=hw;rw[au]at e1;cases e1
      |_=>unfold ku;rw[eV]
     have lU:G i=.cls c:=(aX.wd.cls i FP c).1 U nC;have hw:=(h.aE.wf i c lU).2 (KK lX);cases eV:T.K c with
     |none=>rw[eV]at hw;exact hw.elim
     |row z k n=>unfold ku at nC;rw[eV]at nC;cases nC
     |map a7 t cH=>
      have:=(aX.wd.wf i c U).2;rw[eV]at this;obtain⟨ko,es,q,_⟩:=this;rw[au]at q;cases q
     |obj ts=>
      rw[eV]at hw;obtain⟨qM,e1,_,_⟩:=hw;exact e8.trans c _ _ _ PS (((h.aE.hi.ok i c qM lU PS e1).1 fun p ae=>by rw[eX]at ae;cases ae).2 bw cd iD) (bl FP qM e1)
    ·rcases fu.1 ae with ae|ae
     ·obtain⟨v,o,s,a,j,c,rfl,⟨k,hd,MX⟩,kD,MY,avk,D0,avl⟩:=RM ae;obtain⟨i,hi,av⟩:=tf h avk;obtain⟨ty,D0⟩:=yN.1 D0;rw[j_]at D0;obtain⟨ud,cs,aq,bM,cl,_⟩:=IL h av D0;have hw:=(aX.wd.wf i c (jm i c av)).2;rw[aq]at hw D0;obtain⟨cU,e1,aN,_⟩:=hw;have ay:o<cU.length:=by rw[←aN];exact(hn.1 D0).1
      have ny:=aX.su j avl;have kP:∀V,(jh V (aM R as) aS.ce)[j]? =some (lB V [o] (.ptr i 0)):=fun V=>by
       unfold jh;rw[ic,hd];simp only[nj];rw[mj MX,lL,aes MY hi]
      rw[kP V',←iY,mj kD]at ny;simp only[lB,e1,bk]at ny;rw[eU ay,lL]at ny;exact⟨i,cU,c,hi,e1,by simp only;rw[eU ay,ny],jm i c av⟩
     obtain⟨pb,pc⟩:=ma.1 ae;obtain⟨i,cs,c,bg,bl,bS,cP⟩:=h.aE.cells p pb;have bw:=(h.aE.wf i c cP).1;have eQ:¬qu aS V G (aM R as) i:=by
      split at pc
      ·rename_i bF nl cY;obtain⟨cc,b4⟩:=a6 pc;have Zl:=h.ok.ty p.1;have aot:W.df p.1=.ptr bF nl:=cY;rw[aot,bg]at Zl;have lf:bF=c:=by
        cases Zl with
        |ptr _ _ _ av=>rw[cP]at av;cases av;rfl
       subst lf;refine gf i (fun k aq hi=> ?_) (fun j o he=>by rw[cP]at he;cases he) (fun avE iF he=> ?_) (fun hm=> ?_)
       ·rw[dI]at b4;exact ai5 (W:= {W with live:=lv}) (h.vo s1) Qe (b4 k aq) bg cP hi
       ·rw[cP]at he;cases he;have:hF bF aS.M=true:=by
         simp only[hF,h4];exact⟨bF,iF,by simp⟩
        rw[this]at cc;cases cc
       ·have:=mW.no i hm;rw[cP]at this;cases this
      ·cases pc
     obtain⟨bd,bx⟩:=aX.wd.f' i bw eQ;exact⟨i,cs,c,bg,by rw[bd];exact bl,bS,by rw[bx];exact cP⟩
    ·have c0:=s1.subset ae;have ak:=h.aE.live p c0;have tr:∀g,dv (R p.1)=some g→V'.at g=V.at g∧G' g=G g:=fun g av=>aX.wd.f' g (ak.tok av).2.2.1 (j6 g (ak.tok av).1 (fun hm=>(afi g hm).2 p ae av));exact ak.e6 (fun g av=>(tr g av).1) (fun g av=>by rw[(tr g av).2];exact(ak.tok av).1) aX.wd.n (fun _ _ h=>h) (fun _ _ h=>h.mono jm) (fun _ h=>h)
   obtain⟨au2,ss,cD,d1,oQ,x,avn,t1,au6,t2,au5,t3⟩:=Xc ay p ao;have al':=h.aE.n;have nx:∀(j:Nat) (t:bb) (a:ab),p.1[j]? =some t→rs[j]? =some a→hf T E G' V' t a:=by
    intro j t a aw aA;obtain⟨bg,bl⟩:=aX.y4 j t a aw aA;refine⟨bg,fun cn sz e lo hi he=> ?_⟩;have aB:=bl cn sz e lo hi he;exact aB.e6 (fun _ _=>rfl) (fun g av=>(aB.tok av).1) (b1 _) (fun g _ h=>h.elim (fun U=>.inl (fp al' U)) (fun U=>g6 g U)) (fun _ _ h=>h) (fun _ h=>h)
   obtain⟨dM,ia,oI,AS,Vd⟩:=Jr p.1 au2 aa aX.len nx aX.fr (fun g av q aB=>by
    intro Zo;have bw:=(h.aE.live q (s1.subset aB)).tok Zo;have eQ:=j6 g bw.1 (fun hm=>(afi g hm).2 q aB Zo);rcases(HJ aX.y4).new g av with U|U
    ·have U:V.n≤g:=U;have:=bw.2.2.1;omega
    ·exact eQ U) t1
   obtain⟨b',ct⟩:=ia.aM af;obtain⟨jr,sA⟩:=ia.aM iD;obtain⟨dQ,cc,b4,dP,kb⟩:=LU oI ct au6;obtain⟨de,cy⟩:=cc.aM ct;obtain⟨e5,oz⟩:=cc.aM sA;obtain⟨kA,ra⟩:=cc.aM Vd;obtain⟨b3,cI⟩:=VZ b4 (jD cy (jD ra (jD oz (jD kb yL)))) t2 (fun y aI=>by
    have:=aX.S5 y aI;simp only[gM,pK,de,b',e5,jr,iY,kA,AS,dP];exact this)
   obtain⟨b3,a3⟩:=ajh b3 (by rw[cI];exact jD cy (jD ra (jD oz (jD kb yL)))) au5 (fun y aI=>by
    have:=aX.b2 y aI;simp only[gM,pK,de,b',e5,jr,iY,kA,AS,dP];exact this)
   rw[cI]at a3;have cI:=a3;have bw:=ia.trans cc;refine⟨ue ss,sC T avn (hB x oQ),dQ,G',t3 (akK b3.ok),⟨by rw[cI];exact bw.n,bw.dq⟩,b3,⟨by rw[agN,kA,AS],by rw[cI];exact agM ra⟩,fun i c cd av aq bM=> ?_⟩
   have Cf:=(h.aE.wf i c av).2 (KK lX);have Cg:=(aX.wd.wf i c (jm i c av)).2;cases eV:T.K c with
   |none=>rw[eV]at Cf;exact Cf.elim
   |row z k n=>exact absurd aq (e8.zH (T:=T) c (by rw[eV];intro _ aF;cases aF))
   |map a7 t cH=>exact absurd aq (e8.zH (T:=T) c (by rw[eV];intro _ aF;cases aF))
   |obj ts=>
    rw[eV]at Cf Cg;obtain⟨h3,e1,aN,_⟩:=Cf;obtain⟨hd,bL,eB,_⟩:=Cg;rw[bM]at e1;cases e1;obtain⟨bg,bl⟩:=aX.wd.hi i c hd (jm i c av) aq bL;exact⟨hd,bL,aN.symm.trans eB,jm i c av,bg,bl (h.aE.wf i c av).1 cd bM⟩
theorem Xd {call:dw} {aS:b9} (xk:kG T call aS) (aC:gj E) (h:aW T E R G W V) {as:List al} {outs:List (al × aH)} (af:cls W.aD as=true) (ay:IX T aS as W=some outs):
  eS.iO aS.fw (call (aM R as) V) fun a V'=>∃s W' aL G',(s,W')∈outs∧dk R W aL W'∧aW T E aL G' W' V'∧(s.ai aL=a∧s.bh W'.aD=true)∧Vz T G V G' V':=by
 unfold IX at ay;split at ay
 ·split at ay
  case h_2=>cases ay
  rename_i ahB Qt;obtain⟨ag',bu,bC,c4⟩:=Yp h rfl af Qt;obtain⟨hc,fJ⟩:=bu.aM af;split at ay
  ·rename_i cd cS di;obtain⟨dW,cc,b4,dP,kb,vI,G9,G_⟩:=W6 bC fJ di;obtain⟨b',ct⟩:=cc.aM fJ;rw[hc]at b' dP;split at ay
   ·rename_i W1 l q av ak aB;have gd:=akw xk aC b4 ct kb (by rw[b'];exact dP) G9 vI G_ (by rw[b'];exact c4) av ak aB ay
    rw[b']at gd;exact eS.tY gd fun a V' ⟨s,W',aL,G',ao,aX,bD⟩=>⟨s,W',aL,G',ao,(bu.trans cc).trans aX,bD⟩
   ·cases ay
  ·cases ay
 ·cases ay
theorem akx {call:dw} {aS:b9} (xk:kG T call aS) (aC:gj E) (h:aW T E R G W V) {as:List al} {outs:List (al × aH)} (af:cls W.aD as=true) (ay:yQ T aS as W=some outs):
  eS.iO aS.fw (call (aM R as) V) fun a V'=>∃s W' aL G',(s,W')∈outs∧dk R W aL W'∧aW T E aL G' W' V'∧s.ai aL=a∧s.bh W'.aD=true:=by
 unfold yQ at ay;cases aF:aS.ar with
 |false=>
  rw[aF]at ay;exact eS.tY (Xd xk aC h af ay) fun a V' ⟨s,W',aL,G',ao,aX,bD,c8,_⟩=>⟨s,W',aL,G',ao,aX,bD,c8⟩
 |true=>
  rw[aF,cond_true]at ay;cases aB:zQ T (zI T W W.cells []) W with
  |mk hs cS=>
   rw[aB]at ay;obtain⟨dW,cc,b4,dP⟩:=Se h (fun p ae=>by
    obtain⟨v,c⟩:=p;rcases Ks ae with aV|⟨aV,U⟩
    ·cases aV
    obtain⟨i,hi,av⟩:=tf h aV;refine⟨?_,U,i,hi,av⟩;rcases lJ v W.aD with bw|d_
    ·exact bw
    ·unfold nq at aV;rw[h.ok.top v d_]at aV;cases aV) aB
   obtain⟨b',ct⟩:=cc.aM af;simp only at ay;split at ay
   ·rename_i l ak;cases ay;have gd:=Xd xk aC b4 ct ak;rw[b']at gd;refine eS.tY gd fun a V' ⟨s,W',aL,G',ao,aX,bD,⟨c8,e'⟩,sr⟩=> ?_;obtain⟨dQ,bd,bx⟩:=S2 bD (hs:=hs) (fun p ae=>by
     obtain⟨⟨b3,cI⟩,a3,i,a4,a5,wi⟩:=dP p ae;obtain⟨bf,cp,b_,dh,hD,iA⟩:=sr i p.2.1 _ a5 a3 wi;obtain⟨d1,d2⟩:=aX.aM cI;exact⟨⟨eE b3 aX.n,d2⟩,i,bf,by rw[←aX.dq _ b3];exact a4,dh,cp,by rw[d1];exact b_,hD,by rw[d1];exact iA⟩)
    obtain⟨e1,aN⟩:=bd.ai e';exact⟨s,_,dQ,G',eO.2 ⟨_,ao,rfl⟩,(cc.trans aX).trans bd,bx,by rw[e1];exact c8,aN⟩
   ·cases ay
end Go.bO.cK
end
section
namespace Go.bO.cK
variable {T:bG} [e8 T]
def wC (rank:Nat→Nat) (F:oN) (r:Nat):oN:=fun f=>bif Nat.blt (rank f) r then F f else .none
structure H3 (T:bG) (fh:oO) (F:oN) (rank:Nat→Nat) (B N:Nat):Prop where
 code:∀f an la dg,F f=.code an la dg→cg.get .none fh f=uQ an dg
 aS:∀f,∀c∈Br (F f),(∀k,B≤k→kG T (jg fh k f) c)∨∃an la dg,cg.get .none fh f=uQ an dg∧yH T (wC rank F (rank f)) N c an la dg=true
theorem Wi {rank:Nat→Nat} {F:oN} {r f:Nat} (h:wC rank F r f≠.none):rank f<r∧wC rank F r f=F f:=by
 unfold wC at h⊢;rw[kK]at h⊢;by_cases ah:rank f<r
 ·rw[decide_eq_true ah];exact⟨ah,rfl⟩
 ·rw[decide_eq_false ah]at h;exact absurd rfl h
theorem atj {call:Nat→dw} {f:Nat} {c:b9} (h:kG T (call f) c):kj c.fw T call (fun g as W=>if g=f then yQ T c as W else none):=by
 intro E R G W V g as outs aC ec af ay;simp only at ay;by_cases av:g=f
 ·subst av;rw[if_pos rfl]at ay;exact akx h aC ec af ay
 ·rw[if_neg av]at ay;cases ay
theorem Kw {fh:oO} {F:oN} {rank:Nat→Nat} {B N:Nat} (h:H3 T fh F rank B N) {r:Nat} (bm:∀g c,rank g<r→c∈Br (F g)→∀k,B+(rank g+1)*(N+1)≤k→kG T (jg fh k g) c) {dm:Bool} {k:Nat} (ek:B+r*(N+1)+N≤k):kj dm T (jg fh k) (qk T (wC rank F r) N dm):=by
 refine Uj (R0:=B+r*(N+1)) (fun g an la dg av=> ?_) (fun g bF av k' ek=> ?_) N dm k ek
 ·obtain⟨_,q⟩:=Wi (rank:=rank) (F:=F) (r:=r) (f:=g) (by rw[av];intro aF;cases aF)
  exact h.code g an la dg (q▸av)
 ·obtain⟨bg,bl⟩:=Wi (rank:=rank) (F:=F) (r:=r) (f:=g) (by intro aF;rw[aF]at av;cases av)
  refine atj (bm g bF bg (by rw[←bl];exact av) k' (fp ?_ ek))
  have:(rank g+1)*(N+1)≤r*(N+1):=l_ _ bg;omega
theorem abW {fh:oO} {F:oN} {rank:Nat→Nat} {B N:Nat} (h:H3 T fh F rank B N):∀(r f:Nat) (c:b9),rank f=r→c∈Br (F f)→∀k,B+(r+1)*(N+1)≤k→kG T (jg fh k f) c:=by
 intro r
 induction r using Nat.strongRecOn with
 |_ r bm=>
  intro f c ah ax k aq;rcases h.aS f c ax with U|⟨an,la,dg,U,aa⟩
  ·refine U k (fp (Nat.le_add_right _ _) aq)
  ·cases k with
   |zero=>exact absurd aq (by rw[pM];omega)
   |succ k=>
    have ek:B+r*(N+1)+N≤k:=by rw[pM]at aq;omega
    show kG T (wF (jg fh k) (cg.get .none fh f)) c;rw[U,NS];rw[ah]at aa;exact afc (Kw h (fun g bF av af k aq=>bm (rank g) av g bF rfl af k aq) ek) (Kw h (fun g bF av af k aq=>bm (rank g) av g bF rfl af k aq) ek) aa
theorem aqe {fh:oO} {F:oN} {rank:Nat→Nat} {B N:Nat} (h:H3 T fh F rank B N) {r f:Nat} {c:b9} {an:gE} {la:List dX} {dg:kF} (ax:cg.get .none fh f=uQ an dg) (pZ:yH T (wC rank F r) N c an la dg=true) {k:Nat} (aq:B+r*(N+1)+N≤k):kG T (jg fh (k+1) f) c:=by
 show kG T (wF (jg fh k) (cg.get .none fh f)) c;rw[ax,NS];exact afc (Kw h (fun g bF av af k aq=>abW h (rank g) g bF rfl af k aq) aq) (Kw h (fun g bF av af k aq=>abW h (rank g) g bF rfl af k aq) aq) pZ
end Go.bO.cK
end
section
namespace Go.bO.cK
variable {T:bG} [e8 T]
def sY:aO:=⟨0,0,.dL⟩
def lH:Nat→cR:=fun _=>.no
theorem avf (E:dS) (ar:E.V=sY):World T E lH sY where
 wf i c hi:=by cases hi
 out _ _:=rfl
 n:=by rw[ar];exact b1 _
 g:=by rw[ar]
 f' i hi:=by rw[ar]at hi;exact absurd hi (OA i)
 cls i hi:=by rw[ar]at hi;exact absurd hi (OA i)
 tok i hi:=by rw[ar]at hi;exact absurd hi (OA i)
 fQ g i j h:=by cases h
 hi i c cs h:=by cases h
theorem aeJ {t:bb} (h:kB t=false):l0 t=t:=by cases t<;>first|rfl|cases h
theorem JC:∀{ts:List bb} {as:List ab},(∀t∈ts,kB t=false)→fi ts as=[]
 | [],as,_=>by cases as<;>rfl
 |t::ts,[],_=>rfl
 |t::ts,a::as,h=>by
  simp only[fi,k_,h t (cz ..)];rw[JC fun t aw=>h t (cv _ aw)];rfl
theorem ak0 {aS:b9} {as:List ab} (lY:aS.br.all (fun t=> !kB t)=true) (ak:aS.br.length=as.length) (aw:∀(j:Nat) (t:bb) (a:ab),aS.br[j]? =some t→as[j]? =some a→bR T.D lH t a)
  (y8:aS.P=[]) (aK:∀l∈aS.pre,0≤uu [as,[],jh sY as aS.ce] l) (an3:aS.pp=[]) (Qr:aS.pW=[]:=by rfl):Entry T aS sY lH as:=by
 have lY:∀t∈aS.br,kB t=false:=fun t aw=>by simpa using dI.1 lY t aw
 have gf:∀i,¬qu aS sY lH as i:=by
  intro i hi
  induction hi with
  |cls i c _ h=>cases h
  |arg i k aq=>rw[y8]at aq;cases aq
  |row i h=>rw[JC lY]at h;cases h
  |tok i j o h=>cases h
 refine⟨⟨b1 _,fun i hi=>absurd hi (gf i),fun g i j h=>(by cases h),fun _ _=>rfl⟩,avf _ rfl,ak,fun j t a aU aA=>⟨?_,fun cn sz e lo hi he=> ?_⟩,?_,aK,(fun q aB=>by rw[an3]at aB;cases aB),(fun q aB=>by rw[Qr]at aB;cases aB)⟩
 ·rw[aeJ (lY t (lM aU))];exact aw j t a aU aA
 ·have:=lY t (lM aU);rw[he]at this;cases this
 ·rw[JC lY];exact .nil
theorem aky {P:Program} {fh:oO} {f k:Nat} {aS:b9} (hm:P.follows .mixedOrders=true) (fG:um P fh) (h:kG T (jg fh k f) aS) {as:List ab} (ae:gV as=true) (he:Entry T aS sY lH as) (ag:a8)
  {Q:ab→Prop} (aB:∀rs V' G' p,p∈aS.outs→Exit T aS sY lH as p rs V' G'→(AR rs).shut.plain=true∧Q (AR rs).shut):hL P f as ag fun b dR=>Q b∧dR=ag:=by
 refine((NT hm fG k f).aei (h sY lH as he).2 (bW.g_ as ae) ?_ ag).mono ?_
 ·rintro a V' ⟨rs,G',p,rfl,aa,au⟩;exact(aB rs V' G' p aa au).1
 ·rintro b dR ⟨⟨a,V',⟨rs,G',p,rfl,aa,au⟩,rfl⟩,aw⟩;exact⟨(aB rs V' G' p aa au).2,aw⟩
theorem au8 {P:Program} {fh:oO} {f k:Nat} {aS:b9} (hm:P.follows .mixedOrders=true) (fG:um P fh) (h:kG T (jg fh k f) aS) (ay:aS.outs=[([.aS (.bool true)],[],[])]) {as:List ab} (ae:gV as=true) (he:Entry T aS sY lH as) (ag:a8):
  hL P f as ag fun b dR=>b=.bool true∧dR=ag:=by
 refine aky hm fG h ae he ag fun rs V' G' p fW ad=> ?_;rw[ay]at fW;have ae:=iS.1 fW;subst ae;have ak:=ad.len
 match rs,ak with
 | [r],_=>
  have aV:=(ad.y4 0 _ r rfl rfl).1;cases aV;exact⟨rfl,rfl⟩
end Go.bO.cK
end
