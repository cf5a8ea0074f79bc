/-
  A WALKER OF CODE IN SMALL, part 10: the other operations that look at the slots alone.
-/
import Derived.Test.YthjhmfhmejlenaaGreatSX7
import Derived.Test.YthjhmfhmejlenaaGreatAL23
set_option linter.unusedSectionVars false
set_option linter.unusedVariables false
set_option linter.unusedSimpArgs false
section
namespace Go.bO.cK
variable {T:bG} [e8 T] {E:dS} {R aL:cj} {G:Nat→cR} {W:aH} {V:aO}
theorem adb {D:Nat→bb} {K:Nat→pD} {E':Nat→bb} {P':Nat→List ab→Prop} {Q':aH→Nat→List al→Bool} {R':aH→Nat→List al→List Lit} {S':Nat→Bool} {U':Nat→List Nat}:∀{f:Nat} {t:bb} {a:ab},GJ f ⟨D,K,E',P',Q',R',S',U'⟩ t=true→bR D G t a→a.one=true
 |0,t,a,h,_=>by cases h
 |f+1,t,a,h,aA=>by
  cases aA with
  |jL k a aq=>exact adb (f:=f) h aq
  |any a=>cases h
  |agg=>cases h
  |eN=>cases h
  |aS=>exact h
  |_=>rfl
theorem z6 {f:Nat} {t:bb} {a:ab} (h:GJ f T t=true) (aA:bR T.D G t a):a.one=true:=adb (K:=T.K) (E':=T.E) (P':=T.bA) (Q':=T.pw) (R':=T.xi) (S':=T.kept) (U':=T.fix) h aA
theorem EN {a:ab} (h:a.one=true):a.cells=[a]:=by cases a<;>first|rfl|cases h
theorem wU {sz:Nat} {t:bb} {a:ab} (h:iV T sz t=true) (aA:bR T.D G t a):a.cells.length=sz∧a.cells.all ab.one=true:=by
 obtain⟨U,aa⟩:=a6 h;rw[hl]at U;have U:=b5 U;by_cases aw:∃l,t=.agg l
 ·obtain⟨l,rfl⟩:=aw;cases aA with
  |agg _ cs ak ad=>
   refine⟨by simp only[ab.cells,←ak];exact U,dI.2 fun c af=> ?_⟩
   obtain⟨j,aU⟩:=s6 af;obtain⟨u,hu⟩:=rX ak aU;exact z6 (dI.1 aa u (lM hu)) (ad j u c hu aU)
 ·have e:iT t=[t]:=by
   cases t<;>first|rfl|exact absurd ⟨_,rfl⟩ aw
  rw[e]at U aa;have ay:a.one=true:=z6 (by simpa using aa) aA
  rw[EN ay];exact⟨U,by simp[ay]⟩
theorem s3 {l:List ab} (h:∀a∈l,a.one=true):l.all ab.one=true:=dI.2 h
theorem ada (h:aW T E R G W V) {s:al} (hs:lA T W s=true):(s.ai R).one=true:=by
 unfold lA at hs;split at hs
 ·exact hs
 ·exact z6 hs (h.ok.ty _)
 ·rename_i v o;have ar:=h.ok.ty v;split at hs
  ·rename_i c n aw;have aK:=pr h.ok hs;rw[aw]at ar;simp only[al.ai];generalize R v=a at ar aK;cases ar with
   |ptr _ _ i av=>rfl
   |cX c=>cases aK
  ·cases hs
 ·cases hs
 ·cases hs
 ·rename_i U aa au ba cb;cases s<;>first
   |rfl
   |exact absurd rfl (U _)
   |exact absurd rfl (aa _)
   |exact absurd rfl (au _ _)
   |exact absurd rfl (ba _)
   |exact absurd rfl (cb _)
theorem N3 (h:aW T E R G W V) {s:al} (hs:(gm s).all (lA T W)=true):(s.ai R).cells=aM R (gm s)∧(s.ai R).cells.all ab.one=true∧(∀n,s.bh n=true→cls n (gm s)=true):=by
 unfold gm at hs⊢;cases aA:rz s with
 |some l=>
  rw[aA]at hs;obtain⟨U,aa⟩:=AN (R:=R) aA;simp only at hs⊢;rw[U];refine⟨rfl,s3 fun a hm=> ?_,aa⟩;simp only[ab.cells,hO]at hm;obtain⟨x,ad,rfl⟩:=eO.1 hm;exact ada h (dI.1 hs x ad)
 |none=>
  rw[aA]at hs;simp only[rG,List.all_nil,wE]at hs;have ay:=ada h hs;simp only;rw[EN ay];exact⟨rfl,by simp[ay],fun n aK=>by simp[cls,aK]⟩
theorem yE (h:aW T E R G W V) {n:Nat} {s:al} {l:List al} (hs:oY T W n s=some l):
  (s.ai R).cells=aM R l∧l.length=n∧(s.ai R).cells.all ab.one=true∧(∀m,s.bh m=true→cls m l=true):=by
 unfold oY at hs;obtain⟨U,aa⟩:=eF hs;cases aa;obtain⟨U,au⟩:=a6 U;obtain⟨az,ao,aX⟩:=N3 h au;exact⟨az,by rw[hl]at U;exact b5 U,ao,aX⟩
theorem hp (R:cj) (l:List al):(aM R l).length=l.length:=by rw[hO,ng]
theorem AH:∀{n:Nat} {cs:List ab},n≤cs.length→iw n cs=some (cs.take n)
 |0,cs,_=>rfl
 |n+1,[],h=>by simp at h
 |n+1,c::cs,h=>by
  show wN c (iw n cs)=_;rw[AH (by simpa using h)];rfl
theorem BM {n:Nat} {cs:List ab} (h:n≤cs.length):mP n cs=true:=by unfold mP;rw[AH h]
theorem KJ:∀{n:Nat} {l:List ab},l.length=n→vm n l=true
 |0,[],_=>rfl
 |0,_::_,h=>by cases h
 |n+1,[],h=>by cases h
 |n+1,a::l,h=>KJ (n:=n) (l:=l) (by simpa using h)
theorem IN {n:Nat} {a:ab} (U:a.cells.length=n) (aa:a.cells.all ab.one=true):pR n a=true:=by
 cases a with
 |agg cs=>
  show(bif vm n cs then cs.all ab.one else false)=true
  rw[KJ (l:=cs) U];exact aa
 |top=>cases aa
 |tuple vs=>cases aa
 |_=>subst U;rfl
theorem V9 {β:Type} {f:List ab→Option β}:∀{o:Nat} {l r:List al},pS o l=some r→nU f o (aM R l)=f (aM R r)
 |0,l,r,h=>by cases h;rfl
 |o+1,[],r,h=>by cases h
 |o+1,s::l,r,h=>V9 (o:=o) (l:=l) h
theorem I4 {n:Nat}:∀{o:Nat} {l r:List al},pS o l=some r→cls n l=true→cls n r=true
 |0,l,r,h,af=>by cases h;exact af
 |o+1,[],r,h,_=>by cases h
 |o+1,s::l,r,h,af=>I4 (o:=o) (l:=l) h (a6 af).2
theorem agq {n:Nat}:∀{m:Nat} {l r:List al},ru m l=some r→iw m (aM R l)=some (aM R r)∧(cls n l=true→cls n r=true)∧r.length=m
 |0,l,r,h=>by cases h;exact⟨rfl,fun _=>rfl,rfl⟩
 |m+1,[],r,h=>by cases h
 |m+1,s::l,r,h=>by
  simp only[ru]at h;split at h
  ·rename_i fl ah;cases h;obtain⟨U,aa,au⟩:=agq (n:=n) ah;refine⟨?_,fun af=>by simp only[cls,(a6 af).1,aa (a6 af).2];rfl,by simp[au]⟩
   show wN _ (iw m (aM R l))=_;rw[U];rfl
  ·cases h
theorem Dm {n:Nat} {agg:Bool} {m o:Nat} {l:List al} {s:al} (h:Ab agg m o l=some s):partAt agg m o (aM R l)=some (s.ai R)∧(cls n l=true→s.bh n=true):=by
 unfold Ab at h;split at h
 ·rename_i r ah;unfold partAt;rw[V9 ah];cases agg with
  |true=>
   simp only at h;split at h
   ·rename_i q aB;cases h;obtain⟨U,aa,_⟩:=agq (n:=n) (R:=R) aB;refine⟨?_,fun af=>aa (I4 ah af)⟩;show Eg (iw m (aM R r))=_;rw[U];rfl
   ·cases h
  |false=>
   simp only at h;obtain⟨U,aa⟩:=eF h;have:=b5 U;subst this;cases r with
   |nil=>cases aa
   |cons x r=>
    cases aa;exact⟨rfl,fun af=>(a6 (I4 ah af)).1⟩
 ·cases h
theorem adC {n:Nat}:∀{vs l r:List al},Lx vs l=some r→re (aM R vs) (aM R l)=aM R r∧(cls n vs=true→cls n l=true→cls n r=true)∧vs.length≤l.length∧r.length=l.length
 | [],l,r,h=>by cases h;exact⟨rfl,fun _ h=>h,fv _,rfl⟩
 |v::vs,[],r,h=>by cases h
 |v::vs,a::l,r,h=>by
  simp only[Lx]at h;split at h
  ·rename_i q aB;cases h;obtain⟨U,aa,au,ba⟩:=adC (n:=n) aB;refine⟨?_,fun ar ak=>by simp only[cls,(a6 ar).1,aa (a6 ar).2 (a6 ak).2];rfl,by simpa using au,by simp[ba]⟩
   show v.ai R::re (aM R vs) (aM R l)=_;rw[U];rfl
  ·cases h
theorem TM {n:Nat}:∀{o:Nat} {vs l r:List al},G7 o vs l=some r→gi o (aM R vs) (aM R l)=aM R r∧(cls n vs=true→cls n l=true→cls n r=true)∧o+vs.length≤l.length∧r.length=l.length
 |0,vs,l,r,h=>by
  obtain⟨U,aa,au,ba⟩:=adC (n:=n) (R:=R) (vs:=vs) (l:=l) (r:=r) (by cases l<;>exact h)
  exact⟨U,aa,by omega,ba⟩
 |o+1,vs,[],r,h=>by cases h
 |o+1,vs,a::l,r,h=>by
  simp only[G7]at h;split at h
  ·rename_i q aB;cases h;obtain⟨U,aa,au,ba⟩:=TM (n:=n) aB;refine⟨?_,fun ar ak=>by simp only[cls,(a6 ak).1,aa ar (a6 ak).2];rfl,by simp only[mb];omega,by simp[ba]⟩
   show a.ai R::gi o (aM R vs) (aM R l)=_;rw[U];rfl
  ·cases h
theorem afD {n:Nat} {b:al}:∀{i:Nat} {l r:List al},DD b i l=some r→BC (b.ai R) i (aM R l)=aM R r∧(b.bh n=true→cls n l=true→cls n r=true)∧i<l.length∧r.length=l.length
 |i,[],r,h=>by cases i<;>cases h
 |0,a::l,r,h=>by cases h;exact⟨rfl,fun aj ak=>by simp only[cls,aj,(a6 ak).2];rfl,by simp,rfl⟩
 |i+1,a::l,r,h=>by
  simp only[DD]at h;split at h
  ·rename_i q aB;cases h;obtain⟨U,aa,au,ba⟩:=afD (n:=n) aB;refine⟨?_,fun aj ak=>by simp only[cls,(a6 ak).1,aa aj (a6 ak).2];rfl,by simpa using au,by simp[ba]⟩
   show a.ai R::BC (b.ai R) i (aM R l)=_;rw[U];rfl
  ·cases h
variable {se:bE} {env:aP}
theorem X3 (h:aW T E R G W V) (he:ch R W.aD se env):∀{br:List (Nat × Nat × aG)} {l r:List al},E8 T W se l br=some r→cls W.aD l=true→uS (aM R l) br env=some (aM R r)∧cls W.aD r=true
 | [],l,r,ax,af=>by simp only[E8]at ax;cases ax;exact⟨by simp[uS],af⟩
 |(o,n,x)::br,l,r,ax,af=>by
  simp only[E8]at ax;split at ax
  ·rename_i s hs;split at ax
   ·rename_i vs ar;split at ax
    ·rename_i c_ gx;obtain⟨e1,bf⟩:=fM he hs;obtain⟨az,ao,aX,bD⟩:=yE h ar;obtain⟨et,eY,m7,_⟩:=TM (n:=W.aD) (R:=R) gx;obtain⟨bd,bx⟩:=X3 h he ax (eY (bD _ bf) af);refine⟨?_,bx⟩;simp only[uS,e1];rw[IN (by rw[az,hp,ao]) aX,BM (by rw[hp];show o+n≤_;omega)]
     simp only[s8,cond_true];rw[az,et];exact bd
    ·cases ax
   ·cases ax
  ·cases ax
theorem Me (h:aW T E R G W V) (he:ch R W.aD se env) {sz:Nat}:∀{br:List (Nat × aG)} {l r:List al},Aq T W se sz l br=some r→cls W.aD l=true→k0 sz (aM R l) br env=some (aM R r)∧cls W.aD r=true
 | [],l,r,ax,af=>by simp only[Aq]at ax;cases ax;exact⟨by simp[k0],af⟩
 |(i,x)::br,l,r,ax,af=>by
  simp only[Aq]at ax;split at ax
  ·rename_i s hs;split at ax
   ·rename_i vs c_ ar gx;obtain⟨e1,bf⟩:=fM he hs;obtain⟨az,ao,aX,bD⟩:=yE h ar;obtain⟨et,eY,m7,_⟩:=afD (n:=W.aD) (R:=R) gx;obtain⟨bd,bx⟩:=Me h he ax (eY bf af);refine⟨?_,bx⟩;simp only[k0,e1];rw[IN (by rw[az,hp,ao]) aX,BM (by rw[hp];show i+1≤_;omega)]
    simp only[s8,cond_true];rw[et];exact bd
   ·cases ax
  ·cases ax
theorem U8 (h:aW T E R G W V) {s:al} {l:bn} (hs:yk W s=some l):(∃xs nl tok,s.ai R=.slice xs nl tok∧l.ai R=xs.length)∧(s.bh W.aD=true→l.bh W.aD=true):=by
 unfold yk at hs;split at hs
 ·rename_i v;have ar:=h.ok.ty v;split at hs
  ·rename_i t lo hi aw;cases hs;rw[aw]at ar;have ak:=h9 h.ok v;refine⟨?_,fun af=> ?_⟩
   ·simp only[al.ai];rw[ak];generalize R v=a at ar;cases ar with
    |bN _ _ _ xs nl tok _ _ _ _=>exact⟨xs,nl,tok,rfl,rfl⟩
   ·have aj:=e9 af;unfold gg;have ak:=h.aT.cC;clear aw ar;generalize W.cC=q at ak
    induction q with
    |nil=>exact Bp af
    |cons p r bm=>
     unfold BL;cases aj:Nat.beq v p.1 with
     |true=>exact(ak p (cz ..)).2
     |false=>exact bm (fun x ad=>ak x (cv _ ad))
  ·cases hs
 ·cases hs;exact⟨⟨_,_,_,rfl,by rw[wZ,hp,hl];rfl⟩,fun _=>rfl⟩
 ·cases hs;exact⟨⟨_,_,_,rfl,by rw[wZ,hl];rfl⟩,fun _=>rfl⟩
 ·cases hs
theorem q8 (h:aW T E R G W V) {v:Nat} (af:v<W.aD):(gg W v).bh W.aD=true:=by
 unfold gg;have ak:=h.aT.cC;generalize W.cC=q at ak
 induction q with
 |nil=>exact Bp (gp af)
 |cons p r bm=>
  unfold BL;cases aj:Nat.beq v p.1 with
  |true=>exact(ak p (cz ..)).2
  |false=>exact bm (fun x ad=>ak x (cv _ ad))
theorem U9 (h:aW T E R G W V) {s:al} {l:bn} (hs:AO W s=some l):(∃n:Nat,l.ai R=n∧((∃g c,s.ai R=.ref g 0 n c)∨∃xs nl tok,s.ai R=.slice xs nl tok∧xs.length=n))∧(s.bh W.aD=true→l.bh W.aD=true):=by
 unfold AO at hs;split at hs
 ·rename_i v;have ar:=h.ok.ty v;have ak:=h9 h.ok v;split at hs
  ·rename_i lo hi aw;cases hs;rw[aw]at ar;refine⟨?_,fun af=>q8 h (e9 af)⟩;simp only[al.ai];rw[ak];generalize R v=a at ar;cases ar with
   |m8 _=>exact⟨0,rfl,.inr ⟨_,_,_,rfl,rfl⟩⟩
   |rv _ _ g n _ _=>exact⟨n,rfl,.inl ⟨_,_,rfl⟩⟩
  ·rename_i k lo hi aw;cases hs;rw[aw]at ar;refine⟨?_,fun af=>q8 h (e9 af)⟩;simp only[al.ai];rw[ak];generalize R v=a at ar;cases ar with
   |nP _ _ _ xs nl tok _ _ _ _=>exact⟨_,rfl,.inr ⟨_,_,_,rfl,rfl⟩⟩
   |rl _ _ _ g n c m _ _ _ _=>exact⟨n,rfl,.inl ⟨_,_,rfl⟩⟩
  ·cases hs
 ·cases hs
theorem HH (h:aW T E R G W V) {s:al} {l:bn} (hs:AP W s=some l):(∃x,s.ai R=.str x∧l.ai R=x.length)∧(s.bh W.aD=true→l.bh W.aD=true):=by
 unfold AP at hs;split at hs
 ·rename_i v;have ar:=h.ok.ty v;split at hs
  ·rename_i hi aw;cases hs;rw[aw]at ar;have ak:=h9 h.ok v;refine⟨?_,fun af=>q8 h (e9 af)⟩;simp only[al.ai];rw[ak];generalize R v=a at ar;cases ar with
   |str x _ _=>exact⟨x,rfl,rfl⟩
  ·cases hs
 ·cases hs;exact⟨⟨_,rfl,by rw[wZ,hl];rfl⟩,fun _=>rfl⟩
 ·cases hs
theorem aeC {o:Option al} {k:al→d'} {q:Option aJ} (aq:∀s,o=some s→eJ T E R G W V (k s) q):eJ T E R G W V (nN o k) q:=by
 cases o with
 |none=>exact eD
 |some s=>exact aq s rfl
theorem aeD {a b:Option al} {k:al→al→d'} {q:Option aJ} (aq:∀s t,a=some s→b=some t→eJ T E R G W V (k s t) q):eJ T E R G W V (xS a b k) q:=by
 cases a with
 |none=>exact eD
 |some s=>
  cases b with
  |none=>exact eD
  |some t=>exact aq s t rfl rfl
theorem Vm (h:aW T E R G W V) {t:bb} {l:bn} {a:ab} {o:Option aJ} (aw:bR T.D G t a) (ak:lenOf a=l.ai R) (af:l.bh W.aD=true) (ay:o=some (.val a)):eJ T E R G W V (HP W t l) o:=by
 intro x W' ad;unfold HP at ad;cases ax:cW W t with
 |mk s W1=>
  rw[ax]at ad;obtain⟨aL,az,ao,aX,bD⟩:=mQ t h aw ax;split at ad
  ·rename_i v cD hm;cases hm;cases ad;have ar:aL v=a:=aX;have rZ:=jC az.n (l:=l.t) af;refine⟨aL,_,⟨az.n,az.dq⟩,⟨⟨ao.ok.ty,ao.ok.top,ao.ok.ge,ao.ok.da,fun p ae=> ?_,ao.ok.b2⟩,⟨ao.aT.ge,ao.aT.da,fun p ae=> ?_,ao.aT.cells,ao.aT.live,ao.aT.cA,ao.aT.wr,ao.aT.b2,ao.aT.op,ao.aT.lt,ao.aT.gz,ao.aT.rd⟩,
    ⟨ao.aE.wf,ao.aE.cells,ao.aE.live,ao.aE.gw,ao.aE.wr,ao.aE.M,ao.aE.out,ao.aE.n,ao.aE.g,ao.aE.f',ao.aE.cls,ao.aE.tok,ao.aE.fQ,ao.aE.hi,ao.aE.lt,ao.aE.rd⟩⟩,ay,by simp only[cZ,al.ai,ar],bD⟩
   ·rcases cu.1 ae with rfl|ae
    ·simp only;rw[ar,ak];exact jK az.dq af
    ·exact ao.ok.cC p ae
   ·rcases cu.1 ae with rfl|ae
    ·exact⟨e9 bD,rZ⟩
    ·exact ao.aT.cC p ae
  ·cases ad
end Go.bO.cK
end
section
namespace Go.bO.cK
variable {T:bG} [e8 T] {E:dS} {R aL:cj} {G:Nat→cR} {W:aH} {V:aO} {se:bE} {env:aP}
theorem xV (h:aW T E R G W V) {x:fx} {e:aJ} {o:Option aJ} (ad:cZ R x e) (af:x.bh W.aD=true) (ay:o=some e):eJ T E R G W V (some (x,W)) o:=by
 intro y W' aI;cases aI;exact⟨R,e,.refl _ _,h,ay,ad,af⟩
theorem G6 (h:aW T E R G W V) {v c:Nat} {n:Bool} (aw:W.df v=.ptr c n) (aF:holds W (.nl v false)=true):∃i,R v=.ptr i 0∧G i=.cls c:=by
 have ar:=h.ok.ty v;have aK:=pr h.ok aF;rw[aw]at ar;generalize R v=a at ar aK;cases ar with
 |ptr _ _ i av=>exact⟨i,rfl,av⟩
 |cX c=>cases aK
theorem are (h:aW T E R G W V) {x:fx} {e:aJ} (ad:cZ R x e) (af:x.bh W.aD=true):eJ T E R G W V (SP W x) (SQ e):=by
 rw[acR];unfold SP;split
 ·simp only[cZ]at ad;rw[ad];exact xV h rfl rfl rfl
 ·simp only[cZ]at ad;rw[ad];exact h' h af rfl
 ·rename_i v o;simp only[cZ]at ad;split
  ·rename_i c n aw;refine iN fun aF=> ?_;obtain⟨i,hi,_⟩:=G6 h aw aF;rw[ad];simp only[al.ai,hi,sD];exact h' h af (by simp only[al.ai,hi,sD];rfl)
  ·exact eD
 ·rename_i v;simp only[cZ]at ad;split
  ·rename_i c n aw;refine iN fun aF=> ?_;obtain⟨i,hi,_⟩:=G6 h aw aF;rw[ad];simp only[al.ai,hi];exact h' h af (by simp only[al.ai,hi,sD];rfl)
  ·exact eD
 ·exact eD
theorem akQ {o:Nat}:∀{l r:List al},pS o l=some r→(aM R l).drop o=aM R r:=by
 induction o with
 |zero=>intro l r h;cases h;rfl
 |succ o bm=>
  intro l r h;cases l with
  |nil=>cases h
  |cons a l=>exact bm (l:=l) h
theorem Yf (h:aW T E R G W V) {off:Nat} {x:fx} {e:aJ} (ad:cZ R x e) (af:x.bh W.aD=true):eJ T E R G W V (Jq W off x) (y1 off e):=by
 rw[Yd];unfold Jq;split
 ·simp only[cZ]at ad;rw[ad];exact xV h rfl rfl rfl
 ·rename_i v sz l o;simp only[cZ]at ad;refine iN fun bw=> ?_;have bw:=e9 bw;obtain⟨n,az,ao,aX⟩:=ad;rcases aX with⟨g,m,c,b3,cI,rfl⟩|⟨xs,nl,tok,x,b3,cI,a3,a4,rfl⟩
  ·exact xV h (e:=.val (.ptr g (n*sz+o+off))) ⟨n,az,bw,.inl ⟨g,m,c,b3,cI,by rw[ux];rfl⟩⟩ af rfl
  ·exact xV h (e:=.val (.dK ((x.cells.drop o).drop off))) ⟨n,az,bw,.inr ⟨xs,nl,tok,x,b3,cI,a3,a4,by rw[Bt];rfl⟩⟩ af rfl
 ·simp only[cZ]at ad;split
  ·rename_i r ah;rw[ad];refine h' h (I4 ah af) ?_;show some (aJ.val (ab.dK ((aM R _).drop off)))=_;rw[akQ ah];rfl
  ·exact eD
 ·rename_i v o;simp only[cZ]at ad;split
  ·rename_i c n aw;refine iN fun aF=> ?_;obtain⟨i,hi,_⟩:=G6 h aw aF;rw[ad];simp only[al.ai,hi,sD];refine h' h af ?_;simp only[al.ai,hi,sD];show some (aJ.val (ab.ptr i (0+o+off)))=some (aJ.val (ab.ptr i (0+(o+off))));rw[ux]
  ·exact eD
 ·rename_i v;simp only[cZ]at ad;split
  ·rename_i c n aw;refine iN fun aF=> ?_;obtain⟨i,hi,_⟩:=G6 h aw aF;rw[ad];simp only[al.ai,hi];exact h' h af (by simp only[al.ai,hi,sD];rfl)
  ·exact eD
 ·exact eD
theorem akC (h:aW T E R G W V) {k:IntKind} {s:al} (af:s.bh W.aD=true):eJ T E R G W V (Oh W k s) (Og k (.val (s.ai R))):=by
 unfold Oh;split
 ·rename_i k' l ak;obtain⟨e1,bf⟩:=gP (R:=R) ak;rw[e1,Xg];refine Af h (bf _ af) ?_;show some (aJ.val (ab.int k (uf k (l.ai R))))=_;rw[DY]
 ·exact eD
theorem alp (h:aW T E R G W V) {off n:Nat} {agg:Bool} {s:al} (af:s.bh W.aD=true):eJ T E R G W V (Po W off n agg s) (Pn off n agg (.val (s.ai R))):=by
 unfold Po;split
 ·rename_i l ak;obtain⟨e1,bf⟩:=AN (R:=R) ak;rw[e1,X0];split
  ·rename_i r ah;obtain⟨et,eY⟩:=Dm (n:=W.aD) (R:=R) ah;refine h' h (eY (bf _ af)) ?_;show mG (partAt agg n off (aM R l))=_;rw[et];rfl
  ·exact eD
 ·exact eD
theorem lP {n:Nat}:∀{l:List al} {i:Nat} {s:al},l[i]? =some s→cls n l=true→s.bh n=true
 | [],i,s,h,_=>by simp at h
 |a::l,0,s,h,af=>by simp at h;subst h;exact(a6 af).1
 |a::l,i+1,s,h,af=>lP (l:=l) (i:=i) (by simpa using h) (a6 af).2
theorem alj (h:aW T E R G W V) {i:Nat} {s:al} (af:s.bh W.aD=true):eJ T E R G W V (Pm W i s) (Pl i (.val (s.ai R))):=by
 unfold Pm;split
 ·rename_i l ak;obtain⟨e1,bf⟩:=agF (R:=R) ak;rw[e1,XX];split
  ·rename_i r ah;rw[j_]at ah;refine h' h (lP ah (bf _ af)) ?_;show mG (vx (aM R l) i)=_;rw[GD,hO,ic,ah];rfl
  ·exact eD
 ·exact eD
theorem aqo (h:aW T E R G W V) {s:al} (af:s.bh W.aD=true):eJ T E R G W V (R7 W s) (R4 (.val (s.ai R))):=by
 unfold R7;split
 ·rename_i l ak;obtain⟨⟨xs,nl,tok,e1,aN⟩,bf⟩:=U8 h ak;rw[e1,KH];refine h' h (bf af) ?_;show some (aJ.val (ab.int .i64 (.ofNat (j9 xs 0))))=_;rw[m3,fy];simp only[al.ai,aN];rfl
 ·split
  ·rename_i l ak;obtain⟨⟨n,aN,e1⟩,bf⟩:=U9 h ak;rcases e1 with⟨g,c,e1⟩|⟨xs,nl,tok,e1,bL⟩
   ·rw[e1,KH];refine h' h (bf af) ?_;show some (aJ.val (ab.int .i64 (.ofNat n)))=_;simp only[al.ai,aN];rfl
   ·rw[e1,KH];refine h' h (bf af) ?_;show some (aJ.val (ab.int .i64 (.ofNat (j9 xs 0))))=_;rw[m3,fy];simp only[al.ai,aN,bL];rfl
  ·exact eD
theorem atx (h:aW T E R G W V) {s:al} (af:s.bh W.aD=true):eJ T E R G W V (Us W s) (R6 (.val (s.ai R))):=by
 unfold Us;split
 ·rename_i l ak;obtain⟨⟨xs,e1,aN⟩,bf⟩:=HH h ak;rw[e1];refine h' h (bf af) ?_;show some (aJ.val (ab.int .i64 (.ofNat (vl xs 0))))=_;rw[Gl,fy];simp only[al.ai,aN];rfl
 ·exact eD
theorem aui {sz:Nat} {a:ab} (h:a.cells.length=sz):Ax sz a=some (.val (.dK a.cells)):=by
 unfold Ax;rw[EL,KJ h];rfl
theorem F8 {sz n:Nat} {xs:List ab} {nl:Bool} {tok:Option Nat} {a:ab} (h:xs[n]? =some a) (aA:a.cells.length=sz):zC sz n (.val (.slice xs nl tok))=some (.val (.dK a.cells)):=by
 rw[Kd];have e:Rw sz n (.val (.slice xs nl tok))= @Option.rec ab (fun _=>Option aJ) none (fun a=>Ax sz a) (vx xs n):=rfl;rw[e,GD,h];exact aui aA
theorem Rx (h:aW T E R G W V) {sz:Nat} {s:al} {o:Option aJ} (af:s.bh W.aD=true) (ay:(s.ai R).cells.length=sz→o=some (.val (.dK (s.ai R).cells))):eJ T E R G W V (F7 T W sz s) o:=by
 unfold F7;split
 ·rename_i l ak;obtain⟨az,ao,aX,bD⟩:=yE h ak;refine h' h (bD _ af) ?_;rw[ay (by rw[az,hp,ao]),az];rfl
 ·exact eD
theorem Yk {sz n:Nat} {t:bb} {s:al} {W1:aH} {a:ab} (ax:cW W t=(s,W1)) (aC:iV T sz t=true) (cY:bR T.D G t a) (hs:s.ai aL=a) (af:s.bh n=true):
  a.cells=aM aL (gm s)∧cls n (gm s)=true:=by
 unfold gm;cases aA:rz s with
 |some q=>
  obtain⟨b3,cI⟩:=AN (R:=aL) aA;rw[←hs,b3];exact⟨rfl,cI _ af⟩
 |none=>
  have mo:a.one=true:=by
   by_cases aw:∃l,t=.agg l
   ·obtain⟨l,rfl⟩:=aw;simp only[cW]at ax;cases ax;cases aA
   ·have e:iT t=[t]:=by
     cases t<;>first|rfl|exact absurd ⟨_,rfl⟩ aw
    obtain⟨_,aa⟩:=a6 aC;rw[e]at aa;exact z6 (by simpa using aa) cY
  rw[EN mo];exact⟨by simp only[aM,hs],by simp[cls,af]⟩
theorem ajr {a b c:ab} (h:gQ 0 [a,b,c]):∃(xs:List ab) (nl:Bool) (tok:Option Nat) (k:IntKind) (i:Nat),a=.slice xs nl tok∧b=.int k i∧xs[i]? =some c:=by
 cases h with
 |idx xs nl tok k i e h=>exact⟨xs,nl,tok,k,i,rfl,rfl,h⟩
theorem Ir {a b c:ab} (h:gQ 1 [a,b,c]):∃(xs ys:List ab) (n gI Gz:Bool) (t cn DN:Option Nat),a=.slice (xs++ys) Gz DN∧b=.slice xs n t∧c=.slice ys gI cn:=by
 cases h with
 |app xs ys n gI Gz t cn DN=>exact⟨xs,ys,n,gI,Gz,t,cn,DN,rfl,rfl,rfl⟩
theorem IV {n:Nat}:∀{l:List al} {s:al},cls n l=true→s∈l→s.bh n=true
 |a::l,s,h,hs=>by
  obtain⟨U,aa⟩:=a6 h;rcases cu.1 hs with rfl|hs
  ·exact U
  ·exact IV aa hs
theorem X8 {v:Nat} {l:bn} {s:al}:∀{br:List (Nat × List al)},(∀p∈br,eu T p.1 (aM R p.2))→BK v l br=some s→(∃k,gQ 0 [R v,.int k (l.ai R),s.ai R])∧∃p∈br,s∈p.2
 | [],_,h=>by cases h
 |p::br,ae,h=>by
  have rest:BK v l br=some s→(∃k,gQ 0 [R v,.int k (l.ai R),s.ai R])∧∃q∈p::br,s∈q.2:=fun h=>by
   obtain⟨U,q,aB,aa⟩:=X8 (fun q aB=>ae q (cv _ aB)) h;exact⟨U,q,cv _ aB,aa⟩
  unfold BK at h;split at h
  ·rename_i w k c_ dy r he;cases he;cases af:Nat.beq v w&&pT l c_ with
   |true=>
    rw[af]at h;obtain⟨bf,c2⟩:=a6 af;have bf:=b5 bf;subst bf;have c2:=tm c2;subst c2;cases h;have:=ae _ (cz ..);exact⟨⟨k,G4 (T:=T) (by decide) this⟩,_,cz ..,by simp⟩
   |false=>rw[af]at h;exact rest h
  ·rename_i he;cases he;exact rest h
  ·rename_i he;cases he
theorem Ps {v:Nat} {b:al} {ys:List al}:∀{br:List (Nat × List al)},(∀p∈br,eu T p.1 (aM R p.2))→w1 v br=some (b,ys)→gQ 1 [R v,b.ai R,.slice (aM R ys) false none]∧∃p∈br,b∈p.2∧.bN ys∈p.2
 | [],_,h=>by cases h
 |p::br,ae,h=>by
  have rest:w1 v br=some (b,ys)→gQ 1 [R v,b.ai R,.slice (aM R ys) false none]∧∃q∈p::br,b∈q.2∧.bN ys∈q.2:=fun h=>by
   obtain⟨U,q,aB,aa⟩:=Ps (fun q aB=>ae q (cv _ aB)) h;exact⟨U,q,cv _ aB,aa⟩
  unfold w1 at h;split at h
  ·rename_i w ea en r he;cases he;cases af:Nat.beq v w with
   |true=>
    rw[af]at h;have bf:=b5 af;subst bf;cases h;have:=ae _ (cz ..);exact⟨G4 (T:=T) (by decide) this,_,cz ..,by simp,by simp⟩
   |false=>rw[af]at h;exact rest h
  ·rename_i he;cases he;exact rest h
  ·rename_i he;cases he
theorem aql (h:aW T E R G W V) {b:al} {l:bn} {xs:List ab} {nl:Bool} {tok:Option Nat} (aj:R3 W b=some l) (he:b.ai R=.slice xs nl tok):l.ai R=(xs.length:Nat):=by
 unfold R3 at aj;split at aj
 ·cases aj;rw[h9 h.ok];simp only[al.ai]at he;rw[he];rfl
 ·cases aj;simp only[al.ai,ab.slice.injEq]at he;rw[←he.1];simp
 ·cases aj
theorem X7 (h:aW T E R G W V):∀{f v n:Nat} {s:al} {xs:List ab} {nl:Bool} {tok:Option Nat},Jk W f v n=some s→R v=.slice xs nl tok→xs[n]? =some (s.ai R)∧s.bh W.aD=true
 |0,v,n,s,xs,nl,tok,ax,_=>by cases ax
 |f+1,v,n,s,xs,nl,tok,ax,ah=>by
  simp only[Jk]at ax;split at ax
  ·rename_i b ys hq;obtain⟨cp,p,ae,qS,h6⟩:=Ps h.ok.b2 hq;obtain⟨us,ws,_,_,_,_,_,_,cc,b4,dP⟩:=Ir cp;rw[ah]at cc;cases cc;cases dP;split at ax
   ·rename_i l ak;have cl:=aql h ak b4;split at ax
    ·rename_i m hm;have hm:=mi (R:=R) hm;have hm:us.length=m:=by rw[cl]at hm;exact uy hm
     cases af:Nat.ble m n with
     |true=>
      rw[af]at ax;have af:=jf af;simp only[cond_true]at ax;rw[j_]at ax;refine⟨?_,?_⟩
      ·rw[km (by omega),hm]
       exact(by rw[hO,ic];rw[show n-m=Nat.sub n m from rfl,ax];rfl)
      ·have:=IV (h.aT.b2 p ae) h6;exact lP ax this
     |false=>
      rw[af]at ax;simp only[cond_false]at ax;have af:¬m≤n:=fun aF=>by rw[OL aF]at af;cases af
      split at ax
      ·rename_i w;obtain⟨bu,bC⟩:=X7 h ax b4;exact⟨by rw[kl (by omega)];exact bu,bC⟩
      ·cases ax
    ·cases ax
   ·cases ax
  ·cases ax
theorem Pt (h:aW T E R G W V) {v n:Nat} {l:bn} {s:al} {xs:List ab} {nl:Bool} {tok:Option Nat} (ax:yZ W v l=some s) (ah:R v=.slice xs nl tok) (ak:l.ai R=(n:Int)):xs[n]? =some (s.ai R)∧s.bh W.aD=true:=by
 unfold yZ at ax;split at ax
 ·rename_i dy hs;cases ax;obtain⟨⟨k,b⟩,p,ae,hm⟩:=X8 h.ok.b2 hs;obtain⟨ys,_,_,_,i,cc,b4,dP⟩:=ajr b;rw[ah]at cc;cases cc;rw[ak]at b4;simp only[ab.int.injEq]at b4;have:n=i:=by omega
  subst this;exact⟨dP,IV (h.aT.b2 p ae) hm⟩
 ·split at ax
  ·rename_i m hm;have hm:=mi (R:=R) hm;rw[ak]at hm;have:n=m:=uy hm;subst this;exact X7 h ax ah
  ·cases ax
theorem ZQ (h:aW T E R G W V) {sz:Nat} {x i:al} (ad:x.bh W.aD=true) (hi:i.bh W.aD=true):eJ T E R G W V (Kc T W sz x i) (Cl sz (.val (x.ai R)) (.val (i.ai R))):=by
 unfold Kc;split
 ·rename_i k l ak;obtain⟨e1,bf⟩:=gP (R:=R) ak;have tu:=bf _ hi;rw[e1,ZO];split
  ·rename_i v;have ar:=h.ok.ty v;split
   ·rename_i t lo hi aw;refine iN fun av=> ?_;obtain⟨bu,bC⟩:=a6 av;have bu:=dE h.ok bu;have bC:=dE h.ok bC;simp only[fe,eG,h9 h.ok]at bC;have cE:Int.negSucc 0= -1:=rfl;rw[cE]at bC;obtain⟨n,aK⟩:∃n:Nat,l.ai R=(n:Int):=⟨(l.ai R).toNat,by omega⟩
    rw[aK]at bC⊢;rw[aw]at ar;simp only[al.ai];generalize tD:R v=a at ar bC;cases ar with
    |bN _ _ _ xs nl tok U aa eP hP=>
     simp only[lenOf]at bC;have bw:n<xs.length:=by omega
     have fV:=eU bw;have cY:=hP xs[n] (l' bw);have fresh:eJ T E R G W V (Ke T W sz t v k l) (zC sz n (.val (.slice xs nl tok))):=by
      unfold Ke;refine iN fun aC=> ?_;obtain⟨bZ,cB⟩:=wU aC cY;intro y W' aI;cases ax:cW W t with
      |mk s W1=>
       rw[ax]at aI;cases aI;obtain⟨aL,az,ao,aX,bD⟩:=mQ t h cY ax;have ik:=Yk ax aC cY aX bD;have xl:aL v=.slice xs nl tok:=by rw[←tD];exact(az.dq v (e9 ad)).symm
       have gx:l.ai aL=(n:Int):=by rw[←aK];exact(jK az.dq tu).symm
       obtain⟨bg,bl⟩:=ao.mz (b:=CP t) (k:=0) (as:=[.x v,.i k l,s]) (by
        have U:=k1 az.n (.x v) ad;have aa:(al.i k l).bh W1.aD=true:=jC az.n tu;simp only[cls,U,aa,bD];rfl) (.inl (by
        simp only[aM,al.ai,xl,gx,aX];exact .idx xs nl tok k n _ fV))
       refine⟨aL,_,az.trans (dk.same bl),bg,F8 fV bZ,?_,by rw[bl];exact ik.2⟩
       simp only[cZ,al.ai,ik.1]
     split
     ·rename_i s hs;obtain⟨f1,f2⟩:=Pt h hs tD aK;refine px (fun _=> ?_) (fun _=>fresh);refine Rx h f2 fun dj=> ?_;exact F8 f1 dj
     ·exact fresh
   ·rename_i lo hi aw;refine iN fun av=> ?_;obtain⟨ml,bu⟩:=a6 av;have ml:=e9 ml;obtain⟨bu,bC⟩:=a6 bu;have bu:=dE h.ok bu;have bC:=dE h.ok bC;simp only[fe,eG,h9 h.ok]at bC;have cE:Int.negSucc 0= -1:=rfl;rw[cE]at bC;obtain⟨n,aK⟩:∃n:Nat,l.ai R=(n:Int):=⟨(l.ai R).toNat,by omega⟩
    rw[aK]at bC⊢;rw[aw]at ar;simp only[al.ai];generalize tD:R v=a at ar bC;have ej:fx.bh W.aD (.kc v sz l 0)=true:=by simp only[fx.bh,tu,wE];exact ad
    cases ar with
    |m8 _=>simp only[lenOf,nn]at bC;omega
    |rv _ _ g m U aa=>
     simp only[lenOf]at bC;have bw:n<m:=by omega
     refine xV h (e:=.val (.ptr g (n*sz+0))) ⟨n,aK,ml,.inl ⟨g,m,1,tD,bw,rfl⟩⟩ ej ?_;show zC sz n (.val (.ref g 0 m 1))=_;rw[Kd];show(bif Nat.blt n m then some (aJ.val (.ptr g (Nat.add 0 (Nat.mul n sz))))else none)=_
     rw[gp bw,cond_true,show Nat.add 0 (Nat.mul n sz)=n*sz+0 from fy _]
   ·rename_i k' lo hi aw;refine iN fun av=> ?_;obtain⟨ml,bu⟩:=a6 av;obtain⟨ml,alD⟩:=a6 ml;have ml:=e9 ml;obtain⟨bu,bC⟩:=a6 bu;have bu:=dE h.ok bu;have bC:=dE h.ok bC;simp only[fe,eG,h9 h.ok]at bC;have cE:Int.negSucc 0= -1:=rfl;rw[cE]at bC;obtain⟨n,aK⟩:∃n:Nat,l.ai R=(n:Int):=⟨(l.ai R).toNat,by omega⟩
    rw[aK]at bC⊢;rw[aw]at ar;simp only[al.ai];generalize tD:R v=a at ar bC;have ej:fx.bh W.aD (.kc v sz l 0)=true:=by simp only[fx.bh,tu,wE];exact ad
    cases ar with
    |nP _ _ _ xs nl tok U aa eP hP=>
     simp only[lenOf]at bC;have bw:n<xs.length:=by omega
     have fV:=eU bw;obtain⟨bZ,cB⟩:=wU alD (hP xs[n] (l' bw));refine xV h (e:=.val (.dK (xs[n].cells.drop 0))) ⟨n,aK,ml,.inr ⟨xs,nl,tok,xs[n],tD,fV,bZ,cB,rfl⟩⟩ ej ?_;exact F8 fV bZ
    |rl _ _ _ g m c q U aa au ba=>
     simp only[lenOf]at bC;have bw:n<m:=by omega
     refine xV h (e:=.val (.ptr g (n*sz+0))) ⟨n,aK,ml,.inl ⟨g,m,c,tD,bw,rfl⟩⟩ ej ?_;show zC sz n (.val (.ref g 0 m c))=_;rw[Kd];show(bif Nat.blt n m then some (aJ.val (.ptr g (Nat.add 0 (Nat.mul n sz))))else none)=_
     rw[gp bw,cond_true,show Nat.add 0 (Nat.mul n sz)=n*sz+0 from fy _]
   ·exact eD
  ·split
   ·rename_i r n aK;have aK:=mi (R:=R) aK;split
    ·rename_i s hs;rw[j_]at hs;refine Rx h (lP hs ad) fun dj=> ?_;rw[aK];exact F8 (by rw[hO,ic,hs];rfl) dj
    ·exact eD
   ·exact eD
  ·rename_i xs nl tok;split
   ·rename_i n aK;have aK:=mi (R:=R) aK;split
    ·rename_i s hs;rw[j_,RX,ic]at hs;cases av:xs[n]? with
     |none=>rw[av]at hs;cases hs
     |some a=>
      rw[av]at hs;cases hs;refine Rx h rfl fun dj=> ?_;rw[aK];exact F8 av dj
    ·exact eD
   ·exact eD
  ·exact eD
 ·exact eD
theorem ao5 (h:aW T E R G W V) {x i:al} (_:x.bh W.aD=true) (_:i.bh W.aD=true):eJ T E R G W V (RJ W x i) (RI (.val (x.ai R)) (.val (i.ai R))):=by
 unfold RJ;split
 ·rename_i k l n ak aK;obtain⟨e1,bf⟩:=gP (R:=R) ak;obtain⟨⟨xs,aN,bL⟩,c2⟩:=HH h aK;rw[e1,aN];refine iN fun av=> ?_;obtain⟨bu,bC⟩:=a6 av;have bu:=dE h.ok bu;have bC:=dE h.ok bC;simp only[fe,eG,bL]at bC;have cE:Int.negSucc 0= -1:=rfl;rw[cE]at bC;obtain⟨m,hm⟩:∃m:Nat,l.ai R=(m:Int):=⟨(l.ai R).toNat,by omega⟩
  rw[hm]at bC⊢;have bw:m<xs.length:=by omega
  refine mB h (n:=(xs[m].toNat:Int)) (nW _) (by have:=xs[m].toNat_lt;show _≤(255:Int);omega) ?_
  show Kn m xs=_;unfold Kn;rw[eU bw];rfl
 ·exact eD
theorem qI (h:aW T E R G W V) (he:ch R W.aD se env) {d:bn} {dn:Nat} (aQ:d.ai R=dn) (amT:d.bh W.aD=true) {x:Option aG} {l:bn} (ak:tb W se d x=some l):
  ∃n:Nat,iB dn env x=some n∧l.ai R=n∧l.bh W.aD=true:=by
 cases x with
 |none=>cases ak;exact⟨dn,rfl,aQ,amT⟩
 |some x=>
  simp only[tb]at ak;split at ak
  ·rename_i s hs;split at ak
   ·rename_i k m hm;obtain⟨av,aa⟩:=eF ak;cases aa;obtain⟨e1,bf⟩:=fM he hs;obtain⟨aN,c2⟩:=gP (R:=R) hm;have g:=dE h.ok av;obtain⟨n,aK⟩:∃n:Nat,l.ai R=(n:Int):=⟨(l.ai R).toNat,by omega⟩
    refine⟨n,?_,aK,c2 _ bf⟩;simp only[iB,e1,aN,aK]
   ·cases ak
  ·cases ak
theorem bR.cut {D:Nat→bb} {t:bb} {lo hi:Nat} {xs:List ab} {nl:Bool} {tok fg:Option Nat} (h:bR D G (.bN t lo hi) (.slice xs nl tok)) (a b:Nat):bR D G (.bN t 0 hi) (.slice ((xs.take b).drop a) nl fg):=by
 cases h with
 |bN _ _ _ _ _ _ U aa aK ad=>
  refine .bN _ _ _ _ _ _ (fv _) (by simp only[nk,nm];omega) (fun e=>by rw[aK e];simp) fun x hm=>ad x (List.mem_of_mem_take (List.mem_of_mem_drop hm))
theorem agc {sz:Nat} {t:bb} {xs:List ab} (aC:iV T sz t=true) (ad:∀x∈xs,bR T.D G t x):sO sz xs=true:=by
 cases xs with
 |nil=>rfl
 |cons x xs=>exact KJ (wU aC (ad x (cz ..))).1
theorem akF (h:aW T E R G W V) {t:bb} {lo hi:Nat} {l:bn} {a:ab} {as:List al} {o:Option aJ} (aw:bR T.D G (.bN t lo hi) a) (ak:lenOf a=l.ai R) (af:l.bh W.aD=true) (has:cls W.aD as=true) (jZ:gQ 13 (a::aM R as)) (ay:o=some (.val a)):eJ T E R G W V (On W (.bN t lo hi) l as) o:=by
 intro y W' aI;simp only[On,cW]at aI;cases aI;have ae:=h.push aw;have aA:=pB R W.aD a;have ej:=jC (hA W.aD) (l:=l.t) af;refine⟨hK R W.aD a,_,⟨hA _,aA⟩,⟨⟨ae.ok.ty,ae.ok.top,ae.ok.ge,ae.ok.da,fun p c0=> ?_,fun p c0=> ?_⟩,⟨ae.aT.ge,ae.aT.da,fun p c0=> ?_,ae.aT.cells,ae.aT.live,ae.aT.cA,ae.aT.wr,fun p c0=> ?_,ae.aT.op,ae.aT.lt,ae.aT.gz,ae.aT.rd⟩,ae.aE.same rfl rfl rfl rfl rfl rfl rfl rfl⟩,ay,by simp only[cZ,al.ai,gK],gp (gT _)⟩
 ·rcases cu.1 c0 with rfl|c0
  ·simp only[gK];rw[ak];exact jK aA af
  ·exact ae.ok.cC p c0
 ·rcases cu.1 c0 with rfl|c0
  ·refine .inl ?_;simp only[aM,al.ai,gK];rw[←qp aA _ has];exact jZ
  ·exact ae.ok.b2 p c0
 ·rcases cu.1 c0 with rfl|c0
  ·exact⟨gT _,ej⟩
  ·exact ae.aT.cC p c0
 ·rcases cu.1 c0 with rfl|c0
  ·show(Nat.blt W.aD (W.aD+1)&&cls (W.aD+1) as)=true;rw[gp (show W.aD<W.aD+1 by omega),mE (hA _) as has];rfl
  ·exact ae.aT.b2 p c0
theorem Xm (h:aW T E R G W V) {sz v:Nat} {l aF m:Option bn} {o:Option aJ}
  (ay:∀c_ b0 eI t lo hi xs nl tok,l=some c_→aF=some b0→m=some eI→R v=.slice xs nl tok→bR T.D G (.bN t lo hi) (.slice xs nl tok)→iV T sz t=true→c_.ai R≤b0.ai R→b0.ai R≤eI.ai R→eI.ai R≤xs.length→
   c_.bh W.aD=true∧b0.bh W.aD=true∧∃(a b:Nat) (fg:Option Nat),c_.ai R=a∧b0.ai R=b∧o=some (.val (.slice ((xs.take b).drop a) nl fg))):
  eJ T E R G W V (Oq T W sz v l aF m) o:=by
 unfold Oq;have ar:=h.ok.ty v;have cl:=h9 h.ok v;split
 ·rename_i t lo hi c_ b0 eI aw;refine iN fun av=> ?_;obtain⟨ml,bu⟩:=a6 av;obtain⟨bu,bC⟩:=a6 bu;obtain⟨bC,c4⟩:=a6 bC;have bu:=zN h.ok bu;have bC:=zN h.ok bC;have c4:=zN h.ok c4;rw[cl]at c4;rw[aw]at ar;generalize aA:R v=a at ar c4;have iY:=ar;cases ar with
  |bN _ _ _ xs nl tok az ao aX bD=>
   obtain⟨bf,c2,a,b,fg,bg,bl,bS⟩:=ay c_ b0 eI t lo hi xs nl tok rfl rfl rfl aA iY ml bu bC c4;simp only[lenOf]at c4;have Y_:lenOf (.slice ((xs.take b).drop a) nl fg)=(b0.sub c_).ai R:=by
    rw[eG,bg,bl];simp only[lenOf,nk,nm];omega
   refine px (fun _=> ?_) (fun _=>Vm h (iY.cut a b) Y_ (n1 c2 bf) bS);refine akF h (iY.cut a b) Y_ (n1 c2 bf) ?_ ?_ bS
   ·have ar:Nat.blt v W.aD=true:=by
     rcases lJ v W.aD with U|U
     ·exact gp U
     ·rw[h.ok.top v U]at aw;cases aw
    simp only[cls,al.bh,bf,c2,ar];rfl
   ·simp only[aM,al.ai,aA,bg,bl];exact .cut ..
 ·exact eD
theorem Xp {sz:Nat} {xs:List ab} {nl:Bool} {tok:Option Nat} {lo hi:Option aG} {a b:Nat} (hs:sO sz xs=true) (aj:iB xs.length env hi=some b) (aA:iB 0 env lo=some a) (U:a≤b) (aa:b≤xs.length):
  ∃fg,nr sz lo hi env (.val (.slice xs nl tok))=some (.val (.slice ((xs.take b).drop a) nl fg)):=by
 simp only[nr,hs,cond_true,m3,fy,aj,aA];refine⟨bif Nat.beq a 0&&Nat.beq b xs.length then tok else none,?_⟩
 show I0 xs nl tok xs.length b a=_;unfold I0;rw[fT,fT,decide_eq_true aa,decide_eq_true U];rfl
theorem Xj {sz:Nat} {xs:List ab} {nl:Bool} {tok:Option Nat} {lo:Option aG} {hi mx:aG} {a b m:Nat} (hs:sO sz xs=true) (aj:iB xs.length env (some hi)=some b) (aA:iB 0 env lo=some a)
  (hm:iB xs.length env (some mx)=some m) (U:a≤b) (aa:b≤m) (au:m≤xs.length):E1 sz lo hi mx env (.val (.slice xs nl tok))=some (.val (.slice ((xs.take b).drop a) nl none)):=by
 have dJ:iB 0 env (some hi)=some b:=aj;have zh:iB 0 env (some mx)=some m:=hm;simp only[E1,hs,cond_true,m3,fy,dJ,aA,zh];show IZ xs nl xs.length m b a=_;unfold IZ;rw[fT,fT,fT,decide_eq_true au,decide_eq_true aa,decide_eq_true U];rfl
theorem atd {D:Nat→bb} {lo hi:Nat} {a:ab} (h:bR D G (.rv lo hi) a):(a=.slice [] true none∧lo=0)∨∃g n,a=.ref g 0 n 1∧lo≤n∧n≤hi:=by
 cases h with
 |m8 _=>exact .inl ⟨rfl,rfl⟩
 |rv _ _ g n U aa=>exact .inr ⟨g,n,rfl,U,aa⟩
theorem ao2 (h:aW T E R G W V) {v:Nat} (ar:Kl (W.df v)=true):(R v=.slice [] true none∧True)∨∃g n,R v=.ref g 0 n 1∧n≤L9 (W.df v):=by
 have aw:=h.ok.ty v;generalize W.df v=t at ar aw;cases t<;>first|(cases ar;done)|skip
 rename_i lo hi;rcases atd aw with⟨U,_⟩|⟨g,n,U,aa,au⟩
 ·exact .inl ⟨U,trivial⟩
 ·exact .inr ⟨g,n,U,au⟩
theorem akG (h:aW T E R G W V) (he:ch R W.aD se env) {sz v:Nat} {lo hi:Option aG} (ar:v<W.aD) (ah:Kl (W.df v)=true):eJ T E R G W V (Oo W se sz v lo hi) (nr sz lo hi env (.val (R v))):=by
 have cl:=h9 h.ok v;have q2:=q8 h ar;have B':=ao2 h ah;have anu:∃m:Nat,lenOf (R v)=m:=by
  rcases B' with⟨U,_⟩|⟨g,n,U,_⟩<;>rw[U]<;>exact⟨_,rfl⟩
 obtain⟨m4,u6⟩:=anu;unfold Oo;split
 ·rename_i x;split
  ·rename_i l ak;refine iN fun bz=> ?_;have bz:=zN h.ok bz;obtain⟨b,cp,b_,dh⟩:=qI h he (dn:=m4) (by rw[cl,u6]) q2 ak
   rw[b_,cl]at bz;have go:∀{a:ab},bR T.D G (.rv 0 (L9 (W.df v))) a→lenOf a=l.ai R→gQ 10 [a,R v]→nr sz none (some x) env (.val (R v))=some (.val a)→eJ T E R G W V (match cW W (.rv 0 (L9 (W.df v)))with
    |(.x u,W)=>gB (.x u) ({W with cC:=(u,l)::W.cC}.l7 10 [.x u,.x v])
    |_=>none) (nr sz none (some x) env (.val (R v))):=by
    intro a aw qX jZ ay y W' aI;simp only[cW]at aI;cases aI;have ae:=h.push aw;have aA:=pB R W.aD a;have ej:=jC (hA W.aD) (l:=l.t) dh;refine⟨hK R W.aD a,_,⟨hA _,aA⟩,⟨⟨ae.ok.ty,ae.ok.top,ae.ok.ge,ae.ok.da,fun p c0=> ?_,fun p c0=> ?_⟩,⟨ae.aT.ge,ae.aT.da,fun p c0=> ?_,ae.aT.cells,ae.aT.live,ae.aT.cA,ae.aT.wr,fun p c0=> ?_,ae.aT.op,ae.aT.lt,ae.aT.gz,ae.aT.rd⟩,ae.aE.same rfl rfl rfl rfl rfl rfl rfl rfl⟩,ay,by simp only[cZ,al.ai,gK],gp (gT _)⟩
    ·rcases cu.1 c0 with rfl|c0
     ·simp only[gK];rw[qX];exact jK aA dh
     ·exact ae.ok.cC p c0
    ·rcases cu.1 c0 with rfl|c0
     ·refine .inl ?_;simp only[aM,al.ai,gK];rw[←aA v ar];exact jZ
     ·exact ae.ok.b2 p c0
    ·rcases cu.1 c0 with rfl|c0
     ·exact⟨gT _,ej⟩
     ·exact ae.aT.cC p c0
    ·rcases cu.1 c0 with rfl|c0
     ·show(Nat.blt W.aD (W.aD+1)&&(Nat.blt v (W.aD+1)&&true))=true;rw[gp (show W.aD<W.aD+1 by omega),gp (show v<W.aD+1 by omega)];rfl
     ·exact ae.aT.b2 p c0
   rcases B' with⟨U,_⟩|⟨g,n,U,aa⟩
   ·have kr:b=0:=by rw[U]at bz;simp only[lenOf,nn]at bz;omega
    subst kr;refine go (a:=.slice [] true none) (.m8 _) (by rw[b_];rfl) (by rw[U];exact .aem) ?_
    have ad:iB 0 env (some x)=some 0:=cp;rw[U];have hs:sO sz []=true:=rfl;simp only[nr,hs,cond_true,m3,fy,nn,ad];rfl
   ·rw[U]at bz;simp only[lenOf]at bz;have JJ:b≤n:=by omega
    refine go (a:=.ref g 0 b 1) (.rv _ _ g b (fv _) (by omega)) (by rw[b_];rfl) (by rw[U];exact .pre g n b JJ) ?_
    have ad:iB n env (some x)=some b:=cp;have aV:iB 0 env none=some 0:=rfl;rw[U];simp only[nr,ad,aV];show uH g 0 n 1 sz b 0=_;unfold uH;rw[fT,fT,decide_eq_true JJ,decide_eq_true (fv _)];rfl
  ·exact eD
 ·rename_i x;split
  ·rename_i l ak;refine iN fun bz=> ?_;have bz:=zN h.ok bz;obtain⟨b,cp,b_,dh⟩:=qI h he (d:=.k (.ofNat 0)) (dn:=0) (by simp) rfl ak
   rw[b_,cl]at bz;have go:∀{a:ab},gQ 11 [a,R v,.int .i64 sz]→nr sz (some x) none env (.val (R v))=some (.val a)→eJ T E R G W V (match cW W .any with
    |(.x u,W)=>gB (.x u) (W.l7 11 [.x u,.x v,.k (.int .i64 (.ofNat sz))])
    |_=>none) (nr sz (some x) none env (.val (R v))):=by
    intro a jZ ay y W' aI;simp only[cW]at aI;cases aI;have ae:=h.push (.any a);have aA:=pB R W.aD a;refine⟨hK R W.aD a,_,⟨hA _,aA⟩,ae.l7 ?_ (.inl ?_),ay,by simp only[cZ,al.ai,gK],gp (gT _)⟩
    ·show(Nat.blt W.aD (W.aD+1)&&(Nat.blt v (W.aD+1)&&(true&&true)))=true;rw[gp (show W.aD<W.aD+1 by omega),gp (show v<W.aD+1 by omega)];rfl
    ·simp only[aM,al.ai,gK];rw[←aA v ar];exact jZ
   rcases B' with⟨U,_⟩|⟨g,n,U,aa⟩
   ·have kr:b=0:=by rw[U]at bz;simp only[lenOf,nn]at bz;omega
    subst kr;refine go (a:=.slice [] true none) (by rw[U];exact .agm sz) ?_
    have ad:iB 0 env none=some 0:=rfl;rw[U];have hs:sO sz []=true:=rfl;simp only[nr,hs,cond_true,m3,fy,nn,ad,cp];rfl
   ·rw[U]at bz;simp only[lenOf]at bz;have JJ:b≤n:=by omega
    have ad:iB n env none=some n:=rfl;have Qh:∃a,uH g 0 n 1 sz n b=some (.val a):=by
     unfold uH;rw[fT,fT,decide_eq_true JJ,decide_eq_true (b1 _)];simp only[s8,cond_true];cases Nat.beq b 0 with
     |true=>exact⟨_,rfl⟩
     |false=>
      cases Nat.beq n b with
      |true=>exact⟨_,rfl⟩
      |false=>exact⟨_,rfl⟩
    obtain⟨a,aA⟩:=Qh;refine go (a:=a) (by rw[U];exact .tail g n b sz a aA) ?_
    rw[U];simp only[nr,ad,cp];exact aA
  ·exact eD
 ·exact eD
theorem akI (h:aW T E R G W V) (he:ch R W.aD se env) {sz:Nat} {lo hi:Option aG} {s:al} (af:s.bh W.aD=true):eJ T E R G W V (Bv T W se sz lo hi none s) (nr sz lo hi env (.val (s.ai R))):=by
 unfold Bv;split
 ·rename_i v;have q2:=q8 h (e9 af);refine px (fun ah=>akG h he (e9 af) ah) (fun _=> ?_);refine Xm h fun c_ b0 eI t iv ei xs nl tok e1 aN bL o1 cY aC bg bl bS=> ?_;have cl:(gg W v).ai R=(xs.length:Nat):=by rw[h9 h.ok,o1];rfl
  obtain⟨a,b3,cI,a3⟩:=qI h he (d:=.k (.ofNat 0)) (dn:=0) (by simp) rfl e1
  obtain⟨b,cp,b_,dh⟩:=qI h he cl q2 aN;cases bL;rw[cI,b_]at bg;rw[b_,cl]at bl;have ad:∀x∈xs,bR T.D G t x:=by cases cY with|bN _ _ _ _ _ _ _ _ _ ad=>exact ad
  obtain⟨fg,aw⟩:=Xp (nl:=nl) (tok:=tok) (agc aC ad) cp b3 (by omega) (by omega)
  exact⟨a3,dh,a,b,fg,cI,b_,by simp only[al.ai,o1];exact aw⟩
 ·rename_i nl;split
  ·rename_i l m q e1 aN bL;split
   ·rename_i bZ cB z3;obtain⟨a,b3,cI,a3⟩:=qI h he (d:=.k (.ofNat 0)) (dn:=0) (by simp) rfl e1
    obtain⟨b,cp,b_,dh⟩:=qI h he (d:=.k (.ofNat 0)) (dn:=0) (by simp) rfl aN
    have bZ:=mi (R:=R) bZ;have cB:=mi (R:=R) cB;rw[cI]at bZ;rw[b_]at cB;have bZ:a=0:=uy bZ;have cB:b=0:=uy cB;subst bZ;subst cB;obtain⟨fg,aw⟩:=Xp (xs:=[]) (nl:=nl) (tok:=none) (sz:=sz) rfl cp b3 (b1 _) (b1 _);refine h' h rfl ?_;simp only[al.ai];have:nr sz lo hi env (.val (.slice [] nl none))=some (.val (.slice [] nl none)):=by
     have hs:sO sz []=true:=rfl;simp only[nr,hs,cond_true,m3,fy,b3,nn,cp];rfl
    exact this
   ·exact eD
  ·exact eD
 ·exact eD
theorem akH (h:aW T E R G W V) (he:ch R W.aD se env) {sz:Nat} {lo:Option aG} {hi mx:aG} {s:al} (af:s.bh W.aD=true):eJ T E R G W V (Bv T W se sz lo (some hi) (some mx) s) (E1 sz lo hi mx env (.val (s.ai R))):=by
 unfold Bv;split
 ·rename_i v;have q2:=q8 h (e9 af);refine px (fun ah=>eD) (fun _=> ?_);refine Xm h fun c_ b0 eI t iv ei xs nl tok e1 aN bL o1 cY aC bg bl bS=> ?_;have cl:(gg W v).ai R=(xs.length:Nat):=by rw[h9 h.ok,o1];rfl
  obtain⟨a,b3,cI,a3⟩:=qI h he (d:=.k (.ofNat 0)) (dn:=0) (by simp) rfl e1
  obtain⟨b,cp,b_,dh⟩:=qI h he cl q2 aN;obtain⟨m,bd,bx,bT⟩:=qI h he cl q2 bL;rw[cI,b_]at bg;rw[b_,bx]at bl;rw[bx]at bS;have ad:∀x∈xs,bR T.D G t x:=by cases cY with|bN _ _ _ _ _ _ _ _ _ ad=>exact ad
  have aw:=Xj (nl:=nl) (tok:=tok) (agc aC ad) cp b3 bd (by omega) (by omega) (by omega)
  exact⟨a3,dh,a,b,none,cI,b_,by simp only[al.ai,o1];exact aw⟩
 ·rename_i nl;split
  ·rename_i l m q e1 aN bL;split
   ·rename_i bZ cB z3;obtain⟨a,b3,cI,a3⟩:=qI h he (d:=.k (.ofNat 0)) (dn:=0) (by simp) rfl e1
    obtain⟨b,cp,b_,dh⟩:=qI h he (d:=.k (.ofNat 0)) (dn:=0) (by simp) rfl aN
    obtain⟨c,bf,c2,fU⟩:=qI h he (d:=.k (.ofNat 0)) (dn:=0) (by simp) rfl bL
    have bZ:=mi (R:=R) bZ;have cB:=mi (R:=R) cB;have z3:=mi (R:=R) z3;rw[cI]at bZ;rw[b_]at cB;rw[c2]at z3;have bZ:a=0:=uy bZ;have cB:b=0:=uy cB;have z3:c=0:=uy z3;subst bZ;subst cB;subst z3;refine h' h rfl ?_;simp only[al.ai];exact Xj (xs:=[]) (nl:=nl) (tok:=none) (sz:=sz) rfl cp b3 bf (b1 _) (b1 _) (b1 _)
   ·exact eD
  ·exact eD
 ·exact eD
theorem WG:∀{xs:List ab} {hi:Nat},hi≤255→(∀x∈xs,bR T.D G (.int .u8 (.ofNat 0) (.ofNat hi)) x)→∃l,bytesOf xs=some l∧l.length=xs.length
 | [],hi,_,_=>⟨[],rfl,rfl⟩
 |x::xs,hi,aF,ad=>by
  obtain⟨l,U,aa⟩:=WG aF fun y aI=>ad y (cv _ aI);have Rl:=ad x (cz ..);cases Rl with
  |int _ _ _ n az ao=>
   obtain⟨m,rfl⟩:∃m:Nat,n=(m:Int):=⟨n.toNat,by have:(0:Int)≤n:=az;omega⟩
   have ao:(m:Int)≤(hi:Int):=ao;have:byteOf (.int .u8 (m:Int))=some (UInt8.ofNat m):=by
    show(bif Nat.blt m 256 then some (UInt8.ofNat m)else none)=_
    rw[kK,decide_eq_true (by omega)];rfl
   refine⟨UInt8.ofNat m::l,?_,by simp[aa]⟩
   show NP (bytesOf xs) (byteOf _)=_;rw[this,U];rfl
theorem bR.u8 {D:Nat→bb} {lo hi:Nat} {x:ab} (h:bR D G (.int .u8 (.ofNat lo) (.ofNat hi)) x):bR D G (.int .u8 (.ofNat 0) (.ofNat hi)) x:=by
 cases h with
 |int _ _ _ n az ao=>exact .int _ _ _ n (np (nW _) az) ao
theorem ajQ (h:aW T E R G W V) {s:al} (af:s.bh W.aD=true):eJ T E R G W V (NM W s) (NL (.val (s.ai R))):=by
 unfold NM;split
 ·rename_i v;have ar:=h.ok.ty v;have cl:=h9 h.ok v;split
  ·rename_i lo hi hS n aw;refine iN fun aj=> ?_;have aj:=jf aj;rw[aw]at ar;simp only[al.ai];generalize R v=a at ar cl;cases ar with
   |bN _ _ _ xs nl tok az ao aX bD=>
    obtain⟨l,ep,dV⟩:=WG (T:=T) (G:=G) aj fun x ad=>(bD x ad).u8;refine Vm h (a:=.str l) (.str l _ (by omega)) ?_ (q8 h (e9 af)) ?_
    ·rw[cl];simp only[lenOf,dV]
    ·show UD (bytesOf xs)=_;rw[ep];rfl
  ·exact eD
 ·exact h' h rfl rfl
 ·exact eD
theorem arC (l:List UInt8):∀x∈vy l,bR T.D G agQ x:=by
 induction l with
 |nil=>intro x ad;cases ad
 |cons c l bm=>
  intro x ad;rcases cu.1 ad with rfl|ad
  ·exact .int _ _ _ _ (nW _) (by have:=c.toNat_lt;show((c.toNat:Nat):Int)≤255;omega)
  ·exact bm x ad
theorem ac4 (l:List UInt8):(vy l).length=l.length:=by
 induction l with
 |nil=>rfl
 |cons c l bm=>simp only[vy,mb,bm]
theorem auz (h:aW T E R G W V) {s:al} (af:s.bh W.aD=true):eJ T E R G W V (UF W s) (UE (.val (s.ai R))):=by
 unfold UF;split
 ·rename_i l ak;obtain⟨⟨xs,e1,aN⟩,bf⟩:=HH h ak;refine iN fun av=> ?_;have av:=dE h.ok av;simp only[fe,hV,aN,hU]at av;rw[e1];refine Vm h (a:=.slice (vy xs) false none) (.bN _ _ _ _ _ _ (fv _) (by rw[ac4];omega) (fun aK=>by cases aK) (arC xs)) (by rw[aN];simp only[lenOf,ac4]) (bf af) ?_
  show(bif Nat.ble (vl xs 0) maxLen then some (aJ.val (.slice (vy xs) false none))else none)=_
  rw[Gl,fy,fT,decide_eq_true (by omega)];rfl
 ·exact eD
theorem aqX (k k':IntKind) (a b:Int):K1 (.val (.int k a)) (.val (.int k' b))=some (.val (.int k (if b<a then b else a))):=by
 show some (aJ.val (ab.int k (bif my b a then b else a)))=_
 rw[tK];by_cases h:b<a<;>simp[h]
theorem aqP (k k':IntKind) (a b:Int):xz (.val (.int k a)) (.val (.int k' b))=some (.val (.int k (if a<b then b else a))):=by
 show some (aJ.val (ab.int k (bif my a b then b else a)))=_
 rw[tK];by_cases h:a<b<;>simp[h]
theorem K5 (h:aW T E R G W V) {mx:Bool} {a b:al} (aA:a.bh W.aD=true) (aj:b.bh W.aD=true):eJ T E R G W V (zU W mx a b) (bif mx then xz (.val (a.ai R)) (.val (b.ai R))else K1 (.val (a.ai R)) (.val (b.ai R))):=by
 unfold zU;split
 ·rename_i k x k' y ad aI;obtain⟨e1,bf⟩:=gP (R:=R) ad;obtain⟨aN,c2⟩:=gP (R:=R) aI;rw[e1,aN,aqP,aqX];refine iN fun _=> ?_;refine px (fun bz=> ?_) (fun _=> ?_)
  ·have bz:=zN h.ok bz;refine h' h (by cases mx with|false=>exact bf _ aA|true=>exact c2 _ aj) ?_
   cases mx with
   |true=>
    simp only[cond_true,al.ai];by_cases bw:x.ai R<y.ai R
    ·rw[if_pos bw]
    ·rw[if_neg bw,show x.ai R=y.ai R by omega]
   |false=>
    simp only[cond_false,al.ai];rw[if_neg (by omega)]
  ·refine px (fun bz=> ?_) (fun _=> ?_)
   ·have bz:=zN h.ok bz;refine h' h (by cases mx with|false=>exact c2 _ aj|true=>exact bf _ aA) ?_
    cases mx with
    |true=>
     simp only[cond_true,al.ai];rw[if_neg (by omega)]
    |false=>
     simp only[cond_false,al.ai];by_cases bw:y.ai R<x.ai R
     ·rw[if_pos bw]
     ·rw[if_neg bw,show x.ai R=y.ai R by omega]
   ·generalize ar:(bif mx then(if x.ai R<y.ai R then y.ai R else x.ai R)else(if y.ai R<x.ai R then y.ai R else x.ai R))=v
    have ay:(bif mx then some (aJ.val (ab.int k (if x.ai R<y.ai R then y.ai R else x.ai R)))else some (aJ.val (ab.int k (if y.ai R<x.ai R then y.ai R else x.ai R))))=some (aJ.val (ab.int k v)):=by
     cases mx<;>simp only[cond_true,cond_false]at ar⊢ <;>rw[ar]
    rw[ay];intro z W' a';have cY:bR T.D G (bif ph W k x&&ph W k y then .int k (bif geq W x&&geq W y then .ofNat 0 else i_ k) (hZ k)else .gn k) (.int k v):=by
     have sm:v=x.ai R∨v=y.ai R:=by
      cases mx<;>simp only[cond_true,cond_false]at ar<;>split at ar<;>omega
     cases aq:ph W k x&&ph W k y with
     |false=>exact .gn _ _
     |true=>
      obtain⟨bg,bl⟩:=a6 aq;obtain⟨bS,cP⟩:=Cm h bg;obtain⟨eC,iM⟩:=Cm h bl;refine .int _ _ _ _ ?_ (by rcases sm with aF|aF<;>rw[aF]<;>assumption)
      cases av:geq W x&&geq W y with
      |false=>rcases sm with aF|aF<;>rw[aF]<;>assumption
      |true=>
       obtain⟨Du,xU⟩:=a6 av;have Du:=dE h.ok Du;have xU:=dE h.ok xU;rcases sm with aF|aF<;>rw[aF]<;>assumption
    cases ax:cW W (bif ph W k x&&ph W k y then .int k (bif geq W x&&geq W y then .ofNat 0 else i_ k) (hZ k)else .gn k)with
    |mk s W1=>
     rw[ax]at a';obtain⟨aL,az,ao,aX,bD⟩:=mQ _ h cY ax;have ag7:=jK az.dq (bf _ aA);have ag9:=jK az.dq (c2 _ aj);have ag6:=jC az.n (l:=x.t) (bf _ aA);have ag8:=jC az.n (l:=y.t) (c2 _ aj);split at a'
     ·rename_i jo l cD hm;cases hm;have lv:l.ai aL=v:=by
       simp only[al.ai]at aX;injection aX
      have lc:l.bh W1.aD=true:=bD;cases mx with
      |true=>
       simp only[cond_true]at a' ar;cases a';refine⟨aL,_,⟨az.n,az.dq⟩,⟨(ao.ok.g2 ?_).g2 ?_,⟨fun q aB=> ?_,ao.aT.da,ao.aT.cC,ao.aT.cells,ao.aT.live,ao.aT.cA,ao.aT.wr,ao.aT.b2,ao.aT.op,ao.aT.lt,ao.aT.gz,ao.aT.rd⟩,
        ⟨ao.aE.wf,ao.aE.cells,ao.aE.live,ao.aE.gw,ao.aE.wr,ao.aE.M,ao.aE.out,ao.aE.n,ao.aE.g,ao.aE.f',ao.aE.cls,ao.aE.tok,ao.aE.fQ,ao.aE.hi,ao.aE.lt,ao.aE.rd⟩⟩,rfl,by simp only[cZ,al.ai,lv],bD⟩
       ·rw[eG,lv,←ag7];split at ar<;>omega
       ·rw[eG,lv,←ag9];split at ar<;>omega
       ·rcases cu.1 aB with rfl|aB
        ·exact n1 lc ag8
        ·rcases cu.1 aB with rfl|aB
         ·exact n1 lc ag6
         ·exact ao.aT.ge q aB
      |false=>
       simp only[cond_false]at a' ar;cases a';refine⟨aL,_,⟨az.n,az.dq⟩,⟨(ao.ok.g2 ?_).g2 ?_,⟨fun q aB=> ?_,ao.aT.da,ao.aT.cC,ao.aT.cells,ao.aT.live,ao.aT.cA,ao.aT.wr,ao.aT.b2,ao.aT.op,ao.aT.lt,ao.aT.gz,ao.aT.rd⟩,
        ⟨ao.aE.wf,ao.aE.cells,ao.aE.live,ao.aE.gw,ao.aE.wr,ao.aE.M,ao.aE.out,ao.aE.n,ao.aE.g,ao.aE.f',ao.aE.cls,ao.aE.tok,ao.aE.fQ,ao.aE.hi,ao.aE.lt,ao.aE.rd⟩⟩,rfl,by simp only[cZ,al.ai,lv],bD⟩
       ·rw[eG,lv,←ag7];split at ar<;>omega
       ·rw[eG,lv,←ag9];split at ar<;>omega
       ·rcases cu.1 aB with rfl|aB
        ·exact n1 ag8 lc
        ·rcases cu.1 aB with rfl|aB
         ·exact n1 ag6 lc
         ·exact ao.aT.ge q aB
     ·cases a'
 ·exact eD
theorem aqO {x y z w u:aJ} (h:xz x y=some w) (k:xz w z=some u):KQ x y z=some u:=by
 unfold xz at h;split at h
 ·cases h;unfold xz at k;split at k
  ·rename_i az b3 cp ao b_ aF;simp only[aJ.val.injEq,ab.int.injEq]at aF;obtain⟨rfl,rfl⟩:=aF;cases k;rfl
  ·cases k
 ·cases h
theorem Ob (m:Nat) (z:ab) (n:Nat):cls m (List.replicate n (al.k z))=true:=by
 induction n with
 |zero=>rfl
 |succ n bm=>rw[List.replicate_succ];simp only[cls,al.bh,bm];rfl
def D7 (o:a2) (env:aP) (V:aO) (m:Option aJ):Prop:=
 (∀call d k,GO o call d k env V=Option.rec .bad (fun e=>k (dc d e env) V) m)∧∀call B d k,GL o call B d k env V=Option.rec .bad (fun e=>k (dc d e env) V) m
theorem xP (o:a2) (m:aP→Option aJ) (U:∀call,GO o call=dN m) (aa:∀call B,GL o call B=dN m) (env:aP) (V:aO):D7 o env V (m env):=
 ⟨fun call d k=>by rw[U];rfl,fun call B d k=>by rw[aa];rfl⟩
theorem ary {st:Bool} {op:BinOp} {q:cG} {lt:Bool} {a b:al} {r:d'} (aA:a.bh W.aD=true) (aj:b.bh W.aD=true) (h:eJ T E R G W V r (k6 op q lt (.val (a.ai R)) (.val (b.ai R)))):
  eJ T E R G W V (S1 T st op a b r) (k6 op q lt (.val (a.ai R)) (.val (b.ai R))):=by
 unfold S1;split
 ·rename_i s W1;obtain⟨aL,e,az,ao,aX,bD,c8⟩:=h _ _ rfl;simp only[cZ]at bD;subst bD;have o1:a.ai aL=a.ai R:=(qo az.dq a aA).symm;have wT:b.ai aL=b.ai R:=(qo az.dq b aj).symm;have af:cls W1.aD [s,a,b]=true:=by simp only[cls,k1 az.n a aA,k1 az.n b aj];simpa[fx.bh]using c8
  have go:∀{k:Nat} {t:Bool},eu T k (aM aL [s,a,b])→eJ T E R G W V (some (.val s,mz T t k [s,a,b] W1)) (k6 op q lt (.val (a.ai R)) (.val (b.ai R))):=by
   intro k t ae x W' aI;cases t with
   |false=>cases aI;exact⟨aL,_,az,ao,aX,rfl,c8⟩
   |true=>
    cases aI;obtain⟨bg,bl⟩:=ao.note af ae;exact⟨aL,_,az.trans (dk.same bl),bg,aX,rfl,by show fx.bh (note T k [s,a,b] W1).aD _=true;rw[bl];exact c8⟩
  split
  ·exact go (.inl (by simp only[aM,o1,wT];exact .shr q lt _ _ _ aX))
  ·exact go (.inl (by simp only[aM,o1,wT];exact .and q lt _ _ _ aX))
  ·exact go (.inl (by simp only[aM,o1,wT];exact .eql q lt _ _ _ aX))
  ·exact go (.inl (by simp only[aM,o1,wT];exact .neq q lt _ _ _ aX))
  ·exact go (.inl (by simp only[aM,o1,wT];exact .lss q lt _ _ _ aX))
  ·exact go (.inl (by simp only[aM,o1,wT];exact .leq q lt _ _ _ aX))
  ·exact go (.inl (by simp only[aM,o1,wT];exact .gtr q lt _ _ _ aX))
  ·exact go (.inl (by simp only[aM,o1,wT];exact .geq q lt _ _ _ aX))
  ·exact h
 ·exact h
theorem ast (h:aW T E R G W V) (he:ch R W.aD se env) (o:a2):lD T se W o=none∨∃m,D7 o env V m∧eJ T E R G W V (lD T se W o) m:=by
 have lA:∀{x:aG} {k:al→d'} {m:aP→Option aJ} (_:∀s,s.bh W.aD=true→bV x env=.val (s.ai R)→eJ T E R G W V (k s) (m env)) (_:∀call,GO o call=dN m) (_:∀call B,GL o call B=dN m) (_:lD T se W o=nN (dZ se x) k),
   lD T se W o=none∨∃m,D7 o env V m∧eJ T E R G W V (lD T se W o) m:=by
  intro x k m aq U aa ae;refine .inr ⟨m env,xP o m U aa env V,?_⟩;rw[ae];exact aeC fun s hs=>let⟨e1,bf⟩:=fM he hs;aq s bf e1
 have HL:∀{x y:aG} {k:al→al→d'} {m:aP→Option aJ} (_:∀s t,s.bh W.aD=true→t.bh W.aD=true→bV x env=.val (s.ai R)→bV y env=.val (t.ai R)→eJ T E R G W V (k s t) (m env)) (_:∀call,GO o call=dN m) (_:∀call B,GL o call B=dN m) (_:lD T se W o=xS (dZ se x) (dZ se y) k),
   lD T se W o=none∨∃m,D7 o env V m∧eJ T E R G W V (lD T se W o) m:=by
  intro x y k m aq U aa ae;refine .inr ⟨m env,xP o m U aa env V,?_⟩;rw[ae];exact aeD fun s t hs aw=>let⟨e1,bf⟩:=fM he hs;let⟨aN,c2⟩:=fM he aw;aq s t bf c2 e1 aN
 cases o with
 |mv x=>
  refine .inr ⟨G0 x env,xP _ (G0 x) (fun _=>rfl) (fun _ _=>rfl) env V,?_⟩;obtain⟨U,aa⟩:=mg he x;exact xV h U aa rfl
 |nilCheck x=>
  refine .inr ⟨Di x env,xP _ (Di x) (fun _=>rfl) (fun _ _=>rfl) env V,?_⟩;obtain⟨U,aa⟩:=mg he x;exact are h U aa
 |foff off x=>
  refine .inr ⟨GZ off x env,xP _ (GZ off x) (fun _=>rfl) (fun _ _=>rfl) env V,?_⟩;obtain⟨U,aa⟩:=mg he x;exact Yf h U aa
 |bin op q x y=>
  refine HL (m:=GY op q x y) (fun s t bf c2 e1 aN=> ?_) (fun _=>rfl) (fun _ _=>rfl) rfl;simp only[GY,e1,aN];exact ary bf c2 (asF h bf c2)
 |not x=>
  refine lA (m:=Dj x) (fun s bf e1=> ?_) (fun _=>rfl) (fun _ _=>rfl) rfl;simp only[Dj,e1];split
  ·rename_i f ax;obtain⟨aN,c2⟩:=DV (R:=R) ax;rw[aN,acX];refine h' h (wK (c2 _ bf)) ?_;simp only[al.ai,q_];rfl
  ·exact eD
 |rR k x=>
  refine lA (m:=C5 k x) (fun s bf e1=> ?_) (fun _=>rfl) (fun _ _=>rfl) rfl;simp only[C5,e1];exact akC h bf
 |same x=>
  refine lA (m:=Dk x) (fun s bf e1=> ?_) (fun _=>rfl) (fun _ _=>rfl) rfl;simp only[Dk,e1];refine iN fun hs=> ?_;obtain⟨l,ak⟩:=Km h hs;exact h' h bf (by rw[ak];rfl)
 |iface t x=>
  refine lA (m:=C' t x) (fun s bf e1=> ?_) (fun _=>rfl) (fun _ _=>rfl) rfl;simp only[C',e1];exact h' h (by simpa only[al.bh]using bf) rfl
 |field off n agg x=>
  refine lA (m:=C9 off n agg x) (fun s bf e1=> ?_) (fun _=>rfl) (fun _ _=>rfl) rfl;simp only[C9,e1];exact alp h bf
 |iaddr sz x i=>
  refine HL (m:=C_ sz x i) (fun s t bf c2 e1 aN=> ?_) (fun _=>rfl) (fun _ _=>rfl) rfl;simp only[C_,e1,aN];exact ZQ h bf c2
 |istr x i=>
  refine HL (m:=Da x i) (fun s t bf c2 e1 aN=> ?_) (fun _=>rfl) (fun _ _=>rfl) rfl;simp only[Da,e1,aN];exact ao5 h bf c2
 |extract x i=>
  refine lA (m:=C8 x i) (fun s bf e1=> ?_) (fun _=>rfl) (fun _ _=>rfl) rfl;simp only[C8,e1];exact alj h bf
 |len x=>
  refine lA (m:=Db x) (fun s bf e1=> ?_) (fun _=>rfl) (fun _ _=>rfl) rfl;simp only[Db,e1];exact aqo h bf
 |tI x=>
  refine lA (m:=Dc x) (fun s bf e1=> ?_) (fun _=>rfl) (fun _ _=>rfl) rfl;simp only[Dc,e1];exact atx h bf
 |neg x=>
  refine lA (m:=Dh x) (fun s bf e1=> ?_) (fun _=>rfl) (fun _ _=>rfl) rfl;simp only[Dh,e1];split
  ·rename_i k l ak;obtain⟨aN,c2⟩:=gP (R:=R) ak;rw[aN];refine Af h (ER (c2 _ bf)) ?_;show some (aJ.val (ab.int k (uf k (0-l.ai R))))=_;rw[DY,hV,Int.zero_sub]
  ·exact eD
 |min x y=>
  refine HL (m:=Df x y) (fun s t bf c2 e1 aN=> ?_) (fun _=>rfl) (fun _ _=>rfl) rfl;simp only[Df,e1,aN];exact K5 (mx:=false) h bf c2
 |max x y=>
  refine HL (m:=Dd x y) (fun s t bf c2 e1 aN=> ?_) (fun _=>rfl) (fun _ _=>rfl) rfl;simp only[Dd,e1,aN];exact K5 (mx:=true) h bf c2
 |tM x y z=>
  refine .inr ⟨De x y z env,xP _ (De x y z) (fun _=>rfl) (fun _ _=>rfl) env V,?_⟩;refine aeC fun c af=>aeD fun a b aA aj=> ?_;obtain⟨bL,fU⟩:=fM he af;obtain⟨e1,bf⟩:=fM he aA;obtain⟨aN,c2⟩:=fM he aj;have U:=K5 (mx:=true) h bf c2;cases hm:zU W true a b with
  |none=>exact eD
  |some p=>
   obtain⟨hd,W1⟩:=p;obtain⟨dM,hc,az,ao,aX,bD,c8⟩:=U _ _ hm;cases hd with
   |val s=>
    obtain⟨bZ,cB⟩:=az.ai fU;have aa:=K5 (mx:=true) ao (a:=s) (b:=c) c8 cB;intro q W' aI;obtain⟨dQ,fJ,bd,bx,bT,dp,g9⟩:=aa _ _ aI;refine⟨dQ,fJ,az.trans bd,bx,?_,dp,g9⟩;simp only[cZ]at bD;subst bD;simp only[cond_true]at aX bT;rw[bZ]at bT;show KQ (bV x env) (bV y env) (bV z env)=_;rw[e1,aN,bL];exact aqO aX bT
   |_=>exact eD
 |bytesStr x=>
  refine lA (m:=C4 x) (fun s bf e1=> ?_) (fun _=>rfl) (fun _ _=>rfl) rfl;simp only[C4,e1];exact ajQ h bf
 |strBytes e x=>
  refine lA (m:=Dl x) (fun s bf e1=> ?_) (fun _=>rfl) (fun _ _=>rfl) rfl;simp only[Dl,e1];exact auz h bf
 |cut sz x lo hi=>
  refine lA (m:=C6 sz x lo hi) (fun s bf e1=> ?_) (fun _=>rfl) (fun _ _=>rfl) rfl;simp only[C6,e1];exact akI h he bf
 |cut3 sz x lo hi mx=>
  refine lA (m:=C7 sz x lo hi mx) (fun s bf e1=> ?_) (fun _=>rfl) (fun _ _=>rfl) rfl;simp only[C7,e1];exact akH h he bf
 |build z br=>
  refine .inr ⟨Bc z br env,xP _ (Bc z br) (fun _=>rfl) (fun _ _=>rfl) env V,?_⟩;simp only[lD];split
  ·rename_i l ak;obtain⟨f1,f2⟩:=X3 h he ak (yK _ _);rw[uP]at f1;refine h' h f2 ?_;show mG (Eg (uS z br env))=_;rw[f1];rfl
  ·exact eD
 |tN fn a c=>
  cases fn with
  |func f=>
   refine .inr ⟨Dg (.func f) a c env,xP _ (Dg (.func f) a c) (fun _=>rfl) (fun _ _=>rfl) env V,?_⟩;simp only[lD];split
   ·rename_i x y ad aI;obtain⟨hd,kD⟩:=uO he ad;obtain⟨cQ,eR⟩:=uO he aI;refine h' h (by simp only[al.bh,kD,eR];rfl) ?_
    show Sy (.func f) (kM c env) (kM a env)=_;rw[hd,cQ];rfl
   ·exact eD
  |_=>exact .inl rfl
 |bslice own sz e n z br=>
  cases own with
  |true=>exact .inl rfl
  |false=>
   have h8:aM R (List.replicate n (al.k z))=List.replicate n z:=by rw[hO,Oy];rfl
   have ej:=Ob W.aD z n;refine .inr ⟨Ut (k0 sz (List.replicate n z) br env),⟨fun call d k=> ?_,fun call B d k=>rfl⟩,?_⟩
   ·show adg d k env V (k0 sz (List.replicate n z) br env)=_;cases k0 sz (List.replicate n z) br env<;>rfl
   ·simp only[lD];split
    ·rename_i l ak;obtain⟨f1,f2⟩:=Me h he ak ej;rw[h8]at f1;refine h' h f2 ?_;rw[f1];rfl
    ·exact eD
 |_=>exact .inl rfl
end Go.bO.cK
end
section
namespace Go.bO.cK
variable {dm:Bool} {T:bG} [e8 T] {E:dS} {R aL:cj} {G:Nat→cR} {W:aH} {V:aO} {se:bE} {env:aP}
theorem A6 {β:Type} {f:List ab→Option β}:∀{o:Nat} {cs:List ab},o≤cs.length→nU f o cs=f (cs.drop o)
 |0,cs,_=>rfl
 |o+1,[],h=>by simp at h
 |o+1,c::cs,h=>A6 (o:=o) (cs:=cs) (by simpa using h)
theorem yY {v o:Nat}:∀{l:List (Nat × Nat × al)} {s:al},pU v o l=some s→(v,o,s)∈l
 | [],s,h=>by cases h
 |(w,p,t)::r,s,h=>by
  unfold pU at h;cases aj:Nat.beq v w&&Nat.beq o p with
  |true=>
   rw[aj]at h;obtain⟨U,aa⟩:=a6 aj;have U:=b5 U;have aa:=b5 aa;subst U;subst aa;cases h;exact cz ..
  |false=>rw[aj]at h;exact cv _ (yY h)
theorem BB {β:Type} {o:Nat}:∀{l r:List β},pS o l=some r→∀(j:Nat),r[j]? =l[o+j]? :=by
 induction o with
 |zero=>intro l r h j;cases h;simp
 |succ o bm=>
  intro l r h j;cases l with
  |nil=>cases h
  |cons a l=>rw[bm (l:=l) h j,show o+1+j=(o+j)+1 by omega,nV]
theorem tf (h:aW T E R G W V) {v c:Nat} (af:nq W v=some c):∃i,R v=.ptr i 0∧G i=.cls c:=by
 unfold nq at af;split at af
 ·rename_i bF n aw;obtain⟨U,aa⟩:=eF af;cases aa;exact G6 h aw U
 ·cases af
theorem IL (h:aW T E R G W V) {i c:Nat} (av:G i=.cls c) {j:Nat} {t:bb} (aw:(hE (T.K c))[j]? =some t):∃ts cs,T.K c=.obj ts∧V.at i=.obj cs∧ts.length=cs.length∧
  ∀(j:Nat) (t:bb) (a:ab),ts[j]? =some t→cs[j]? =some a→Vx T G V (l4 R W.cA) i j t a:=by
 cases aq:T.K c with
 |none=>rw[aq]at aw;simp[hE]at aw
 |map a7 t cH=>rw[aq]at aw;simp[hE]at aw
 |row sz k n=>rw[aq]at aw;simp[hE]at aw
 |obj ts=>
  have h:=(h.aE.obj av (by rw[aq];intro _ _ _ aF;cases aF)).2
  rw[aq]at h;obtain⟨cs,U,aa,au⟩:=h;exact⟨ts,cs,rfl,U,aa,au⟩
theorem xB (h:aW T E R G W V) {v c i:Nat} (ah:ku T c=false) (hm:vv W v c=true) (hi:lx (R v)=some i) (av:G i=.cls c):E.V.n≤i∨E.eT i:=by
 simp only[vv,g1,hF,h4]at hm;rcases hm with⟨w,hw,he⟩|⟨bF,af,he⟩
 ·have:=b5 he;subst this;exact h.aE.wr v hw i hi
 ·have:=b5 he;subst this;rcases lJ i E.V.n with bw|d_
  ·exact .inr (h.aE.M c af ah i ((h.aE.cls i bw c).1 av ah))
  ·exact .inl d_
theorem S7 {c:Nat} {ts:List bb} (h:T.K c=.obj ts):ku T c=false:=by unfold ku;rw[h]
theorem Sr {c:Nat} {a7:cL} {t cH:bb} (h:T.K c=.map a7 t cH):ku T c=false:=by unfold ku;rw[h]
theorem wq {β:Type} {f:List ab→Option β}:∀{o:Nat} {cs:List ab} {r:β},nU f o cs=some r→o≤cs.length
 |0,cs,r,_=>fv _
 |o+1,[],r,h=>by cases h
 |o+1,c::cs,r,h=>by
  have:=wq (o:=o) (cs:=cs) (f:=f) (r:=r) h;simp;omega
theorem AI:∀{n:Nat} {cs r:List ab},iw n cs=some r→n≤cs.length∧r=cs.take n
 |n,cs,r,h=>by
  by_cases aK:n≤cs.length
  ·rw[AH aK]at h;cases h;exact⟨aK,rfl⟩
  ·exfalso;have key:∀(n:Nat) (cs:List ab),cs.length<n→iw n cs=none:=by
    intro n
    induction n with
    |zero=>intro cs h;omega
    |succ n bm=>
     intro cs h;cases cs with
     |nil=>rfl
     |cons c cs=>
      show wN c (iw n cs)=none;rw[bm cs (by simp at h;omega)];rfl
   rw[key n cs (by omega)]at h
   cases h
theorem aeb {agg:Bool} {m o oV:Nat} {cs ys:List ab} {a:ab} (ak:oV+ys.length≤cs.length) (af:∀j,j<ys.length→cs[oV+j]? =ys[j]?) (h:partAt agg m o ys=some a):partAt agg m (oV+o) cs=some a:=by
 have ay:=wq (show nU (sF agg m) o ys=some a from h)
 have aQ:(cs.drop (oV+o)).take (ys.length-o)=ys.drop o:=by
  apply Bw;intro j;by_cases aU:j<ys.length-o
  ·rw[wH aU,k4,k4,ux];exact af (o+j) (by omega)
  ·rw[kI (by simp;omega),kI (by simp;omega)]
 have U:sF agg m (ys.drop o)=some a:=by
  have:=h;unfold partAt at this
  rwa [A6 ay]at this
 unfold partAt;rw[A6 (by omega)]
 generalize ad:cs.drop (oV+o)=x at aQ;have sn:ys.length-o≤x.length:=by rw[←ad,nk];omega
 unfold sF at U⊢;cases agg with
 |true=>
  simp only[cond_true]at U⊢;cases aw:iw m (ys.drop o)with
  |none=>rw[aw]at U;cases U
  |some r=>
   obtain⟨t1,t2⟩:=AI aw;rw[nk]at t1;rw[aw]at U;rw[AH (by omega)]
   rw[←U,t2,←aQ,List.take_take,IH t1]
 |false=>
  simp only[cond_false]at U⊢;obtain⟨aa,au⟩:=eF U;rw[aa,cond_true];cases aI:ys.drop o with
  |nil=>rw[aI]at au;cases au
  |cons y r=>
   rw[aI]at au aQ;cases x with
   |nil=>simp at aQ
   |cons z x=>
    have cl:(ys.drop o).length=r.length+1:=by rw[aI];rfl
    rw[nk]at cl;rw[cl,ED]at aQ;injection aQ with ba _;subst ba;exact au
theorem aqt {l:List (Nat × Nat × Nat)} (h:l.Pairwise fun p q=>∀g,dv (R p.1)=some g→dv (R q.1)≠some g) {p q:Nat × Nat × Nat} (ae:p∈l) (aB:q∈l) {g:Nat} (U:dv (R p.1)=some g) (aa:dv (R q.1)=some g):p=q:=by
 induction l with
 |nil=>cases ae
 |cons x r bm=>
  obtain⟨az,ao⟩:=kk.1 h;rcases cu.1 ae with e1|c0
  ·rcases cu.1 aB with aN|FW
   ·rw[e1,aN]
   ·rw[e1]at U;exact absurd aa (az q FW g U)
  ·rcases cu.1 aB with aN|FW
   ·rw[aN]at aa;exact absurd U (az p c0 g aa)
   ·exact bm ao c0 FW
def sW (D:Nat→bb) (G:Nat→cR) (t:bb) (sz:Nat) (cs:List ab):Prop:=∀(j:Nat) (cn:bb) (a:ab),(iT t)[j%sz]? =some cn→cs[j]? =some a→bR D G cn a
def Ec (B:Int→Prop) (sz:Nat) (cs:List ab):Prop:=∀(j:Nat) (a:ab),j%sz=0→cs[j]? =some a→B (intOf a)
theorem aW.ae6 (h:aW T E R G W V) {g sz:Nat} {cs cU:List ab} (bM:V.at g=.row sz cs) (av:G g=.no∨∃i j,G g=.tok i j) (hw:E.V.n≤g∨E.eT g)
  (BU:∀p∈W.live,dv (R p.1)=some g→mK T E G (V.put g (.row sz cU)) (mI R p.2.2) p.2.1 p.2.2 (R p.1))
  (bY:∀i j c ts t s e lo hi a,G g=.tok i j→dv a=some g→G i=.cls c→T.K c=.obj ts→ts[j]? =some (.own t s e lo hi)→ki T G V s e i j a→ki T G (V.put g (.row sz cU)) s e i j a):
  aW T E R G {W with rd:=none} (V.put g (.row sz cU)):=by
 have ga:∀x,x≠g→(V.put g (.row sz cU)).at x=V.at x:=fun x ad=>by rw[fS,if_neg (fun e=>ad e.symm)]
 have ej:∀x c,G x=.cls c→x≠g:=fun x c ad e=>by subst e;rcases av with av|⟨i,j,av⟩<;>rw[av]at ad<;>cases ad
 have p3:∀x o,V.at x=.obj o→x≠g:=fun x o ad e=>by subst e;rw[bM]at ad;cases ad
 have di:∀x,m0 (V.at x)→x≠g:=fun x ad e=>by
  subst e;rw[bM]at ad;rcases ad with ad|⟨_,_,_,_,_,ad⟩|ad<;>cases ad
 refine⟨⟨h.ok.ty,h.ok.top,h.ok.ge,h.ok.da,h.ok.cC,h.ok.b2⟩,⟨h.aT.ge,h.aT.da,h.aT.cC,h.aT.cells,h.aT.live,h.aT.cA,h.aT.wr,h.aT.b2,h.aT.op,h.aT.lt,h.aT.gz,fun p ae=>by cases ae⟩,
  ⟨fun x c ad=> ?_,fun p ae=> ?_,fun p ae=> ?_,h.aE.gw,h.aE.wr,h.aE.M,h.aE.out,h.aE.n,h.aE.g,fun x ad eQ=> ?_,h.aE.cls,h.aE.tok,h.aE.fQ,⟨h.aE.hi.own,fun x c e2 ad aq gb=> ?_⟩,fun p ae=> ?_,fun p ae=>by cases ae⟩⟩
 ·obtain⟨az,ao⟩:=h.aE.wf x c ad;refine⟨az,fun eP=> ?_⟩;have ao:=ao eP;have mX:=ga x (ej x c ad);cases dU:T.K c with
  |none=>rw[dU]at ao;exact ao.elim
  |row z k n=>rw[dU]at ao;obtain⟨e2,bd,bx⟩:=ao;exact⟨e2,by rw[mX];exact bd,bx⟩
  |map a7 t cH=>rw[dU]at ao;obtain⟨ko,es,bd,bx⟩:=ao;exact⟨ko,es,by rw[mX];exact bd,bx⟩
  |obj ts=>
   rw[dU]at ao;obtain⟨e2,e1,aN,bL⟩:=ao;refine⟨e2,by rw[mX];exact e1,aN,fun j t a aw aA=> ?_⟩
   obtain⟨bu,bC⟩:=bL j t a aw aA;refine⟨bu,fun cn s e lo hi he aK=> ?_⟩;have ay:=bC cn s e lo hi he aK;subst he;cases mr:dv a with
   |none=>exact ay.e6 (fun eH eW=>by rw[mr]at eW;cases eW) (fun eH eW=>by rw[mr]at eW;cases eW) (b1 _) (fun _ _ h=>h) (fun _ aj=>s' mX aj)
   |some eH=>
    by_cases r7:eH=g
    ·subst r7;exact bY x j c ts cn s e lo hi a (ay.tok mr).1 mr ad dU aw ay
    ·exact ay.e6 (fun bC tt=>by rw[mr]at tt;cases tt;exact ga _ r7) (fun bC tt=>(ay.tok tt).1) (b1 _) (fun _ _ h=>h) (fun _ aj=>s' mX aj)
 ·obtain⟨x,e2,c,az,ao,aX,bD⟩:=h.aE.cells p ae;exact⟨x,e2,c,az,by rw[ga x (ej x c bD)];exact ao,aX,bD⟩
 ·have ak:=h.aE.live p ae;cases mr:dv (R p.1)with
  |none=>exact ak.e6 (fun eH eW=>by rw[mr]at eW;cases eW) (fun eH eW=>by rw[mr]at eW;cases eW) (b1 _) (fun eH eW=>by rw[mr]at eW;cases eW) (fun _ _ h=>h) (fun _ h=>h)
  |some eH=>
   by_cases r7:eH=g
   ·subst r7;exact BU p ae mr
   ·exact ak.e6 (fun bC tt=>by rw[mr]at tt;cases tt;exact ga _ r7) (fun bC tt=>(ak.tok tt).1) (b1 _) (fun _ _ h=>h) (fun _ _ h=>h) (fun _ h=>h)
 ·obtain⟨az,ao⟩:=h.aE.f' x ad eQ;exact⟨by rw[ga x (fun e=>by subst e;rcases hw with hw|hw;omega;exact eQ hw)];exact az,ao⟩
 ·rw[ga x (ej x c ad)]at gb;exact h.aE.hi.ok x c e2 ad aq gb
 ·exact(h.aE.lt p ae).e6 ⟨rfl,rfl,fun _ _=>⟨rfl,rfl⟩⟩ (b1 _) (fun x _ ad=>ga x (di x ad)) (fun _ _ h=>h) (fun _ _ _ h=>h) (fun _ _ h=>h)
def ahq (T:bG) (E:dS) (R:cj) (G:Nat→cR) (W:aH) (V:aO) (wr:Bool) (sz v:Nat) (t:bb) (is:Bool) (b:Option bn):Prop:=
 (∃xs nl tok,R v=.slice xs nl tok∧(∀x∈xs,bR T.D G t x)∧(xs=[]∨b=none))∨
 ∃(B:Int→Prop) (g n c:Nat) (cs:List ab),R v=.ref g 0 n c∧g<V.n∧V.at g=.row sz cs∧n*sz≤cs.length∧sW T.D G t sz cs∧Ec B sz cs∧(∀l,b=some l→∀x,B x→x≤l.ai R)∧(∀x,(is=false∨∃l,b=some l∧x≤l.ai R)→B x)∧
  (wr=true→c=1∧(E.V.n≤g∨E.eT g)∧∀cU:List ab,cU.length=cs.length→sW T.D G t sz cU→Ec B sz cU→aW T E R G {W with rd:=none} (V.put g (.row sz cU)))
theorem T7 {sz v e:Nat}:∀{l:List (Nat × Nat × Nat)},L3 sz v l=some e→(v,sz,e)∈l∧gr e=true
 | [],h=>by cases h
 |p::r,h=>by
  unfold L3 at h;cases aj:Nat.beq v p.1&&(Nat.beq sz p.2.1&&gr p.2.2)with
  |true=>
   rw[aj]at h;cases h;obtain⟨U,aa⟩:=a6 aj;obtain⟨aa,au⟩:=a6 aa;obtain⟨a,b,c⟩:=p;have:=b5 U;have:=b5 aa;simp only at*;subst v;subst sz;exact⟨cz ..,au⟩
  |false=>rw[aj]at h;let⟨a,b⟩:=T7 h;exact⟨cv _ a,b⟩
theorem T6 {wr:Bool} {sz v e u:Nat}:∀{l:List (Nat × Nat × al)},Aj T W wr sz v l=some (e,u)→∃off,(u,off,al.x v)∈l∧rowAt T W wr sz u off=some e
 | [],h=>by cases h
 |(pA,off,s)::r,h=>by
  have skip:Aj T W wr sz v r=some (e,u)→∃z2,(u,z2,al.x v)∈(pA,off,s)::r∧rowAt T W wr sz u z2=some e:=fun h=>let⟨o,a,b⟩:=T6 h;⟨o,cv _ a,b⟩
  cases s with
  |x w=>
   simp only[Aj]at h;cases aj:Nat.beq v w with
   |true=>
    rw[aj]at h;simp only[cond_true]at h;split at h
    ·rename_i aR he;cases h;have:=b5 aj;subst this;exact⟨off,cz ..,he⟩
    ·exact skip h
   |false=>rw[aj]at h;exact skip h
  |_=>exact skip h
theorem T5 (h:aW T E R G W V) {wr:Bool} {sz e u off:Nat} (ah:rowAt T W wr sz u off=some e):∃i c ts t lo hi,R u=.ptr i 0∧G i=.cls c∧T.K c=.obj ts∧ts[off]? =some (.own t sz e lo hi)∧gr e=true∧(wr=true→E.V.n≤i∨E.eT i)∧∀x,¬l4 R W.cA x off:=by
 unfold rowAt at ah;cases pY:W.cA.any (fun p=>Nat.beq off p.2)with
 |true=>rw[pY]at ah;cases ah
 |false=>
  rw[pY]at ah;simp only[cond_false]at ah;have JF:∀x,¬l4 R W.cA x off:=by
   rintro x ⟨p,ae,_,aa⟩;have:W.cA.any (fun p=>Nat.beq off p.2)=true:=h4.2 ⟨p,ae,by rw[aa];exact yF _⟩
   rw[this]at pY;cases pY
  split at ah
  ·rename_i c af;obtain⟨i,hi,av⟩:=tf h af;obtain⟨hm,ah⟩:=eF ah;split at ah
   ·rename_i t gu aR lo ei r aQ;obtain⟨au,ba⟩:=eF ah;cases ba;obtain⟨au,ba⟩:=a6 au;have:=b5 au;subst this;have fV:(hE (T.K c))[off+0]? =some (.own t sz e lo ei):=by rw[←BB aQ 0];rfl
    cases aq:T.K c with
    |none=>rw[aq]at fV;simp[hE]at fV
    |map a7 t cH=>rw[aq]at fV;simp[hE]at fV
    |row s k n=>rw[aq]at fV;simp[hE]at fV
    |obj ts=>
     rw[aq]at fV;refine⟨i,c,ts,t,lo,ei,hi,av,aq,fV,ba,fun hw=> ?_,JF⟩;subst hw;refine xB h (S7 aq) (v:=u) (c:=c) ?_ (by rw[hi];rfl) av
     simpa[vv]using hm
   ·cases ah
  ·cases ah
theorem Ew {e:Nat} {l:bn} (h:A_ e=some l):l.ai R=l.ai R∧∃b,gJ e=b+1∧l=.at (.i b):=by
 unfold A_ at h;split at h
 ·cases h
 ·rename_i b aj;cases h;exact⟨rfl,b,aj,rfl⟩
theorem Ly (aC:gj E) (h:aW T E R G W V) {g i j:Nat} (av:G g=.tok i j) (hi:E.V.n≤i∨E.eT i):E.V.n≤g∨E.eT g:=by
 rcases lJ g E.V.n with bw|d_
 ·rcases h.aE.tok g bw i j av with U|U
  ·obtain⟨bZ,cB⟩:=aC.DU g i j U;rcases hi with hi|hi
   ·omega
   ·exact .inr (cB hi)
  ·exact .inr U
 ·exact .inl d_
theorem L4 {wr:Bool} (aC:wr=true→gj E) (h:aW T E R G W V) {sz v:Nat} {t:bb} {is:Bool} {b:Option bn} (ar:v<W.aD) (ah:Ak T W wr sz v=some (t,is,b)):ahq T E R G W V wr sz v t is b∧∀l,b=some l→l.bh W.aD=true:=by
 unfold Ak at ah;split at ah
 ·rename_i e he;cases ah;obtain⟨hm,fY⟩:=T7 he;have oe:=h.aT.gz _ hm;refine⟨?_,fun l ak=> ?_⟩
  ·rcases h.aE.live _ hm with ak|⟨aV,_⟩|⟨_,g,n,U,⟨cs,aa,au,ba,cb⟩,du,ew,hW⟩
   ·exact .inl ⟨[],true,none,ak,(fun x ad=>by cases ad),.inl rfl⟩
   ·simp only at aV;rw[fY]at aV;cases aV
   ·simp only at U aa au ba cb;refine .inr ⟨mI R e,g,n,1,cs,U,hW,aa,au,ba,cb,fun l ak x ad=> ?_,fun x ad=> ?_,fun _=>⟨rfl,ew,fun cU ej cY dJ=> ?_⟩⟩
    ·obtain⟨_,b,aj,rfl⟩:=Ew (R:=R) ak;rw[yW];exact ad b aj
    ·intro b aj;rcases ad with ad|⟨l,ak,ad⟩
     ·rw[aj]at ad;cases ad
     ·obtain⟨_,ea,dJ,rfl⟩:=Ew (R:=R) ak;rw[aj]at dJ;have:b=ea:=by omega
      subst this
      rwa [yW]at ad
    ·refine h.ae6 aa (.inl du) ew (fun p ae mr=> ?_) (fun i j c ts t s aN lo hi a e_=>by rw[du]at e_;cases e_)
     have an0:p=(v,sz,e):=aqt h.aE.gw ae hm mr (by simp only;rw[U];rfl)
     subst an0;exact .inr (.inr ⟨fY,g,n,U,⟨cU,by rw[fS,if_pos rfl],by rw[ej];exact au,cY,dJ⟩,du,ew,hW⟩)
  ·obtain⟨_,b,aj,rfl⟩:=Ew (R:=R) ak;simp only at oe;exact Bp (gp (show b<W.aD by omega))
 ·split at ah
  ·rename_i e u he;cases ah;obtain⟨off,hm,sj⟩:=T6 he;obtain⟨i,c,ts,t0,lo,hi,de,cy,e5,oz,kA,ra,GF⟩:=T5 h sj;obtain⟨hk,uG,bF,f1,f2,f3,f4⟩:=h.aE.cells _ hm;simp only at f1 f3;rw[de]at f1;injection f1 with f1 _;subst f1;obtain⟨hc,fJ⟩:=h.aE.obj cy (by rw[e5];intro _ _ _ aF;cases aF)
   rw[e5]at fJ;obtain⟨qM,bu,bC,c4⟩:=fJ;rw[f2]at bu;injection bu with bu;subst bu;have gU:=(c4 off _ _ oz f3).2 _ _ _ _ _ rfl (GF i);simp only[al.ai]at gU;have Qa:∀l,A' W e u=some l→l.bh W.aD=true∧∃k d,gJ e=k+1∧uG[k]? =some d∧l.ai R=intOf d:=by
    intro l ak;unfold A' at ak;split at ak
    ·cases ak
    ·rename_i k aq;split at ak
     ·rename_i d aQ;split at ak
      ·rename_i k' c_ p7;cases ak;have fW:=yY aQ;obtain⟨x,e2,c2,cQ,eR,ev,_⟩:=h.aE.cells _ fW;simp only at cQ ev;rw[de]at cQ;injection cQ with cQ _;subst cQ;rw[f2]at eR;injection eR with eR;subst eR;obtain⟨e1,bf⟩:=gP (R:=R) p7;exact⟨bf _ (h.aT.cells _ fW).2,k,_,aq,ev,by rw[e1];rfl⟩
      ·cases ak
     ·cases ak
   refine⟨?_,fun l ak=>(Qa l ak).1⟩;rcases gU with gU|⟨aV,_⟩|⟨_,g,n,U,⟨cs,aa,au,ba,cb⟩,du,ew⟩
   ·exact .inl ⟨[],true,none,gU,(fun x ad=>by cases ad),.inl rfl⟩
   ·rw[kA]at aV;cases aV
   ·have iH:i≠g:=fun e=>by subst e;rw[f2]at aa;cases aa
    refine .inr ⟨qw V i e,g,n,1,cs,U,ew,aa,au,ba,cb,fun l ak x ad=> ?_,fun x ad=> ?_,fun hw=>⟨rfl,Ly (aC hw) h du (ra hw),fun cU ej cY dJ=> ?_⟩⟩
    ·obtain⟨_,k,d,az,ao,aX⟩:=Qa l ak;rw[aX];exact ad k uG d az f2 ao
    ·intro k e2 d aq gd aQ;rw[f2]at gd;injection gd with gd;subst gd;rcases ad with ad|⟨l,ak,ad⟩
     ·rw[aq]at ad;cases ad
     ·obtain⟨_,k',eh,az,ao,aX⟩:=Qa l ak;rw[aq]at az;have:k=k':=by omega
      subst this;rw[aQ]at ao;cases ao;rw[←aX];exact ad
    ·refine h.ae6 aa (.inr ⟨i,off,du⟩) (Ly (aC hw) h du (ra hw)) (fun p ae mr=> ?_) (fun i2 xq c2 agL t2 s2 aN aqw o_ a e_ Rf lU ny F4 ay=> ?_)
     ·have:=((h.aE.live p ae).tok mr).1;rw[du]at this;cases this
     ·rw[du]at e_;cases e_;rw[cy]at lU;cases lU;rw[e5]at ny;cases ny;rw[oz]at F4;cases F4;rcases ay with rfl|⟨hH,_⟩|⟨_,eH,gI,rfl,⟨akE,cB,z3,z4,z5⟩,AV,D1⟩
      ·cases Rf
      ·rw[kA]at hH;cases hH
      ·simp only[dv,bk]at Rf;subst Rf;rw[aa]at cB;injection cB with bZ cB;subst cB;refine .inr (.inr ⟨kA,eH,gI,rfl,⟨cU,by rw[fS,if_pos rfl],by rw[ej];exact z3,cY,fun j a aU aA=> ?_⟩,AV,D1⟩)
       exact s' (by rw[fS,if_neg iH.symm]) (dJ j a aU aA)
  ·cases wr with
   |true=>cases ah
   |false=>
    simp only[cond_false]at ah;have aw:=h.ok.ty v;split at ah
    ·rename_i k lo hi cY;obtain⟨aq,aa⟩:=eF ah;cases aa;obtain⟨aq,dj⟩:=a6 aq;have aq:=e9 aq;have dj:=b5 dj;refine⟨?_,fun l ak=>by cases ak⟩
     rw[cY]at aw;generalize tD:R v=a at aw;cases aw with
     |nP _ _ _ xs nl tok U aa au ba=>exact .inl ⟨xs,nl,tok,tD,ba,.inr rfl⟩
     |rl _ _ _ g n c m U aa au ba=>
      have eV:=e8.row (T:=T) k m aq;obtain⟨hc,fJ⟩:=h.aE.obj au (by rw[eV];intro _ _ _ aF;cases aF)
      rw[eV]at fJ;obtain⟨cs,e1,aN,bL⟩:=fJ;rw[dj]at e1 aN bL;refine .inr ⟨fun _=>True,g,n,c,cs,tD,hc,e1,fp (l_ _ ba) aN,bL,(fun _ _ _ _=>trivial),(fun l ak=>by cases ak),(fun _ _=>trivial),fun hw=>by cases hw⟩
    ·cases ah
theorem XF {sz:Nat} {t:bb} {ys:List ab} (aC:iV T sz t=true) (ak:ys.length=sz) (aI:∀(j:Nat) (cn:bb) (a:ab),(iT t)[j]? =some cn→ys[j]? =some a→bR T.D G cn a):∃a,bR T.D G t a∧a.cells=ys:=by
 obtain⟨U,aa⟩:=a6 aC;rw[hl]at U;have U:=b5 U;by_cases aw:∃l,t=.agg l
 ·obtain⟨l,rfl⟩:=aw;exact⟨.agg ys,.agg l ys (by rw[ak];exact U) aI,rfl⟩
 ·have e:iT t=[t]:=by
   cases t<;>first|rfl|exact absurd ⟨_,rfl⟩ aw
  rw[e]at U aa aI;cases ys with
  |nil=>simp at ak;simp at U;omega
  |cons y r=>
   cases r with
   |cons _ _=>simp at ak;simp at U;omega
   |nil=>
    have cY:=aI 0 t y rfl rfl;exact⟨y,cY,EN (z6 (by simpa using aa) cY)⟩
end Go.bO.cK
end
section
namespace Go.bO.cK
variable {dm:Bool} {T:bG} [e8 T] {E:dS} {R aL:cj} {G:Nat→cR} {W:aH} {V:aO} {se:bE} {env:aP}
structure v_ (dm:Bool) where
 p:bj→Prop
 alt:dm=false→∀a b,p a→p b→p (.alt a b)
instance:CoeFun (v_ dm) fun _=>bj→Prop:=⟨v_.p⟩
def eS.iO (dm:Bool) (r:eS) (bU:ab→aO→Prop):Prop:=(dm=true→∃a V,r=.jX a V∧bU a V)∧r.all bU
theorem eS.ato {dm:Bool} {a:ab} {V:aO} {bU:ab→aO→Prop} (h:bU a V):eS.iO dm (.jX a V) bU:=⟨fun _=>⟨a,V,rfl,h⟩,h⟩
theorem eS.tY {dm:Bool} {r:eS} {bU oK:ab→aO→Prop} (h:eS.iO dm r bU) (hm:∀a V,bU a V→oK a V):eS.iO dm r oK:=
 ⟨fun aQ=>let⟨a,V,U,aa⟩:=h.1 aQ;⟨a,V,U,hm a V aa⟩,eS.s0 hm h.2⟩
theorem eS.atp {dm:Bool} {r:eS} {bU:ab→aO→Prop} (h:eS.iO true r bU):eS.iO dm r bU:=⟨fun _=>h.1 rfl,h.2⟩
theorem asZ {d:Option Nat} {k:bI} {env:aP} {bo:v_ dm} {bU:ab→aO→Prop} {r:eS} (h:eS.iO dm r bU) (aq:∀a V,bU a V→bo (k (dc d (.val a) env) V)):bo (x0 d k env r):=by
 cases dm with
 |true=>
  obtain⟨a,V,rfl,U⟩:=h.1 rfl;exact aq a V U
 |false=>
  have aa:=h.2;clear h;have h:=aa;clear aa
  induction r with
  |jX a V=>exact aq a V h
  |fail=>cases h
  |alt a b ou nF=>exact bo.alt rfl _ _ (ou h.1) (nF h.2)
def dt (dm:Bool) (T:bG) (E:dS) (R:cj) (W:aH) (r:dG) (run:bI→bj):Prop:=
 ∀outs,r=some outs→∀(bo:v_ dm) (k:bI),(∀p∈outs,∀aL G' bP V',dk R W aL p.2→aW T E aL G' p.2 V'→ch aL p.2.aD p.1 bP→bo (k bP V'))→bo (run k)
theorem db {run:bI→bj}:dt dm T E R W none run:=fun _ h=>by cases h
theorem kd {b:Bool} {r:dG} {run:bI→bj} (h:b=true→dt dm T E R W r run):dt dm T E R W (bif b then r else none) run:=by
 cases b with
 |true=>exact h rfl
 |false=>exact db
theorem nO {gA:bE} {W':aH} {run:bI→bj} {aL:cj} {G':Nat→cR} {bP:aP} {V':aO} (ak:dk R W aL W') (hs:aW T E aL G' W' V') (he:ch aL W'.aD gA bP) (ah:∀k,run k=k bP V'):
  dt dm T E R W (some [(gA,W')]) run:=by
 intro outs ay bo k aq;cases ay;rw[ah];exact aq _ (cz ..) aL G' bP V' ak hs he
theorem T1 (he:ch R W.aD se env) {d:Option Nat} {r:d'} {m:Option aJ} {run:bI→bj} (ah:eJ T E R G W V r m) (b6:∀k,run k=Option.rec .bad (fun e=>k (dc d e env) V) m):dt dm T E R W (one se d r) run:=by
 cases r with
 |none=>exact db
 |some p=>
  obtain⟨x,W'⟩:=p;obtain⟨aL,e,U,aa,au,ba,cb⟩:=ah x W' rfl;exact nO U aa ((he.later U).set d ba cb) (fun k=>by rw[b6,au])
theorem ke {d:Option Nat} {s:al} {W':aH} {run:bI→bj} {aL:cj} {G':Nat→cR} {V':aO} {a:ab} (he:ch R W.aD se env) (ak:dk R W aL W') (hs:aW T E aL G' W' V') (aA:s.ai aL=a) (af:s.bh W'.aD=true)
  (ah:∀k,run k=k (dc d (.val a) env) V'):dt dm T E R W (iL se d s W') run:=
 nO ak hs ((he.later ak).set d (by simp only[cZ,aA]) af) ah
theorem ab6 (h:aW T E R G W V) {f:Lit} (af:f.bh W.aD=true) (ax:f.ai R=true):dk R W R (h0 W f)∧aW T E R G (h0 W f) V∧(h0 W f).aD=W.aD:=by
 obtain⟨cE,e1,aN,bL,eB,ji,wR,I7,wS,O1,O0⟩:=R1 W f;exact⟨⟨Nat.le_of_eq cE.symm,.refl _ _⟩,⟨ab5 h.ok ax,ab4 h.aT af,h.aE.same e1 aN bL eB ji wS O1 O0⟩,cE⟩
theorem NG (h:aW T E R G W V) {β:Type} {f:Lit} {k:Bool→aH→Option (List β)} {outs:List β} (af:f.bh W.aD=true) (aj:tc W f k=some outs):
  ∃W' l,dk R W R W'∧aW T E R G W' V∧W'.aD=W.aD∧k (f.ai R) W'=some l∧∀x∈l,x∈outs:=by
 unfold tc at aj;cases U:holds W f with
 |true=>
  rw[U]at aj;rw[va h.ok U];exact⟨W,outs,.refl _ _,h,rfl,aj,fun x ad=>ad⟩
 |false=>
  rw[U]at aj;simp only[cond_false]at aj;cases aa:holds W f.neg with
  |true=>
   rw[aa]at aj;have:=va h.ok aa;rw[q_]at this;have ax:f.ai R=false:=by
    cases ax:f.ai R with
    |true=>rw[ax]at this;cases this
    |false=>rfl
   rw[ax];exact⟨W,outs,.refl _ _,h,rfl,aj,fun x ad=>ad⟩
  |false=>
   rw[aa]at aj;simp only[cond_false]at aj;split at aj
   ·rename_i x y ad aI;cases aj;cases ax:f.ai R with
    |true=>
     obtain⟨az,ao,aX⟩:=ab6 h af ax;exact⟨_,x,az,ao,aX,ad,fun z a'=>oS _ a'⟩
    |false=>
     obtain⟨az,ao,aX⟩:=ab6 h (wK af) (f:=f.neg) (by rw[q_,ax];rfl)
     exact⟨_,y,az,ao,aX,aI,fun z a'=>nh _ a'⟩
   ·cases aj
theorem He (h:aW T E R G W V) {f:Lit} {k:Bool→aH→dG} {run:bI→bj} (af:f.bh W.aD=true) (aq:∀W',dk R W R W'→aW T E R G W' V→W'.aD=W.aD→dt dm T E R W' (k (f.ai R) W') run):dt dm T E R W (tc W f k) run:=by
 intro outs ay bo a7 a1;obtain⟨W',l,az,ao,aX,bD,c8⟩:=NG h af ay;exact aq W' az ao aX l bD bo a7 fun p ae aL G' bP V' U aa au=>a1 p (c8 p ae) aL G' bP V' (az.trans U) aa au
theorem aeY (h:aW T E R G W V) (he:ch R W.aD se env) {c a b:aG} {d:Option Nat} {run:bI→bj} (b6:∀k,run k=Option.rec .bad (fun e=>k (dc d e env) V) (Aa c a b env)):dt dm T E R W (LF c a b d se W) run:=by
 unfold LF;split
 ·rename_i s hs;obtain⟨e1,bf⟩:=fM he hs;split
  ·rename_i f ax;obtain⟨aN,c2⟩:=DV (R:=R) ax;refine He h (c2 _ bf) fun W' az ao aX=> ?_;have iG:ch R W'.aD se env:=by rw[aX];exact he
   have ae:Aa c a b env=some (bif f.ai R then bV a env else bV b env):=by
    simp only[Aa,e1,aN,aeg];rfl
   cases ar:f.ai R with
   |true=>
    rw[ar]at ae;obtain⟨b3,cI⟩:=mg iG a;exact nO (.refl _ _) ao (iG.set d b3 cI) (fun k=>by rw[b6,ae];rfl)
   |false=>
    rw[ar]at ae;obtain⟨b3,cI⟩:=mg iG b;exact nO (.refl _ _) ao (iG.set d b3 cI) (fun k=>by rw[b6,ae];rfl)
  ·exact db
 ·exact db
theorem aW.VF (h:aW T E R G W V) {v o i c:Nat} {s:al} {cs:List ab} (ar:v<W.aD) (hs:s.bh W.aD=true) (U:R v=.ptr i 0) (aa:V.at i=.obj cs) (au:cs[o]? =some (s.ai R)) (ba:G i=.cls c):
  aW T E R G {W with cells:=(v,o,s)::W.cells} V:=
 ⟨⟨h.ok.ty,h.ok.top,h.ok.ge,h.ok.da,h.ok.cC,h.ok.b2⟩,
  ⟨h.aT.ge,h.aT.da,h.aT.cC,fun p ae=>(cu.1 ae).elim (fun e=>by subst e;exact⟨ar,hs⟩) (h.aT.cells p),h.aT.live,h.aT.cA,h.aT.wr,h.aT.b2,h.aT.op,h.aT.lt,h.aT.gz,h.aT.rd⟩,
  ⟨h.aE.wf,fun p ae=>(cu.1 ae).elim (fun e=>by subst e;exact⟨i,cs,c,U,aa,au,ba⟩) (h.aE.cells p),h.aE.live,h.aE.gw,h.aE.wr,h.aE.M,h.aE.out,h.aE.n,h.aE.g,h.aE.f',h.aE.cls,h.aE.tok,h.aE.fQ,h.aE.hi,h.aE.lt,h.aE.rd⟩⟩
theorem aca (h:aW T E R G W V) {v o i c:Nat} {t:bb} {cs:List ab} {a:ab} {s:al} {W':aH} (ar:v<W.aD) (U:R v=.ptr i 0) (aa:V.at i=.obj cs) (au:cs[o]? =some a) (ba:G i=.cls c) (aw:bR T.D G (l0 t) a)
  (ak:CE W v o t=(s,W')):∃aL,dk R W aL W'∧aW T E aL G W' V∧s.ai aL=a∧s.bh W'.aD=true:=by
 unfold CE at ak;split at ak
 ·rename_i x ad;cases ak;have hm:=yY ad;obtain⟨hk,cU,bF,az,ao,aX,_⟩:=h.aE.cells _ hm;simp only at az aX;rw[U]at az;injection az with az _;subst az;rw[aa]at ao;injection ao with ao;subst ao;rw[au]at aX;injection aX with aX;exact⟨R,.refl _ _,h,aX.symm,(h.aT.cells _ hm).2⟩
 ·cases ax:cW W (l0 t)with
  |mk x W1=>
   rw[ax]at ak;cases ak;obtain⟨aL,az,ao,aX,bD⟩:=mQ (l0 t) h aw ax;exact⟨aL,⟨az.n,az.dq⟩,ao.VF (eE ar az.n) bD (by rw[←az.dq v ar];exact U) aa (by rw[aX];exact au) ba,aX,bD⟩
theorem Sf {v i c:Nat} {cs:List ab}:∀{n:Nat} {ts:List bb} {o:Nat} {R:cj} {W:aH} (_:aW T E R G W V) {ss:List al} {W':aH} (_:v<W.aD) (_:R v=.ptr i 0) (_:V.at i=.obj cs) (_:G i=.cls c)
  (_:∀(j:Nat) (t:bb),ts[j]? =some t→∃a,cs[o+j]? =some a∧bR T.D G (l0 t) a) (_:Gr v n ts o W=some (ss,W')),
  ∃aL,dk R W aL W'∧aW T E aL G W' V∧aM aL ss=(cs.drop o).take n∧cls W'.aD ss=true∧ss.length=n∧o+n≤cs.length∨(n=0∧ss=[]∧W'=W)
 |0,ts,o,R,W,h,ss,W',_,_,_,_,_,ak=>by
  cases ak;exact⟨R,.inr ⟨rfl,rfl,rfl⟩⟩
 |n+1,[],o,R,W,h,ss,W',_,_,_,_,_,ak=>by cases ak
 |n+1,t::ts,o,R,W,h,ss,W',ar,U,aa,ba,ad,ak=>by
  simp only[Gr]at ak;cases aj:zD v o W.cA with
  |true=>rw[aj]at ak;cases ak
  |false=>
   rw[aj]at ak;simp only[cond_false]at ak;cases cb:CE W v o t with
   |mk s W1=>
    rw[cb]at ak;simp only at ak;split at ak
    ·rename_i Uy cD du;cases ak;obtain⟨a,b3,cI⟩:=ad 0 t rfl;obtain⟨dM,az,ao,aX,bD⟩:=aca h ar U aa b3 ba cI cb;have bw:o<cs.length:=(hn.1 b3).1;have B1:cs.drop o=a::cs.drop (o+1):=by
      rw[OW bw]
      congr 1
      exact(hn.1 b3).2
     obtain⟨dQ,m⟩:=Sf ao (o:=o+1) (eE ar az.n) (by rw[←az.dq v ar];exact U) aa ba (fun j t aw=>by
      have:=ad (j+1) t (by simpa using aw)
      rwa [show o+(j+1)=o+1+j by omega]at this) du
     rcases m with⟨bd,bx,bT,dp,g9,vr⟩|⟨rfl,rfl,rfl⟩
     ·obtain⟨b',ct⟩:=bd.ai bD;refine⟨dQ,.inl ⟨az.trans bd,bx,?_,by simp only[cls,ct,dp];rfl,by simp[g9],by omega⟩⟩
      rw[B1,ED];simp only[aM,b',aX,bT]
     ·refine⟨dM,.inl ⟨az,ao,?_,by simp only[cls,bD];rfl,rfl,by omega⟩⟩
      rw[B1];simp only[aM,aX];rfl
    ·cases ak
theorem Gp (h:aW T E R G W V) {v i c:Nat} {l:List al} {W':aH} (ar:v<W.aD) (hi:R v=.ptr i 0) (av:G i=.cls c) (ak:zP T W v c=some (l,W')):
  ∃aL cs,dk R W aL W'∧aW T E aL G W' V∧V.at i=.obj cs∧aM aL l=cs∧cls W'.aD l=true:=by
 unfold zP at ak;split at ak
 ·cases ak
 ·rename_i t0 m2 r0;have vc:(hE (T.K c))[0]? =some t0:=by rw[r0];rfl
  obtain⟨ts,cs,aq,bM,cl,ik⟩:=IL h av vc;rw[aq]at r0;simp only[hE]at r0;obtain⟨aL,m⟩:=Sf h ar hi bM av (fun j t aw=>by
   rw[←r0]at aw;obtain⟨a,aA⟩:=rX (l:=cs) (r:=ts) cl.symm aw;exact⟨a,by rw[fy];exact aA,(ik _ t a aw aA).1⟩) ak
  rcases m with⟨bd,bx,bT,dp,g9,vr⟩|⟨a',_,_⟩
  ·refine⟨aL,cs,bd,bx,bM,?_,dp⟩;rw[bT,IE,hl,←r0,cl,List.take_length]
  ·rw[hl]at a';cases a'
theorem Td (h:aW T E R G W V) {c i:Nat} (ay:GM W c=true) (av:G i=.cls c):∀p∈W.op,R p.1≠.ptr i 0:=by
 intro p ae he;have:=dI.1 ay p ae;have aw:=h.ok.ty p.1;split at this
 ·rename_i bF n cY;rw[cY,he]at aw;cases aw with
  |ptr _ _ _ oc=>
   rw[av]at oc;cases oc;simp at this
 ·cases this
theorem aqi (h:aW T E R G W V) {v i c o:Nat} (ar:v<W.aD) (hi:R v=.ptr i 0) (av:G i=.cls c):∃aL,dk R W aL (KE T W v c o)∧aW T E aL G (KE T W v c o) V:=by
 unfold KE;cases aj:T.kept c&&(GM W c&&(pU v o W.cells).isNone)with
 |false=>exact⟨R,.refl _ _,h⟩
 |true=>
  obtain⟨aq,aj⟩:=a6 aj;obtain⟨ax,_⟩:=a6 aj;simp only[cond_true];split
  ·rename_i l W1 ak;obtain⟨aL,cs,az,ao,aX,bD,c8⟩:=Gp h ar hi av ak;have ae:=((h.aE.hi.ok i c cs av aq aX).1 (Td h ax av)).1;obtain⟨b',ct⟩:=ao.note (k:=hY c) (as:=[.agg l]) (by simp only[cls,al.bh,c8];rfl) (by simp only[aM,al.ai,bD];exact ae)
   exact⟨aL,⟨by rw[ct];exact az.n,az.dq⟩,b'⟩
  ·exact⟨R,.refl _ _,h⟩
theorem adv (h:aW T E R G W V) {v i c:Nat} {W':aH} (ar:v<W.aD) (hi:R v=.ptr i 0) (av:G i=.cls c) (ay:Lu T W v c=some W'):
  ∃aL,dk R W aL W'∧aW T E aL G W' V∧(T.kept c=true→∃p∈W'.op,aL p.1=.ptr i 0):=by
 unfold Lu at ay;cases aj:T.kept c&& !(W.op.any fun p=>Nat.beq v p.1)with
 |false=>
  rw[aj]at ay;cases ay;refine⟨R,.refl _ _,h,fun aq=> ?_⟩;rw[aq,s7,Bool.not_eq_false',h4]at aj;obtain⟨p,ae,he⟩:=aj;have:=b5 he;subst this;exact⟨p,ae,hi⟩
 |true=>
  rw[aj]at ay;obtain⟨aq,_⟩:=a6 aj;rw[cond_true]at ay;obtain⟨ax,ay⟩:=eF ay;split at ay
  ·rename_i l W1 ak;obtain⟨aL,cs,az,ao,aX,bD,c8⟩:=Gp h ar hi av ak;have ae:=(h.aE.hi.ok i c cs av aq aX).1 (Td h ax av);obtain⟨b',ct⟩:=ao.note (k:=hY c) (as:=[.agg l]) (by simp only[cls,al.bh,c8];rfl) (by simp only[aM,al.ai,bD];exact ae.1)
   simp only at ay;obtain⟨zd,ay⟩:=eF ay;cases ay;have ei:aL v=.ptr i 0:=by rw[←az.dq v ar];exact hi
   have xl:v<(note T (hY c) [.agg l] W1).aD:=by rw[ct];exact eE ar az.n
   have tr:=Td b' zd av;refine⟨aL,⟨by show W.aD≤(note T (hY c) [.agg l] W1).aD;rw[ct];exact az.n,az.dq⟩,⟨⟨b'.ok.ty,b'.ok.top,b'.ok.ge,b'.ok.da,b'.ok.cC,b'.ok.b2⟩,⟨b'.aT.ge,b'.aT.da,b'.aT.cC,b'.aT.cells,b'.aT.live,b'.aT.cA,b'.aT.wr,b'.aT.b2,fun p ae=> ?_,b'.aT.lt,b'.aT.gz,b'.aT.rd⟩,
    ⟨b'.aE.wf,b'.aE.cells,b'.aE.live,b'.aE.gw,b'.aE.wr,b'.aE.M,b'.aE.out,b'.aE.n,b'.aE.g,b'.aE.f',b'.aE.cls,b'.aE.tok,b'.aE.fQ,⟨fun p ae=> ?_,fun j bF cU aU ek bM=> ?_⟩,b'.aE.lt,b'.aE.rd⟩⟩,fun _=>⟨_,cz ..,ei⟩⟩
   ·rcases cu.1 ae with rfl|ae
    ·exact⟨xl,by show cls (note T (hY c) [.agg l] W1).aD l=true;rw[ct];exact c8⟩
    ·exact b'.aT.op p ae
   ·rcases cu.1 ae with rfl|ae
    ·exact⟨i,c,ei,av⟩
    ·exact b'.aE.hi.own p ae
   ·obtain⟨bg,bl⟩:=b'.aE.hi.ok j bF cU aU ek bM;refine⟨fun aK=>bg fun p ae=>aK p (cv _ ae),fun p hm he=> ?_⟩;rcases cu.1 hm with rfl|hm
    ·simp only at he⊢;rw[ei]at he;injection he with he;subst he;rw[av]at aU;cases aU;rw[bD];exact ae
    ·exact bl p hm he
  ·cases ay
theorem W5:∀{n:Nat} {R:cj} {W W':aH},aW T E R G W V→EU T n W=some W'→∃aL,dk R W aL W'∧aW T E aL G W' V∧W'.op=[]
 |0,R,W,W',h,af=>by
  unfold EU at af;split at af
  ·rename_i ay;cases af;exact⟨R,.refl _ _,h,ay⟩
  ·cases af
 |n+1,R,W,W',h,af=>by
  unfold EU at af;split at af
  ·rename_i ay;cases af;exact⟨R,.refl _ _,h,ay⟩
  ·rename_i v m2 lE ay;have ar:v<W.aD:=(h.aT.op _ (by rw[ay];exact cz ..)).1
   split at af
   ·rename_i c ej;obtain⟨i,hi,av⟩:=tf h ej;split at af
    ·rename_i c_ W1 ak;obtain⟨dM,cs,az,ao,aX,bD,c8⟩:=Gp h ar hi av ak;split at af
     ·rename_i u l r qZ;obtain⟨aj,iE⟩:=eF af;obtain⟨hu,aj⟩:=a6 aj;obtain⟨o5,BT⟩:=a6 aj;have:=b5 hu;subst this;have JR:dM u=.ptr i 0:=by rw[←az.dq u ar];exact hi
      have adT:=e8.pw ao.ok o5;have adS:=e8.pw ao.ok BT;simp only[aM,al.ai,bD]at adT adS;have hm:(u,l)∈W1.op:=by rw[qZ];exact cz ..
      have ah:∀p∈r,p∈W1.op:=fun p ae=>by rw[qZ];exact cv _ ae
      have hs:aW T E dM G {W1 with op:=r} V:=by
       refine⟨⟨ao.ok.ty,ao.ok.top,ao.ok.ge,ao.ok.da,ao.ok.cC,ao.ok.b2⟩,⟨ao.aT.ge,ao.aT.da,ao.aT.cC,ao.aT.cells,ao.aT.live,ao.aT.cA,ao.aT.wr,ao.aT.b2,fun p ae=>ao.aT.op p (ah p ae),ao.aT.lt,ao.aT.gz,ao.aT.rd⟩,
        ⟨ao.aE.wf,ao.aE.cells,ao.aE.live,ao.aE.gw,ao.aE.wr,ao.aE.M,ao.aE.out,ao.aE.n,ao.aE.g,ao.aE.f',ao.aE.cls,ao.aE.tok,ao.aE.fQ,⟨fun p ae=>ao.aE.hi.own p (ah p ae),fun j bF cU aU ek bM=> ?_⟩,ao.aE.lt,ao.aE.rd⟩⟩
       obtain⟨bg,bl⟩:=ao.aE.hi.ok j bF cU aU ek bM;refine⟨fun aK=> ?_,fun p ae he=>bl p (ah p ae) he⟩;by_cases Y8:j=i
       ·subst Y8;rw[av]at aU;cases aU;rw[aX]at bM;cases bM;refine⟨adT,fun bw cd iD=> ?_⟩;exact e8.trans c _ _ _ ek ((bl _ hm JR).2 bw cd iD) adS
       ·refine bg fun p ae=> ?_;rw[qZ]at ae;rcases cu.1 ae with rfl|ae
        ·simp only;rw[JR];intro he;injection he with he;exact Y8 he.symm
        ·exact aK p ae
      obtain⟨dQ,bd,bx,bT⟩:=W5 hs iE;exact⟨dQ,az.trans ⟨bd.n,bd.dq⟩,bx,bT⟩
     ·cases af
    ·cases af
   ·cases af
theorem Bq (h:aW T E R G W V) {W':aH} (af:yJ T W=some W'):∃aL,dk R W aL W'∧aW T E aL G W' V∧W'.op=[]:=W5 h af
theorem KM (h:aW T E R G W V) {agg:Bool} {n v o:Nat} {s:al} {W':aH} (ar:v<W.aD) (ak:CF T W agg n v o=some (s,W')):
  ∃aL i,dk R W aL W'∧aW T E aL G W' V∧s.bh W'.aD=true∧R v=.ptr i 0∧vp agg n o (i' V i)=some (s.ai aL):=by
 unfold CF at ak;split at ak
 ·rename_i c af;obtain⟨i,hi,av⟩:=tf h af;cases n with
  |zero=>cases ak
  |succ n=>
  simp only[Nat.beq,cond_false]at ak;split at ak
  ·rename_i l aQ;split at ak
   ·rename_i ss W1 aK;split at ak
    ·rename_i x hm;cases ak;obtain⟨dW,bu,bC⟩:=aqi (o:=o) h ar hi av;have od:=hi;have hi:dW v=.ptr i 0:=by rw[←bu.dq v ar];exact hi
     have ar:=eE ar bu.n;have h:=bC;cases l with
     |nil=>cases aK
     |cons t0 l=>
     have vc:(hE (T.K c))[o+0]? =some t0:=by rw[←BB aQ 0];rfl
     obtain⟨ts,cs,aq,bM,cl,ik⟩:=IL h av vc;rw[aq]at aQ;simp only[hE]at aQ;obtain⟨aL,m⟩:=Sf h ar hi bM av (fun j t aw=>by
      have U:ts[o+j]? =some t:=by rw[←BB aQ j];exact aw
      obtain⟨a,aA⟩:=rX (l:=cs) (r:=ts) cl.symm U;exact⟨a,aA,(ik _ t a U aA).1⟩) aK
     rcases m with⟨bd,bx,bT,dp,g9,vr⟩|⟨a',_,_⟩
     ·have gU:i' V i=some cs:=by unfold i';rw[bM];rfl
      refine⟨aL,i,bu.trans bd,bx,?_,od,?_⟩
      ·unfold Sz at hm;cases agg with
       |true=>cases hm;exact dp
       |false=>
        simp only[cond_false]at hm;split at hm
        ·cases hm;exact(a6 dp).1
        ·cases hm
      ·rw[gU];show partAt agg (n+1) o cs=_;unfold partAt;rw[A6 (by omega)]
       unfold Sz at hm;cases agg with
       |true=>
        cases hm;show Eg (iw (n+1) (cs.drop o))=_;rw[AH (by rw[nk];omega),←bT];rfl
       |false=>
        simp only[cond_false]at hm;split at hm
        ·cases hm;have FQ:n=0:=by simp at g9;omega
         subst FQ;show Qk (cs.drop o)=_;cases YW:cs.drop o with
         |nil=>rw[YW]at bT;cases bT
         |cons a r=>
          rw[YW]at bT;simp only[ED,List.take_zero,aM,wA,and_true]at bT;rw[bT];rfl
        ·cases hm
     ·cases a'
    ·cases ak
   ·cases ak
  ·cases ak
 ·cases ak
theorem aqh (h:aW T E R G W V) {b:Option bn} {l:List al} (af:cls W.aD l=true) (aj:∀x,b=some x→x.bh W.aD=true) (ak:∀x s r k f,b=some x→l=s::r→s.ai R=.int k f→f≤x.ai R):aW T E R G (CA b l W) V∧(CA b l W).aD=W.aD:=by
 unfold CA;split
 ·rename_i x f ad;unfold Jm at ad;split at ad
  ·rename_i s r;split at ad
   ·rename_i k n_ p7;cases ad;obtain⟨e1,bf⟩:=gP (R:=R) p7;have:=ak x s r k _ rfl rfl e1;exact⟨h.h0 (f:=.ge (x.sub f)) (n1 (aj x rfl) (bf _ (a6 af).1)) (by simp only[Lit.ai,eG];exact decide_eq_true (by omega)),rfl⟩
   ·cases ad
  ·cases ad
 ·exact⟨h,rfl⟩
theorem aW.Ul (h:aW T E R G W V) {p:Nat × Nat × bn × al} (af:p.1<W.aD∧p.2.2.1.bh W.aD=true∧p.2.2.2.bh W.aD=true) (ae:H4 R V p):aW T E R G {W with rd:=some p} V:=
 ⟨⟨h.ok.ty,h.ok.top,h.ok.ge,h.ok.da,h.ok.cC,h.ok.b2⟩,⟨h.aT.ge,h.aT.da,h.aT.cC,h.aT.cells,h.aT.live,h.aT.cA,h.aT.wr,h.aT.b2,h.aT.op,h.aT.lt,h.aT.gz,fun q aB=>by cases aB;exact af⟩,
  ⟨h.aE.wf,h.aE.cells,h.aE.live,h.aE.gw,h.aE.wr,h.aE.M,h.aE.out,h.aE.n,h.aE.g,h.aE.f',h.aE.cls,h.aE.tok,h.aE.fQ,h.aE.hi,h.aE.lt,fun q aB=>by cases aB;exact ae⟩⟩
theorem Ma {v sz:Nat} {l:bn} {s:al} (hs:L' W v sz l=some s):W.rd=some (v,sz,l,s):=by
 unfold L' at hs;split at hs
 ·rename_i w gu c_ dy hw;obtain⟨U,aa⟩:=eF hs;cases aa;obtain⟨U,aa⟩:=a6 U;obtain⟨aa,au⟩:=a6 aa;rw[hw,b5 U,b5 aa,tm au]
 ·cases hs
theorem aj' {n:Nat} {s:al} (h:s.bh n=true):cls n (gm s)=true:=by
 unfold gm;cases aA:rz s with
 |some l=>exact(AN (R:=fun _=>.top) aA).2 n h
 |none=>simp[cls,h]
theorem aqz (h:aW T E R G W V) {agg:Bool} {n v sz o:Nat} {l:bn} {bP:bE} {e:aJ} {s:al} {W':aH} (ad:cZ R (.kc v sz l o) e) (af:(fx.kc v sz l o).bh W.aD=true) (ak:zR T bP W agg n (.kc v sz l o)=some (s,W')):
  ∃aL,dk R W aL W'∧aW T E aL G W' V∧s.bh W'.aD=true∧Gq agg n env V e=some (s.ai aL):=by
 obtain⟨bf,c2⟩:=a6 af;have bf:=e9 bf;obtain⟨m,bd,bx,bT⟩:=ad;simp only[zR]at ak;split at ak
 ·rename_i t is b ah;obtain⟨aC,ak⟩:=eF ak;obtain⟨aC,Re⟩:=a6 aC;have Re:=e9 Re;obtain⟨j6,jl⟩:=L4 (fun h=>by cases h) h bf ah
  have dj:(iT t).length=sz:=by
   obtain⟨U,_⟩:=a6 aC;rw[hl]at U;exact b5 U
  split at ak
  ·rename_i fa hs;have di:=h.aE.rd _ (Ma hs);have Q1:=h.aT.rd _ (Ma hs);split at ak
   ·rename_i r ae;cases ak;obtain⟨et,eY⟩:=Dm (n:=W.aD) (R:=R) ae;refine⟨R,.refl _ _,h,eY (aj' Q1.2.2),?_⟩;obtain⟨q,bg,hH,bl⟩:∃q:Nat,l.ai R=q∧sz=(gm fa).length∧((∃g m c cs,R v=.ref g 0 m c∧q<m∧g<V.n∧V.at g=.row sz cs∧∀j,j<sz→cs[q*sz+j]? =(aM R (gm fa))[j]?)∨∃xs nl tok x,R v=.slice xs nl tok∧xs[q]? =some x∧x.cells=aM R (gm fa)):=by
     rcases di with⟨_,di⟩|⟨k,e1,_⟩
     ·exact di
     ·have e1:sz=ow k:=e1;have:1000000000≤ow k:=by cases k<;>decide
      omega
    rw[bd]at bg;have:m=q:=uy bg;subst this;rcases bl with⟨g,k,c,cs,az,ao,aX,bD,c8⟩|⟨xs,nl,tok,x,az,ao,aX⟩
    ·rcases bT with⟨eH,k',bF,bZ,cB,rfl⟩|⟨xs,nl,tok,x,bZ,_⟩
     ·rw[az]at bZ;cases bZ;show vp agg n (m*sz+o) (i' V g)=_;have gU:i' V g=some cs:=by unfold i';rw[bD];rfl
      rw[gU];show partAt agg n (m*sz+o) cs=_;have bz:m*sz+sz≤cs.length:=by
       rcases j6 with⟨_,_,_,cQ,_⟩|⟨_,bC,ct,c2,e2,cQ,eR,ev,jz,_⟩
       ·rw[az]at cQ;cases cQ
       ·rw[az]at cQ;cases cQ;rw[bD]at ev;injection ev with _ ev;subst ev;have:(m+1)*sz≤k*sz:=l_ _ cB;rw[pM]at this;omega
      refine aeb (by rw[hp,←hH];exact bz) (fun j aU=>c8 j (by rw[hp,←hH]at aU;exact aU)) et
     ·rw[az]at bZ;cases bZ
    ·rcases bT with⟨eH,k',bF,bZ,cB,rfl⟩|⟨nR,gq,fg,c3,bZ,cB,z3,z4,rfl⟩
     ·rw[az]at bZ;cases bZ
     ·rw[az]at bZ;cases bZ;rw[ao]at cB;cases cB;show sF agg n (x.cells.drop o)=_;rw[aX];have:=et;unfold partAt at this
      rwa [A6 (wq this)]at this
   ·cases ak
  ·cases ax:cW W t with
   |mk fa W1=>
    rw[ax]at ak;simp only at ak;split at ak
    ·rename_i r ae;cases ak;have key:∃a ys,bR T.D G t a∧a.cells=ys∧ys.length=sz∧(∀x y q k f,b=some x→ys=y::q→y=.int k f→f≤x.ai R)∧(∀fl,partAt agg n o ys=some fl→Gq agg n env V e=some fl)∧
       ((∃g m5 c cs,R v=.ref g 0 m5 c∧m<m5∧g<V.n∧V.at g=.row sz cs∧∀j,j<sz→cs[m*sz+j]? =ys[j]?)∨∃xs nl tok x,R v=.slice xs nl tok∧xs[m]? =some x∧x.cells=ys):=by
      rcases j6 with⟨xs,nl,tok,cQ,eR,ev⟩|⟨B,g,ct,c2,cs,cQ,eR,ev,jz,k2,vY,Vs,_⟩
      ·rcases bT with⟨eH,k',bF,bZ,cB,rfl⟩|⟨nR,gq,fg,x,bZ,cB,z3,z4,rfl⟩
       ·rw[cQ]at bZ;cases bZ
       ·rw[cQ]at bZ;cases bZ;have aj:b=none:=by
         rcases ev with ev|ev
         ·subst ev;simp at cB
         ·exact ev
        refine⟨x,x.cells,eR x (lM cB),rfl,z3,(fun c3 y q k f dJ=>by rw[aj]at dJ;cases dJ),fun fl iI=> ?_,.inr ⟨xs,nl,tok,x,cQ,cB,rfl⟩⟩
        show sF agg n (x.cells.drop o)=_;have:=iI;unfold partAt at this
        rwa [A6 (wq this)]at this
      ·rcases bT with⟨eH,k',bF,bZ,cB,rfl⟩|⟨xs,nl,tok,x,bZ,_⟩
       ·rw[cQ]at bZ;cases bZ;have bz:m*sz+sz≤cs.length:=by
         have:(m+1)*sz≤ct*sz:=l_ _ cB;rw[pM]at this;omega
        have mY:((cs.drop (m*sz)).take sz).length=sz:=by rw[nm,nk];omega
        have fV:∀j,j<sz→cs[m*sz+j]? =((cs.drop (m*sz)).take sz)[j]? :=fun j aU=>by rw[wH aU,k4]
        obtain⟨a,b3,cI⟩:=XF aC mY (fun j cn a aw aA=>by
         have aU:j<sz:=by rw[←mY];exact(hn.1 aA).1
         rw[←fV j aU]at aA;refine k2 (m*sz+j) cn a ?_ aA;rw[Nat.add_comm,EG,yG aU];exact aw)
        refine⟨a,_,b3,cI,mY,(fun x y q k f dJ aI aoD=> ?_),fun fl iI=> ?_,.inl ⟨g,ct,c2,cs,cQ,cB,eR,ev,fV⟩⟩
        ·have aV:cs[m*sz+0]? =some y:=by rw[fV 0 (by omega),aI];rfl
         have:=Vs x dJ _ (vY (m*sz+0) y (by rw[pN];exact Nat.mul_mod_left _ _) aV)
         rw[aoD]at this;exact this
        ·show vp agg n (m*sz+o) (i' V g)=_;have gU:i' V g=some cs:=by unfold i';rw[ev];rfl
         rw[gU];exact aeb (by rw[mY];exact bz) (fun j aU=>fV j (by rw[mY]at aU;exact aU)) iI
       ·rw[cQ]at bZ;cases bZ
     obtain⟨a,ys,b3,cI,a3,a4,a5,wi⟩:=key;obtain⟨aL,az,ao,aX,bD⟩:=mQ t h b3 ax;obtain⟨f1,f2⟩:=Yk ax aC b3 aX bD;rw[cI]at f1;obtain⟨et,eY⟩:=Dm (n:=W1.aD) (R:=aL) ae;rw[←f1]at et;obtain⟨b',ct⟩:=aqh ao (b:=b) (l:=gm fa) f2 (fun x ad=>jC az.n (l:=x.t) (jl x ad)) (fun x dy fl k f dJ p6 iG=>by
      rw[←jK az.dq (jl x dJ)];refine a4 x (dy.ai aL) (aM aL fl) k f dJ ?_ iG;rw[f1,p6];rfl)
     have zg:l.ai aL=(m:Int):=by rw[←bd];exact(jK az.dq c2).symm
     have zw:aL v=R v:=(az.dq v bf).symm;refine⟨aL,⟨by show W.aD≤(CA b (gm fa) W1).aD;rw[ct];exact az.n,az.dq⟩,b'.Ul ?_ (.inl ⟨Re,m,zg,?_,?_⟩),by show al.bh (CA b (gm fa) W1).aD s=true;rw[ct];exact eY f2,a5 _ et⟩
     ·rw[ct];exact⟨eE bf az.n,jC az.n (l:=l.t) c2,bD⟩
     ·show sz=_;rw[←a3,f1,hp]
     ·show(∃g m5 c cs,aL v=.ref g 0 m5 c∧m<m5∧g<V.n∧V.at g=.row sz cs∧∀j,j<sz→cs[m*sz+j]? =(aM aL (gm fa))[j]?)∨∃xs nl tok x,aL v=.slice xs nl tok∧xs[m]? =some x∧x.cells=aM aL (gm fa);rw[zw,←f1];exact wi
    ·cases ak
 ·cases ak
theorem aqA (h:aW T E R G W V) (he:ch R W.aD se env) {agg:Bool} {n:Nat} {x:aG} {s:al} {W':aH} (ak:zR T se W agg n (jj se x)=some (s,W')):
  ∃aL,dk R W aL W'∧aW T E aL G W' V∧s.bh W'.aD=true∧xu agg n env V (bV x env)=some (s.ai aL):=by
 obtain⟨U,aa⟩:=mg he x;rw[KL];by_cases fY:∃v sz l o,jj se x=.kc v sz l o
 ·obtain⟨v,sz,l,o,ad⟩:=fY;rw[ad]at U aa ak;exact aqz h U aa ak
 unfold zR at ak;split at ak
 ·rename_i v sz l o ad;exact absurd ⟨v,sz,l,o,ad⟩ fY
 ·rename_i b o ad;rw[ad]at U;simp only[cZ]at U;rw[U];have aj:=he.mf b;have jl:=he.bh b;split at ak
  ·rename_i l hs;rw[hs]at aj jl;simp only[cZ]at aj;split at ak
   ·rename_i r ah;cases ak;obtain⟨et,eY⟩:=Dm (n:=W.aD) (R:=R) ah;refine⟨R,.refl _ _,h,eY jl,?_⟩;show xt agg n o (c7 env b)=_;rw[Sa,aj];exact et
   ·cases ak
  ·cases ak
 ·rename_i l ad;rw[ad]at U aa;simp only[cZ]at U;rw[U];split at ak
  ·rename_i r ah;cases ak;obtain⟨et,eY⟩:=Dm (n:=W.aD) (R:=R) ah;exact⟨R,.refl _ _,h,eY aa,et⟩
  ·cases ak
 ·rename_i v o ad;rw[ad]at U aa;simp only[cZ,al.ai]at U;obtain⟨aL,i,bd,bx,bT,dp,g9⟩:=KM h (e9 aa) ak;refine⟨aL,bd,bx,bT,?_⟩;rw[U,dp];show vp agg n (0+o) (i' V i)=_;rw[fy];exact g9
 ·rename_i v ad;rw[ad]at U aa;simp only[cZ,al.ai]at U;obtain⟨aL,i,bd,bx,bT,dp,g9⟩:=KM h (e9 aa) ak;refine⟨aL,bd,bx,bT,?_⟩;rw[U,dp];exact g9
 ·cases ak
theorem adp (h:aW T E R G W V) (he:ch R W.aD se env) {agg:Bool} {n:Nat} {x:aG} {d:Option Nat}:dt dm T E R W (xQ T agg n x d se W) (fun k=>Lo agg n x d k env V):=by
 unfold xQ;split
 ·rename_i s W' ak;obtain⟨aL,bd,bx,bT,dp⟩:=aqA h he ak;refine ke he bd bx rfl bT fun k=> ?_;show vL d k env V (xu agg n env V (bV x env))=_;rw[dp];rfl
 ·exact db
end Go.bO.cK
end
