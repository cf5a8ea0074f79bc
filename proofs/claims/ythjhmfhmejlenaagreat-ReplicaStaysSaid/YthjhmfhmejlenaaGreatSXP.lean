/- Words on what a replica keeps: numbers that rise, rows that grow. -/
import Derived.Test.YthjhmfhmejlenaaGreatSX25
import Derived.Test.YthjhmfhmejlenaaGreatSX4
set_option linter.unusedSectionVars false
set_option linter.unusedVariables false
set_option linter.unusedSimpArgs false
section
namespace Go.bO.cK
def jU:Nat:=109
def qK:Nat:=195
def numOf:ab→Int
 |.agg (x::_)=>intOf x
 |_=>0
def rE (xs:List ab) (d:Int):Prop:=(∀x∈xs,1≤numOf x∧numOf x≤d)∧xs.Pairwise fun a b=>numOf a<numOf b
def D8:List ab→Prop
 | [a,b]=>∃xs nl tok k d,a=.slice xs nl tok∧b=.int k d∧rE xs d
 |_=>False
def lI (a b:ab):Prop:=a=b∨∃xs ys nl tok gq fg,a=.slice xs nl tok∧b=.slice (xs++ys) gq fg
def VA:List ab→Prop
 | [a,b]=>lI a b
 |_=>False
def M5:List ab→Prop
 | [a,b]=>∀xs nl tok k n,a=.slice xs nl tok→b=.int k n→∀(i:Nat) x,(i:Int)<n→xs[i]? =some x→lenOf x≤65536
 |_=>False
def D9:List ab→Prop
 | [a,b]=>∃xs nl tok gq fg,a=.slice xs nl tok∧b=.slice xs gq fg
 |_=>False
def hg (cs:List ab) (o:Nat):ab:=(cs[o]?).getD .top
def D_:List ab→Prop
 | [.agg cs]=>D8 [hg cs 9,hg cs 8]∧0≤intOf (hg cs 8)∧intOf (hg cs 14)≤intOf (hg cs 8)∧lenOf (hg cs 10)≤lenOf (hg cs 9)∧lenOf (hg cs 20)≤intOf (hg cs 8)
 |_=>False
def D':List ab→Prop
 | [.agg o,.agg n]=>(intOf (hg o 8)≤intOf (hg n 8)∧intOf (hg o 14)≤intOf (hg n 14))∧lI (hg o 9) (hg n 9)∧hg o 6=hg n 6
 |_=>False
def Ea:List ab→Prop
 | [.agg o,.agg n]=>intOf (hg o 0)≤intOf (hg n 0)∧intOf (hg o 1)≤intOf (hg n 1)
 |_=>False
def gk (k:Nat) (as:List ab):Prop:=(k=120∧D8 as)∨(k=122∧VA as)∨(k=125∧M5 as)∨(k=hY jU∧D_ as)∨(k=iu jU∧D' as)∨k=hY qK∨(k=iu qK∧Ea as)∨(k=126∧D9 as)
def TD (W:aH):List al→Bool
 | [.x v,n]=>match gD n with
  |some (_,l)=>geq W l.neg||W.b2.any fun p=>match p with
   |(125,[.x w,m])=>Nat.beq v w&&(match gD m with
    |some (_,c_)=>pT c_ (l.dO (.negSucc 0))&&W.b2.any fun q=>match q with
     |(0,[.x w',.i _ dV,.x e])=>Nat.beq v w'&&(pT dV c_&&geq W ((gg W e).neg.dO (.ofNat 65536)))
     |_=>false
    |none=>false)
   |_=>false
  |none=>false
 |_=>false
def QP (W:aH):List al→List Lit
 | [.x v,.i _ l,.x e]=>bif W.b2.any fun p=>match p with
   |(125,[.x w,m])=>Nat.beq v w&&(match gD m with
    |some (_,c_)=>geq W ((c_.sub l).dO (.negSucc 0))
    |none=>false)
   |_=>false
  then [.ge ((gg W e).neg.dO (.ofNat 65536))]else []
 |_=>[]
def kn (l:List al) (o:Nat):Option bn:=match fk l o with
 |some s=>match gD s with
  |some (_,x)=>some x
  |none=>none
 |none=>none
def PE (W:aH) (l:List al) (a b:Nat):Bool:=match kn l a,kn l b with
 |some x,some y=>geq W (x.sub y)
 |_,_=>false
def lZ (W:aH) (l:List al) (o:Nat):Option bn:=match fk l o with
 |some s=>match yk W s with
  |some l=>some l
  |none=>AO W s
 |none=>none
def Cp:al→Bool
 |.k (.slice [] _ _)=>true
 |_=>false
def Gb (v:Nat):Option al→Bool
 |some (.x w)=>Nat.beq v w
 |_=>false
def x1 (v:Nat) (ok:bn→Bool):List (Nat × List al)→Bool
 | []=>false
 |(k,[.agg l])::r=>(Nat.beq k (hY jU)&&(Gb v (fk l 9)&&(match kn l 8 with
  |some x=>ok x
  |none=>false)))||x1 v ok r
 |(120,[.x w,d])::r=>(Nat.beq v w&&(match gD d with
  |some (_,l)=>ok l
  |none=>false))||x1 v ok r
 |_::r=>x1 v ok r
def LI (W:aH) (s d:al):Bool:=match gD d with
  |some (_,d)=>match s with
   |.x v=>x1 v (fun eh=>geq W (d.sub eh)) W.b2||(match w1 v W.b2 with
    |some (b,[.agg (num::_)])=>match gD num with
     |some (_,n)=>geq W (d.sub n)&&(match b with
      |.x u=>x1 u (fun eh=>geq W ((n.sub eh).dO (.negSucc 0))&&geq W eh) W.b2
      |b=>Cp b&&geq W (n.dO (.negSucc 0)))
     |none=>false
    |_=>false)
   |s=>Cp s
  |none=>false
def uz (b:al):List (Nat × List al)→Option al
 | []=>none
 |(1,[x,c,_])::r=>bif h5 fuel x b then some c else uz b r
 |(122,[c,x])::r=>bif h5 fuel x b&& !h5 fuel c b then some c else uz b r
 |(k,[.agg o,.agg n])::r=>match fk o 9,fk n 9 with
  |some x,some y=>bif Nat.beq k (iu jU)&&(h5 fuel y b&& !h5 fuel x b)then some x else uz b r
  |_,_=>uz b r
 |_::r=>uz b r
def RE (W:aH):al→Bool
 |.k (.slice [] _ _)=>true
 |.x u=>geq W (gg W u).neg
 |_=>false
def tg (W:aH) (v:Nat):List (Nat × List al)→Option Nat
 | []=>none
 |(1,[.x w,c,.x u])::r=>bif Nat.beq v w&&RE W c then some u else tg W v r
 |(126,[.x w,.x u])::r=>bif Nat.beq v w then some u else tg W v r
 |_::r=>tg W v r
def W4 (W:aH):al→Option Nat
 |.x v=>tg W v W.b2
 |_=>none
def Cr (W:aH):al→Bool
 |.x v=>match W.df v with
  |.bN _ _ _=>true
  |_=>false
 |_=>false
def xT (W:aH):Nat→al→al→Bool
 |0,_,_=>false
 |f+1,a,b=>h5 fuel a b||((Cp a&&Cr W b)||((match uz b W.b2 with
  |some c=>xT W f a c
  |none=>false)||(match W4 W a with
  |some u=>xT W f (.x u) b
  |none=>false)))
def Ue (W:aH) (s:Nat):al→Bool
 |.x u=>match tg W s W.b2 with
  |some w=>Nat.beq u w
  |none=>false
 |_=>false
def TE (W:aH):al→al→Bool
 |.k (.slice [] _ _),.x u=>Cr W (.x u)&&(geq W (gg W u).neg||holds W (.nl u true))
 |.x s,b=>Ue W s b||W.b2.any fun p=>match p with
  |(13,[.x w,.x S3,m2,h])=>Nat.beq s w&&(match gD m2,gD h,lZ W [b] 0 with
   |some (_,m2),some (_,h),some n=>(geq W m2.neg&&geq W m2)&&((geq W (h.sub n)&&geq W (n.sub h))&&(xT W 12 b (.x S3)||(match tg W S3 W.b2 with
    |some u=>xT W 12 b (.x u)
    |none=>false)))
   |_,_,_=>false)
  |_=>false
 |_,_=>false
def qJ (v:Nat):List (Nat × List al)→List bn
 | []=>[]
 |(k,[.agg l])::r=>match kn l 8 with
  |some x=>bif Nat.beq k (hY jU)&&Gb v (fk l 9)then x::qJ v r else qJ v r
  |none=>qJ v r
 |(120,[.x w,d])::r=>match gD d with
  |some (_,l)=>bif Nat.beq v w then l::qJ v r else qJ v r
  |none=>qJ v r
 |_::r=>qJ v r
def Wx (W:aH) (v:Nat):List bn:=qJ v W.b2++(match tg W v W.b2 with
 |some u=>qJ u W.b2
 |none=>[])
def Le:al→Option bn
 |.agg (x::_)=>match gD x with
  |some (_,l)=>some l
  |none=>none
 |_=>none
def others (W:aH) (v:Nat) (l n:bn):List (Nat × List al)→List Lit
 | []=>[]
 |(0,[.x w,.i _ dV,aN])::r=>match Le aN with
  |some ct=>bif Nat.beq v w then(bif geq W ((l.sub dV).dO (.negSucc 0))then .ge ((n.sub ct).dO (.negSucc 0))::others W v l n r else bif geq W ((dV.sub l).dO (.negSucc 0))then .ge ((ct.sub n).dO (.negSucc 0))::others W v l n r else others W v l n r)else others W v l n r
  |none=>others W v l n r
 |_::r=>others W v l n r
def QS (W:aH):List al→List Lit
 | [.x v,.i _ l,e]=>match Le e with
  |some n=>match Wx W v with
   | []=>[]
   |d::ds=>.ge (n.dO (.negSucc 0))::(((d::ds).map fun d=>.ge (d.sub n))++others W v l n W.b2)
  |none=>[]
 |_=>[]
def yT:List al→List al→List Lit
 |a::x,b::y=>match gD a,gD b with
  |some (_,l),some (_,m)=>.ge (l.sub m)::.ge (m.sub l)::yT x y
  |_,_=>yT x y
 |_,_=>[]
def wW (u:Nat) (l:bn) (e:List al):List (Nat × List al)→List Lit
 | []=>[]
 |(0,[.x w,.i _ dV,.agg aN])::r=>bif Nat.beq u w&&pT l dV then yT e aN++wW u l e r else wW u l e r
 |_::r=>wW u l e r
def wX (W:aH) (v:Nat) (l:bn) (e:List al):List (Nat × List al)→List Lit
 | []=>[]
 |(126,[.x a,.x b])::r=>bif Nat.beq v a then wW b l e W.b2++wX W v l e r else bif Nat.beq v b then wW a l e W.b2++wX W v l e r else wX W v l e r
 |_::r=>wX W v l e r
def QR (W:aH):List al→List Lit
 | [.x v,.i _ l,.agg e]=>wX W v l e W.b2
 |_=>[]
def Cz (W:aH) (o n:List al) (k:Nat):Bool:=match kn o k,kn n k with
 |some x,some y=>geq W (y.sub x)
 |_,_=>false
def TF (W:aH):List al→Bool
 | [.agg l]=>(match fk l 9,fk l 8 with
  |some s,some d=>LI W s d
  |_,_=>false)&&((match kn l 8 with
  |some x=>geq W x&&(match lZ W l 20 with
   |some a=>geq W (x.sub a)
   |none=>false)
  |none=>false)&&(PE W l 8 14&&(match lZ W l 9,lZ W l 10 with
  |some a,some b=>geq W (a.sub b)
  |_,_=>false)))
 |_=>false
def Ui (a b:Option al):Bool:=match a,b with
 |some x,some y=>h5 fuel x y
 |_,_=>false
def TG (W:aH):List al→Bool
 | [.agg o,.agg n]=>(Cz W o n 8&&Cz W o n 14)&&((match fk o 9,fk n 9 with
  |some x,some y=>xT W 12 x y
  |_,_=>false)&&Ui (fk o 6) (fk n 6))
 |_=>false
def TI (W:aH):List al→Bool
 | [.agg o,.agg n]=>Cz W o n 0&&Cz W o n 1
 |_=>false
def qn (a b:Option bn):List Lit:=match a,b with
 |some x,some y=>[.ge (x.sub y)]
 |_,_=>[]
def QT (W:aH):List al→List Lit
 | [.agg l]=>qn (kn l 8) (kn l 14)++(qn (lZ W l 9) (lZ W l 10)++(qn (kn l 8) (lZ W l 9)++qn (kn l 8) (lZ W l 20)))
 |_=>[]
def y5 (W:aH) (o:al) (n:Option bn):List (Nat × List al)→List Lit
 | []=>[]
 |(122,[c,x])::r=>bif h5 fuel x o then qn n (lZ W [c] 0)++y5 W o n r else y5 W o n r
 |_::r=>y5 W o n r
def QU (W:aH):List al→List Lit
 | [.agg o,.agg n]=>qn (kn n 8) (kn o 8)++(qn (kn n 14) (kn o 14)++(match fk o 9 with
  |some x=>y5 W x (lZ W n 9) W.b2
  |none=>[]))
 |_=>[]
def QQ (W:aH):List al→List Lit
 | [a,b]=>qn (lZ W [a] 0) (lZ W [b] 0)++qn (lZ W [b] 0) (lZ W [a] 0)
 |_=>[]
def QW:List al→List Lit
 | [.agg o,.agg n]=>qn (kn n 0) (kn o 0)++qn (kn n 1) (kn o 1)
 |_=>[]
def TH (W:aH) (k:Nat) (l:List al):Bool:=match k with
 |120=>match l with
  | [a,b]=>LI W a b
  |_=>false
 |122=>match l with
  | [a,b]=>xT W 12 a b
  |_=>false
 |125=>TD W l
 |126=>match l with
  | [a,b]=>TE W a b
  |_=>false
 |k=>bif Nat.beq k (hY jU)then TF W l else bif Nat.beq k (iu jU)then TG W l else bif Nat.beq k (hY qK)then true else bif Nat.beq k (iu qK)then TI W l else false
def QV (W:aH) (k:Nat) (l:List al):List Lit:=match k with
 |0=>QP W l++(QS W l++QR W l)
 |126=>QQ W l
 |k=>bif Nat.beq k (hY jU)then QT W l else bif Nat.beq k (iu jU)then QU W l else bif Nat.beq k (iu qK)then QW l else []
def apL (c:Nat):Bool:=Nat.beq c jU||Nat.beq c qK
def L2 (D:Nat→bb) (K:Nat→pD) (c:Nat):pD:=bif Nat.blt c 100000000 then K c else .row (fH (iT (D (Nat.mod (Nat.sub c 100000000) 4294967296)))) (Nat.mod (Nat.sub c 100000000) 4294967296) (Nat.div (Nat.sub c 100000000) 4294967296)
def Pw (c:Nat):List Nat:=bif Nat.beq c jU then [6]else []
def zT (D:Nat→bb) (K:Nat→pD) (E:Nat→bb):bG:=⟨D,L2 D K,E,gk,TH,QV,apL,Pw⟩
section
variable {T:bG} (cN:T.bA=gk) {G:Nat→cR} {R:cj} {W:aH}
theorem lC {k:Nat} (aq:100≤k) {as:List ab} (h:eu T k as) (cN:T.bA=gk):gk k as:=by
 rcases h with h|h
 ·cases h<;>omega
 ·rw[←cN];exact h
theorem Qw {k:Nat} {as:List ab} (h:gk k as):100≤k:=by
 rcases h with⟨h,_⟩|⟨h,_⟩|⟨h,_⟩|⟨h,_⟩|⟨h,_⟩|h|⟨h,_⟩|⟨h,_⟩<;>subst h<;>decide
theorem vq {k:Nat} (aq:k<100) {as:List ab} (h:eu T k as) (cN:T.bA=gk):gQ k as:=by
 rcases h with h|h
 ·exact h
 ·rw[cN]at h;have:=Qw h;omega
theorem ae5 (D:Nat→bb) (K:Nat→pD) (k n:Nat) (aq:k<4294967296):L2 D K (vM k n)=.row (fH (iT (D k))) k n:=by
 have e1:vM k n=100000000+(n*4294967296+k):=rfl;have aN:Nat.blt (vM k n) 100000000=false:=by
  cases aj:Nat.blt (vM k n) 100000000 with
  |false=>rfl
  |true=>have:=e9 aj;omega
 have bL:Nat.sub (vM k n) 100000000=n*4294967296+k:=by rw[e1];show 100000000+(n*4294967296+k)-100000000=_;omega
 unfold L2;rw[aN,bL];have eB:Nat.mod (n*4294967296+k) 4294967296=k:=by show(n*4294967296+k)%4294967296=k;omega
 have ji:Nat.div (n*4294967296+k) 4294967296=n:=by show(n*4294967296+k)/4294967296=n;omega
 rw[eB,ji];rfl
def VD:bG:=⟨fun _=>.bool,L2 (fun _=>.bool) (fun _=>.none),fun _=>.bool,gk,fun _ _ _=>false,fun _ _ _=>[],fun _=>false,fun _=>[]⟩
instance:e8 VD where
 low:=fun k as aq h=>by have:=Qw h;omega
 pw:=fun _ h=>by cases h
 xi:=fun _ _ f ax=>by cases ax
 row:=fun k n aq=>ae5 (fun _=>.bool) (fun _=>.none) k n aq
 zH:=fun c _ h=>by cases h
 refl:=fun c cs h=>by cases h
 trans:=fun c a b d h=>by cases h
 fix:=fun c j o n h=>by cases h
theorem als (cN:T.bA=gk) {v:Nat} {b:al} {ys:List al} {br:List (Nat × List al)} (ae:∀p∈br,eu T p.1 (aM R p.2)) (h:w1 v br=some (b,ys)):gQ 1 [R v,b.ai R,.slice (aM R ys) false none]∧∃p∈br,b∈p.2∧.bN ys∈p.2:=
 Ps (T:=VD) (fun p aB=>(ae p aB).imp id fun h=>by rw[cN]at h;exact h) h
theorem ae_ {as:List ab} (h:gk 120 as):D8 as:=by
 rcases h with⟨_,h⟩|⟨h,_⟩|⟨h,_⟩|⟨h,_⟩|⟨h,_⟩|h|⟨h,_⟩|⟨h,_⟩
 ·exact h
 all_goals exact absurd h (by decide)
theorem ae' {as:List ab} (h:gk 122 as):VA as:=by
 rcases h with⟨h,_⟩|⟨_,h⟩|⟨h,_⟩|⟨h,_⟩|⟨h,_⟩|h|⟨h,_⟩|⟨h,_⟩
 ·exact absurd h (by decide)
 ·exact h
 all_goals exact absurd h (by decide)
theorem afa {as:List ab} (h:gk 125 as):M5 as:=by
 rcases h with⟨h,_⟩|⟨h,_⟩|⟨_,h⟩|⟨h,_⟩|⟨h,_⟩|h|⟨h,_⟩|⟨h,_⟩
 ·exact absurd h (by decide)
 ·exact absurd h (by decide)
 ·exact h
 all_goals exact absurd h (by decide)
theorem T9 {as:List ab} (h:gk (hY jU) as):D_ as:=by
 rcases h with⟨h,_⟩|⟨h,_⟩|⟨h,_⟩|⟨_,h⟩|⟨h,_⟩|h|⟨h,_⟩|⟨h,_⟩
 ·exact absurd h (by decide)
 ·exact absurd h (by decide)
 ·exact absurd h (by decide)
 ·exact h
 all_goals exact absurd h (by decide)
theorem Hj {as:List ab} (h:gk (iu jU) as):D' as:=by
 rcases h with⟨h,_⟩|⟨h,_⟩|⟨h,_⟩|⟨h,_⟩|⟨_,h⟩|h|⟨h,_⟩|⟨h,_⟩
 ·exact absurd h (by decide)
 ·exact absurd h (by decide)
 ·exact absurd h (by decide)
 ·exact absurd h (by decide)
 ·exact h
 all_goals exact absurd h (by decide)
theorem T_ {as:List ab} (h:gk (iu qK) as):Ea as:=by
 rcases h with⟨h,_⟩|⟨h,_⟩|⟨h,_⟩|⟨h,_⟩|⟨h,_⟩|h|⟨_,h⟩|⟨h,_⟩
 ·exact absurd h (by decide)
 ·exact absurd h (by decide)
 ·exact absurd h (by decide)
 ·exact absurd h (by decide)
 ·exact absurd h (by decide)
 ·exact absurd h (by decide)
 ·exact h
 ·exact absurd h (by decide)
theorem T8 {as:List ab} (h:gk 126 as):D9 as:=by
 rcases h with⟨h,_⟩|⟨h,_⟩|⟨h,_⟩|⟨h,_⟩|⟨h,_⟩|h|⟨h,_⟩|⟨_,h⟩
 ·exact absurd h (by decide)
 ·exact absurd h (by decide)
 ·exact absurd h (by decide)
 ·exact absurd h (by decide)
 ·exact absurd h (by decide)
 ·exact absurd h (by decide)
 ·exact absurd h (by decide)
 ·exact h
theorem pQ {l:List al} {o:Nat} {s:al} (h:fk l o=some s):hg (aM R l) o=s.ai R:=by
 rw[j_]at h;unfold hg;rw[mj h];rfl
theorem Nx {l:List al} {o:Nat} {x:bn} (h:kn l o=some x):∃k,hg (aM R l) o=.int k (x.ai R):=by
 unfold kn at h;split at h
 ·rename_i s hs;split at h
  ·rename_i k y aI;cases h;exact⟨k,by rw[pQ hs,(gP (R:=R) aI).1]⟩
  ·cases h
 ·cases h
theorem l8 {l:List al} {o:Nat} {x:bn} (h:kn l o=some x):intOf (hg (aM R l) o)=x.ai R:=by
 obtain⟨k,h⟩:=Nx (R:=R) h;rw[h];rfl
theorem aqp {s:al} {x:bn} (bY:Ok T G R W) (h:yk W s=some x):x.ai R=lenOf (s.ai R):=by
 unfold yk at h;split at h
 ·rename_i v;split at h
  ·cases h;exact h9 bY v
  ·cases h
 ·cases h;rw[wZ,hl];simp[al.ai,lenOf,hO]
 ·cases h;rw[wZ,hl];rfl
 ·cases h
theorem vn (bY:Ok T G R W) {l:List al} {o:Nat} {x:bn} (h:lZ W l o=some x):x.ai R=lenOf (hg (aM R l) o):=by
 unfold lZ at h;split at h
 ·rename_i s hs;rw[pQ hs];split at h
  ·rename_i y aI;cases h;exact aqp bY aI
  ·unfold AO at h;split at h
   ·split at h
    ·cases h;exact h9 bY _
    ·cases h;exact h9 bY _
    ·cases h
   ·cases h
 ·cases h
theorem T0 (cN:T.bA=gk) {v:Nat} {ok:bn→Bool}:∀{br:List (Nat × List al)},(∀p∈br,eu T p.1 (aM R p.2))→x1 v ok br=true→∃xs nl tok d,R v=.slice xs nl tok∧rE xs (d.ai R)∧ok d=true
 | [],_,h=>by cases h
 |p::r,ae,h=>by
  have rest:x1 v ok r=true→∃xs nl tok d,R v=.slice xs nl tok∧rE xs (d.ai R)∧ok d=true:=T0 cN (fun q aB=>ae q (cv _ aB));have aV:=ae p (cz ..);unfold x1 at h;split at h
  ·rename_i he;cases he
  ·rename_i k l fl he;cases he;rcases g1 _ _|>.mp h with h|h
   ·obtain⟨U,aa⟩:=a6 h;obtain⟨aa,au⟩:=a6 aa;have:=b5 U;subst this;have a1:=T9 (lC (T:=T) (by decide) aV cN)
    simp only[aM,al.ai]at a1;obtain⟨⟨xs,nl,tok,k,d,e1,aN,bL⟩,_⟩:=a1;split at au
    ·rename_i x ad;obtain⟨ao,eB⟩:=Nx (R:=R) ad;rw[eB]at aN;cases aN;refine⟨xs,nl,tok,x,?_,bL,au⟩;unfold Gb at aa;split at aa
     ·rename_i w hw;have:=b5 aa;subst this;rw[pQ hw]at e1;exact e1
     ·cases aa
    ·cases au
   ·exact rest h
  ·rename_i w d fl he;cases he;rcases g1 _ _|>.mp h with h|h
   ·obtain⟨U,aa⟩:=a6 h;have:=b5 U;subst this;have a1:=ae_ (lC (T:=T) (by decide) aV cN)
    obtain⟨xs,nl,tok,k,uI,e1,aN,bL⟩:=a1;simp only[al.ai]at e1;split at aa
    ·rename_i ao x ad;rw[(gP (R:=R) ad).1]at aN;cases aN;exact⟨xs,nl,tok,x,e1,bL,aa⟩
    ·cases aa
   ·exact rest h
  ·rename_i q fl _ _ he;cases he;exact rest h
theorem aeq (cN:T.bA=gk) (bY:Ok T G R W) {s d:al} (h:LI W s d=true):D8 [s.ai R,d.ai R]:=by
 unfold LI at h;split at h
 ·rename_i k uI aQ;obtain⟨e1,_⟩:=gP (R:=R) aQ;split at h
  ·rename_i v;rcases g1 _ _|>.mp h with h|h
   ·obtain⟨xs,nl,tok,x,bg,bl,bS⟩:=T0 cN bY.b2 h;have bS:=dE bY bS;rw[eG]at bS;exact⟨xs,nl,tok,k,_,bg,e1,fun y aI=>⟨(bl.1 y aI).1,by have:=(bl.1 y aI).2;omega⟩,bl.2⟩
   ·split at h
    ·rename_i b num afb hq;obtain⟨jZ,_⟩:=als cN bY.b2 hq;obtain⟨us,ws,_,_,_,_,_,_,cc,b4,dP⟩:=Ir jZ;simp only[aM,al.ai,ab.slice.injEq]at dP;have Rk:ws=[.agg (num.ai R::aM R afb)]:=dP.1.symm;split at h
     ·rename_i ao n aK;obtain⟨aN,_⟩:=gP (R:=R) aK;obtain⟨U,aa⟩:=a6 h;have U:=dE bY U;rw[eG]at U;have Zj:numOf (.agg (num.ai R::aM R afb))=n.ai R:=by simp only[numOf,aN,intOf]
      have key:rE us (n.ai R-1)→1≤n.ai R→D8 [R v,d.ai R]:=by
       intro hu avK;refine⟨_,_,_,k,_,cc,e1,?_,?_⟩
       ·intro y aI;rcases fu.1 aI with aI|aI
        ·have:=hu.1 y aI;exact⟨this.1,by omega⟩
        ·rw[Rk]at aI;rw[iS.1 aI,Zj];omega
       ·refine rH.2 ⟨hu.2,by rw[Rk];exact List.pairwise_singleton ..,fun a aA b aj=> ?_⟩
        rw[Rk]at aj;rw[iS.1 aj,Zj];have:=(hu.1 a aA).2;omega
      split at aa
      ·rename_i u;obtain⟨xs,nl,tok,x,bg,bl,bS⟩:=T0 cN bY.b2 aa;obtain⟨bS,cP⟩:=a6 bS;have bS:=dE bY bS;have cP:=dE bY cP;rw[fe,eG]at bS;have cE:Int.negSucc 0= -1:=rfl;rw[cE]at bS;simp only[al.ai]at b4;rw[bg]at b4;cases b4;exact key ⟨fun y aI=>⟨(bl.1 y aI).1,by have:=(bl.1 y aI).2;omega⟩,bl.2⟩ (by omega)
      ·rename_i b _;obtain⟨au,ba⟩:=a6 aa;have ba:=dE bY ba;rw[fe]at ba;have cE:Int.negSucc 0= -1:=rfl;rw[cE]at ba;unfold Cp at au;split at au
       ·simp only[al.ai,ab.slice.injEq]at b4;rw[←b4.1]at cc;rw[←b4.1]at key;exact key ⟨(fun y aI=>by cases aI),.nil⟩ (by omega)
       ·cases au
     ·cases h
    ·cases h
  ·rename_i fa _;unfold Cp at h;split at h
   ·exact⟨[],_,_,k,_,rfl,e1,(fun y aI=>by cases aI),.nil⟩
   ·cases h
 ·cases h
theorem lI.refl (a:ab):lI a a:=.inl rfl
theorem lI.trans {a b c:ab} (h:lI a b) (k:lI b c):lI a c:=by
 rcases h with rfl|⟨xs,ys,nl,tok,gq,fg,rfl,rfl⟩
 ·exact k
 ·rcases k with rfl|⟨us,vs,sB,AQ,arl,au3,U,rfl⟩
  ·exact .inr ⟨xs,ys,nl,tok,gq,fg,rfl,rfl⟩
  ·simp only[ab.slice.injEq]at U;rw[←U.1];exact .inr ⟨xs,ys++vs,nl,tok,arl,au3,rfl,by rw[pL]⟩
theorem Wd (cN:T.bA=gk) {b c:al}:∀{br:List (Nat × List al)},(∀p∈br,eu T p.1 (aM R p.2))→uz b br=some c→lI (c.ai R) (b.ai R)
 | [],_,h=>by cases h
 |p::r,ae,h=>by
  have rest:uz b r=some c→lI (c.ai R) (b.ai R):=Wd cN (fun q aB=>ae q (cv _ aB));have aV:=ae p (cz ..);unfold uz at h;split at h
  ·rename_i he;cases he
  ·rename_i x bF y fl he;cases he;cases aj:h5 fuel x b with
   |true=>
    rw[aj]at h;cases h;have ad:=o2 aj;have jZ:=vq (T:=T) (show 1<100 by decide) aV cN
    simp only[aM]at jZ;obtain⟨us,ws,_,_,_,_,_,_,cc,b4,dP⟩:=Ir jZ;rw[←ad,cc,b4];exact .inr ⟨us,ws,_,_,_,_,rfl,rfl⟩
   |false=>rw[aj]at h;exact rest h
  ·rename_i bF x fl he;cases he;cases aj:h5 fuel x b&& !h5 fuel bF b with
   |true=>
    rw[aj]at h;cases h;obtain⟨U,_⟩:=a6 aj;have ad:=o2 U;have:=ae' (lC (T:=T) (by decide) aV cN)
    rw[←ad];exact this
   |false=>rw[aj]at h;exact rest h
  ·rename_i fl k o n _ _ he;cases he;split at h
   ·rename_i x y ad aI;cases aj:Nat.beq k (iu jU)&&(h5 fuel y b&& !h5 fuel x b)with
    |true=>
     rw[aj]at h;cases h;obtain⟨U,aa⟩:=a6 aj;obtain⟨aa,_⟩:=a6 aa;have:=b5 U;subst this;have vf:=o2 aa;have a1:=Hj (lC (T:=T) (by decide) aV cN)
     simp only[aM,al.ai]at a1;have:=a1.2.1;rw[pQ ad,pQ aI]at this;rw[←vf];exact this
    |false=>rw[aj]at h;exact rest h
   ·exact rest h
  ·rename_i he;cases he;exact rest h
theorem ao4 (bY:Ok T G R W) {b:al} (h:Cr W b=true):∃xs nl tok,b.ai R=.slice xs nl tok:=by
 unfold Cr at h;split at h
 ·rename_i v;have aw:=bY.ty v;split at h
  ·rename_i t lo hi cY;rw[cY]at aw;show∃xs nl tok,R v=.slice xs nl tok;generalize R v=a at aw;cases aw with
   |bN _ _ _ xs nl tok=>exact⟨xs,nl,tok,rfl⟩
  ·cases h
 ·cases h
theorem ao3 (bY:Ok T G R W) {b:al} (h:Cr W b=true):∃xs nl tok,b.ai R=.slice xs nl tok∧(nl=true→xs=[]):=by
 unfold Cr at h;split at h
 ·rename_i v;have aw:=bY.ty v;split at h
  ·rename_i t lo hi cY;rw[cY]at aw;show∃xs nl tok,R v=.slice xs nl tok∧(nl=true→xs=[]);generalize R v=a at aw;cases aw with
   |bN _ _ _ xs nl tok _ _ aK=>exact⟨xs,nl,tok,rfl,aK⟩
  ·cases h
 ·cases h
theorem ET (cN:T.bA=gk) (bY:Ok T G R W) {v u:Nat}:∀{br:List (Nat × List al)},(∀p∈br,eu T p.1 (aM R p.2))→tg W v br=some u→∃ys nl tok gq fg,R v=.slice ys nl tok∧R u=.slice ys gq fg
 | [],_,h=>by cases h
 |p::r,ae,h=>by
  have rest:tg W v r=some u→∃ys nl tok gq fg,R v=.slice ys nl tok∧R u=.slice ys gq fg:=ET cN bY (fun q aB=>ae q (cv _ aB));have aV:=ae p (cz ..);unfold tg at h;split at h
  ·rename_i he;cases he
  ·rename_i w c pA fl he;cases he;cases aj:Nat.beq v w&&RE W c with
   |false=>rw[aj]at h;exact rest h
   |true=>
    rw[aj]at h;cases h;obtain⟨U,aa⟩:=a6 aj;have:=b5 U;subst this;obtain⟨xs,ys,n,gI,Gz,t,cn,DN,e1,aN,bL⟩:=Ir (vq (T:=T) (show 1<100 by decide) aV cN)
    simp only[al.ai]at e1 bL;have ad:xs=[]:=by
     unfold RE at aa;split at aa
     ·simp only[al.ai]at aN;cases aN;rfl
     ·rename_i w;have:=dE bY aa;rw[hV,h9 bY w]at this;simp only[al.ai]at aN;rw[aN]at this;simp only[lenOf]at this;exact rJ (by omega)
     ·cases aa
    subst ad;exact⟨ys,_,_,_,_,e1,bL⟩
  ·rename_i w pA fl he;cases he;cases aj:Nat.beq v w with
   |false=>rw[aj]at h;exact rest h
   |true=>
    rw[aj]at h;cases h;have:=b5 aj;subst this;obtain⟨xs,nl,tok,gq,fg,e1,aN⟩:=T8 (lC (T:=T) (by decide) aV cN)
    exact⟨xs,nl,tok,gq,fg,e1,aN⟩
  ·rename_i he;cases he;exact rest h
theorem Dr (cN:T.bA=gk) (bY:Ok T G R W):∀{f:Nat} {a b:al},xT W f a b=true→lI (a.ai R) (b.ai R)
 |0,a,b,h=>by cases h
 |f+1,a,b,h=>by
  simp only[xT]at h;rcases g1 _ _|>.mp h with h|h
  ·rw[o2 h];exact .refl _
  rcases g1 _ _|>.mp h with h|h
  ·obtain⟨U,aa⟩:=a6 h;obtain⟨xs,nl,tok,e⟩:=ao4 bY aa;rw[e];unfold Cp at U;split at U
   ·exact .inr ⟨[],xs,_,_,_,_,rfl,rfl⟩
   ·cases U
  rcases g1 _ _|>.mp h with h|h
  ·split at h
   ·rename_i c af;exact(Dr cN bY h).trans (Wd cN bY.b2 af)
   ·cases h
  ·split at h
   ·rename_i u hu;have bm:=Dr cN bY h;unfold W4 at hu;split at hu
    ·rename_i v;obtain⟨ys,nl,tok,gq,fg,e1,aN⟩:=ET cN bY bY.b2 hu;refine lI.trans (b:=R u) ?_ bm;simp only[al.ai];rw[e1,aN];exact .inr ⟨ys,[],_,_,_,_,rfl,by rw[wB]⟩
    ·cases hu
   ·cases h
theorem CC (bY:Ok T G R W) {s:al} {x:bn} (h:lZ W [s] 0=some x):x.ai R=lenOf (s.ai R):=vn bY h
theorem atf (cN:T.bA=gk) (bY:Ok T G R W) {s:Nat} {b:al} (h:Ue W s b=true):D9 [R s,b.ai R]:=by
 unfold Ue at h;split at h
 ·split at h
  ·rename_i w hw;have:=b5 h;subst this;obtain⟨ys,nl,tok,gq,fg,e1,aN⟩:=ET cN bY bY.b2 hw;exact⟨ys,nl,tok,gq,fg,e1,aN⟩
  ·cases h
 ·cases h
theorem asm (cN:T.bA=gk) (bY:Ok T G R W) {a b:al} (h:TE W a b=true):D9 [a.ai R,b.ai R]:=by
 unfold TE at h;split at h
 ·rename_i nl tok u;obtain⟨U,aa⟩:=a6 h;obtain⟨xs,gq,fg,e,aK⟩:=ao3 bY U;have e:R u=.slice xs gq fg:=e;have ad:xs=[]:=by
   rcases g1 _ _|>.mp aa with aa|aa
   ·have aa:=dE bY aa;rw[hV,h9 bY u,e]at aa;simp only[lenOf]at aa;exact rJ (by omega)
   ·have aa:=va bY aa;have aa:(pj (R u)==true)=true:=aa;rw[e]at aa;exact aK (by simpa[pj]using aa)
  subst ad;exact⟨[],nl,tok,gq,fg,rfl,e⟩
 ·rename_i s;rcases g1 _ _|>.mp h with af|af
  ·exact atf cN bY af
  clear h;obtain⟨p,ae,h⟩:=h4.1 af;have aV:=bY.b2 p ae;split at h
  ·rename_i w S3 m2 aF;obtain⟨hw,aB⟩:=a6 h;have:=b5 hw;subst this;clear h hw;split at aB
   ·rename_i az ep ao dV n e1 aN bL;obtain⟨an7,an8⟩:=a6 aB;obtain⟨aa,au⟩:=a6 an7;obtain⟨zp,zq⟩:=a6 an8;obtain⟨ba,cb⟩:=a6 zp;have aa:=dE bY aa;have au:=dE bY au;have ba:=dE bY ba;have cb:=dE bY cb;rw[hV]at aa;rw[eG,CC bY bL]at ba cb;obtain⟨bg,_⟩:=gP (R:=R) e1;obtain⟨bl,_⟩:=gP (R:=R) aN;have jZ:=vq (T:=T) (show 13<100 by decide) aV cN
    simp only[aM,al.ai,bg,bl]at jZ;have key:∀{x y:ab} {l m:Int},gQ 13 [x,y,.int az l,.int ao m]→l=0→∃(xs:List ab) (nl gq:Bool) (tok fg:Option Nat) (b:Nat),x=.slice (xs.take b) gq fg∧y=.slice xs nl tok∧m=b:=by
     intro x y l m ad ak;cases ad with
     |cut xs nl gq tok fg _ _ a b=>
      have aA:a=0:=by omega
      subst aA;exact⟨xs,nl,gq,tok,fg,b,by rw[IE],rfl,rfl⟩
    obtain⟨xs,nl,gq,tok,fg,uA,eB,ji,wR⟩:=key jZ (by omega)
    have r8:lI (b.ai R) (.slice xs nl tok)∨∃sB AQ,lI (b.ai R) (.slice xs sB AQ):=by
     rcases g1 _ _|>.mp zq with zq|zq
     ·have:=Dr cN bY zq;simp only[al.ai]at this;rw[ji]at this;exact .inl this
     ·split at zq
      ·rename_i u hu;obtain⟨ys,b',t1,ct,t2,f1,f2⟩:=ET cN bY bY.b2 hu;rw[ji]at f1;cases f1;have:=Dr cN bY zq;simp only[al.ai]at this;rw[f2]at this;exact .inr ⟨_,_,this⟩
      ·cases zq
    have r8:∃sB AQ,lI (b.ai R) (.slice xs sB AQ):=r8.elim (fun h=>⟨_,_,h⟩) id;obtain⟨sB,AQ,r8⟩:=r8;show D9 [R s,b.ai R];rw[eB];rcases r8 with r8|⟨ys,fm,b',t1,ct,t2,f1,f2⟩
    ·rw[r8]at ba cb⊢;simp only[lenOf]at ba cb;refine⟨xs,gq,fg,sB,AQ,?_,rfl⟩;rw[List.take_of_length_le (by omega)]
    ·rw[f1]at ba cb⊢;simp only[lenOf]at ba cb;cases f2;refine⟨ys,gq,fg,b',t1,?_,rfl⟩;rw[show uA=ys.length by omega,List.take_left]
   ·cases aB
  ·cases h
 ·cases h
theorem aeX {d:Int}:∀{xs:List ab} {lo:Int},lo≤d→(∀x∈xs,lo<numOf x∧numOf x≤d)→(xs.Pairwise fun a b=>numOf a<numOf b)→(xs.length:Int)≤d-lo
 | [],lo,h,_,_=>by simp;omega
 |x::xs,lo,h,U,aa=>by
  have ad:=U x (cz ..);cases aa with
  |cons p q=>
   have:=aeX (xs:=xs) (lo:=numOf x) ad.2 (fun y aI=>⟨p y aI,(U y (cv _ aI)).2⟩) q;simp only[mb];omega
theorem rE.len {xs:List ab} {d:Int} (h:rE xs d) (aQ:0≤d):(xs.length:Int)≤d:=by
 have:=aeX (lo:=0) aQ (fun x ad=>⟨by have:=(h.1 x ad).1;omega,(h.1 x ad).2⟩) h.2
 omega
theorem alE (bY:Ok T G R W) {l:List al} {a b:Nat} (h:PE W l a b=true):intOf (hg (aM R l) b)≤intOf (hg (aM R l) a):=by
 unfold PE at h;split at h
 ·rename_i x y ad aI;have h:=dE bY h;rw[eG]at h;rw[l8 ad,l8 aI];omega
 ·cases h
theorem KC (bY:Ok T G R W) {o n:List al} {k:Nat} (h:Cz W o n k=true):intOf (hg (aM R o) k)≤intOf (hg (aM R n) k):=by
 unfold Cz at h;split at h
 ·rename_i x y ad aI;have h:=dE bY h;rw[eG]at h;rw[l8 ad,l8 aI];omega
 ·cases h
theorem ati {o n:List al} {k:Nat} (h:Ui (fk o k) (fk n k)=true):hg (aM R o) k=hg (aM R n) k:=by
 unfold Ui at h;split at h
 ·rename_i x y ad aI;rw[pQ ad,pQ aI,o2 h]
 ·cases h
theorem asp (cN:T.bA=gk) (bY:Ok T G R W) {as:List al} (h:TF W as=true):D_ (aM R as):=by
 unfold TF at h;split at h
 ·rename_i l;obtain⟨U,aa⟩:=a6 h;obtain⟨aa,au⟩:=a6 aa;obtain⟨au,ba⟩:=a6 au;simp only[aM,al.ai,D_];refine⟨?_,?_,alE bY au,?_,?_⟩
  ·split at U
   ·rename_i s d hs aQ;rw[pQ hs,pQ aQ];exact aeq cN bY U
   ·cases U
  ·split at aa
   ·rename_i x ad;have:=dE bY (a6 aa).1;rw[l8 ad];exact this
   ·cases aa
  ·split at ba
   ·rename_i a b aA aj;have:=dE bY ba;rw[eG,vn bY aA,vn bY aj]at this;omega
   ·cases ba
  ·split at aa
   ·rename_i x ad;have aa:=(a6 aa).2;split at aa
    ·rename_i a aA;have:=dE bY aa;rw[eG,vn bY aA]at this;rw[l8 ad];omega
    ·cases aa
   ·cases aa
 ·cases h
theorem asn (cN:T.bA=gk) (bY:Ok T G R W) {as:List al} (h:TG W as=true):D' (aM R as):=by
 unfold TG at h;split at h
 ·rename_i o n;obtain⟨U,aa⟩:=a6 h;obtain⟨U,au⟩:=a6 U;obtain⟨aa,ba⟩:=a6 aa;simp only[aM,al.ai,D'];refine⟨⟨KC bY U,KC bY au⟩,?_,ati ba⟩;split at aa
  ·rename_i x y ad aI;rw[pQ ad,pQ aI];exact Dr cN bY aa
  ·cases aa
 ·cases h
theorem asq (bY:Ok T G R W) {as:List al} (h:TI W as=true):Ea (aM R as):=by
 unfold TI at h;split at h
 ·rename_i o n;obtain⟨U,aa⟩:=a6 h;simp only[aM,al.ai,Ea];exact⟨KC bY U,KC bY aa⟩
 ·cases h
theorem A8 {a i e:ab} (h:gQ 0 [a,i,e]):∃(xs:List ab) (nl:Bool) (tok:Option Nat) (k:IntKind) (n:Nat),a=.slice xs nl tok∧i=.int k n∧xs[n]? =some e:=by
 cases h with
 |idx xs nl tok k i e h=>exact⟨xs,nl,tok,k,i,rfl,rfl,h⟩
theorem Ng {α:Type} {f:α→Bool} {l:List α} (h:l.any f=true):∃x∈l,f x=true:=h4.1 h
theorem asl (cN:T.bA=gk) (bY:Ok T G R W) {as:List al} (h:TD W as=true):M5 (aM R as):=by
 unfold TD at h;split at h
 ·rename_i v n;split at h
  ·rename_i jo l ak;obtain⟨e1,_⟩:=gP (R:=R) ak;intro xs nl tok k bB bg bl i x hi ad;simp only[al.ai]at bg;rw[e1]at bl;cases bl;rcases g1 _ _|>.mp h with h|h
   ·have:=dE bY h;rw[hV]at this;omega
   ·obtain⟨p,ae,h⟩:=Ng h;have aV:=bY.b2 p ae;split at h
    ·rename_i w m;obtain⟨U,aa⟩:=a6 h;have:=b5 U;subst this;split at aa
     ·rename_i az c_ gx;obtain⟨aN,_⟩:=gP (R:=R) gx;obtain⟨au,ba⟩:=a6 aa;have au:=congrArg (bn.ai R) (tm au);rw[fe]at au;have cE:Int.negSucc 0= -1:=rfl;rw[cE]at au;have aV:=afa (lC (T:=T) (by decide) aV cN)
      by_cases bw:(i:Int)<c_.ai R
      ·exact aV xs nl tok _ _ bg aN i x bw ad
      ·obtain⟨q,aB,ba⟩:=Ng ba;have p5:=bY.b2 q aB;split at ba
       ·rename_i w' aX dV e;obtain⟨cb,du⟩:=a6 ba;obtain⟨du,ew⟩:=a6 du;have:=b5 cb;subst this;have du:=congrArg (bn.ai R) (tm du);have ew:=dE bY ew;obtain⟨ys,gq,fg,k',gI,cc,b4,dP⟩:=A8 (vq (T:=T) (show 0<100 by decide) p5 cN)
        simp only[al.ai]at cc b4 dP;rw[bg]at cc;cases cc;simp only[ab.int.injEq]at b4;have b4:=b4.2;rw[fe,hV,h9 bY e]at ew;have ji:(Int.ofNat 65536)=65536:=rfl;rw[ji]at ew;have:i=gI:=by omega
        subst this;rw[ad]at dP;cases dP;omega
       ·cases ba
     ·cases aa
    ·cases h
  ·cases h
 ·cases h
theorem sN {a b:Option bn} {f:Lit} (h:f∈qn a b):∃x y,a=some x∧b=some y∧f=.ge (x.sub y):=by
 unfold qn at h;split at h
 ·rename_i x y;exact⟨x,y,rfl,rfl,iS.1 h⟩
 ·cases h
theorem anN (cN:T.bA=gk) (bY:Ok T G R W) {as:List al} (aV:eu T 0 (aM R as)):∀f∈QP W as,f.ai R=true:=by
 intro f ax;unfold QP at ax;split at ax
 ·rename_i v k l e;revert ax;cases af:W.b2.any _ with
  |false=>intro ax;cases ax
  |true=>
   intro ax;rw[iS.1 ax];obtain⟨p,ae,h⟩:=Ng af;have U:=bY.b2 p ae;split at h
   ·rename_i w m;obtain⟨aa,au⟩:=a6 h;have:=b5 aa;subst this;split at au
    ·rename_i az c_ gx;obtain⟨aN,_⟩:=gP (R:=R) gx;have au:=dE bY au;rw[fe,eG]at au;have cE:Int.negSucc 0= -1:=rfl;rw[cE]at au;have U:=afa (lC (T:=T) (by decide) U cN)
     obtain⟨ys,gq,fg,k',gI,cc,b4,dP⟩:=A8 (vq (T:=T) (show 0<100 by decide) aV cN)
     simp only[al.ai,ab.int.injEq]at cc b4 dP;have:=U ys gq fg _ _ (by simp only[al.ai];exact cc) aN gI _ (by omega) dP
     simp only[Lit.ai,decide_eq_true_eq];rw[fe,hV,h9 bY e];have ji:(Int.ofNat 65536)=65536:=rfl;rw[ji];omega
    ·cases au
   ·cases h
 ·cases ax
theorem anT (cN:T.bA=gk) (bY:Ok T G R W) {as:List al} (aV:eu T (hY jU) (aM R as)):∀f∈QT W as,f.ai R=true:=by
 intro f ax;have a1:=T9 (lC (T:=T) (by decide) aV cN)
 unfold QT at ax;split at ax
 ·rename_i l;simp only[aM,al.ai,D_]at a1;obtain⟨U,aa,au,ba,cb⟩:=a1;rcases fu.1 ax with ax|ax
  ·obtain⟨x,y,ex,g4,rfl⟩:=sN ax;simp only[Lit.ai,decide_eq_true_eq,eG];rw[l8 ex,l8 g4]at au;omega
  rcases fu.1 ax with ax|ax
  ·obtain⟨x,y,ex,g4,rfl⟩:=sN ax;simp only[Lit.ai,decide_eq_true_eq,eG];rw[vn bY ex,vn bY g4];omega
  rcases fu.1 ax with ax|ax
  ·obtain⟨x,y,ex,g4,rfl⟩:=sN ax;simp only[Lit.ai,decide_eq_true_eq,eG];obtain⟨xs,nl,tok,k,d,bg,bl,bS⟩:=U;rw[bl]at aa;have ak:=bS.len aa;have wS:=l8 (R:=R) ex;rw[bl]at wS;rw[vn bY g4,bg,←wS];simp only[lenOf,intOf];omega
  ·obtain⟨x,y,ex,g4,rfl⟩:=sN ax;simp only[Lit.ai,decide_eq_true_eq,eG];rw[vn bY g4];rw[l8 ex]at cb;omega
 ·cases ax
theorem lI.len {a b:ab} (h:lI a b):lenOf a≤lenOf b:=by
 rcases h with rfl|⟨xs,ys,_,_,_,_,rfl,rfl⟩
 ·exact Bk _
 ·simp only[lenOf,iz];omega
theorem Yx (cN:T.bA=gk) (bY:Ok T G R W) {o:al} {n:Option bn} {N:ab} (aK:∀x,n=some x→x.ai R=lenOf N) (av:lI (o.ai R) N):∀{br:List (Nat × List al)},(∀p∈br,eu T p.1 (aM R p.2))→∀f∈y5 W o n br,f.ai R=true
 | [],_,f,ax=>by cases ax
 |p::r,ae,f,ax=>by
  have rest:f∈y5 W o n r→f.ai R=true:=Yx cN bY aK av (fun q aB=>ae q (cv _ aB)) f;have aV:=ae p (cz ..);unfold y5 at ax;split at ax
  ·rename_i he;cases he
  ·rename_i c x fl he;cases he;cases aj:h5 fuel x o with
   |false=>rw[aj]at ax;exact rest ax
   |true=>
    rw[aj]at ax;rcases fu.1 ax with ax|ax
    ·obtain⟨y,z,g4,XY,rfl⟩:=sN ax;have U:=ae' (lC (T:=T) (by decide) aV cN)
     have U:lI (c.ai R) (x.ai R):=U;rw[o2 aj]at U;have:=(U.trans av).len;simp only[Lit.ai,decide_eq_true_eq,eG];rw[aK y g4,CC bY XY];omega
    ·exact rest ax
  ·rename_i he;cases he;exact rest ax
theorem anR (cN:T.bA=gk) (bY:Ok T G R W) {as:List al} (aV:eu T (iu jU) (aM R as)):∀f∈QU W as,f.ai R=true:=by
 intro f ax;have a1:=Hj (lC (T:=T) (by decide) aV cN)
 unfold QU at ax;split at ax
 ·rename_i o n;simp only[aM,al.ai,D']at a1;obtain⟨⟨U,aa⟩,au,_⟩:=a1;rcases fu.1 ax with ax|ax
  ·obtain⟨x,y,ex,g4,rfl⟩:=sN ax;simp only[Lit.ai,decide_eq_true_eq,eG];rw[l8 ex,l8 g4]at U;omega
  rcases fu.1 ax with ax|ax
  ·obtain⟨x,y,ex,g4,rfl⟩:=sN ax;simp only[Lit.ai,decide_eq_true_eq,eG];rw[l8 ex,l8 g4]at aa;omega
  ·split at ax
   ·rename_i x ad;rw[pQ ad]at au;exact Yx cN bY (fun y aI=>vn bY aI) au bY.b2 f ax
   ·cases ax
 ·cases ax
theorem anO (cN:T.bA=gk) (bY:Ok T G R W) {as:List al} (aV:eu T 126 (aM R as)):∀f∈QQ W as,f.ai R=true:=by
 intro f ax;have U:=T8 (lC (T:=T) (by decide) aV cN)
 unfold QQ at ax;split at ax
 ·rename_i a b;obtain⟨xs,_,_,_,_,e1,aN⟩:=U;rcases fu.1 ax with ax|ax
  ·obtain⟨x,y,ex,g4,rfl⟩:=sN ax;simp only[Lit.ai,decide_eq_true_eq,eG];rw[CC bY ex,CC bY g4,e1,aN];simp only[lenOf];omega
  ·obtain⟨x,y,ex,g4,rfl⟩:=sN ax;simp only[Lit.ai,decide_eq_true_eq,eG];rw[CC bY ex,CC bY g4,e1,aN];simp only[lenOf];omega
 ·cases ax
theorem NH (cN:T.bA=gk) {v:Nat} {d:bn}:∀{br:List (Nat × List al)},(∀p∈br,eu T p.1 (aM R p.2))→d∈qJ v br→∃xs nl tok,R v=.slice xs nl tok∧rE xs (d.ai R)
 | [],_,h=>by cases h
 |p::r,ae,h=>by
  have rest:d∈qJ v r→∃xs nl tok,R v=.slice xs nl tok∧rE xs (d.ai R):=NH cN (fun q aB=>ae q (cv _ aB));have aV:=ae p (cz ..);unfold qJ at h;split at h
  ·rename_i he;cases he
  ·rename_i k l fl he;cases he;split at h
   ·rename_i x ad;cases aj:Nat.beq k (hY jU)&&Gb v (fk l 9)with
    |false=>rw[aj]at h;exact rest h
    |true=>
     rw[aj]at h;rcases cu.1 h with h|h
     ·subst h;obtain⟨U,aa⟩:=a6 aj;have:=b5 U;subst this;have a1:=T9 (lC (T:=T) (by decide) aV cN)
      simp only[aM,al.ai]at a1;obtain⟨⟨xs,nl,tok,k,eh,e1,aN,bL⟩,_⟩:=a1;obtain⟨ao,eB⟩:=Nx (R:=R) ad;rw[eB]at aN;cases aN;refine⟨xs,nl,tok,?_,bL⟩;unfold Gb at aa;split at aa
      ·rename_i w hw;have:=b5 aa;subst this;rw[pQ hw]at e1;exact e1
      ·cases aa
     ·exact rest h
   ·exact rest h
  ·rename_i w eh fl he;cases he;split at h
   ·rename_i k l ak;cases aj:Nat.beq v w with
    |false=>rw[aj]at h;exact rest h
    |true=>
     rw[aj]at h;have:=b5 aj;subst this;rcases cu.1 h with h|h
     ·subst h;have a1:=ae_ (lC (T:=T) (by decide) aV cN)
      obtain⟨xs,nl,tok,k,uI,e1,aN,bL⟩:=a1;simp only[al.ai]at e1;rw[(gP (R:=R) ak).1]at aN;cases aN;exact⟨xs,nl,tok,e1,bL⟩
     ·exact rest h
   ·exact rest h
  ·rename_i he;cases he;exact rest h
theorem ajK (cN:T.bA=gk) (bY:Ok T G R W) {v:Nat} {d:bn} (h:d∈Wx W v):∃xs nl tok,R v=.slice xs nl tok∧rE xs (d.ai R):=by
 rcases fu.1 h with h|h
 ·exact NH cN bY.b2 h
 ·split at h
  ·rename_i u hu;obtain⟨ys,b',t1,ct,t2,f1,f2⟩:=ET cN bY bY.b2 hu;obtain⟨xs,nl,tok,e1,aN⟩:=NH cN bY.b2 h;rw[f2]at e1;cases e1;exact⟨_,_,_,f1,aN⟩
  ·cases h
theorem ac0 {e:al} {n:bn} (h:Le e=some n):numOf (e.ai R)=n.ai R:=by
 unfold Le at h;split at h
 ·split at h
  ·rename_i k l ak;cases h;simp only[al.ai,aM,numOf,(gP (R:=R) ak).1,intOf]
  ·cases h
 ·cases h
theorem ad' {bo:ab→ab→Prop} {xs:List ab} (h:xs.Pairwise bo) {i j:Nat} (lj:i<j) {a b:ab} (aA:xs[i]? =some a) (aj:xs[j]? =some b):bo a b:=by
 obtain⟨U,rfl⟩:=hn.1 aA;obtain⟨aa,rfl⟩:=hn.1 aj;exact List.pairwise_iff_getElem.1 h i j U aa lj
theorem adB (cN:T.bA=gk) (bY:Ok T G R W) {v:Nat} {l n:bn} {xs:List ab} {nl:Bool} {tok:Option Nat} {d:Int} {i:Nat} {e:ab} (ar:R v=.slice xs nl tok) (a1:rE xs d) (ak:l.ai R=i) (he:xs[i]? =some e) (aK:numOf e=n.ai R):∀{br:List (Nat × List al)},(∀p∈br,eu T p.1 (aM R p.2))→∀f∈others W v l n br,f.ai R=true
 | [],_,f,ax=>by cases ax
 |p::r,ae,f,ax=>by
  have rest:f∈others W v l n r→f.ai R=true:=adB cN bY ar a1 ak he aK (fun q aB=>ae q (cv _ aB)) f;have aV:=ae p (cz ..);unfold others at ax;split at ax
  ·rename_i aF;cases aF
  ·rename_i w ao dV aN fl aF;cases aF;split at ax
   ·rename_i ct B7;cases aj:Nat.beq v w with
    |false=>rw[aj]at ax;exact rest ax
    |true=>
     rw[aj]at ax;have:=b5 aj;subst this;obtain⟨ys,gq,fg,k',gI,cc,b4,dP⟩:=A8 (vq (T:=T) (show 0<100 by decide) aV cN)
     simp only[al.ai]at cc b4 dP;rw[ar]at cc;cases cc;simp only[ab.int.injEq]at b4;have b4:=b4.2;have B7:=ac0 (R:=R) B7;have cE:Int.negSucc 0= -1:=rfl;simp only[cond_true]at ax;cases qS:geq W ((l.sub dV).dO (.negSucc 0))with
     |true=>
      rw[qS]at ax;rcases cu.1 ax with ax|ax
      ·subst ax;have qS:=dE bY qS;rw[fe,eG,cE]at qS;have:=ad' a1.2 (show gI<i by omega) dP he
       simp only[Lit.ai,decide_eq_true_eq];rw[fe,eG,cE];omega
      ·exact rest ax
     |false=>
      rw[qS]at ax;simp only[cond_false]at ax;cases h6:geq W ((dV.sub l).dO (.negSucc 0))with
      |true=>
       rw[h6]at ax;rcases cu.1 ax with ax|ax
       ·subst ax;have h6:=dE bY h6;rw[fe,eG,cE]at h6;have:=ad' a1.2 (show i<gI by omega) he dP
        simp only[Lit.ai,decide_eq_true_eq];rw[fe,eG,cE];omega
       ·exact rest ax
      |false=>rw[h6]at ax;exact rest ax
   ·exact rest ax
  ·rename_i aF;cases aF;exact rest ax
theorem anQ (cN:T.bA=gk) (bY:Ok T G R W) {as:List al} (aV:eu T 0 (aM R as)):∀f∈QS W as,f.ai R=true:=by
 intro f ax;unfold QS at ax;split at ax
 ·rename_i v k l e;split at ax
  ·rename_i n aK;obtain⟨ys,gq,fg,k',gI,cc,b4,dP⟩:=A8 (vq (T:=T) (show 0<100 by decide) aV cN)
   simp only[al.ai,ab.int.injEq]at cc b4 dP;have p2:=ac0 (R:=R) aK;split at ax
   ·cases ax
   ·rename_i d ds aQ;have jk:∀x∈d::ds,rE ys (x.ai R):=by
     intro x ad;rw[←aQ]at ad;obtain⟨xs,nl,tok,e1,aN⟩:=ajK cN bY ad;rw[cc]at e1;cases e1;exact aN
    have hm:=lM dP;rcases cu.1 ax with ax|ax
    ·subst ax;have:=((jk d (cz ..)).1 _ hm).1;simp only[Lit.ai,decide_eq_true_eq];have cE:Int.negSucc 0= -1:=rfl;rw[fe,cE];omega
    rcases fu.1 ax with ax|ax
    ·obtain⟨x,ad,rfl⟩:=eO.1 ax;have:=((jk x ad).1 _ hm).2;simp only[Lit.ai,decide_eq_true_eq];rw[eG];omega
    ·exact adB cN bY cc (jk d (cz ..)) b4.2 dP p2 bY.b2 f ax
  ·cases ax
 ·cases ax
theorem Pd:∀{x y:List al},aM R x=aM R y→∀f∈yT x y,f.ai R=true
 | [],_,_,f,ax=>by simp only[yT]at ax;cases ax
 |_::_,[],_,f,ax=>by simp only[yT]at ax;cases ax
 |a::x,b::y,he,f,ax=>by
  simp only[aM,wA]at he;obtain⟨w8,YX⟩:=he;unfold yT at ax;split at ax
  ·rename_i k l k' m ak hm;rw[(gP (R:=R) ak).1,(gP (R:=R) hm).1]at w8;simp only[ab.int.injEq]at w8;have w8:=w8.2;rcases cu.1 ax with rfl|ax
   ·simp only[Lit.ai,decide_eq_true_eq,eG];omega
   rcases cu.1 ax with rfl|ax
   ·simp only[Lit.ai,decide_eq_true_eq,eG];omega
   ·exact Pd YX f ax
  ·exact Pd YX f ax
theorem O_ (cN:T.bA=gk) {u:Nat} {l:bn} {e:List al} {xs:List ab} {nl:Bool} {tok:Option Nat} {i:Nat} (hu:R u=.slice xs nl tok) (ak:l.ai R=i) (he:xs[i]? =some (.agg (aM R e))):∀{br:List (Nat × List al)},(∀p∈br,eu T p.1 (aM R p.2))→∀f∈wW u l e br,f.ai R=true
 | [],_,f,ax=>by cases ax
 |p::r,ae,f,ax=>by
  have rest:f∈wW u l e r→f.ai R=true:=O_ cN hu ak he (fun q aB=>ae q (cv _ aB)) f;have aV:=ae p (cz ..);unfold wW at ax;split at ax
  ·rename_i aF;cases aF
  ·rename_i w ao dV aN fl aF;cases aF;cases aj:Nat.beq u w&&pT l dV with
   |false=>rw[aj]at ax;exact rest ax
   |true=>
    rw[aj]at ax;obtain⟨U,aa⟩:=a6 aj;have:=b5 U;subst this;rcases fu.1 ax with ax|ax
    ·obtain⟨ys,gq,fg,k',gI,cc,b4,dP⟩:=A8 (vq (T:=T) (show 0<100 by decide) aV cN)
     simp only[al.ai]at cc b4 dP;rw[hu]at cc;cases cc;simp only[ab.int.injEq]at b4;have aa:=congrArg (bn.ai R) (tm aa);have:gI=i:=by omega
     subst this;rw[he]at dP;have dP:=ab.agg.inj (yI dP);exact Pd dP f ax
    ·exact rest ax
  ·rename_i aF;cases aF;exact rest ax
theorem XO (cN:T.bA=gk) (bY:Ok T G R W) {v:Nat} {l:bn} {e:List al} {xs:List ab} {nl:Bool} {tok:Option Nat} {i:Nat} (ar:R v=.slice xs nl tok) (ak:l.ai R=i) (he:xs[i]? =some (.agg (aM R e))):∀{br:List (Nat × List al)},(∀p∈br,eu T p.1 (aM R p.2))→∀f∈wX W v l e br,f.ai R=true
 | [],_,f,ax=>by cases ax
 |p::r,ae,f,ax=>by
  have rest:f∈wX W v l e r→f.ai R=true:=XO cN bY ar ak he (fun q aB=>ae q (cv _ aB)) f;have aV:=ae p (cz ..);unfold wX at ax;split at ax
  ·rename_i aF;cases aF
  ·rename_i a b fl aF;cases aF;obtain⟨ys,b',t1,ct,t2,f1,f2⟩:=T8 (lC (T:=T) (by decide) aV cN)
   simp only[al.ai]at f1 f2;cases aj:Nat.beq v a with
   |true=>
    rw[aj]at ax;have:=b5 aj;subst this;rw[ar]at f1;cases f1;rcases fu.1 ax with ax|ax
    ·exact O_ cN f2 ak he bY.b2 f ax
    ·exact rest ax
   |false=>
    rw[aj]at ax;simp only[cond_false]at ax;cases h6:Nat.beq v b with
    |true=>
     rw[h6]at ax;have:=b5 h6;subst this;rw[ar]at f2;cases f2;rcases fu.1 ax with ax|ax
     ·exact O_ cN f1 ak he bY.b2 f ax
     ·exact rest ax
    |false=>rw[h6]at ax;exact rest ax
  ·rename_i aF;cases aF;exact rest ax
theorem anP (cN:T.bA=gk) (bY:Ok T G R W) {as:List al} (aV:eu T 0 (aM R as)):∀f∈QR W as,f.ai R=true:=by
 intro f ax;unfold QR at ax;split at ax
 ·rename_i v k l e;obtain⟨ys,gq,fg,k',gI,cc,b4,dP⟩:=A8 (vq (T:=T) (show 0<100 by decide) aV cN)
  simp only[al.ai,ab.int.injEq]at cc b4 dP;exact XO cN bY cc b4.2 dP bY.b2 f ax
 ·cases ax
theorem anU (cN:T.bA=gk) {as:List al} (aV:eu T (iu qK) (aM R as)):∀f∈QW as,f.ai R=true:=by
 intro f ax;have a1:=T_ (lC (T:=T) (by decide) aV cN)
 unfold QW at ax;split at ax
 ·rename_i o n;simp only[aM,al.ai,Ea]at a1;obtain⟨U,aa⟩:=a1;rcases fu.1 ax with ax|ax
  ·obtain⟨x,y,ex,g4,rfl⟩:=sN ax;simp only[Lit.ai,decide_eq_true_eq,eG];rw[l8 ex,l8 g4]at U;omega
  ·obtain⟨x,y,ex,g4,rfl⟩:=sN ax;simp only[Lit.ai,decide_eq_true_eq,eG];rw[l8 ex,l8 g4]at aa;omega
 ·cases ax
theorem aso (cN:T.bA=gk) (bY:Ok T G R W) {k:Nat} {as:List al} (h:TH W k as=true):gk k (aM R as):=by
 unfold TH at h;split at h
 ·split at h
  ·exact .inl ⟨rfl,aeq cN bY h⟩
  ·cases h
 ·split at h
  ·exact .inr (.inl ⟨rfl,Dr cN bY h⟩)
  ·cases h
 ·exact .inr (.inr (.inl ⟨rfl,asl cN bY h⟩))
 ·split at h
  ·exact .inr (.inr (.inr (.inr (.inr (.inr (.inr ⟨rfl,asm cN bY h⟩))))))
  ·cases h
 ·cases U:Nat.beq k (hY jU)with
  |true=>rw[U]at h;exact .inr (.inr (.inr (.inl ⟨b5 U,asp cN bY h⟩)))
  |false=>
   rw[U]at h;cases aa:Nat.beq k (iu jU)with
   |true=>rw[aa]at h;exact .inr (.inr (.inr (.inr (.inl ⟨b5 aa,asn cN bY h⟩))))
   |false=>
    rw[aa]at h;cases au:Nat.beq k (hY qK)with
    |true=>exact .inr (.inr (.inr (.inr (.inr (.inl (b5 au))))))
    |false=>
     rw[au]at h;cases ba:Nat.beq k (iu qK)with
     |true=>rw[ba]at h;exact .inr (.inr (.inr (.inr (.inr (.inr (.inl ⟨b5 ba,asq bY h⟩))))))
     |false=>rw[ba]at h;cases h
theorem anS (cN:T.bA=gk) (bY:Ok T G R W) {k:Nat} {as:List al} (h:eu T k (aM R as)):∀f∈QV W k as,f.ai R=true:=by
 intro f ax;unfold QV at ax;split at ax
 ·rcases fu.1 ax with ax|ax
  ·exact anN cN bY h f ax
  rcases fu.1 ax with ax|ax
  ·exact anQ cN bY h f ax
  ·exact anP cN bY h f ax
 ·exact anO cN bY h f ax
 ·cases U:Nat.beq k (hY jU)with
  |true=>rw[U]at ax;have:=b5 U;subst this;exact anT cN bY h f ax
  |false=>
   rw[U]at ax;cases aa:Nat.beq k (iu jU)with
   |true=>rw[aa]at ax;have:=b5 aa;subst this;exact anR cN bY h f ax
   |false=>
    rw[aa]at ax;cases ba:Nat.beq k (iu qK)with
    |true=>rw[ba]at ax;have:=b5 ba;subst this;exact anU cN h f ax
    |false=>rw[ba]at ax;cases ax
theorem auT (D:Nat→bb) (K:Nat→pD) (E:Nat→bb) (a1:∃ts,K jU=.obj ts) (ec:∃ts,K qK=.obj ts):e8 (zT D K E) where
 low:=fun k as aq h=>by have:=Qw h;omega
 pw:=fun bY h=>.inr (aso rfl bY h)
 xi:=fun bY h=>anS rfl bY h
 row:=fun k n aq=>ae5 _ _ k n aq
 zH:=fun c af h=>by
  rcases g1 _ _|>.mp h with h|h
  ·have:=b5 h;subst this;obtain⟨ts,q1⟩:=a1;exact af ts q1
  ·have:=b5 h;subst this;obtain⟨ts,q1⟩:=ec;exact af ts q1
 refl:=fun c cs h=>.inr (by
  rcases g1 _ _|>.mp h with h|h
  ·have:=b5 h;subst this;exact .inr (.inr (.inr (.inr (.inl ⟨rfl,⟨Bk _,Bk _⟩,.refl _,rfl⟩))))
  ·have:=b5 h;subst this;exact .inr (.inr (.inr (.inr (.inr (.inr (.inl ⟨rfl,Bk _,Bk _⟩)))))))
 trans:=fun c a b d h U aa=>.inr (by
  rcases g1 _ _|>.mp h with h|h
  ·have:=b5 h;subst this;have U:=Hj (lC (T:=zT D K E) (by decide) U rfl)
   have aa:=Hj (lC (T:=zT D K E) (by decide) aa rfl)
   exact .inr (.inr (.inr (.inr (.inl ⟨rfl,⟨np U.1.1 aa.1.1,np U.1.2 aa.1.2⟩,U.2.1.trans aa.2.1,U.2.2.trans aa.2.2⟩))))
  ·have:=b5 h;subst this;have U:=T_ (lC (T:=zT D K E) (by decide) U rfl)
   have aa:=T_ (lC (T:=zT D K E) (by decide) aa rfl)
   exact .inr (.inr (.inr (.inr (.inr (.inr (.inl ⟨rfl,np U.1 aa.1,np U.2 aa.2⟩)))))))
 fix:=fun c j o n aU h=>by
  show hg o j=hg n j;have aU:j∈Pw c:=aU;unfold Pw at aU;cases aj:Nat.beq c jU with
  |false=>rw[aj]at aU;cases aU
  |true=>
   rw[aj]at aU;have:=b5 aj;subst this;have:=iS.1 aU;subst this;exact(Hj (lC (T:=zT D K E) (by decide) h rfl)).2.2
end
end Go.bO.cK
end
section
namespace Go.bO.cK
def qO {α:Type}:Nat→List α→List α
 |0,l=>l
 |_+1,[]=>[]
 |n+1,_::l=>qO n l
def UP {α:Type}:Nat→List α→List α
 |0,_=>[]
 |_+1,[]=>[]
 |n+1,x::l=>x::UP n l
def afz {α:Type} (lo hi:Nat) (l:List α):List α:=match hi with
 |0=>qO lo l
 |hi+1=>UP (Nat.sub (Nat.add hi 1) lo) (qO lo l)
def ti:Nat→List Nat→List (Nat × Nat)
 |lo,[]=>[(lo,0)]
 |lo,n::r=>(lo,n)::ti n r
theorem agr {α:Type} {x:α}:∀(k:Nat) (l:List α),x∈l→x∈UP k l∨x∈qO k l
 |0,l,h=>.inr h
 |k+1,[],h=>by cases h
 |k+1,y::l,h=>by
  rcases cu.1 h with h|h
  ·exact .inl (h▸cz ..)
  ·rcases agr k l h with h|h
   ·exact .inl (cv _ h)
   ·exact .inr h
theorem OS {α:Type}:∀(k:Nat),qO k ([]:List α)=[]
 |0=>rfl
 |_+1=>rfl
theorem XB {α:Type}:∀(a b:Nat) (l:List α),qO a (qO b l)=qO (b+a) l
 |a,0,l=>by rw[fy];rfl
 |a,b+1,[]=>by rw[OS,OS,OS]
 |a,b+1,x::l=>by rw[Nat.succ_add];exact XB a b l
theorem XC {α:Type} {x:α}:∀(a b:Nat) (l:List α),b≤a→x∈qO a l→x∈qO b l
 |a,0,l,_,h=>by
  induction a generalizing l with
  |zero=>exact h
  |succ a bm=>
   cases l with
   |nil=>cases h
   |cons y l=>exact cv _ (bm l (fv _) h)
 |0,b+1,l,aj,h=>absurd aj (by omega)
 |a+1,b+1,[],_,h=>by cases h
 |a+1,b+1,y::l,aj,h=>XC a b l (by omega) h
theorem Oi {α:Type} {x:α} {l:List α}:∀(c:List Nat) (lo:Nat),x∈qO lo l→∃p∈ti lo c,x∈afz p.1 p.2 l
 | [],lo,h=>⟨_,iS.2 rfl,h⟩
 |n::r,lo,h=>by
  cases n with
  |zero=>exact⟨_,cz ..,h⟩
  |succ n=>
   by_cases ht:lo≤n+1
   ·rcases agr (n+1-lo) _ h with h|h
    ·exact⟨_,cz ..,h⟩
    ·rw[XB,OD ht]at h;obtain⟨p,U,aa⟩:=Oi r (n+1) h;exact⟨p,cv _ U,aa⟩
   ·obtain⟨p,U,aa⟩:=Oi r (n+1) (XC _ _ l (by omega) h)
    exact⟨p,cv _ U,aa⟩
def pI (K:gv→Bool):gG→Bool
 |some l=>l.all K
 |none=>false
def GI (k:bE→aH→Bool) (K:gv→Bool):gv→Bool
 |(.normal,e,W)=>k e W
 |o=>K o
def Ws (id:Nat) (K:gv→Bool):gv→Bool
 |(.exit i,e,W)=>K (bif Nat.beq i id then(.normal,e,W)else(.exit i,e,W))
 |o=>K o
def uF (T:bG) (an:gE) (sc scq:iy) (lo hi:Nat):List Nat→fK→List dX→(gv→Bool)→bE→aH→Bool
 | [],c,la,K,env,W=>match iU T an sc scq c la env W with
  |some l=>(afz lo hi l).all K
  |none=>false
 |0::p,.seq a b,la,K,env,W=>uF T an sc scq lo hi p a la (GI (fun e W=>pI K (iU T an sc scq b (oH (qc a) la) e W)) K) env W
 |_::p,.seq a b,la,K,env,W=>match iU T an sc scq a la env W with
  |some l=>l.all (GI (fun e W=>uF T an sc scq lo hi p b (oH (qc a) la) K e W) K)
  |none=>false
 |_::p,.block id b,la,K,env,W=>uF T an sc scq lo hi p b la (Ws id K) env W
 |_,_,_,_,_,_=>false
theorem aj6 {K:gv→Bool} {a b:gG} (aA:pI K a=true) (aj:pI K b=true):pI K (yC a b)=true:=by
 cases a with
 |none=>cases aA
 |some a=>
  cases b with
  |none=>cases aj
  |some b=>
   show(a++b).all K=true;rw[List.all_append];exact mc.2 ⟨aA,aj⟩
theorem NA {k:bE→aH→gG} {K:gv→Bool}:∀(l:List gv),l.all (GI (fun e W=>pI K (k e W)) K)=true→pI K (rL k l)=true
 | [],_=>rfl
 |(x,e,W)::l,h=>by
  rw[rG]at h;obtain⟨U,aa⟩:=mc.1 h;have bm:=NA l aa;cases x with
  |normal=>exact aj6 U bm
  |ret|exit _=>
   simp only[rL];cases aj:rL k l with
   |none=>rw[aj]at bm;cases bm
   |some r=>
    rw[aj]at bm;exact(by simp only[pI,rG];exact mc.2 ⟨U,bm⟩)
theorem atq {k:bE→aH→gG} {K:gv→Bool} {r:gG} (h:pI (GI (fun e W=>pI K (k e W)) K) r=true):pI K (x5 r k)=true:=by
 cases r with
 |none=>cases h
 |some l=>exact NA l h
theorem Wt {K:gv→Bool} {id:Nat}:∀(l:List gv),l.all (Ws id K)=true→(ta id l).all K=true
 | [],_=>rfl
 |(x,e,W)::l,h=>by
  rw[rG]at h;obtain⟨U,aa⟩:=mc.1 h;have bm:=Wt l aa;cases x<;>(simp only[ta,rG];exact mc.2 ⟨U,bm⟩)
theorem aks {T:bG} {an:gE} {sc scq:iy} {c:List Nat}:∀(p:List Nat) (Bn:fK) (la:List dX) (K:gv→Bool) (env:bE) (W:aH),(∀q∈ti 0 c,uF T an sc scq q.1 q.2 p Bn la K env W=true)→pI K (iU T an sc scq Bn la env W)=true:=by
 have ne:∃q,q∈ti 0 c:=by cases c<;>exact⟨_,cz ..⟩
 obtain⟨hH,p5⟩:=ne;intro p
 induction p with
 |nil=>
  intro Bn la K env W h;have aF:=h hH p5;simp only[uF]at h aF;cases af:iU T an sc scq Bn la env W with
  |none=>rw[af]at aF;cases aF
  |some l=>
   rw[af]at h;refine dI.2 fun x ad=> ?_;obtain⟨q,U,aa⟩:=Oi c 0 (show x∈qO 0 l from ad)
   exact dI.1 (h q U) x aa
 |cons i p bm=>
  intro Bn la K env W h;have aF:=h hH p5;cases Bn with
  |seq a b=>
   cases i with
   |zero=>
    simp only[uF]at h;exact atq (bm a la _ env W h)
   |succ i=>
    simp only[uF]at h aF;cases af:iU T an sc scq a la env W with
    |none=>rw[af]at aF;cases aF
    |some l=>
     rw[af]at h;have key:l.all (GI (fun e W=>pI K (iU T an sc scq b (oH (qc a) la) e W)) K)=true→pI K (iU T an sc scq (.seq a b) la env W)=true:=by
      intro ak;simp only[iU,af];exact NA l ak
     refine key (dI.2 fun x ad=> ?_);obtain⟨x,e,W'⟩:=x;have b0:=fun q aB=>dI.1 (h q aB) _ ad;cases x with
     |normal=>exact bm b _ K e W' b0
     |ret|exit _=>exact b0 hH p5
  |block id b=>
   simp only[uF]at h;have:=bm b la _ env W h;simp only[iU];cases af:iU T an sc scq b la env W with
   |none=>rw[af]at this;cases this
   |some l=>rw[af]at this;exact Wt l this
  |_=>cases i<;>cases aF
def S9 (T:bG) (aS:b9) (res:List kg) (as cd:List al) (o:gv):Bool:=match uL T res [o]with
 |some l=>wM T aS as cd l
 |none=>false
theorem ac' {T:bG} {aS:b9} {res:List kg} {as cd:List al}:∀(l:List gv),l.all (S9 T aS res as cd)=true→∃r,uL T res l=some r∧wM T aS as cd r=true
 | [],_=>⟨[],rfl,rfl⟩
 |(x,e,W)::l,h=>by
  rw[rG]at h;obtain⟨U,aa⟩:=mc.1 h;obtain⟨r,i1,i2⟩:=ac' l aa;cases x with
  |exit i=>cases U
  |normal|ret=>
   simp only[S9,uL]at U⊢;cases ah:Ai T e res W with
   |none=>rw[ah]at U;cases U
   |some q=>
    rw[ah]at U;obtain⟨ss,W'⟩:=q;simp only[wM,wE]at U;rw[i1];exact⟨_,rfl,by simp only[wM];exact mc.2 ⟨U,i2⟩⟩
def N5 (T:bG) (F:oN) (n:Nat) (aS:b9) (an:gE) (la:List dX) (dg:kF) (p:List Nat) (lo hi:Nat):Bool:=match begin T aS with
 |some (as,cd,W)=>bif Nat.ble (fH as) dg.n then(!aS.fw|| !an.md)&&uF T an (qk T F n aS.fw) (qk T F n true) lo hi p dg.body la (S9 T aS dg.res as cd) (Ek as 0 .dL) W else false
 |none=>false
theorem aka {T:bG} {F:oN} {n:Nat} {aS:b9} {an:gE} {la:List dX} {dg:kF} (p c:List Nat) (h:∀q∈ti 0 c,N5 T F n aS an la dg p q.1 q.2=true):yH T F n aS an la dg=true:=by
 have ne:∃q,q∈ti 0 c:=by cases c<;>exact⟨_,cz ..⟩
 obtain⟨hH,p5⟩:=ne;have aF:=h hH p5;unfold N5 at h aF;unfold yH;cases aj:begin T aS with
 |none=>rw[aj]at aF;cases aF
 |some x=>
  obtain⟨as,cd,W⟩:=x;rw[aj]at h aF;simp only at h aF⊢;cases aK:Nat.ble (fH as) dg.n with
  |false=>rw[aK]at aF;cases aF
  |true=>
   rw[aK]at h aF;simp only[cond_true]at h aF;have aQ:=(mc.1 aF).1;have:=aks p dg.body la _ _ W fun q aB=>(mc.1 (h q aB)).2;unfold F9;rw[aK];simp only[cond_true];cases af:iU T an (qk T F n aS.fw) (qk T F n true) dg.body la (Ek as 0 .dL) W with
   |none=>rw[af]at this;cases this
   |some l=>
    rw[af]at this;obtain⟨r,U,aa⟩:=ac' l this;simp only[U,aQ,aa];rfl
end Go.bO.cK
end
