/-
  A WALKER OF CODE IN SMALL, part 4: code, loops, functions.
-/
import Derived.Test.YthjhmfhmejlenaaGreatSX1
set_option linter.unusedSectionVars false
set_option linter.unusedVariables false
set_option linter.unusedSimpArgs false
section
namespace Go.bO.cK
def Pc:Lit→Lit→Bool
 |.c a,.c b=>a==b
 |.bv v p,.bv w q|.nl v p,.nl w q=>Nat.beq v w&&(p==q)
 |.ge a,.ge b=>pT a b
 |.eq a p,.eq b q=>pT a b&&(p==q)
 |_,_=>false
def h5:Nat→al→al→Bool
 |0,_,_=>false
 |f+1,a,b=>match a,b with
  |.k a,.k b=>rS fuel a b
  |.i k a,.i k' b=>m1 k k'&&pT a b
  |.b a,.b b=>Pc a b
  |.x v,.x w=>Nat.beq v w
  |.p v o,.p w q=>Nat.beq v w&&Nat.beq o q
  |.bN a,.bN b|.agg a,.agg b|.eN a,.eN b|.sp a,.sp b=>gN (h5 f) a b
  |.e4 t a,.e4 u b=>Nat.beq t u&&h5 f a b
  |.fn g a c,.fn h gX bF=>Nat.beq g h&&(gN (h5 f) a gX&&gN (h5 f) c bF)
  |_,_=>false
def P9 (T:bG) (W:aH) (k:Nat) (as:List al):Bool:=W.b2.any (fun p=>Nat.beq k p.1&&gN (h5 fuel) as p.2)||T.pw W k as
def Ay:fx→fx→Bool
 |.un,_=>true
 |.val a,.val b=>h5 fuel a b
 |.box a,.box b=>gN (h5 fuel) a b
 |.gZ s o,.gZ t q=>Nat.beq s t&&Nat.beq o q
 |_,_=>false
def Az:bE→bE→Bool
 |.dL,_=>true
 |.fr v l r,.fr w m s=>Ay v w&&(Az l m&&Az r s)
 |.fr v l r,.dL=>Ay v .un&&(Az l .dL&&Az r .dL)
structure dX where
 un:Nat
 bN:List (Nat × bb)
 bK:List (Nat × List bb)
 ce:List (Nat × List Nat)
 q7:List (Nat × List Nat)
 ms:bn
 inv:List bn
 pi:List (Nat × List Nat):=[]
 vO:List (List (Nat × bb)):=[]
 alt:List (List (Nat × List Nat) × List bn × List (Nat × List Nat)):=[]
instance:Inhabited dX:=⟨⟨0,[],[],[],[],.k (.ofNat 0),[],[],[],[]⟩⟩
def qi:al→Option Nat
 |.x v=>some v
 |.p v 0=>some v
 |_=>none
def NY (W:aH) (o:Nat):al→Option al
 |.x v=>match W.df v with
  |.bN _ _ _=>bif Nat.ble 2000 o then yZ W v (.k (.ofNat (Nat.mod o 2000)))else none
  |_=>none
 |.fn _ _ c=>fk c o
 |.k (.func _ _ c)=>fk (ks c) o
 |.agg l=>fk l o
 |.k (.agg l)=>fk (ks l) o
 |_=>none
def xX (T:bG):List Nat→al→aH→Option (al × aH)
 | [],s,W=>some (s,W)
 |o::r,s,W=>match NY W o s with
  |some x=>xX T r x W
  |none=>match qi s with
  |some v=>match nq W v with
   |some c=>match fk (hE (T.K c)) o with
    |some t=>match CE W v o t with
     |(x,W)=>xX T r x W
    |none=>none
   |none=>none
  |none=>none
def xY (T:bG) (env:bE):List (Nat × List Nat)→aH→Option (List al × aH)
 | [],W=>some ([],W)
 |(k,p)::r,W=>match ee env k with
  |.val s=>match xX T p s W with
   |some (x,W)=>match xY T env r W with
    |some (xs,W)=>some (x::xs,W)
    |none=>none
   |none=>none
  |_=>none
def Hs (env:bE) (xs:List al) (v:Nat):Option al:=bif Nat.blt v 50000 then(match ee env v with
  |.val s=>some s
  |_=>none)else bif Nat.blt v 100000 then(match ee env (Nat.mod (Nat.div v 100) 500)with
  |.box l=>fk l (Nat.mod v 100)
  |_=>none)else fk xs (Nat.sub (Nat.div v 100000) 1)
def Iq (W:aH) (env:bE) (xs:List al):At→Option bn
 |.i v=>match Hs env xs v with
  |some s=>match gD s with
   |some (_,l)=>some l
   |none=>none
  |none=>none
 |.l v=>match Hs env xs v with
  |some s=>match yk W s with
   |some l=>some l
   |none=>match AP W s with
    |some l=>some l
    |none=>AO W s
  |none=>none
def Mr (W:aH) (env:bE) (xs:List al):List (Int × At)→Option bn
 | []=>some (.k (.ofNat 0))
 |(k,a)::r=>match Iq W env xs a,Mr W env xs r with
  |some x,some y=>some ((bn.mul k x).add y)
  |_,_=>none
def sK (W:aH) (env:bE) (xs:List al) (l:bn):Option bn:=match Mr W env xs l.t with
 |some x=>some (x.dO l.c)
 |none=>none
def x_ (W:aH) (env:bE) (xs:List al):List bn→Option (List bn)
 | []=>some []
 |l::r=>match sK W env xs l,x_ W env xs r with
  |some x,some y=>some (x::y)
  |_,_=>none
def Mk (env:bE) (xs:List al):List Nat→Option (List al)
 | []=>some []
 |v::l=>match Hs env xs v,Mk env xs l with
  |some s,some r=>some (s::r)
  |_,_=>none
def t_ (env:bE) (xs:List al):List (Nat × List Nat)→Option (List (Nat × List al))
 | []=>some []
 |(k,l)::r=>match Mk env xs l,t_ env xs r with
  |some s,some q=>some ((k,s)::q)
  |_,_=>none
def tT (T:bG) (W:aH):List (Nat × List al)→Bool
 | []=>true
 |(k,as)::r=>P9 T W k as&&tT T W r
def ie:List (Nat × List al)→aH→aH
 | [],W=>W
 |(k,as)::r,W=>ie r (W.l7 k as)
def Jy (T:bG) (env:bE):List (Nat × bb)→aH→Option aH
 | [],W=>some W
 |(s,t)::r,W=>match ee env s with
  |.val v=>match BP T W v t with
   |some W=>Jy T env r W
   |none=>none
  |_=>none
def La:List (Nat × bb)→bE→aH→bE × aH
 | [],env,W=>(env,W)
 |(s,t)::r,env,W=>match cW W t with
  |(v,W)=>La r (oE env s (.val v)) W
def ML:List (Nat × bb)→bE→bE
 | [],env=>env
 |(s,_)::r,env=>ML r (oE env s .un)
def Jw (T:bG) (env:bE):List (Nat × List bb)→aH→Option aH
 | [],W=>some W
 |(s,ts)::r,W=>match ee env s with
  |.box l=>match k9 T W l ts with
   |some W=>Jw T env r W
   |none=>none
  |_=>none
def K8:List (Nat × List bb)→bE→aH→bE × aH
 | [],env,W=>(env,W)
 |(s,ts)::r,env,W=>match e3 W ts with
  |(l,W)=>K8 r (oE env s (.box l)) W
def MK:List (Nat × List bb)→bE→bE
 | [],env=>env
 |(s,_)::r,env=>MK r (oE env s .un)
def tQ:bb→Bool
 |.own _ _ e _ _=>Nat.beq (gJ e) 0
 |_=>true
def Fj (T:bG) (la:dX) (env:bE) (W:aH):Option aH:=bif la.bN.all (fun p=>tQ p.2)&&la.bK.all (fun p=>p.2.all tQ)then(match Jy T env la.bN W with
 |some W=>Jw T env la.bK W
 |none=>none)else none
def CM (la:dX) (env:bE) (W:aH):bE × aH:=match La la.bN env W with
 |(env,W)=>K8 la.bK env W
def yl (la:dX) (env:bE):bE:=MK la.bK (ML la.bN env)
def jW:fK→List Nat
 |.region ops=>ops.filterMap fun o=>o.dst
 |.drawn _ ops=>ops.filterMap fun o=>o.2.dst
 |.seq a b=>jW a++jW b
 |.cond _ a b=>jW a++jW b
 |.block _ b=>jW b
 |.loop b=>jW b
 |_=>[]
def nb:List Nat→bE→bE
 | [],env=>env
 |s::r,env=>nb r (oE env s .un)
def tp (W:aH):List bn→Bool
 | []=>true
 |l::r=>geq W l&&tp (W.g2 l) r
def hB:List bn→aH→aH
 | [],W=>W
 |l::r,W=>hB r (W.g2 l)
def Kq (cells:List (Nat × Nat × al)):List Nat→al→List (Nat × Nat × al)
 | [],_=>[]
 |o::r,s=>match qi s with
  |some v=>match pU v o cells with
   |some x=>(v,o,x)::Kq cells r x
   |none=>[]
  |none=>[]
def nH (env:bE) (cells:List (Nat × Nat × al)):List (Nat × List Nat)→List (Nat × Nat × al)
 | []=>[]
 |(s,p)::r=>bif Nat.beq s 999999 then cells.filter fun q=> !hF q.2.1 p else match ee env s with
  |.val a=>Kq cells p a++nH env cells r
  |_=>nH env cells r
def Kr (cells:List (Nat × Nat × al)) (p:Nat × Nat × al):Bool:=match pU p.1 p.2.1 cells with
 |some x=>h5 fuel p.2.2 x
 |none=>false
def JM (T:bG) (la:dX) (body:fK) (env:bE) (xs:List al) (W:aH):Option (bE × aH × aH × List al):=match Fj T la env W,x_ W env (xs++xs) la.inv,t_ env xs la.pi with
 |some W1,some l,some q=>bif tp W l&&tT T W q then(match CM la (nb (jW body) env) {W1 with cells:=nH env W.cells la.q7,rd:=none}with
  |(env,oQ)=>match xY T env la.ce oQ with
   |some (ys,jT)=>match x_ jT env (ys++xs) la.inv,t_ env ys la.pi with
    |some l,some q=>some (env,ie q (hB l jT),W1,ys)
    |_,_=>none
   |none=>none)else none
 |_,_,_=>none
def JH (p:Nat × Nat × Nat) (l:List (Nat × Nat × Nat)):Bool:=l.any fun q=>Nat.beq p.1 q.1&&(Nat.beq p.2.1 q.2.1&&Nat.beq p.2.2 q.2.2)
def EV (T:bG) (la:dX) (env:bE) (W:aH):Option (List al × aH):=match xY T env la.ce W with
 |some (fm,W)=>match yJ T W with
  |some W=>some (fm,W)
  |none=>none
 |none=>none
def DB (a b:Option (Nat × Nat × Option (al × al))):Bool:=match a,b with
 |none,none=>true
 |some p,some q=>Nat.beq p.1 q.1&&(Nat.beq p.2.1 q.2.1&&(match q.2.2 with
  |none=>true
  |some y=>match p.2.2 with
   |some x=>h5 fuel x.1 y.1&&h5 fuel x.2 y.2
   |none=>false))
 |_,_=>false
def Wg (T:bG) (la:dX) (xs:List al) (jo:List (Nat × Nat × al)) (m2:List (Nat × Nat × Nat)) (En:List (Nat × Nat)) (t0:Option (Nat × Nat × Option (al × al))) (m:bn) (lh:bE) (env:bE) (W:aH):Bool:=match EV T la env W with
 |some (fm,W)=>match Fj T la env W,x_ W env (fm++xs) la.inv,sK W env fm la.ms,t_ env fm la.pi with
  |some W1,some l,some eI,some q=>((tp W l&&tT T W q)&&DB W.lt t0)&&(jo.all (Kr W.cells)&&(Az (yl la lh) env&&(m2.all (fun p=>JH p W1.live)&&(W.cA.all (fun p=>zD p.1 p.2 En)&&(geq W ((m.sub eI).dO (.negSucc 0))&&geq W eI)))))
  |_,_,_,_=>false
 |none=>false
def agH:Nat:=4611686018427387000
abbrev gv:=dT × bE × aH
abbrev gG:=Option (List gv)
def rL (k:bE→aH→gG):List gv→gG
 | []=>some []
 |(.normal,e,W)::l=>yC (k e W) (rL k l)
 |o::l=>match rL k l with
  |some r=>some (o::r)
  |none=>none
def x5 (r:gG) (k:bE→aH→gG):gG:=match r with
 |some l=>rL k l
 |none=>none
def ta (id:Nat):List gv→List gv
 | []=>[]
 |(.exit i,e,W)::l=>(bif Nat.beq i id then(.normal,e,W)else(.exit i,e,W))::ta id l
 |o::l=>o::ta id l
def Vf (body:bE→aH→gG):Nat→bE→aH→gG
 |0,_,_=>none
 |n+1,env,W=>x5 (body env W) (Vf body n)
def x3 (ok:bE→aH→Bool):List gv→gG
 | []=>some []
 |(.normal,e,W)::l=>bif ok e W then x3 ok l else none
 |o::l=>match x3 ok l with
  |some r=>some (o::r)
  |none=>none
def Sh (T:bG) (la:dX) (code:fK) (body:bE→aH→gG) (xs:List al) (env:bE) (W:aH):gG:=match JM T la code env xs W with
 |some (lh,HW,W1,ys)=>match sK HW lh ys la.ms,sK W env xs la.ms with
  |some m,some m4=>bif geq W (m4.neg.dO (.ofNat agH))&&geq W m4 then(match body lh HW with
   |some l=>x3 (Wg T la xs (nH env W.cells la.q7) W1.live W1.cA W.lt m lh) l
   |none=>none)else none
  |_,_=>none
 |none=>none
def uT {α β:Type} (k:α→Option β):List α→Option β
 | []=>none
 |c::l=>match k c with
  |some r=>some r
  |none=>uT k l
def Si (T:bG) (la:dX) (code:fK) (body:bE→aH→gG) (env:bE) (W:aH):gG:=match la.un with
 |0=>match xY T env la.ce W with
  |some (xs,W)=>match yJ T W with
   |some W=>uT (fun bN=>Sh T {la with bN:=bN} code body xs env W) (la.bN::la.vO)
   |none=>none
  |none=>none
 |n+1=>bif Nat.ble n 100000 then Vf body (n+1) env W else none
def xv (T:bG) (la:dX) (code:fK) (body:bE→aH→gG) (env:bE) (W:aH):gG:=uT (fun la=>Si T la code body env W) (la::la.alt.map fun q=> {la with ce:=q.1,inv:=q.2.1,pi:=q.2.2,alt:=[]})
def abF:bb→Bool
 |.int _ _ _|.gn _|.str _=>true
 |_=>false
def Ki (W:aH) (u:Nat):Bool:=match W.df u with
 |.ptr _ _|.map _ _=>true
 |_=>false
def O4 (T:bG) (d:Option Nat) (v w:Nat) (env:bE) (W:aH):Option (bE × aH):=match W.df v with
 |.map c _=>match T.K c with
  |.map _ t cH=>bif abF cH then(match cW W cH with
   |(k,W)=>match cW W t with
    |(x,W)=>bif W.wr.all (fun u=>Nat.beq u w||Ki W u)then(match W.op with
     | []=>some (jN d (.val (.eN [.k (.bool true),k,x])) env,{W with wr:=W.wr.filter fun u=> !Nat.beq u w,lt:=some (v,w,some (k,x)),rd:=none})
     |_=>none)else none)else none
  |_=>none
 |_=>none
def abU (d:Option Nat) (env:bE):bE:=jN d (.val (.eN [.k (.bool false)])) env
def CO:List gv→gG
 | []=>some []
 |(.normal,_,_)::_=>none
 |o::l=>match CO l with
  |some r=>some (o::r)
  |none=>none
def Hg (v w s:Nat) (env:bE) (W:aH):Bool:=(match ee env s with
 |.val (.x u)=>Nat.beq u w
 |_=>false)&&((match W.lt with
 |some (jx,w',none)=>Nat.beq jx v&&Nat.beq w' w
 |_=>false)&&hF w W.wr)
def Ny (T:bG) (la:dX) (xs:List al) (jo:List (Nat × Nat × al)) (m2:List (Nat × Nat × Nat)) (En:List (Nat × Nat)) (t0:Option (Nat × Nat × Option (al × al))) (lh:bE) (env:bE) (W:aH):Bool:=match EV T la env W with
 |some (fm,W)=>match Fj T la env W,x_ W env (fm++xs) la.inv,t_ env fm la.pi with
  |some W1,some l,some q=>((tp W l&&tT T W q)&&DB W.lt t0)&&(jo.all (Kr W.cells)&&(Az (yl la lh) env&&(m2.all (fun p=>JH p W1.live)&&W.cA.all (fun p=>zD p.1 p.2 En))))
  |_,_,_=>false
 |none=>false
def Wf (ok:bE→aH→Bool):gv→Bool
 |(.normal,e,W)=>ok e W
 |_=>false
def Cu (T:bG) (W:aH) (v:Nat):Option bn:=match W.df v with
 |.map c _=>match T.K c with
  |.map _ _ (.int _ lo hi)=>bif nI lo hi then some (.k (pH (ya hi lo) (.ofNat 1)))else none
  |_=>none
 |_=>none
def W8 (T:bG) (la:dX) (v:Nat) (xs:List al) (env:bE) (W:aH):Bool:=match la.un with
 |0=>true
 |_=>match sK W env xs la.ms,Cu T W v with
  |some m,some _=>geq W m.neg
  |_,_=>false
def uE (T:bG) (la:dX) (v:Nat) (ys:List al) (env:bE) (W:aH) (more:Int):aH:=match la.un with
 |0=>W
 |_=>match sK W env ys la.ms,Cu T W v with
  |some m,some n=>W.g2 ((n.sub m).dO more)
  |_,_=>W
def Od (T:bG) (la:dX) (m:Option bn) (env:bE) (W:aH):Bool:=match la.un with
 |0=>true
 |_=>match EV T la env W with
  |some (fm,W)=>match m,sK W env fm la.ms with
   |some m,some eI=>geq W ((m.sub eI).dO (.ofNat 1))
   |_,_=>false
  |none=>false
def SB (T:bG) (la:dX) (code:fK) (body:bE→aH→gG) (s:Nat) (d:Option Nat) (v w:Nat) (xs:List al) (env:bE) (W:aH):gG:=match JM T la code env xs W with
 |some (lh,HW,W1,ys)=>bif W8 T la v xs env W&&(Hg v w s lh HW&&(Hg v w s env W&&Ki W v))then(match O4 T d v w lh (uE T la v ys lh HW (.negSucc 0))with
  |some (BD,cD)=>match body BD cD,body (abU d lh) {uE T la v ys lh HW (.ofNat 0)with lt:=none,rd:=none,wr:=HW.wr.filter fun u=> !Nat.beq u w}with
   |some l,some r=>bif l.all (Wf fun e W'=>Od T la (sK HW lh ys la.ms) e W')&&l.all (Wf (Ny T la xs (nH env W.cells la.q7) W1.live W1.cA W.lt lh))then CO r else none
   |_,_=>none
  |none=>none)else none
 |none=>none
def SC (body:bE→aH→gG) (s:Nat) (d:Option Nat) (w:Nat) (env:bE) (W:aH):gG:=bif Hg w w s env W then(match body (abU d env) {W with lt:=none,rd:=none,wr:=W.wr.filter fun u=> !Nat.beq u w}with
 |some r=>CO r
 |none=>none)else none
def K4 (T:bG) (la:dX) (code:fK) (body:bE→aH→gG) (s:Nat) (d:Option Nat) (env:bE) (W:aH):gG:=match W.lt with
 |some (v,w,none)=>bif Nat.beq v w then SC body s d w env W else match xY T env la.ce W with
  |some (xs,W)=>match yJ T W with
   |some W=>uT (fun bN=>SB T {la with bN:=bN} code body s d v w xs env W) (la.bN::la.vO)
   |none=>none
  |none=>none
 |_=>none
def qc:fK→Nat
 |.seq a b=>Nat.add (qc a) (qc b)
 |.cond _ a b=>Nat.add (qc a) (qc b)
 |.block _ b=>qc b
 |.loop b=>Nat.add (qc b) 1
 |_=>0
def CR:List dX→dX
 | []=>default
 |a::_=>a
def oH:Nat→List dX→List dX
 |0,l=>l
 |n+1,_::l=>oH n l
 |_+1,[]=>[]
def IU (T:bG) (W:aH):aH:=match yJ T W with
 |some W=>W
 |none=>W
def C0 (r:dG):gG:=match r with
 |some l=>some (l.map fun p=>(.normal,p.1,p.2))
 |none=>none
def iU (T:bG) (an:gE) (sc scq:iy):fK→List dX→bE→aH→gG
 |.skip,_,env,W=>some [(.normal,env,W)]
 |.region ops,_,env,W=>C0 (CZ T an sc ops env W)
 |.drawn B ops,_,env,W=>C0 (OR T an sc scq B ops (PA ops env) (IU T W))
 |.seq a b,la,env,W=>x5 (iU T an sc scq a la env W) (iU T an sc scq b (oH (qc a) la))
 |.cond c a b,la,env,W=>match dZ env c with
  |some s=>match yj s with
   |some f=>tc W f fun t W=>bif t then iU T an sc scq a la env W else iU T an sc scq b (oH (qc a) la) env W
   |none=>none
  |none=>none
 |.block id b,la,env,W=>match iU T an sc scq b la env W with
  |some l=>some (ta id l)
  |none=>none
 |.loop (.seq (.region (⟨d,none,.next (.tmp s)⟩::l)) q),la,env,W=>bif an.md then K4 T (CR la) (.seq (.region (⟨d,none,.next (.tmp s)⟩::l)) q) (fun e W=>x5 (C0 (CZ T an sc l e W)) (iU T an sc scq q (oH 1 la))) s d env W else none
 |.loop b,la,env,W=>match vw b with
  |none=>xv T (CR la) b (iU T an sc scq b (oH 1 la)) env W
  |some _=>none
 |.exit id,_,env,W=>some [(.exit id,env,W)]
 |.ret,_,env,W=>some [(.ret,env,W)]
def Ek:List al→Nat→bE→bE
 | [],_,env=>env
 |s::l,i,env=>Ek l (Nat.add i 1) (oE env i (.val s))
def LW (T:bG) (env:bE) (W:aH):kg→Option (al × aH)
 |.tmp t=>match jj env (.tmp t)with
  |.val s=>some (s,W)
  |_=>none
 |.cell agg n t=>match jj env (.tmp t)with
  |.gZ s o=>zR T env W agg n (.gZ s o)
  |.val (.p v o)=>CF T W agg n v o
  |.val (.x v)=>CF T W agg n v 0
  |_=>none
def Ai (T:bG) (env:bE):List kg→aH→Option (List al × aH)
 | [],W=>some ([],W)
 |r::l,W=>match LW T env W r with
  |some (s,W)=>match Ai T env l W with
   |some (ss,W)=>some (s::ss,W)
   |none=>none
  |none=>none
def ue:List al→al
 | [s]=>s
 |l=>.eN l
def uL (T:bG) (res:List kg):List gv→Option (List (al × aH))
 | []=>some []
 |(.exit _,_,_)::_=>none
 |(_,env,W)::l=>match Ai T env res W,uL T res l with
  |some (ss,W),some r=>some ((ue ss,W)::r)
  |_,_=>none
def F9 (T:bG) (an:gE) (la:List dX) (dg:kF) (sc scq:iy) (args:List al) (W:aH):Option (List (al × aH)):=bif Nat.ble (fH args) dg.n then(match iU T an sc scq dg.body la (Ek args 0 .dL) W with
 |some l=>uL T dg.res l
 |none=>none)else none
def Ah (T:bG) (as:List al):List (Nat × List Nat)→aH→Option (List al × aH)
 | [],W=>some ([],W)
 |(k,p)::r,W=>match fk as k with
  |some s=>match xX T p s W with
   |some (x,W)=>match Ah T as r W with
    |some (xs,W)=>some (x::xs,W)
    |none=>none
   |none=>none
  |none=>none
structure b9 where
 br:List bb
 pre:List bn
 outs:List (List bb × List bn × List (Nat × List Nat))
 M:List Nat
 P:List Nat
 ce:List (Nat × List Nat):=[]
 pp:List (Nat × List Nat):=[]
 fw:Bool:=true
 su:List Nat:=[]
 ar:Bool:=false
 pW:List (Nat × Nat × Nat × bb):=[]
instance:Inhabited b9:=⟨⟨[],[],[],[],[],[],[],true,[],false,[]⟩⟩
def s4 (ls:List (List al)) (v:Nat):Option al:=match fk ls (Nat.div v 100)with
 |some l=>fk l (Nat.mod v 100)
 |none=>none
def Ik (W:aH) (ls:List (List al)):At→Option bn
 |.i v=>match s4 ls v with
  |some s=>match gD s with
   |some (_,l)=>some l
   |none=>none
  |none=>none
 |.l v=>match s4 ls v with
  |some s=>match yk W s with
   |some l=>some l
   |none=>match AP W s with
    |some l=>some l
    |none=>AO W s
  |none=>none
def Io (W:aH) (ls:List (List al)):List (Int × At)→Option bn
 | []=>some (.k (.ofNat 0))
 |(k,a)::r=>match Ik W ls a,Io W ls r with
  |some x,some y=>some ((bn.mul k x).add y)
  |_,_=>none
def rF (W:aH) (ls:List (List al)):List bn→Option (List bn)
 | []=>some []
 |l::r=>match Io W ls l.t,rF W ls r with
  |some x,some y=>some (x.dO l.c::y)
  |_,_=>none
def Im (ls:List (List al)):List Nat→Option (List al)
 | []=>some []
 |v::l=>match s4 ls v,Im ls l with
  |some s,some r=>some (s::r)
  |_,_=>none
def qE (ls:List (List al)):List (Nat × List Nat)→Option (List (Nat × List al))
 | []=>some []
 |(k,l)::r=>match Im ls l,qE ls r with
  |some s,some q=>some ((k,s)::q)
  |_,_=>none
def KS (T:bG) (W:aH) (as cd:List al) (k:Nat):Bool:=match s4 [as,[],cd] k with
 |some s=>match qi s with
  |some v=>match W.df v with
   |.ptr c _|.map c _=> !ku T c&&(holds W (.nl v false)&&vv W v c)
   |_=>false
  |none=>false
 |none=>false
def Z0 (u v:Nat):Nat × List al→Bool
 |(12,[.x a,.x b])=>(Nat.beq u a&&Nat.beq v b)||(Nat.beq u b&&Nat.beq v a)
 |_=>false
def Nh (W:aH) (as cd:List al) (c u k:Nat):Bool:=match s4 [as,[],cd] k with
 |some s=>match qi s with
  |some v=>match W.df v with
   |.ptr bF _=> !Nat.beq c bF||W.b2.any (Z0 u v)
   |.map bF _=> !Nat.beq c bF
   |_=>false
  |none=>false
 |none=>false
def IT (T:bG) (as:List al) (ce:List (Nat × List Nat)) (W:aH):Option (List al × aH):=match Ah T as ce W with
 |some (xs,W)=>match yJ T W with
  |some W=>match W.cA,W.lt with
   | [],none=>some (xs,W)
   |_,_=>none
  |none=>none
 |none=>none
def tU (T:bG) (W:aH) (p:Nat × Nat × Nat):aH:=match W.df p.1 with
 |.rv lo hi=>bif gr p.2.2&&(Nat.blt p.2.2 1000000000&&(iV T p.2.1 (T.D p.2.2)&&(iV T p.2.1 (T.E p.2.2)&&gN (jQ fuel) (iT (T.E p.2.2)) (iT (T.D p.2.2)))))then(match DQ p.1 p.2.1 p.2.2 W.live with
  |some l=> {W with live:=l,ty:=ts .any (.rs p.2.2 lo hi) (ja p.1) W.ty}
  |none=>W)else W
 |_=>W
def JI:Nat→bb→Bool
 |0,_=>false
 |f+1,t=>match t with
  |.rs _ _ _=>true
  |.agg l|.eN l=>l.any (JI f)
  |_=>false
def tV (T:bG):List (Nat × Nat × Nat)→aH→aH
 | [],W=>W
 |p::r,W=>tV T r (tU T W p)
def NR (W:aH) (aS:b9) (as cd:List al):List (Nat × Nat × al):=W.cells.filter fun p=>match W.df p.1 with
 |.ptr c _=> !hF c aS.M&&aS.P.all (Nh W as cd c p.1)
 |_=>false
def p9 (T:bG) (W:aH) (as:List al) (ce:List (Nat × List Nat)) (cd:List al):List Nat→List (Nat × Nat × al)
 | []=>[]
 |i::r=>match fk ce i,fk cd i with
  |some (k,[o]),some s=>match fk as k with
   |some a=>match qi a with
    |some v=>match nq W v with
     |some c=>bif(fk (hE (T.K c)) o).isSome then(v,o,s)::p9 T W as ce cd r else p9 T W as ce cd r
     |none=>p9 T W as ce cd r
    |none=>p9 T W as ce cd r
   |none=>p9 T W as ce cd r
  |_,_=>p9 T W as ce cd r
def ate (cd bf:List al) (l:List Nat):Bool:=l.all fun i=>match fk cd i,fk bf i with
 |some a,some b=>h5 fuel a b
 |_,_=>false
def E2 (W:aH):Bool:=W.ge.any fun l=>match l.t with
 | []=> !nI (.ofNat 0) l.c
 |_=>false
def sC (T:bG):List (Nat × List al)→aH→aH
 | [],W=>W
 |(k,as)::r,W=>sC T r (note T k as W)
def EZ (T:bG) (W:aH) (as:List al) (ce:List (Nat × List Nat)) (cd:List al):List (List bb × List bn × List (Nat × List Nat))→Option (List (al × aH))
 | []=>some []
 |(HM,fs,br)::r=>bif HM.all tQ then match e3 W HM with
  |(rs,W1)=>match Ah T as ce W1 with
   |some (bf,cD)=>match rF cD [as,rs,cd,bf] fs,qE [as,rs,cd,bf] br,EZ T W as ce cd r with
    |some l,some q,some o=>some (bif E2 (sC T q (hB l cD))then o else(ue rs,sC T q (hB l cD))::o)
    |_,_,_=>none
   |none=>none
  else none
def Jt (T:bG) (as:List al):List (Nat × Nat × Nat × bb)→aH→Option aH
 | [],W=>some W
 |(k,o,i,t)::r,W=>match fk as k with
  |some s=>match xX T [o] s W with
   |some (.x v,W1)=>match cW W1 (l0 t)with
    |(e,cD)=>Jt T as r (cD.l7 0 [.x v,.i .i64 (.k (.ofNat i)),e])
   |_=>none
  |none=>none
def Ju (T:bG) (as:List al):List (Nat × Nat × Nat × bb)→aH→Option aH
 | [],W=>some W
 |(k,o,i,t)::r,W=>match fk as k with
  |some s=>match xX T [o] s W with
   |some (.x v,W1)=>match W1.df v,yZ W1 v (.k (.ofNat i))with
    |.bN _ _ _,some e=>bif(BP T W1 e t).isSome then Ju T as r W1 else none
    |_,_=>none
   |_=>none
  |none=>none
def IX (T:bG) (aS:b9) (as:List al) (W:aH):Option (List (al × aH)):=match W.cA with
 | []=>match Ju T as aS.pW W with
  |some W=>match IT T as aS.ce W with
   |some (cd,W)=>match k9 T W as aS.br,rF W [as,[],cd] aS.pre,qE [as,[],cd] aS.pp with
    |some W1,some l,some q=>bif(tp W l&&tT T W q)&&(aS.M.all (fun c=>hF c W.M&& !ku T c)&&aS.P.all (KS T W as cd))then EZ T {W1 with cells:=p9 T W1 as aS.ce cd aS.su++NR W1 aS as cd,rd:=none} as aS.ce cd aS.outs else none
    |_,_,_=>none
   |none=>none
  |none=>none
 |_=>none
def YI (v:Nat) (l:List (Nat × Nat)):Bool:=l.any fun p=>Nat.beq v p.1
def zI (T:bG) (W:aH):List (Nat × Nat × al)→List (Nat × Nat)→List (Nat × Nat)
 | [],acc=>acc
 |(v,_,_)::r,acc=>match nq W v with
  |some c=>bif T.kept c&& !YI v acc then zI T W r ((v,c)::acc)else zI T W r acc
  |none=>zI T W r acc
def zQ (T:bG):List (Nat × Nat)→aH→List (Nat × Nat × List al) × aH
 | [],W=>([],W)
 |(v,c)::r,W=>match zP T W v c with
  |some (l,W1)=>match zQ T r W1 with
   |(hs,cD)=>((v,c,l)::hs,cD)
  |none=>zQ T r W
def Fa (v:Nat) (l:List al):List Nat→List (Nat × Nat × al)
 | []=>[]
 |o::r=>match fk l o with
  |some s=>(v,o,s)::Fa v l r
  |none=>Fa v l r
def CQ (T:bG):List (Nat × Nat × List al)→aH→aH
 | [],W=>W
 |(v,c,l)::r,W=>match zP T {W with cells:=Fa v l (T.fix c)++W.cells} v c with
  |some (c_,W1)=>CQ T r (note T (hY c) [.agg c_] (note T (iu c) [.agg l,.agg c_] W1))
  |none=>CQ T r W
def yQ (T:bG) (aS:b9) (as:List al) (W:aH):Option (List (al × aH)):=bif aS.ar then(match zQ T (zI T W W.cells []) W with
 |(hs,cS)=>match IX T aS as cS with
  |some l=>some (l.map fun p=>(p.1,CQ T hs p.2))
  |none=>none)else IX T aS as W
inductive FS where
 |none
 |aS (c:b9)
 |cons (cs:List b9)
 |code (an:gE) (la:List dX) (dg:kF)
instance:Inhabited FS:=⟨.none⟩
abbrev oN:=Nat→FS
def Br:FS→List b9
 |.aS c=>[c]
 |.cons cs=>cs
 |_=>[]
def qk (T:bG) (F:oN):Nat→Bool→iy
 |0,_=>fun _ _ _=>none
 |n+1,dm=>fun f as W=>match F f with
  |.none=>none
  |.aS c=>bif !dm||c.fw then yQ T c as W else none
  |.cons cs=>uT (fun c=>bif !dm||c.fw then yQ T c as W else none) cs
  |.code an la dg=>bif !dm|| !an.md then F9 T an la dg (qk T F n dm) (qk T F n true) as W else none
def Co:Nat→Nat→List (Nat × List Nat)→Bool
 |0,_,_=>true
 |n+1,o,(0,[q])::r=>Nat.beq o q&&Co n (Nat.add o 1) r
 |_+1,_,_=>false
def xb (T:bG) (br:List bb) (as:List al) (ce:List (Nat × List Nat)) (cd bf:List al) (W:aH):aH:=match as,br with
 |.x v::_,.ptr bF _::_=>match nq W v with
  |some c=>bif(Nat.beq c bF&&T.kept c)&&Co (fH (hE (T.K c))) 0 ce then(match ru (fH (hE (T.K c))) cd,ru (fH (hE (T.K c))) bf with
   |some l,some c_=>W.l7 (iu c) [.agg l,.agg c_]
   |_,_=>W)else W
  |none=>W
 |_,_=>W
def IW (T:bG) (br:List bb) (as:List al) (ce:List (Nat × List Nat)) (su:List Nat) (cd rs:List al) (W:aH) (p:List bb × List bn × List (Nat × List Nat)):Bool:=match IT T as ce W with
 |some (bf,W)=>match tV T (bif p.1.any (JI fuel)then W.live else []) (xb T br as ce cd bf W)with
  |W=>match k9 T W rs p.1,rF W [as,rs,cd,bf] p.2.1,qE [as,rs,cd,bf] p.2.2 with
   |some _,some l,some q=>(tp W l&&tT T W q)&&ate cd bf su
   |_,_,_=>false
 |none=>false
def vW (n:Nat) (s:al):List al:=match n with
 |1=>[s]
 |_=>match MD s with
  |some l=>l
  |none=>[s]
def Xa (T:bG) (aS:b9) (as cd:List al) (s:al) (W:aH):Bool:=match s with
 |.b f=>match tc W f fun t W=>some [(al.k (.bool t),W)]with
  |some q=>q.all fun x=>aS.outs.any fun p=>IW T aS.br as aS.ce aS.su cd (vW (fH p.1) x.1) x.2 p
  |none=>false
 |_=>false
def wM (T:bG) (aS:b9) (as cd:List al):List (al × aH)→Bool
 | []=>true
 |(s,W)::l=>(match W.cA with
  | []=>(aS.outs.any fun p=>IW T aS.br as aS.ce aS.su cd (vW (fH p.1) s) W p)||Xa T aS as cd s W
  |_=>false)&&wM T aS as cd l
def M8 (aS:b9):aH:=⟨0,.dL,[],[],[],[],[],[],aS.M,[],[],[],none,none⟩
def Ac (ls:List (List al)):List Nat→List Nat
 | []=>[]
 |k::l=>match s4 ls k with
  |some (.x v)=>v::Ac ls l
  |_=>Ac ls l
def begin (T:bG) (aS:b9):Option (List al × List al × aH):=bif aS.br.all tQ then(match e3 (M8 aS) aS.br with
 |(as,W)=>match Jt T as aS.pW W with
  |some W=>match Ah T as aS.ce W with
   |some (cd,W)=>match rF W [as,[],cd] aS.pre,qE [as,[],cd] aS.pp with
    |some l,some q=>some (as,cd,{ie q (hB l W)with wr:=Ac [as,[],cd] aS.P})
    |_,_=>none
   |none=>none
  |none=>none)else none
def yH (T:bG) (F:oN) (n:Nat) (aS:b9) (an:gE) (la:List dX) (dg:kF):Bool:=match begin T aS with
 |some (as,cd,W)=>match F9 T an la dg (qk T F n aS.fw) (qk T F n true) as W with
  |some o=>(!aS.fw|| !an.md)&&wM T aS as cd o
  |none=>false
 |none=>false
end Go.bO.cK
end
section
namespace Go.bO.cK
theorem tH (a b:Int):nI a b=decide (a≤b):=by
 unfold nI;rw[tK];by_cases h:a≤b
 ·simp[h]
 ·simp[h];omega
theorem K6 (a b:Int):Gy a b=a*b:=by
 cases a<;>cases b<;>first|rfl|skip
theorem qd (a:Int):kz a= -a:=by
 unfold kz;rw[DM];show(0:Int)-a= -a;omega
theorem Z9 {a:Int}:zF a=true↔a=0:=by
 match a with
 |.ofNat 0=>exact⟨fun _=>rfl,fun _=>rfl⟩
 |.ofNat (n+1)=>exact⟨fun h=>(by cases h),fun h=>absurd h (by show((n+1:Nat):Int)≠0;omega)⟩
 |.negSucc n=>exact⟨fun h=>(by cases h),fun h=>absurd h (by omega)⟩
theorem V_ {a b:At} (h:At.beq a b=true):a=b:=by
 cases a<;>cases b<;>first|(cases h;done)|(have:=oT h;subst this;rfl)
theorem pn {a b:IntKind} (h:m1 a b=true):a=b:=by cases a<;>cases b<;>first|rfl|cases h
theorem b5 {a b:Nat} (h:Nat.beq a b=true):a=b:=oT h
theorem jf {a b:Nat} (h:Nat.ble a b=true):a≤b:=s_ h
theorem e9 {a b:Nat} (h:Nat.blt a b=true):a<b:=by rw[kK]at h;exact of_decide_eq_true h
theorem hl {β:Type} (l:List β):fH l=l.length:=by
 induction l with
 |nil=>rfl
 |cons a l bm=>simp only[fH,mb,bm,Nat.add_eq]
theorem j_ {β:Type}:∀(l:List β) (n:Nat),fk l n=l[n]?
 | [],n=>by simp[fk]
 |a::l,0=>rfl
 |a::l,n+1=>by simp[fk,j_ l n]
theorem a6 {a b:Bool} (h:(a&&b)=true):a=true∧b=true:=by simpa using h
theorem eF {α:Type} {b:Bool} {x:Option α} {r:α} (h:(bif b then x else none)=some r):b=true∧x=some r:=by
 cases b with
 |true=>exact⟨rfl,h⟩
 |false=>cases h
theorem sZ {α β:Type} {f:α→β→Bool}:∀{l:List α} {r:List β},gN f l r=true→l.length=r.length∧∀(j:Nat) a b,l[j]? =some a→r[j]? =some b→f a b=true
 | [],[],_=>⟨rfl,fun j a b h=>by simp at h⟩
 | [],_::_,h=>by cases h
 |_::_,[],h=>by cases h
 |a::l,b::r,h=>by
  obtain⟨U,aa⟩:=a6 h;obtain⟨au,ba⟩:=sZ aa;refine⟨by simp[au],fun j x y ad aI=> ?_⟩
  cases j with
  |zero=>simp at ad aI;subst ad;subst aI;exact U
  |succ j=>exact ba j x y (by simpa using ad) (by simpa using aI)
theorem uc {α:Type} (d:α) (p:iR):h1 d p .dL=d:=by cases p<;>rfl
theorem yh {α:Type} (d e:α):∀(p q:iR) (t:cg α),h1 d q (ts d e p t)=if p=q then e else h1 d q t
 |.z,.z,t=>by cases t<;>rfl
 |.z,.a q,t=>by rw[if_neg (by intro h;cases h)];cases t<;>simp[ts,h1,uc]
 |.z,.b q,t=>by rw[if_neg (by intro h;cases h)];cases t<;>simp[ts,h1,uc]
 |.a p,.z,t=>by rw[if_neg (by intro h;cases h)];cases t<;>rfl
 |.b p,.z,t=>by rw[if_neg (by intro h;cases h)];cases t<;>rfl
 |.a p,.a q,t=>by
  have U:(iR.a p=iR.a q)=(p=q):=by simp
  cases t with
  |dL=>simp only[ts,h1,U,yh d e p q,uc]
  |fr v l r=>simp only[ts,h1,U,yh d e p q]
 |.b p,.b q,t=>by
  have U:(iR.b p=iR.b q)=(p=q):=by simp
  cases t with
  |dL=>simp only[ts,h1,U,yh d e p q,uc]
  |fr v l r=>simp only[ts,h1,U,yh d e p q]
 |.a p,.b q,t=>by rw[if_neg (by intro h;cases h)];cases t<;>simp[ts,h1,uc]
 |.b p,.a q,t=>by rw[if_neg (by intro h;cases h)];cases t<;>simp[ts,h1,uc]
theorem vN (env:bE) (s t:Nat) (e:fx):ee (oE env s e) t=if s=t then e else ee env t:=by
 unfold ee oE;rw[yh];by_cases h:s=t
 ·subst h;simp
 ·rw[if_neg h,if_neg (fun aF=>h (G3.1 aF))]
theorem afq (t:Nat):ee .dL t=.un:=uc _ _
theorem MH (W:aH) (t:bb) (v:Nat):(W.push t).df v=if W.aD=v then t else W.df v:=by
 unfold aH.df aH.push;simp only;rw[yh];by_cases h:W.aD=v
 ·subst h;simp
 ·rw[if_neg h,if_neg (fun aF=>h (G3.1 aF))]
theorem XS (R:cj) (k:Int) (a:At):∀l,ho R (wk k a l)=k*a.ai R+ho R l
 | []=>by simp[wk,ho]
 |(k',gX)::r=>by
  unfold wk;cases h:At.beq a gX with
  |true=>
   have:=V_ h;subst this;simp only[cond_true,yt];cases a':zF (k+k')with
   |true=>
    have:=Z9.1 a';simp only[cond_true,ho];have aa:k*a.ai R+k'*a.ai R=0:=by rw[←Int.add_mul,this,Int.zero_mul]
    omega
   |false=>
    simp only[cond_false,ho,Int.add_mul];omega
  |false=>
   simp only[cond_false,ho,XS R k a r];omega
theorem Ph (R:cj):∀l r,ho R (yu l r)=ho R l+ho R r
 | [],r=>by simp[yu,ho]
 |(k,a)::l,r=>by simp only[yu,XS,ho,Ph R l r];omega
theorem Jh (R:cj):∀l,ho R (xE l)= - ho R l
 | []=>rfl
 |(k,a)::l=>by simp only[xE,ho,qd,Jh R l,Int.neg_mul];omega
theorem XU (R:cj) (n:Int):∀l,ho R (zW n l)=n*ho R l
 | []=>by simp[zW,ho]
 |(k,a)::l=>by simp only[zW,ho,K6,XU R n l,Int.mul_add,Int.mul_assoc]
@[simp] theorem wZ (R:cj) (n:Int):(bn.k n).ai R=n:=by simp[bn.k,bn.ai,ho]
@[simp] theorem yW (R:cj) (a:At):(bn.at a).ai R=a.ai R:=by simp[bn.at,bn.ai,ho]
@[simp] theorem wY (R:cj) (x y:bn):(x.add y).ai R=x.ai R+y.ai R:=by simp only[bn.add,bn.ai,yt,Ph];omega
@[simp] theorem hV (R:cj) (x:bn):(x.neg).ai R= - x.ai R:=by simp only[bn.neg,bn.ai,qd,Jh];omega
@[simp] theorem eG (R:cj) (x y:bn):(x.sub y).ai R=x.ai R-y.ai R:=by simp only[bn.sub,bn.ai,DM,Ph,Jh];omega
@[simp] theorem fe (R:cj) (x:bn) (n:Int):(x.dO n).ai R=x.ai R+n:=by simp only[bn.dO,bn.ai,yt];omega
@[simp] theorem BJ (R:cj) (n:Int) (x:bn):(bn.mul n x).ai R=n*x.ai R:=by
 unfold bn.mul;cases h:zF n with
 |true=>simp[Z9.1 h]
 |false=>simp only[cond_false,bn.ai,K6,XU,Int.mul_add]
theorem mi {R:cj} {x:bn} {n:Int} (h:x.const? =some n):x.ai R=n:=by
 unfold bn.const? at h;split at h
 ·rename_i he;cases h;simp[bn.ai,he,ho]
 ·cases h
structure Ok (T:bG) (G:Nat→cR) (R:cj) (W:aH):Prop where
 ty:∀v,bR T.D G (W.df v) (R v)
 top:∀v,W.aD≤v→W.df v=.any
 ge:∀l∈W.ge,0≤l.ai R
 da:∀f∈W.da,f.ai R=true
 cC:∀p∈W.cC,lenOf (R p.1)=p.2.ai R
 b2:∀p∈W.b2,eu T p.1 (aM R p.2)
variable {T:bG} {G:Nat→cR} {R:cj} {W:aH}
theorem ajl (h:Ok T G R W) {a:At} {lo hi:Int} (aA:Em W a=some (lo,hi)):lo≤a.ai R∧a.ai R≤hi:=by
 cases a with
 |i v=>
  have:=h.ty v;simp only[Em]at aA;split at aA
  ·rename_i k iv ei aw;cases aA;rw[aw]at this;generalize ah:R v=a at this;cases this with
   |int _ _ _ n U aa=>simp only[At.ai,ah,intOf];exact⟨U,aa⟩
  ·cases aA
 |l v=>
  have:=h.ty v;simp only[Em]at aA;split at aA
  ·rename_i t iv ei aw;cases aA;rw[aw]at this;generalize ah:R v=a at this;cases this with
   |bN _ _ _ xs nl tok U aa=>simp only[At.ai,ah,lenOf];exact⟨nY.2 U,nY.2 aa⟩
  ·rename_i ei aw;cases aA;rw[aw]at this;generalize ah:R v=a at this;cases this with
   |str s _ U=>simp only[At.ai,ah,lenOf];exact⟨nW _,nY.2 U⟩
  ·rename_i iv ei aw;cases aA;rw[aw]at this;generalize ah:R v=a at this;cases this with
   |m8 _=>simp only[At.ai,ah,lenOf];exact⟨nY.2 (fv _),nY.2 (fv _)⟩
   |rv _ _ g n U aa=>simp only[At.ai,ah,lenOf];exact⟨nY.2 U,nY.2 aa⟩
  ·rename_i k' iv ei aw;cases aA;rw[aw]at this;generalize ah:R v=a at this;cases this with
   |nP _ _ _ xs nl tok U aa=>simp only[At.ai,ah,lenOf];exact⟨nY.2 U,nY.2 aa⟩
   |rl _ _ _ g n c m U aa=>simp only[At.ai,ah,lenOf];exact⟨nY.2 U,nY.2 aa⟩
  ·cases aA
theorem aqf {k n x:Int} {o:Option (Int × Int)} (h:Cw k o=some n) (aj:∀lo hi,o=some (lo,hi)→lo≤x∧x≤hi):n≤k*x:=by
 unfold Cw at h;split at h
 ·rename_i lo hi;obtain⟨U,aa⟩:=aj lo hi rfl;cases h;cases a':nI (.ofNat 0) k with
  |true=>
   rw[tH]at a';have a':(0:Int)≤k:=of_decide_eq_true a';simp only[cond_true,K6];exact Int.mul_le_mul_of_nonneg_left U a'
  |false=>
   rw[tH]at a';have a':¬(0:Int)≤k:=of_decide_eq_false a';simp only[cond_false,K6];exact Xt (by omega) aa
 ·cases h
theorem RY (h:Ok T G R W):∀{l:List (Int × At)} {n:Int},zK W l=some n→n≤ho R l
 | [],n,ak=>by cases ak;simp[ho]
 |(k,a)::r,n,ak=>by
  simp only[zK]at ak;split at ak
  ·rename_i x y ad aI;cases ak;have U:=aqf (x:=a.ai R) ad (fun lo hi aj=>ajl h aj);have aa:=RY h aI;simp only[ho,yt];omega
  ·cases ak
theorem Kz (h:Ok T G R W) {l:bn} (ak:xr W l=true):0≤l.ai R:=by
 unfold xr at ak;split at ak
 ·rename_i n aK;have:=RY h aK;rw[tH,yt]at ak;have ak:(0:Int)≤_:=of_decide_eq_true ak;simp only[bn.ai];omega
 ·cases ak
theorem agn {f l:bn} (ax:0≤f.ai R) (ak:0≤(yf f l).ai R):0≤l.ai R:=by
 unfold yf at ak;split at ak
 ·rw[eG]at ak;omega
 ·rename_i n _;rw[eG,BJ]at ak;have:=Int.mul_nonneg (nW (LR f.t l.t)) ax;have aa:(0:Int)≤Int.ofNat (LR f.t l.t)*f.ai R:=this;omega
theorem aep (h:Ok T G R W):∀{d:Nat} {l:bn},G5 d W l=true→0≤l.ai R
 |0,l,ak=>Kz h ak
 |d+1,l,ak=>by
  simp only[G5,g1,h4]at ak;rcases ak with ak|⟨f,ax,ak⟩
  ·exact Kz h ak
  ·exact agn (h.ge f ax) (aep h (a6 ak).2)
theorem TC (h:Ok T G R W):∀{d:Nat} {l:bn},Dp d W l=true→0≤l.ai R
 |0,l,ak=>Kz h ak
 |d+1,l,ak=>by
  simp only[Dp]at ak;rcases g1 _ _|>.mp ak with ak|ak
  ·exact Kz h ak
  ·split at ak
   ·obtain⟨f,ax,ak⟩:=h4.1 ak;exact agn (h.ge f ax) (TC h (a6 ak).2)
   ·cases ak
theorem abX (W:aH):∀l:List (Int × At),Kx W.ty l=zK W l
 | []=>rfl
 |(k,a)::r=>by
  simp only[Kx,zK];rw[abX W r];cases a<;>rfl
theorem Ky (W:aH) (l:bn):Cx W.ty l=xr W l:=by unfold Cx xr;rw[abX]
theorem ag4 (W:aH):∀l:List (Int × At),MS W.ty l=MT W l
 | []=>rfl
 |(k,a)::r=>by
  simp only[MS,MT];rw[ag4 W r];cases a<;>rfl
theorem aeo (W:aH):∀(d:Nat) (l:bn),LH W.ty W.ge d l=G5 d W l
 |0,l=>Ky W l
 |d+1,l=>by
  simp only[LH,G5,Ky]
  congr 2
  funext f
  rw[aeo W d]
theorem TB (W:aH):∀(d:Nat) (l:bn),Dq W.ty W.ge d l=Dp d W l
 |0,l=>Ky W l
 |d+1,l=>by
  simp only[Dq,Dp,Ky,ag4];have:∀k a,(fun f=>y' k a f.t&&Dq W.ty W.ge d (yf f l))=fun f=>y' k a f.t&&Dp d W (yf f l):=fun k a=>by
   funext f
   rw[TB W d]
  simp only[this]
theorem Yi (k:cg bb→Bool) (t:cg bb):Pz k t=k t:=by cases t<;>rfl
theorem yy (h:Ok T G R W) {d:Nat} {l:bn} (ak:asks d W l=true):0≤l.ai R:=by
 unfold asks at ak;rw[Yi,TB]at ak;exact TC h ak
theorem dE (h:Ok T G R W) {l:bn} (ak:geq W l=true):0≤l.ai R:=by
 unfold geq at ak;rw[Yi,TB,aeo]at ak;exact(g1 _ _|>.mp ak).elim (TC h) (aep h)
theorem zN (h:Ok T G R W) {a b:bn} (ak:leq W a b=true):a.ai R≤b.ai R:=by
 have:=dE h ak;simp only[eG]at this;omega
theorem q_ (f:Lit):f.neg.ai R= !f.ai R:=by
 cases f with
 |c b=>rfl
 |bv v p=>simp only[Lit.neg,Lit.ai];cases Ex (R v)<;>cases p<;>rfl
 |nl v p=>simp only[Lit.neg,Lit.ai];cases pj (R v)<;>cases p<;>rfl
 |ge l=>
  simp only[Lit.neg,Lit.ai,fe,hV];by_cases h:0≤l.ai R
  ·have:¬0≤ -l.ai R+Int.negSucc 0:=by omega
   rw[decide_eq_true h,decide_eq_false this];rfl
  ·have:0≤ -l.ai R+Int.negSucc 0:=by omega
   rw[decide_eq_false h,decide_eq_true this];rfl
 |eq l p=>simp only[Lit.neg,Lit.ai];cases decide (l.ai R=0)<;>cases p<;>rfl
theorem art (h:Ok T G R W) {v:Nat} (ar:S0 W v=true):pj (R v)=false:=by
 have:=h.ty v;unfold S0 at ar;generalize W.df v=t at this ar;generalize R v=a at this;cases this with
 |bN t lo hi xs nl tok U aa aK ad=>
  cases nl with
  |false=>rfl
  |true=>
   have:=aK rfl;subst this;have:=e9 ar;simp at U;omega
 |_=>simp_all [pj]
theorem Jf {a b:Int} (h:mh a b=true):a=b:=by rw[uM]at h;exact eq_of_beq h
theorem XP:∀{a b:List (Int × At)},Pf a b=true→a=b
 | [],[],_=>rfl
 | [],_::_,h=>by cases h
 |_::_,[],h=>by cases h
 |(k,x)::a,(k',y)::b,h=>by
  obtain⟨U,aa⟩:=a6 h;obtain⟨aa,au⟩:=a6 aa;rw[Jf U,V_ aa,XP au]
theorem tm {a b:bn} (h:pT a b=true):a=b:=by
 obtain⟨U,aa⟩:=a6 h;cases a;cases b;have e1:=Jf U;have aN:=XP aa;simp only at e1 aN;rw[e1,aN]
theorem QM {d:Nat} (h:Ok T G R W) {f:Lit} (ax:u' d W f=true):f.ai R=true:=by
 cases f with
 |c b=>exact ax
 |bv v p=>
  simp only[u',h4]at ax;obtain⟨g,av,he⟩:=ax;cases g<;>simp only[ZZ,lK]at he;obtain⟨U,aa⟩:=a6 he;have:=h.da _ av;have U:=b5 U;subst U;have aa:=eq_of_beq aa;subst aa;exact this
 |nl v p=>
  simp only[u',g1,h4]at ax;rcases ax with⟨g,av,he⟩|ax
  ·cases g<;>simp only[Z5,lK]at he;obtain⟨U,aa⟩:=a6 he;have:=h.da _ av;have U:=b5 U;subst U;have aa:=eq_of_beq aa;subst aa;exact this
  ·obtain⟨U,aa⟩:=a6 ax;cases p with
   |true=>cases U
   |false=>simp only[Lit.ai,art h aa];rfl
 |ge l=>simp only[Lit.ai];exact decide_eq_true (yy h ax)
 |eq l p=>
  cases p with
  |true=>
   obtain⟨U,aa⟩:=a6 ax;have U:=yy h U;have aa:=yy h aa;simp only[hV]at aa;have:l.ai R=0:=by omega
   simp[Lit.ai,this]
  |false=>
   simp only[u',g1]at ax;have:l.ai R≠0:=by
    rcases ax with(ax|ax)|ax
    ·have:=yy h ax;simp only[fe]at this;omega
    ·have:=yy h ax;simp only[fe,hV]at this;omega
    ·obtain⟨g,av,he⟩:=h4.1 ax;have w9:=h.da g av;unfold Z4 at he;split at he
     ·rename_i m;simp only[Lit.ai,beq_false,Bh,decide_eq_false_iff_not]at w9;rcases g1 _ _|>.mp he with he|he
      ·rw[tm he];exact w9
      ·have:=tm he;intro ak;apply w9;rw[←this,hV,ak];rfl
     ·cases he
   simp[Lit.ai,this]
theorem va (h:Ok T G R W) {f:Lit} (ax:holds W f=true):f.ai R=true:=QM h ax
theorem Ok.g2 (h:Ok T G R W) {l:bn} (ak:0≤l.ai R):Ok T G R (W.g2 l):=
 ⟨h.ty,h.top,fun x ad=>(cu.1 ad).elim (fun e=>e▸ak) (h.ge x),h.da,h.cC,h.b2⟩
theorem Ok.wj (h:Ok T G R W) {f:Lit} (ax:f.ai R=true):Ok T G R (W.wj f):=
 ⟨h.ty,h.top,h.ge,fun x ad=>(cu.1 ad).elim (fun e=>e▸ax) (h.da x),h.cC,h.b2⟩
theorem ab5 (h:Ok T G R W) {f:Lit} (ax:f.ai R=true):Ok T G R (h0 W f):=by
 cases f with
 |c b=>exact h
 |bv v p=>exact h.wj ax
 |nl v p=>exact h.wj ax
 |ge l=>exact h.g2 (of_decide_eq_true ax)
 |eq l p=>
  cases p with
  |true=>
   have a':l.ai R=0:=by
    simp only[Lit.ai,beq_iff_eq]at ax;exact of_decide_eq_true ax
   exact(h.g2 (by omega)).g2 (by simp only[hV];omega)
  |false=>
   have a':l.ai R≠0:=by
    simp only[Lit.ai,beq_iff_eq]at ax;exact of_decide_eq_false ax
   simp only[h0];cases U:asks uJ W l with
   |true=>
    have:=yy h U;exact h.g2 (by simp only[fe];omega)
   |false=>
    cases aa:asks uJ W l.neg with
    |true=>
     have:=yy h aa;simp only[hV]at this;exact h.g2 (by simp only[fe,hV];omega)
    |false=>exact h.wj ax
end Go.bO.cK
end
section
namespace Go.bO.cK
variable {T:bG} {G:Nat→cR} {R aL:cj} {W:aH}
def hy (n:Nat) (R aL:cj):Prop:=∀v,v<n→R v=aL v
theorem hy.refl (n:Nat) (R:cj):hy n R R:=fun _ _=>rfl
theorem hy.trans {n m:Nat} {v8:cj} (h:hy n R aL) (k:hy m aL v8) (bz:n≤m):hy n R v8:=fun v ar=>(h v ar).trans (k v (eE ar bz))
theorem hy.less {n m:Nat} (h:hy m R aL) (bz:n≤m):hy n R aL:=fun v ar=>h v (eE ar bz)
theorem ajn {n:Nat} (h:hy n R aL) {a:At} (aA:a.bh n=true):a.ai R=a.ai aL:=by
 cases a<;>(simp only[At.ai];rw[h _ (e9 aA)])
theorem XT {n:Nat} (h:hy n R aL):∀{l:List (Int × At)},kL n l=true→ho R l=ho aL l
 | [],_=>rfl
 |(k,a)::r,ak=>by
  obtain⟨U,aa⟩:=a6 ak;simp only[ho,ajn h U,XT h aa]
theorem jK {n:Nat} (h:hy n R aL) {l:bn} (ak:l.bh n=true):l.ai R=l.ai aL:=by
 simp only[bn.ai,XT h ak]
theorem ab' {n:Nat} (h:hy n R aL) {f:Lit} (ax:f.bh n=true):f.ai R=f.ai aL:=by
 cases f with
 |c b=>rfl
 |bv v p=>simp only[Lit.ai,h _ (e9 ax)]
 |nl v p=>simp only[Lit.ai,h _ (e9 ax)]
 |ge l=>simp only[Lit.ai,jK h ax]
 |eq l p=>simp only[Lit.ai,jK h ax]
mutual
theorem qo {n:Nat} (h:hy n R aL):∀(s:al),s.bh n=true→s.ai R=s.ai aL
 |.k a,_=>rfl
 |.i k l,hs=>by simp only[al.ai,jK h hs]
 |.b f,hs=>by simp only[al.ai,ab' h hs]
 |.x v,hs=>by simp only[al.ai,h _ (e9 hs)]
 |.p v o,hs=>by simp only[al.ai,h _ (e9 hs)]
 |.bN l,hs=>by simp only[al.ai,qp h l hs]
 |.agg l,hs=>by simp only[al.ai,qp h l hs]
 |.eN l,hs=>by simp only[al.ai,qp h l hs]
 |.sp l,hs=>by simp only[al.ai,qp h l hs]
 |.e4 t s,hs=>by simp only[al.ai,qo h s hs]
 |.fn f a c,hs=>by simp only[al.ai,qp h a (a6 hs).1,qp h c (a6 hs).2]
theorem qp {n:Nat} (h:hy n R aL):∀(l:List al),cls n l=true→aM R l=aM aL l
 | [],_=>rfl
 |s::l,hs=>by simp only[aM,qo h s (a6 hs).1,qp h l (a6 hs).2]
end
theorem ajo {n m:Nat} (bz:n≤m) {a:At} (h:a.bh n=true):a.bh m=true:=by
 cases a<;>(simp only[At.bh,kK]at h⊢;exact decide_eq_true (eE (of_decide_eq_true h) bz))
theorem jC {n m:Nat} (bz:n≤m):∀{l:List (Int × At)},kL n l=true→kL m l=true
 | [],_=>rfl
 |(k,a)::r,h=>by
  obtain⟨U,aa⟩:=a6 h;simp only[kL,ajo bz U,jC bz aa];rfl
theorem Ev {n m v:Nat} (bz:n≤m) (h:Nat.blt v n=true):Nat.blt v m=true:=by
 rw[kK]at h⊢;exact decide_eq_true (eE (of_decide_eq_true h) bz)
theorem R8 {n m:Nat} (bz:n≤m) {f:Lit} (h:f.bh n=true):f.bh m=true:=by
 cases f with
 |c b=>rfl
 |bv v p=>exact Ev bz h
 |nl v p=>exact Ev bz h
 |ge l=>exact jC bz h
 |eq l p=>exact jC bz h
mutual
theorem k1 {n m:Nat} (bz:n≤m):∀(s:al),s.bh n=true→s.bh m=true
 |.k a,_=>rfl
 |.i k l,hs=>jC bz (l:=l.t) hs
 |.b f,hs=>R8 bz hs
 |.x v,hs=>Ev bz hs
 |.p v o,hs=>Ev bz hs
 |.bN l,hs=>mE bz l hs
 |.agg l,hs=>mE bz l hs
 |.eN l,hs=>mE bz l hs
 |.sp l,hs=>mE bz l hs
 |.e4 t s,hs=>k1 bz s hs
 |.fn f a c,hs=>by
  have U:=mE bz a (a6 hs).1;have aa:=mE bz c (a6 hs).2;simp only[al.bh,U,aa];rfl
theorem mE {n m:Nat} (bz:n≤m):∀(l:List al),cls n l=true→cls m l=true
 | [],_=>rfl
 |s::l,hs=>by
  have U:=k1 bz s (a6 hs).1;have aa:=mE bz l (a6 hs).2;simp only[cls,U,aa];rfl
end
theorem W2 {n:Nat} {k:Int} {a:At} (aA:a.bh n=true):∀{l},kL n l=true→kL n (wk k a l)=true
 | [],_=>by simp[wk,kL,aA]
 |(k',gX)::r,h=>by
  obtain⟨U,aa⟩:=a6 h;unfold wk;cases At.beq a gX with
  |true=>cases zF (pH k k')<;>simp[kL,U,aa]
  |false=>simp[kL,U,W2 aA aa]
theorem N7 {n:Nat}:∀{l r},kL n l=true→kL n r=true→kL n (yu l r)=true
 | [],r,_,h=>h
 |(k,a)::l,r,h,ah=>W2 (a6 h).1 (N7 (a6 h).2 ah)
theorem N8 {n:Nat}:∀{l},kL n l=true→kL n (xE l)=true
 | [],_=>rfl
 |(k,a)::l,h=>by
  obtain⟨U,aa⟩:=a6 h;simp[xE,kL,U,N8 aa]
theorem W3 {n:Nat} {m:Int}:∀{l},kL n l=true→kL n (zW m l)=true
 | [],_=>rfl
 |(k,a)::l,h=>by
  obtain⟨U,aa⟩:=a6 h;simp[zW,kL,U,W3 aa]
theorem Bp {n:Nat} {a:At} (h:a.bh n=true):(bn.at a).bh n=true:=by simp[bn.at,bn.bh,kL,h]
theorem EO {n:Nat} {x y:bn} (h:x.bh n=true) (k:y.bh n=true):(x.add y).bh n=true:=N7 h k
theorem ER {n:Nat} {x:bn} (h:x.bh n=true):(x.neg).bh n=true:=N8 h
theorem n1 {n:Nat} {x y:bn} (h:x.bh n=true) (k:y.bh n=true):(x.sub y).bh n=true:=N7 h (N8 k)
theorem qL {n:Nat} {x:bn} {m:Int} (h:x.bh n=true):(x.dO m).bh n=true:=h
theorem EP {n:Nat} {x:bn} {m:Int} (h:x.bh n=true):(bn.mul m x).bh n=true:=by
 unfold bn.mul;cases zF m with
 |true=>rfl
 |false=>exact W3 h
theorem wK {n:Nat} {f:Lit} (h:f.bh n=true):f.neg.bh n=true:=by
 cases f with
 |c b=>rfl
 |bv v p=>exact h
 |nl v p=>exact h
 |ge l=>exact qL (ER h)
 |eq l p=>exact h
theorem bR.mono {D:Nat→bb} {G G':Nat→cR} (av:∀i c,G i=.cls c→G' i=.cls c) {t:bb} {a:ab} (h:bR D G t a):bR D G' t a:=by
 induction h with
 |any a=>exact .any a
 |bool b=>exact .bool b
 |str s hi h=>exact .str s hi h
 |int k lo hi n U aa=>exact .int k lo hi n U aa
 |gn k n=>exact .gn k n
 |bN t lo hi xs nl tok U aa aK _ bm=>exact .bN t lo hi xs nl tok U aa aK bm
 |ptr c nl i h=>exact .ptr c nl i (av i c h)
 |cX c=>exact .cX c
 |map c nl i h=>exact .map c nl i (av i c h)
 |qf c=>exact .qf c
 |agg ts cs ak _ bm=>exact .agg ts cs ak bm
 |eN ts cs ak _ bm=>exact .eN ts cs ak bm
 |e4 as nl t ty v hm _ bm=>exact .e4 as nl t ty v hm bm
 |dC as=>exact .dC as
 |fn as nl f fs cs a c hm U aa _ _ Ry Rz=>exact .fn as nl f fs cs a c hm U aa Ry Rz
 |fj as=>exact .fj as
 |jL k a _ bm=>exact .jL k a bm
 |aS a=>exact .aS a
 |m8 hi=>exact .m8 hi
 |rv lo hi g n U aa=>exact .rv lo hi g n U aa
 |nP k lo hi xs nl tok U aa aK _ bm=>exact .nP k lo hi xs nl tok U aa aK bm
 |rl k lo hi g n c m U aa h hm=>exact .rl k lo hi g n c m U aa (av g _ h) hm
theorem rX {α β:Type} {l:List α} {r:List β} (h:l.length=r.length) {j:Nat} {b:β} (aj:r[j]? =some b):∃a,l[j]? =some a:=
 ⟨_,eU (by rw[h];exact(hn.1 aj).1)⟩
theorem XI:∀{a b:List UInt8},O' a b=true→a=b
 | [],[],_=>rfl
 | [],_::_,h=>by cases h
 |_::_,[],h=>by cases h
 |x::a,y::b,h=>by
  obtain⟨U,aa⟩:=a6 h;rw[UInt8.toNat.inj (b5 U),XI aa]
theorem oR {α:Type} {f:α→α→Bool} (ax:∀a b,f a b=true→a=b):∀{l r:List α},gN f l r=true→l=r
 | [],[],_=>rfl
 | [],_::_,h=>by cases h
 |_::_,[],h=>by cases h
 |x::a,y::b,h=>by
  obtain⟨U,aa⟩:=a6 h;rw[ax x y U,oR ax aa]
theorem ala {a b:Option Nat} (h:XL a b=true):a=b:=by
 cases a<;>cases b<;>first|rfl|(cases h;done)|(rw[b5 h])
theorem Je:∀{f:Nat} {a b:ab},rS f a b=true→a=b
 |0,a,b,h=>by cases h
 |f+1,a,b,h=>by
  have bm:∀a b,rS f a b=true→a=b:=fun a b h=>Je h;unfold rS at h;split at h
  ·rw[eq_of_beq h]
  ·obtain⟨U,aa⟩:=a6 h;rw[pn U,Jf aa]
  ·rw[XI h]
  ·rfl
  ·rfl
  ·rfl
  ·rfl
  ·obtain⟨U,aa⟩:=a6 h;obtain⟨aa,au⟩:=a6 aa;rw[eq_of_beq U,ala aa,oR bm au]
  ·rw[oR bm h]
  ·rw[oR bm h]
  ·rw[oR bm h]
  ·obtain⟨U,aa⟩:=a6 h;rw[b5 U,bm _ _ aa]
  ·obtain⟨U,aa⟩:=a6 h;obtain⟨aa,au⟩:=a6 aa;rw[b5 U,oR bm aa,oR bm au]
  ·cases h
theorem mH {D:Nat→bb}:∀{f:Nat} {t cn:bb},jQ f t cn=true→∀{a:ab},bR D G t a→bR D G cn a
 |0,t,cn,h=>by cases h
 |f+1,t,cn,h=>by
  intro aA;unfold jQ at h;split at h
  ·exact .any _
  ·exact aA
  ·cases aA with
   |str s _ U=>exact .str s _ (fp U (jf h))
  ·cases aA with
   |int k lo hi n U aa=>
    obtain⟨e1,aN⟩:=a6 h;obtain⟨aN,bL⟩:=a6 aN;rw[tH]at aN bL;have:=pn e1;subst this;exact .int _ _ _ n (np (of_decide_eq_true aN) U) (np aa (of_decide_eq_true bL))
  ·cases aA with
   |int k lo hi n U aa=>have:=pn h;subst this;exact .gn _ n
  ·cases aA with
   |gn k n=>have:=pn h;subst this;exact .gn _ n
  ·cases aA with
   |bN t lo hi xs nl tok U aa aK ad=>
    obtain⟨e1,aN⟩:=a6 h;obtain⟨bL,eB⟩:=a6 e1;exact .bN _ _ _ xs nl tok (fp (jf bL) U) (fp aa (jf eB)) aK fun x iq=>mH aN (ad x iq)
  ·obtain⟨e1,aN⟩:=a6 h;have:=b5 e1;subst this;cases aA with
   |ptr c nl i U=>exact .ptr _ _ i U
   |cX c=>simp at aN;subst aN;exact .cX _
  ·obtain⟨e1,aN⟩:=a6 h;have:=b5 e1;subst this;cases aA with
   |map c nl i U=>exact .map _ _ i U
   |qf c=>simp at aN;subst aN;exact .qf _
  ·cases aA with
   |agg ts cs ak ad=>
    obtain⟨e1,aN⟩:=sZ h;refine .agg _ cs (by rw[←e1,ak]) fun j t c aw af=> ?_
    obtain⟨u,hu⟩:=rX ak af;exact mH (aN j u t hu aw) (ad j u c hu af)
  ·cases aA with
   |eN ts cs ak ad=>
    obtain⟨e1,aN⟩:=sZ h;refine .eN _ cs (by rw[←e1,ak]) fun j t c aw af=> ?_
    obtain⟨u,hu⟩:=rX ak af;exact mH (aN j u t hu aw) (ad j u c hu af)
  ·obtain⟨e1,aN⟩:=a6 h;cases aA with
   |e4 as nl t ty v hm ar=>
    have:=dI.1 aN _ hm;obtain⟨q,aB,bL⟩:=h4.1 this;obtain⟨bL,eB⟩:=a6 bL;have:=b5 bL;simp only at this;subst this;exact .e4 _ _ _ q.2 v aB (mH eB ar)
   |dC as=>simp at e1;subst e1;exact .dC _
  ·obtain⟨e1,aN⟩:=a6 h;cases aA with
   |fn as nl g fs cs a c hm U aa ad aI=>
    have:=dI.1 aN _ hm;obtain⟨q,aB,bL⟩:=h4.1 this;obtain⟨bL,eB⟩:=a6 bL;obtain⟨eB,ji⟩:=a6 eB;have:=b5 bL;simp only at this;subst this;obtain⟨ep,bd⟩:=sZ eB;obtain⟨dV,bx⟩:=sZ ji;refine .fn _ _ _ q.2.1 q.2.2 a c aB (by rw[←ep];exact U) (by rw[←dV];exact aa) (fun j t v aw ar=> ?_) (fun j t v aw ar=> ?_)
    ·obtain⟨u,hu⟩:=rX U ar;exact mH (bd j u t hu aw) (ad j u v hu ar)
    ·obtain⟨u,hu⟩:=rX aa ar;exact mH (bx j u t hu aw) (aI j u v hu ar)
   |fj as=>simp at e1;subst e1;exact .fj _
  ·have:=b5 h;subst this;exact aA
  ·have:=Je h;subst this;exact aA
  ·subst h;cases aA;exact .cX _
  ·obtain⟨e1,aN⟩:=a6 h;cases aA with
   |m8 hi=>
    have:=jf e1;have:_=0:=Nat.le_zero.1 this;subst this;exact .m8 _
   |rv lo hi g n U aa=>exact .rv _ _ g n (fp (jf e1) U) (fp aa (jf aN))
  ·obtain⟨e1,aN⟩:=a6 h;obtain⟨aN,bL⟩:=a6 aN;have:=b5 e1;subst this;cases aA with
   |nP k lo hi xs nl tok U aa aK ad=>exact .nP _ _ _ xs nl tok (fp (jf aN) U) (fp aa (jf bL)) aK ad
   |rl k lo hi g n c m U aa av hm=>exact .rl _ _ _ g n c m (fp (jf aN) U) (fp aa (jf bL)) av hm
  ·cases h
theorem Ia {f:Nat} {cs:List ab} {ts:List bb} (bm:∀{a:ab} {t:bb},o0 T f a t=true→bR T.D G t a) (h:gN (o0 T f) cs ts=true):
  ts.length=cs.length∧∀(j:Nat) (t:bb) (c:ab),ts[j]? =some t→cs[j]? =some c→bR T.D G t c:=by
 obtain⟨U,aa⟩:=sZ h;exact⟨U.symm,fun j t c aw af=>bm (aa j c t af aw)⟩
theorem th:∀{f:Nat} {a:ab} {t:bb},o0 T f a t=true→bR T.D G t a
 |0,a,t,h=>by cases h
 |f+1,a,t,h=>by
  unfold o0 at h;split at h
  ·exact .any _
  ·exact .bool _
  ·exact .str _ _ (by rw[←hl];exact jf h)
  ·obtain⟨e1,aN⟩:=a6 h;obtain⟨aN,bL⟩:=a6 aN;rw[tH]at aN bL;have:=pn e1;subst this;exact .int _ _ _ _ (of_decide_eq_true aN) (of_decide_eq_true bL)
  ·have:=pn h;subst this;exact .gn _ _
  ·obtain⟨e1,aN⟩:=a6 h;obtain⟨bL,eB⟩:=a6 e1;obtain⟨ji,wR⟩:=a6 aN;rw[hl]at bL eB;refine .bN _ _ _ _ _ _ (jf bL) (jf eB) (fun aK=> ?_) fun x ad=>th (dI.1 wR x ad);subst aK;rw[hl]at ji;simp only[Bu,Bool.false_or]at ji;exact rJ (b5 ji)
  ·subst h;exact .cX _
  ·have:=b5 h;subst this;exact .m8 _
  ·obtain⟨e1,aN⟩:=a6 h;obtain⟨bL,eB⟩:=a6 e1;obtain⟨ji,wR⟩:=a6 aN;rw[hl]at bL eB;refine .nP _ _ _ _ _ _ (jf bL) (jf eB) (fun aK=> ?_) fun x ad=>th (dI.1 wR x ad);subst aK;rw[hl]at ji;simp only[Bu,Bool.false_or]at ji;exact rJ (b5 ji)
  ·subst h;exact .qf _
  ·subst h;exact .dC _
  ·subst h;exact .fj _
  ·obtain⟨e1,aN⟩:=Ia (fun h=>th h) h;exact .agg _ _ e1 aN
  ·obtain⟨e1,aN⟩:=Ia (fun h=>th h) h;exact .eN _ _ e1 aN
  ·obtain⟨p,ae,e⟩:=h4.1 h;obtain⟨e1,aN⟩:=a6 e;have:=b5 e1;subst this;exact .e4 _ _ _ p.2 _ ae (th aN)
  ·obtain⟨p,ae,e⟩:=h4.1 h;obtain⟨e1,aN⟩:=a6 e;obtain⟨aN,bL⟩:=a6 aN;have:=b5 e1;subst this;obtain⟨ep,bd⟩:=Ia (fun h=>th h) aN;obtain⟨dV,bx⟩:=Ia (fun h=>th h) bL;exact .fn _ _ _ p.2.1 p.2.2 _ _ ae ep dV bd bx
  ·exact .jL _ _ (th h)
  ·have:=Je h;subst this;exact .aS _
  ·cases h
theorem h9 (h:Ok T G R W) (v:Nat):(gg W v).ai R=lenOf (R v):=by
 unfold gg;have ak:=h.cC;generalize W.cC=l at ak
 induction l with
 |nil=>simp[BL,At.ai]
 |cons p r bm=>
  unfold BL;cases aj:Nat.beq v p.1 with
  |true=>
   have:=b5 aj;subst this;exact(ak p (cz ..)).symm
  |false=>exact bm fun q aB=>ak q (cv _ aB)
theorem hO (R:cj) (l:List al):aM R l=l.map (al.ai R):=by
 induction l with
 |nil=>rfl
 |cons s l bm=>simp only[aM,gM,bm]
theorem pr {v:Nat} (h:Ok T G R W) (ar:holds W (.nl v false)=true):pj (R v)=false:=by
 have:=va h ar;simp only[Lit.ai,beq_iff_eq]at this;exact this
theorem auB (h:Ok T G R W) {v:Nat} {t cn:bb} (aw:bR T.D G t (R v)) (hs:UH T W v t cn=true):bR T.D G cn (R v):=by
 unfold UH at hs;split at hs
 ·obtain⟨e1,aN⟩:=a6 hs;have:=b5 e1;subst this;have aK:=pr h aN;generalize R v=a at aw aK;cases aw with
  |ptr c nl i av=>exact .ptr _ _ i av
  |cX c=>cases aK
 ·obtain⟨e1,aN⟩:=a6 hs;have:=b5 e1;subst this;have aK:=pr h aN;generalize R v=a at aw aK;cases aw with
  |map c nl i av=>exact .map _ _ i av
  |qf c=>cases aK
 ·rename_i t0 sw od t1 lo hi;obtain⟨e1,aN⟩:=a6 hs;obtain⟨aN,bL⟩:=a6 aN;have aa:=dE h aN;have au:=dE h bL;simp only[fe,hV,h9 h,qd,hU]at aa au;generalize R v=a at aw aa au;cases aw with
  |bN t lo hi xs nl tok az ao aK ad=>
   simp only[lenOf]at aa au;exact .bN _ _ _ xs nl tok (by omega) (by omega) aK fun x iq=>mH e1 (ad x iq)
 ·have au:=dE h hs;simp only[fe,hV,h9 h,hU]at au;generalize R v=a at aw au;cases aw with
  |str s hi az=>
   simp only[lenOf]at au;exact .str s _ (by omega)
 ·obtain⟨e1,aN⟩:=a6 hs;have aK:=pr h aN;generalize R v=a at aw aK;cases aw with
  |e4 as nl t ty w hm hw=>
   have:=mH e1 (bR.e4 (D:=T.D) (G:=G) _ false t ty w hm hw);cases this with
   |e4 _ _ _ au9 _ zh aoz=>exact .e4 _ _ _ au9 _ zh aoz
  |dC as=>cases aK
 ·obtain⟨e1,aN⟩:=a6 hs;have aK:=pr h aN;generalize R v=a at aw aK;cases aw with
  |fn as nl g fs cs a c hm U aa ad aI=>
   have:=mH e1 (bR.fn (D:=T.D) (G:=G) _ false g fs cs a c hm U aa ad aI);cases this with
   |fn _ _ _ fs' cU _ _ zh az ao iq Rp=>exact .fn _ _ _ fs' cU _ _ zh az ao iq Rp
  |fj as=>cases aK
 ·exact .jL _ _ (mH hs aw)
 ·cases aw with
  |jL k a aq=>exact mH hs aq
 ·have:=va h hs;simp only[Lit.ai,beq_iff_eq]at this;generalize R v=a at aw this;cases aw with
  |ptr c nl i av=>cases this
  |cX c=>exact .aS _
 ·obtain⟨e1,aN⟩:=a6 hs;obtain⟨aN,bL⟩:=a6 aN;have aa:=dE h aN;have au:=dE h bL;simp only[fe,hV,h9 h,qd,hU]at aa au;generalize R v=a at aw aa au;cases aw with
  |bN t lo hi xs nl tok az ao aK ad=>
   simp only[lenOf]at aa au;exact .nP _ _ _ xs nl tok (by omega) (by omega) aK fun x iq=>mH e1 (ad x iq)
 ·obtain⟨e1,aN⟩:=a6 hs;obtain⟨aN,bL⟩:=a6 aN;have:=b5 e1;subst this;have aa:=dE h aN;have au:=dE h bL;simp only[fe,hV,h9 h,qd,hU]at aa au;generalize R v=a at aw aa au;cases aw with
  |nP k lo hi xs nl tok az ao aK ad=>
   simp only[lenOf]at aa au;exact .nP _ _ _ xs nl tok (by omega) (by omega) aK ad
  |rl k lo hi g n c m az ao av hm=>
   simp only[lenOf]at aa au;exact .rl _ _ _ g n c m (by omega) (by omega) av hm
 ·obtain⟨aN,bL⟩:=a6 hs;have aa:=dE h aN;have au:=dE h bL;simp only[fe,hV,h9 h,qd,hU]at aa au;generalize R v=a at aw aa au;cases aw with
  |m8 hi=>
   simp only[lenOf,nn]at aa au;rename_i iv ei;have:iv=0:=by omega
   subst this;exact .m8 _
  |rv lo hi g n az ao=>
   simp only[lenOf]at aa au;exact .rv _ _ g n (by omega) (by omega)
 ·cases hs
theorem ao1 (h:Ok T G R W) {v c:Nat} (e:RF W v c=true):∃i,R v=.ptr i 0∧G i=.cls c:=by
 have ar:=h.ty v;unfold RF at e;split at e
 ·rename_i bF n aw;obtain⟨bL,eB⟩:=a6 e;have:=b5 bL;subst this;have aK:=pr h eB;rw[aw]at ar;generalize R v=a at ar aK;cases ar with
  |ptr _ _ i av=>exact⟨i,rfl,av⟩
  |cX c=>cases aK
 ·cases e
theorem Ji {f:Nat} {l:List al} {ts:List bb} (bm:∀{s:al} {t:bb},p8 T W f s t=true→bR T.D G t (s.ai R)) (h:gN (p8 T W f) l ts=true):
  ts.length=(aM R l).length∧∀(j:Nat) (t:bb) (c:ab),ts[j]? =some t→(aM R l)[j]? =some c→bR T.D G t c:=by
 obtain⟨U,aa⟩:=sZ h;rw[hO];refine⟨by simp[U],fun j t c aw af=> ?_⟩
 rw[ic]at af;cases ak:l[j]? with
 |none=>rw[ak]at af;cases af
 |some s=>rw[ak]at af;cases af;exact bm (aa j s t ak aw)
theorem vk (h:Ok T G R W):∀{f:Nat} {s:al} {t:bb},p8 T W f s t=true→bR T.D G t (s.ai R)
 |0,s,t,hs=>by cases hs
 |f+1,s,t,hs=>by
  unfold p8 at hs;split at hs
  ·exact .any _
  ·exact th hs
  ·obtain⟨e1,aN⟩:=a6 hs;obtain⟨aN,bL⟩:=a6 aN;have:=pn e1;subst this;have aa:=dE h aN;have au:=dE h bL;simp only[fe,hV,qd]at aa au;exact .int _ _ _ _ (by omega) (by omega)
  ·have:=pn hs;subst this;exact .gn _ _
  ·exact .bool _
  ·have:=va h hs;simp only[al.ai,this];exact .aS _
  ·have:=va h hs;rename_i f0;have aK:f0.ai R=false:=by
    rw[q_]at this;simpa using this
   simp only[al.ai,aK];exact .aS _
  ·obtain⟨e1,aN⟩:=a6 hs;obtain⟨aN,bL⟩:=a6 aN;have:=pn e1;subst this;have aa:=dE h aN;have au:=dE h bL;simp only[fe,hV,qd]at aa au;have he:∀x y:Int,0≤x+ -y→0≤ -x+y→x=y:=fun x y _ _=>by omega
   simp only[al.ai];rw[he _ _ aa au];exact .aS _
  ·rcases g1 _ _|>.mp hs with e|e
   ·exact mH e (h.ty _)
   ·exact auB h (h.ty _) e
  ·obtain⟨e1,aN⟩:=a6 hs;have:=b5 e1;subst this;obtain⟨i,hi,av⟩:=ao1 h aN;simp only[al.ai,hi,sD];exact .ptr _ _ i av
  ·obtain⟨e1,aN⟩:=a6 hs;obtain⟨bL,eB⟩:=a6 e1;rw[hl]at bL eB;simp only[al.ai,hO];refine .bN _ _ _ _ _ _ (by simpa using jf bL) (by simpa using jf eB) (fun aK=>by cases aK) fun x ad=> ?_
   obtain⟨s,p6,rfl⟩:=eO.1 ad;exact vk h (dI.1 aN s p6)
  ·obtain⟨e1,aN⟩:=a6 hs;obtain⟨bL,eB⟩:=a6 e1;rw[hl]at bL eB;simp only[al.ai,hO];refine .nP _ _ _ _ _ _ (by simpa using jf bL) (by simpa using jf eB) (fun aK=>by cases aK) fun x ad=> ?_
   obtain⟨s,p6,rfl⟩:=eO.1 ad;exact vk h (dI.1 aN s p6)
  ·obtain⟨e1,aN⟩:=Ji (R:=R) (G:=G) (fun b0=>vk h b0) hs;exact .agg _ _ e1 aN
  ·obtain⟨e1,aN⟩:=Ji (R:=R) (G:=G) (fun b0=>vk h b0) hs;exact .eN _ _ e1 aN
  ·obtain⟨p,ae,e⟩:=h4.1 hs;obtain⟨e1,aN⟩:=a6 e;have:=b5 e1;subst this;exact .e4 _ _ _ p.2 _ ae (vk h aN)
  ·obtain⟨p,ae,e⟩:=h4.1 hs;obtain⟨e1,aN⟩:=a6 e;obtain⟨aN,bL⟩:=a6 aN;have:=b5 e1;subst this;obtain⟨ep,bd⟩:=Ji (R:=R) (G:=G) (fun b0=>vk h b0) aN;obtain⟨dV,bx⟩:=Ji (R:=R) (G:=G) (fun b0=>vk h b0) bL;exact .fn _ _ _ p.2.1 p.2.2 _ _ ae ep dV bd bx
  ·exact .jL _ _ (vk h hs)
  ·cases hs
theorem xK (h:Ok T G R W) {s:al} {t:bb} (hs:oA T W s t=true):bR T.D G t (s.ai R):=vk h hs
end Go.bO.cK
end
