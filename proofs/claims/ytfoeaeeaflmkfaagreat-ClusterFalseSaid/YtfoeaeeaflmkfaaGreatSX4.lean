/-
  A WALKER OF CODE IN SMALL, part 4: code, loops, functions.
-/
import Derived.Test.YtfoeaeeaflmkfaaGreatSX1
set_option linter.unusedSectionVars false
set_option linter.unusedVariables false
set_option linter.unusedSimpArgs false
namespace Go.AL.SX
def eqLit:Lit→Lit→Bool
 |.c a,.c b=>a==b
 |.bv v p,.bv w q|.nl v p,.nl w q=>Nat.beq v w&&(p==q)
 |.ge a,.ge b=>eqLin a b
 |.eq a p,.eq b q=>eqLin a b&&(p==q)
 |_,_=>false
def eqSV:Nat→SV→SV→Bool
 |0,_,_=>false
 |f+1,a,b=>match a,b with
  |.k a,.k b=>eqAV fuel a b
  |.i k a,.i k' b=>kEq k k'&&eqLin a b
  |.b a,.b b=>eqLit a b
  |.x v,.x w=>Nat.beq v w
  |.p v o,.p w q=>Nat.beq v w&&Nat.beq o q
  |.sl a,.sl b|.agg a,.agg b|.tup a,.tup b|.sp a,.sp b=>all2 (eqSV f) a b
  |.ifc t a,.ifc u b=>Nat.beq t u&&eqSV f a b
  |.fn g a c,.fn h a' c'=>Nat.beq g h&&(all2 (eqSV f) a a'&&all2 (eqSV f) c c')
  |_,_=>false
def hasPr (T:Tab) (W:SW) (k:Nat) (as:List SV):Bool:=W.pr.any (fun p=>Nat.beq k p.1&&all2 (eqSV fuel) as p.2)||T.prv W k as
def subE:SEnt→SEnt→Bool
 |.un,_=>true
 |.val a,.val b=>eqSV fuel a b
 |.box a,.box b=>all2 (eqSV fuel) a b
 |.lp s o,.lp t q=>Nat.beq s t&&Nat.beq o q
 |_,_=>false
def subEnv:SE→SE→Bool
 |.lf,_=>true
 |.nd v l r,.nd w m s=>subE v w&&(subEnv l m&&subEnv r s)
 |.nd v l r,.lf=>subE v .un&&(subEnv l .lf&&subEnv r .lf)
structure LA where
 un:Nat
 sl:List (Nat × Ty)
 bx:List (Nat × List Ty)
 ce:List (Nat × List Nat)
 kp:List (Nat × List Nat)
 ms:Lin
 inv:List Lin
 pi:List (Nat × List Nat):=[]
 sl2:List (List (Nat × Ty)):=[]
instance:Inhabited LA:=⟨⟨0,[],[],[],[],.k (.ofNat 0),[],[],[]⟩⟩
def ptrVar:SV→Option Nat
 |.x v=>some v
 |.p v 0=>some v
 |_=>none
def readPath (T:Tab):List Nat→SV→SW→Option (SV × SW)
 | [],s,W=>some (s,W)
 |o::r,s,W=>match ptrVar s with
  |some v=>match classOf W v with
   |some c=>match nthS (celT (T.K c)) o with
    |some t=>match load1 W v o t with
     |(x,W)=>readPath T r x W
    |none=>none
   |none=>none
  |none=>none
def readSl (T:Tab) (env:SE):List (Nat × List Nat)→SW→Option (List SV × SW)
 | [],W=>some ([],W)
 |(k,p)::r,W=>match sat env k with
  |.val s=>match readPath T p s W with
   |some (x,W)=>match readSl T env r W with
    |some (xs,W)=>some (x::xs,W)
    |none=>none
   |none=>none
  |_=>none
def slotAt (env:SE) (xs:List SV) (v:Nat):Option SV:=bif Nat.blt v 100000 then(match sat env v with
  |.val s=>some s
  |_=>none)else nthS xs (Nat.sub (Nat.div v 100000) 1)
def atLin (W:SW) (env:SE) (xs:List SV):At→Option Lin
 |.i v=>match slotAt env xs v with
  |some s=>match toI s with
   |some (_,l)=>some l
   |none=>none
  |none=>none
 |.l v=>match slotAt env xs v with
  |some s=>match toLen W s with
   |some l=>some l
   |none=>toSlen W s
  |none=>none
def sumLin (W:SW) (env:SE) (xs:List SV):List (Int × At)→Option Lin
 | []=>some (.k (.ofNat 0))
 |(k,a)::r=>match atLin W env xs a,sumLin W env xs r with
  |some x,some y=>some ((Lin.mul k x).add y)
  |_,_=>none
def slotLin (W:SW) (env:SE) (xs:List SV) (l:Lin):Option Lin:=match sumLin W env xs l.t with
 |some x=>some (x.addc l.c)
 |none=>none
def slotLins (W:SW) (env:SE) (xs:List SV):List Lin→Option (List Lin)
 | []=>some []
 |l::r=>match slotLin W env xs l,slotLins W env xs r with
  |some x,some y=>some (x::y)
  |_,_=>none
def slotSVs (env:SE) (xs:List SV):List Nat→Option (List SV)
 | []=>some []
 |v::l=>match slotAt env xs v,slotSVs env xs l with
  |some s,some r=>some (s::r)
  |_,_=>none
def slotPrs (env:SE) (xs:List SV):List (Nat × List Nat)→Option (List (Nat × List SV))
 | []=>some []
 |(k,l)::r=>match slotSVs env xs l,slotPrs env xs r with
  |some s,some q=>some ((k,s)::q)
  |_,_=>none
def prAll (T:Tab) (W:SW):List (Nat × List SV)→Bool
 | []=>true
 |(k,as)::r=>hasPr T W k as&&prAll T W r
def addPrs:List (Nat × List SV)→SW→SW
 | [],W=>W
 |(k,as)::r,W=>addPrs r (W.addPr k as)
def giveSl (T:Tab) (env:SE):List (Nat × Ty)→SW→Option SW
 | [],W=>some W
 |(s,t)::r,W=>match sat env s with
  |.val v=>match giveTy T W v t with
   |some W=>giveSl T env r W
   |none=>none
  |_=>none
def newSl:List (Nat × Ty)→SE→SW→SE × SW
 | [],env,W=>(env,W)
 |(s,t)::r,env,W=>match freshTy W t with
  |(v,W)=>newSl r (sput env s (.val v)) W
def unSl:List (Nat × Ty)→SE→SE
 | [],env=>env
 |(s,_)::r,env=>unSl r (sput env s .un)
def giveBx (T:Tab) (env:SE):List (Nat × List Ty)→SW→Option SW
 | [],W=>some W
 |(s,ts)::r,W=>match sat env s with
  |.box l=>match giveTys T W l ts with
   |some W=>giveBx T env r W
   |none=>none
  |_=>none
def newBx:List (Nat × List Ty)→SE→SW→SE × SW
 | [],env,W=>(env,W)
 |(s,ts)::r,env,W=>match freshTys W ts with
  |(l,W)=>newBx r (sput env s (.box l)) W
def unBx:List (Nat × List Ty)→SE→SE
 | [],env=>env
 |(s,_)::r,env=>unBx r (sput env s .un)
def giveLA (T:Tab) (la:LA) (env:SE) (W:SW):Option SW:=match giveSl T env la.sl W with
 |some W=>giveBx T env la.bx W
 |none=>none
def newLA (la:LA) (env:SE) (W:SW):SE × SW:=match newSl la.sl env W with
 |(env,W)=>newBx la.bx env W
def unLA (la:LA) (env:SE):SE:=unBx la.bx (unSl la.sl env)
def fills:ACode→List Nat
 |.region ops=>ops.filterMap fun o=>o.dst
 |.drawn _ ops=>ops.filterMap fun o=>o.2.dst
 |.seq a b=>fills a++fills b
 |.cond _ a b=>fills a++fills b
 |.block _ b=>fills b
 |.loop b=>fills b
 |_=>[]
def unAll:List Nat→SE→SE
 | [],env=>env
 |s::r,env=>unAll r (sput env s .un)
def geAll (W:SW):List Lin→Bool
 | []=>true
 |l::r=>geq W l&&geAll W r
def addGes:List Lin→SW→SW
 | [],W=>W
 |l::r,W=>addGes r (W.addGe l)
def keepP (cells:List (Nat × Nat × SV)):List Nat→SV→List (Nat × Nat × SV)
 | [],_=>[]
 |o::r,s=>match ptrVar s with
  |some v=>match findC v o cells with
   |some x=>(v,o,x)::keepP cells r x
   |none=>[]
  |none=>[]
def keepC (env:SE) (cells:List (Nat × Nat × SV)):List (Nat × List Nat)→List (Nat × Nat × SV)
 | []=>[]
 |(s,p)::r=>bif Nat.beq s 999999 then cells.filter fun q=> !hasN q.2.1 p else match sat env s with
  |.val a=>keepP cells p a++keepC env cells r
  |_=>keepC env cells r
def keptC (cells:List (Nat × Nat × SV)) (p:Nat × Nat × SV):Bool:=match findC p.1 p.2.1 cells with
 |some x=>eqSV fuel p.2.2 x
 |none=>false
def headS (T:Tab) (la:LA) (body:ACode) (env:SE) (xs:List SV) (W:SW):Option (SE × SW × SW × List SV):=match giveLA T la env W,slotLins W env xs la.inv,slotPrs env xs la.pi with
 |some W1,some l,some q=>bif geAll W l&&prAll T W q then(match newLA la (unAll (fills body) env) {W1 with cells:=keepC env W.cells la.kp}with
  |(env,W3)=>match readSl T env la.ce W3 with
   |some (ys,W4)=>match slotLins W4 env ys la.inv,slotPrs env ys la.pi with
    |some l,some q=>some (env,addPrs q (addGes l W4),W1,ys)
    |_,_=>none
   |none=>none)else none
 |_,_,_=>none
def hasLive (p:Nat × Nat × Nat) (l:List (Nat × Nat × Nat)):Bool:=l.any fun q=>Nat.beq p.1 q.1&&(Nat.beq p.2.1 q.2.1&&Nat.beq p.2.2 q.2.2)
def backS (T:Tab) (la:LA) (k0:List (Nat × Nat × SV)) (l0:List (Nat × Nat × Nat)) (b0:List (Nat × Nat)) (m:Lin) (henv:SE) (env:SE) (W:SW):Bool:=match readSl T env la.ce W with
 |some (zs,W)=>match giveLA T la env W,slotLins W env zs la.inv,slotLin W env zs la.ms,slotPrs env zs la.pi with
  |some W1,some l,some m',some q=>(geAll W l&&prAll T W q)&&(k0.all (keptC W.cells)&&(subEnv (unLA la henv) env&&(l0.all (fun p=>hasLive p W1.live)&&(W.bro.all (fun p=>inBro p.1 p.2 b0)&&(geq W ((m.sub m').addc (.negSucc 0))&&geq W m')))))
  |_,_,_,_=>false
 |none=>false
def topN:Nat:=4611686018427387000
abbrev OUT:=Ex × SE × SW
abbrev RC:=Option (List OUT)
def bindC (k:SE→SW→RC):List OUT→RC
 | []=>some []
 |(.normal,e,W)::l=>cat (k e W) (bindC k l)
 |o::l=>match bindC k l with
  |some r=>some (o::r)
  |none=>none
def seqC (r:RC) (k:SE→SW→RC):RC:=match r with
 |some l=>bindC k l
 |none=>none
def blockC (id:Nat):List OUT→List OUT
 | []=>[]
 |(.exit i,e,W)::l=>(bif Nat.beq i id then(.normal,e,W)else(.exit i,e,W))::blockC id l
 |o::l=>o::blockC id l
def unroll (body:SE→SW→RC):Nat→SE→SW→RC
 |0,_,_=>none
 |n+1,env,W=>seqC (body env W) (unroll body n)
def roundsC (ok:SE→SW→Bool):List OUT→RC
 | []=>some []
 |(.normal,e,W)::l=>bif ok e W then roundsC ok l else none
 |o::l=>match roundsC ok l with
  |some r=>some (o::r)
  |none=>none
def loop0S (T:Tab) (la:LA) (code:ACode) (body:SE→SW→RC) (xs:List SV) (env:SE) (W:SW):RC:=match headS T la code env xs W with
 |some (henv,HW,W1,ys)=>match slotLin HW henv ys la.ms,slotLin W env xs la.ms with
  |some m,some m0=>bif geq W (m0.neg.addc (.ofNat topN))&&geq W m0 then(match body henv HW with
   |some l=>roundsC (backS T la (keepC env W.cells la.kp) W1.live W1.bro m henv) l
   |none=>none)else none
  |_,_=>none
 |none=>none
def firstL {α β:Type} (k:α→Option β):List α→Option β
 | []=>none
 |c::l=>match k c with
  |some r=>some r
  |none=>firstL k l
def loopS (T:Tab) (la:LA) (code:ACode) (body:SE→SW→RC) (env:SE) (W:SW):RC:=match la.un with
 |0=>match readSl T env la.ce W with
  |some (xs,W)=>firstL (fun sl=>loop0S T {la with sl:=sl} code body xs env W) (la.sl::la.sl2)
  |none=>none
 |n+1=>bif Nat.ble n 100000 then unroll body (n+1) env W else none
def nLoops:ACode→Nat
 |.seq a b=>Nat.add (nLoops a) (nLoops b)
 |.cond _ a b=>Nat.add (nLoops a) (nLoops b)
 |.block _ b=>nLoops b
 |.loop b=>Nat.add (nLoops b) 1
 |_=>0
def nthLA:List LA→LA
 | []=>default
 |a::_=>a
def tlLA:Nat→List LA→List LA
 |0,l=>l
 |n+1,_::l=>tlLA n l
 |_+1,[]=>[]
def outN (r:RN):RC:=match r with
 |some l=>some (l.map fun p=>(.normal,p.1,p.2))
 |none=>none
def codeS (T:Tab) (an:An) (sc:SC):ACode→List LA→SE→SW→RC
 |.skip,_,env,W=>some [(.normal,env,W)]
 |.region ops,_,env,W=>outN (opsS T an sc ops env W)
 |.drawn B ops,_,env,W=>outN (drawnS' T an sc B ops (forgetS ops env) W)
 |.seq a b,la,env,W=>seqC (codeS T an sc a la env W) (codeS T an sc b (tlLA (nLoops a) la))
 |.cond c a b,la,env,W=>match evS env c with
  |some s=>match toB s with
   |some f=>both W f fun t W=>bif t then codeS T an sc a la env W else codeS T an sc b (tlLA (nLoops a) la) env W
   |none=>none
  |none=>none
 |.block id b,la,env,W=>match codeS T an sc b la env W with
  |some l=>some (blockC id l)
  |none=>none
 |.loop b,la,env,W=>match nextSlot b with
  |none=>loopS T (nthLA la) b (codeS T an sc b (tlLA 1 la)) env W
  |some _=>none
 |.exit id,_,env,W=>some [(.exit id,env,W)]
 |.ret,_,env,W=>some [(.ret,env,W)]
def argsS:List SV→Nat→SE→SE
 | [],_,env=>env
 |s::l,i,env=>argsS l (Nat.add i 1) (sput env i (.val s))
def resS (T:Tab) (env:SE) (W:SW):ARes→Option (SV × SW)
 |.tmp t=>match eoS env (.tmp t)with
  |.val s=>some (s,W)
  |_=>none
 |.cell agg n t=>match eoS env (.tmp t)with
  |.lp s o=>loadS T env W agg n (.lp s o)
  |.val (.p v o)=>loadP T W agg n v o
  |.val (.x v)=>loadP T W agg n v 0
  |_=>none
def ressS (T:Tab) (env:SE):List ARes→SW→Option (List SV × SW)
 | [],W=>some ([],W)
 |r::l,W=>match resS T env W r with
  |some (s,W)=>match ressS T env l W with
   |some (ss,W)=>some (s::ss,W)
   |none=>none
  |none=>none
def tupS:List SV→SV
 | [s]=>s
 |l=>.tup l
def endS (T:Tab) (res:List ARes):List OUT→Option (List (SV × SW))
 | []=>some []
 |(.exit _,_,_)::_=>none
 |(_,env,W)::l=>match ressS T env res W,endS T res l with
  |some (ss,W),some r=>some ((tupS ss,W)::r)
  |_,_=>none
def inS (T:Tab) (an:An) (la:List LA) (af:AFun) (sc:SC) (args:List SV) (W:SW):Option (List (SV × SW)):=bif Nat.ble (lenS args) af.n then(match codeS T an sc af.body la (argsS args 0 .lf) W with
 |some l=>endS T af.res l
 |none=>none)else none
def readPs (T:Tab) (as:List SV):List (Nat × List Nat)→SW→Option (List SV × SW)
 | [],W=>some ([],W)
 |(k,p)::r,W=>match nthS as k with
  |some s=>match readPath T p s W with
   |some (x,W)=>match readPs T as r W with
    |some (xs,W)=>some (x::xs,W)
    |none=>none
   |none=>none
  |none=>none
structure Con where
 ps:List Ty
 pre:List Lin
 outs:List (List Ty × List Lin × List (Nat × List Nat))
 M:List Nat
 P:List Nat
 ce:List (Nat × List Nat):=[]
 pp:List (Nat × List Nat):=[]
instance:Inhabited Con:=⟨⟨[],[],[],[],[],[],[]⟩⟩
def argAt (ls:List (List SV)) (v:Nat):Option SV:=match nthS ls (Nat.div v 100)with
 |some l=>nthS l (Nat.mod v 100)
 |none=>none
def argLin (W:SW) (ls:List (List SV)):At→Option Lin
 |.i v=>match argAt ls v with
  |some s=>match toI s with
   |some (_,l)=>some l
   |none=>none
  |none=>none
 |.l v=>match argAt ls v with
  |some s=>match toLen W s with
   |some l=>some l
   |none=>toSlen W s
  |none=>none
def argSum (W:SW) (ls:List (List SV)):List (Int × At)→Option Lin
 | []=>some (.k (.ofNat 0))
 |(k,a)::r=>match argLin W ls a,argSum W ls r with
  |some x,some y=>some ((Lin.mul k x).add y)
  |_,_=>none
def argLins (W:SW) (ls:List (List SV)):List Lin→Option (List Lin)
 | []=>some []
 |l::r=>match argSum W ls l.t,argLins W ls r with
  |some x,some y=>some (x.addc l.c::y)
  |_,_=>none
def argSVs (ls:List (List SV)):List Nat→Option (List SV)
 | []=>some []
 |v::l=>match argAt ls v,argSVs ls l with
  |some s,some r=>some (s::r)
  |_,_=>none
def argPrs (ls:List (List SV)):List (Nat × List Nat)→Option (List (Nat × List SV))
 | []=>some []
 |(k,l)::r=>match argSVs ls l,argPrs ls r with
  |some s,some q=>some ((k,s)::q)
  |_,_=>none
def mayP (W:SW) (as:List SV) (k:Nat):Bool:=match nthS as k with
 |some s=>match ptrVar s with
  |some v=>match W.tyOf v with
   |.ptr c _|.map c _=>holds W (.nl v false)&&mayWr W v c
   |_=>false
  |none=>false
 |none=>false
def classP (W:SW) (as:List SV) (k:Nat):Option Nat:=match nthS as k with
 |some s=>match ptrVar s with
  |some v=>match W.tyOf v with
   |.ptr c _|.map c _=>some c
   |_=>none
  |none=>none
 |none=>none
def callC (W:SW) (con:Con) (as:List SV):List (Nat × Nat × SV):=W.cells.filter fun p=>match W.tyOf p.1 with
 |.ptr c _=> !hasN c con.M&&con.P.all fun k=>match classP W as k with
  |some c'=> !Nat.beq c c'
  |none=>false
 |_=>false
def deadW (W:SW):Bool:=W.ge.any fun l=>match l.t with
 | []=> !leZ (.ofNat 0) l.c
 |_=>false
def noteAll (T:Tab):List (Nat × List SV)→SW→SW
 | [],W=>W
 |(k,as)::r,W=>noteAll T r (note T k as W)
def conOuts (T:Tab) (W:SW) (as:List SV) (ce:List (Nat × List Nat)) (c0:List SV):List (List Ty × List Lin × List (Nat × List Nat))→Option (List (SV × SW))
 | []=>some []
 |(tys,fs,ps)::r=>match freshTys W tys with
  |(rs,W1)=>match readPs T as ce W1 with
   |some (c1,W2)=>match argLins W2 [as,rs,c0,c1] fs,argPrs [as,rs,c0,c1] ps,conOuts T W as ce c0 r with
    |some l,some q,some o=>some (bif deadW (noteAll T q (addGes l W2))then o else(tupS rs,noteAll T q (addGes l W2))::o)
    |_,_,_=>none
   |none=>none
def conS (T:Tab) (con:Con) (as:List SV) (W:SW):Option (List (SV × SW)):=match W.bro with
 | []=>match readPs T as con.ce W with
  |some (c0,W)=>match giveTys T W as con.ps,argLins W [as,[],c0] con.pre,argPrs [as,[],c0] con.pp with
   |some W1,some l,some q=>bif(geAll W l&&prAll T W q)&&(con.M.all (fun c=>hasN c W.M)&&con.P.all (mayP W as))then conOuts T {W1 with cells:=callC W1 con as} as con.ce c0 con.outs else none
   |_,_,_=>none
  |none=>none
 |_=>none
inductive FS where
 |none
 |con (c:Con)
 |code (an:An) (la:List LA) (af:AFun)
instance:Inhabited FS:=⟨.none⟩
abbrev FSs:=Nat→FS
def scN (T:Tab) (F:FSs):Nat→SC
 |0=>fun _ _ _=>none
 |n+1=>fun f as W=>match F f with
  |.none=>none
  |.con c=>conS T c as W
  |.code an la af=>inS T an la af (scN T F n) as W
def conEnd (T:Tab) (as:List SV) (ce:List (Nat × List Nat)) (c0 rs:List SV) (W:SW) (p:List Ty × List Lin × List (Nat × List Nat)):Bool:=match readPs T as ce W with
 |some (c1,W)=>match giveTys T W rs p.1,argLins W [as,rs,c0,c1] p.2.1,argPrs [as,rs,c0,c1] p.2.2 with
  |some _,some l,some q=>geAll W l&&prAll T W q
  |_,_,_=>false
 |none=>false
def untup (n:Nat) (s:SV):List SV:=match n with
 |1=>[s]
 |_=>match toTup s with
  |some l=>l
  |none=>[s]
def conOk (T:Tab) (con:Con) (as c0:List SV):List (SV × SW)→Bool
 | []=>true
 |(s,W)::l=>(match W.bro with
  | []=>con.outs.any fun p=>conEnd T as con.ce c0 (untup (lenS p.1) s) W p
  |_=>false)&&conOk T con as c0 l
def W00 (con:Con):SW:=⟨0,.lf,[],[],[],[],[],[],con.M,[],[]⟩
def ptrVars:List SV→List Nat→List Nat
 |_,[]=>[]
 |as,k::l=>match nthS as k with
  |some (.x v)=>v::ptrVars as l
  |_=>ptrVars as l
def begin (T:Tab) (con:Con):Option (List SV × List SV × SW):=match freshTys (W00 con) con.ps with
 |(as,W)=>match readPs T as con.ce W with
  |some (c0,W)=>match argLins W [as,[],c0] con.pre,argPrs [as,[],c0] con.pp with
   |some l,some q=>some (as,c0,{addPrs q (addGes l W)with wr:=ptrVars as con.P})
   |_,_=>none
  |none=>none
def check (T:Tab) (F:FSs) (n:Nat) (con:Con) (an:An) (la:List LA) (af:AFun):Bool:=match begin T con with
 |some (as,c0,W)=>match inS T an la af (scN T F n) as W with
  |some o=>conOk T con as c0 o
  |none=>false
 |none=>false
end Go.AL.SX
namespace Go.AL.SX
theorem leZ_eq (a b:Int):leZ a b=decide (a≤b):=by
 unfold leZ;rw[ltI_eq];by_cases h:a≤b
 ·simp[h]
 ·simp[h];omega
theorem mulI_eq (a b:Int):mulI a b=a*b:=by
 cases a<;>cases b<;>first|rfl|skip
theorem negI_eq (a:Int):negI a= -a:=by
 unfold negI;rw[subI_eq];show(0:Int)-a= -a;omega
theorem isZ_eq {a:Int}:isZ a=true↔a=0:=by
 match a with
 |.ofNat 0=>exact⟨fun _=>rfl,fun _=>rfl⟩
 |.ofNat (n+1)=>exact⟨fun h=>(by cases h),fun h=>absurd h (by show((n+1:Nat):Int)≠0;omega)⟩
 |.negSucc n=>exact⟨fun h=>(by cases h),fun h=>absurd h (by omega)⟩
theorem at_beq {a b:At} (h:At.beq a b=true):a=b:=by
 cases a<;>cases b<;>first|(cases h;done)|(have:=Nat.eq_of_beq_eq_true h;subst this;rfl)
theorem kEq_eq {a b:IntKind} (h:kEq a b=true):a=b:=by cases a<;>cases b<;>first|rfl|cases h
theorem beqN {a b:Nat} (h:Nat.beq a b=true):a=b:=Nat.eq_of_beq_eq_true h
theorem bleN {a b:Nat} (h:Nat.ble a b=true):a≤b:=Nat.le_of_ble_eq_true h
theorem bltN {a b:Nat} (h:Nat.blt a b=true):a<b:=by rw[blt_eq]at h;exact of_decide_eq_true h
theorem lenS_eq {β:Type} (l:List β):lenS l=l.length:=by
 induction l with
 |nil=>rfl
 |cons a l ih=>simp only[lenS,List.length_cons,ih,Nat.add_eq]
theorem nthS_eq {β:Type}:∀(l:List β) (n:Nat),nthS l n=l[n]?
 | [],n=>by simp[nthS]
 |a::l,0=>rfl
 |a::l,n+1=>by simp[nthS,nthS_eq l n]
theorem and2 {a b:Bool} (h:(a&&b)=true):a=true∧b=true:=by simpa using h
theorem condT {α:Type} {b:Bool} {x y:α} (h:b=true):(bif b then x else y)=x:=by rw[h];rfl
theorem cond_some {α:Type} {b:Bool} {x:Option α} {r:α} (h:(bif b then x else none)=some r):b=true∧x=some r:=by
 cases b with
 |true=>exact⟨rfl,h⟩
 |false=>cases h
theorem all2_get {α β:Type} {f:α→β→Bool}:∀{l:List α} {r:List β},all2 f l r=true→l.length=r.length∧∀(j:Nat) a b,l[j]? =some a→r[j]? =some b→f a b=true
 | [],[],_=>⟨rfl,fun j a b h=>by simp at h⟩
 | [],_::_,h=>by cases h
 |_::_,[],h=>by cases h
 |a::l,b::r,h=>by
  obtain⟨h1,h2⟩:=and2 h
  obtain⟨h3,h4⟩:=all2_get h2
  refine⟨by simp[h3],fun j x y hx hy=> ?_⟩
  cases j with
  |zero=>simp at hx hy;subst hx;subst hy;exact h1
  |succ j=>exact h4 j x y (by simpa using hx) (by simpa using hy)
theorem tg_lf {α:Type} (d:α) (p:Pa):tg d p .lf=d:=by cases p<;>rfl
theorem tg_ts {α:Type} (d e:α):∀(p q:Pa) (t:Tr α),tg d q (ts d e p t)=if p=q then e else tg d q t
 |.z,.z,t=>by cases t<;>rfl
 |.z,.a q,t=>by rw[if_neg (by intro h;cases h)];cases t<;>simp[ts,tg,tg_lf]
 |.z,.b q,t=>by rw[if_neg (by intro h;cases h)];cases t<;>simp[ts,tg,tg_lf]
 |.a p,.z,t=>by rw[if_neg (by intro h;cases h)];cases t<;>rfl
 |.b p,.z,t=>by rw[if_neg (by intro h;cases h)];cases t<;>rfl
 |.a p,.a q,t=>by
  have h1:(Pa.a p=Pa.a q)=(p=q):=by simp
  cases t with
  |lf=>simp only[ts,tg,h1,tg_ts d e p q,tg_lf]
  |nd v l r=>simp only[ts,tg,h1,tg_ts d e p q]
 |.b p,.b q,t=>by
  have h1:(Pa.b p=Pa.b q)=(p=q):=by simp
  cases t with
  |lf=>simp only[ts,tg,h1,tg_ts d e p q,tg_lf]
  |nd v l r=>simp only[ts,tg,h1,tg_ts d e p q]
 |.a p,.b q,t=>by rw[if_neg (by intro h;cases h)];cases t<;>simp[ts,tg,tg_lf]
 |.b p,.a q,t=>by rw[if_neg (by intro h;cases h)];cases t<;>simp[ts,tg,tg_lf]
theorem sat_sput (env:SE) (s t:Nat) (e:SEnt):sat (sput env s e) t=if s=t then e else sat env t:=by
 unfold sat sput
 rw[tg_ts]
 by_cases h:s=t
 ·subst h;simp
 ·rw[if_neg h,if_neg (fun hh=>h (pathOf_inj.1 hh))]
theorem sat_lf (t:Nat):sat .lf t=.un:=tg_lf _ _
theorem tyOf_push (W:SW) (t:Ty) (v:Nat):(W.push t).tyOf v=if W.nv=v then t else W.tyOf v:=by
 unfold SW.tyOf SW.push
 simp only
 rw[tg_ts]
 by_cases h:W.nv=v
 ·subst h;simp
 ·rw[if_neg h,if_neg (fun hh=>h (pathOf_inj.1 hh))]
theorem evT_addT (ρ:Val) (k:Int) (a:At):∀l,evT ρ (addT k a l)=k*a.ev ρ+evT ρ l
 | []=>by simp[addT,evT]
 |(k',a')::r=>by
  unfold addT
  cases h:At.beq a a' with
  |true=>
   have:=at_beq h;subst this
   simp only[cond_true,addI_eq]
   cases hz:isZ (k+k')with
   |true=>
    have:=isZ_eq.1 hz
    simp only[cond_true,evT]
    have h2:k*a.ev ρ+k'*a.ev ρ=0:=by rw[←Int.add_mul,this,Int.zero_mul]
    omega
   |false=>
    simp only[cond_false,evT,Int.add_mul];omega
  |false=>
   simp only[cond_false,evT,evT_addT ρ k a r];omega
theorem evT_addTs (ρ:Val):∀l r,evT ρ (addTs l r)=evT ρ l+evT ρ r
 | [],r=>by simp[addTs,evT]
 |(k,a)::l,r=>by simp only[addTs,evT_addT,evT,evT_addTs ρ l r];omega
theorem evT_negTs (ρ:Val):∀l,evT ρ (negTs l)= - evT ρ l
 | []=>rfl
 |(k,a)::l=>by simp only[negTs,evT,negI_eq,evT_negTs ρ l,Int.neg_mul];omega
theorem evT_mulTs (ρ:Val) (n:Int):∀l,evT ρ (mulTs n l)=n*evT ρ l
 | []=>by simp[mulTs,evT]
 |(k,a)::l=>by simp only[mulTs,evT,mulI_eq,evT_mulTs ρ n l,Int.mul_add,Int.mul_assoc]
@[simp] theorem ev_k (ρ:Val) (n:Int):(Lin.k n).ev ρ=n:=by simp[Lin.k,Lin.ev,evT]
@[simp] theorem ev_at (ρ:Val) (a:At):(Lin.at a).ev ρ=a.ev ρ:=by simp[Lin.at,Lin.ev,evT]
@[simp] theorem ev_add (ρ:Val) (x y:Lin):(x.add y).ev ρ=x.ev ρ+y.ev ρ:=by simp only[Lin.add,Lin.ev,addI_eq,evT_addTs];omega
@[simp] theorem ev_neg (ρ:Val) (x:Lin):(x.neg).ev ρ= - x.ev ρ:=by simp only[Lin.neg,Lin.ev,negI_eq,evT_negTs];omega
@[simp] theorem ev_sub (ρ:Val) (x y:Lin):(x.sub y).ev ρ=x.ev ρ-y.ev ρ:=by simp only[Lin.sub,Lin.ev,subI_eq,evT_addTs,evT_negTs];omega
@[simp] theorem ev_addc (ρ:Val) (x:Lin) (n:Int):(x.addc n).ev ρ=x.ev ρ+n:=by simp only[Lin.addc,Lin.ev,addI_eq];omega
@[simp] theorem ev_mul (ρ:Val) (n:Int) (x:Lin):(Lin.mul n x).ev ρ=n*x.ev ρ:=by
 unfold Lin.mul
 cases h:isZ n with
 |true=>simp[isZ_eq.1 h]
 |false=>simp only[cond_false,Lin.ev,mulI_eq,evT_mulTs,Int.mul_add]
theorem ev_const {ρ:Val} {x:Lin} {n:Int} (h:x.const? =some n):x.ev ρ=n:=by
 unfold Lin.const? at h
 split at h
 ·rename_i he;cases h;simp[Lin.ev,he,evT]
 ·cases h
structure Ok (T:Tab) (G:Nat→Cl) (ρ:Val) (W:SW):Prop where
 ty:∀v,HasTy T.D G (W.tyOf v) (ρ v)
 top:∀v,W.nv≤v→W.tyOf v=.any
 ge:∀l∈W.ge,0≤l.ev ρ
 fx:∀f∈W.fx,f.ev ρ=true
 ln:∀p∈W.ln,lenOf (ρ p.1)=p.2.ev ρ
 pr:∀p∈W.pr,phi T p.1 (evs ρ p.2)
variable {T:Tab} {G:Nat→Cl} {ρ:Val} {W:SW}
theorem atB_ok (h:Ok T G ρ W) {a:At} {lo hi:Int} (ha:atB W a=some (lo,hi)):lo≤a.ev ρ∧a.ev ρ≤hi:=by
 cases a with
 |i v=>
  have:=h.ty v
  simp only[atB]at ha
  split at ha
  ·rename_i k lo' hi' ht
   cases ha
   rw[ht]at this
   generalize hr:ρ v=a at this
   cases this with
   |int _ _ _ n h1 h2=>simp only[At.ev,hr,intOf];exact⟨h1,h2⟩
  ·cases ha
 |l v=>
  have:=h.ty v
  simp only[atB]at ha
  split at ha
  ·rename_i t lo' hi' ht
   cases ha
   rw[ht]at this
   generalize hr:ρ v=a at this
   cases this with
   |sl _ _ _ xs nl tok h1 h2=>simp only[At.ev,hr,lenOf];exact⟨Int.ofNat_le.2 h1,Int.ofNat_le.2 h2⟩
  ·rename_i hi' ht
   cases ha
   rw[ht]at this
   generalize hr:ρ v=a at this
   cases this with
   |str s _ h1=>simp only[At.ev,hr,lenOf];exact⟨Int.natCast_nonneg _,Int.ofNat_le.2 h1⟩
  ·cases ha
theorem lb1_ok {k n x:Int} {o:Option (Int × Int)} (h:lb1 k o=some n) (hb:∀lo hi,o=some (lo,hi)→lo≤x∧x≤hi):n≤k*x:=by
 unfold lb1 at h
 split at h
 ·rename_i lo hi
  obtain⟨h1,h2⟩:=hb lo hi rfl
  cases h
  cases hz:leZ (.ofNat 0) k with
  |true=>
   rw[leZ_eq]at hz
   have hz:(0:Int)≤k:=of_decide_eq_true hz
   simp only[cond_true,mulI_eq]
   exact Int.mul_le_mul_of_nonneg_left h1 hz
  |false=>
   rw[leZ_eq]at hz
   have hz:¬(0:Int)≤k:=of_decide_eq_false hz
   simp only[cond_false,mulI_eq]
   exact Int.mul_le_mul_of_nonpos_left (by omega) h2
 ·cases h
theorem lbT_ok (h:Ok T G ρ W):∀{l:List (Int × At)} {n:Int},lbT W l=some n→n≤evT ρ l
 | [],n,hl=>by cases hl;simp[evT]
 |(k,a)::r,n,hl=>by
  simp only[lbT]at hl
  split at hl
  ·rename_i x y hx hy
   cases hl
   have h1:=lb1_ok (x:=a.ev ρ) hx (fun lo hi hb=>atB_ok h hb)
   have h2:=lbT_ok h hy
   simp only[evT,addI_eq];omega
  ·cases hl
theorem lbOk_ok (h:Ok T G ρ W) {l:Lin} (hl:lbOk W l=true):0≤l.ev ρ:=by
 unfold lbOk at hl
 split at hl
 ·rename_i n hn
  have:=lbT_ok h hn
  rw[leZ_eq,addI_eq]at hl
  have hl:(0:Int)≤_:=of_decide_eq_true hl
  simp only[Lin.ev];omega
 ·cases hl
theorem takeF_ok {f l:Lin} (hf:0≤f.ev ρ) (hl:0≤(takeF f l).ev ρ):0≤l.ev ρ:=by
 unfold takeF at hl
 split at hl
 ·rw[ev_sub]at hl;omega
 ·rename_i n _
  rw[ev_sub,ev_mul]at hl
  have:=Int.mul_nonneg (Int.natCast_nonneg (ratio f.t l.t)) hf
  have h2:(0:Int)≤Int.ofNat (ratio f.t l.t)*f.ev ρ:=this
  omega
theorem prove_ok (h:Ok T G ρ W):∀{d:Nat} {l:Lin},prove d W l=true→0≤l.ev ρ
 |0,l,hl=>lbOk_ok h hl
 |d+1,l,hl=>by
  simp only[prove,Bool.or_eq_true,List.any_eq_true]at hl
  rcases hl with hl|⟨f,hf,hl⟩
  ·exact lbOk_ok h hl
  ·exact takeF_ok (h.ge f hf) (prove_ok h (and2 hl).2)
theorem geq_ok (h:Ok T G ρ W) {l:Lin} (hl:geq W l=true):0≤l.ev ρ:=prove_ok h hl
theorem leq_ok (h:Ok T G ρ W) {a b:Lin} (hl:leq W a b=true):a.ev ρ≤b.ev ρ:=by
 have:=geq_ok h hl;simp only[ev_sub]at this;omega
theorem neg_ev (f:Lit):f.neg.ev ρ= !f.ev ρ:=by
 cases f with
 |c b=>rfl
 |bv v p=>simp only[Lit.neg,Lit.ev];cases boolOf (ρ v)<;>cases p<;>rfl
 |nl v p=>simp only[Lit.neg,Lit.ev];cases isNilV (ρ v)<;>cases p<;>rfl
 |ge l=>
  simp only[Lit.neg,Lit.ev,ev_addc,ev_neg]
  by_cases h:0≤l.ev ρ
  ·have:¬0≤ -l.ev ρ+Int.negSucc 0:=by omega
   rw[decide_eq_true h,decide_eq_false this];rfl
  ·have:0≤ -l.ev ρ+Int.negSucc 0:=by omega
   rw[decide_eq_false h,decide_eq_true this];rfl
 |eq l p=>simp only[Lit.neg,Lit.ev];cases decide (l.ev ρ=0)<;>cases p<;>rfl
theorem nonnil_ok (h:Ok T G ρ W) {v:Nat} (hv:nonnil W v=true):isNilV (ρ v)=false:=by
 have:=h.ty v
 unfold nonnil at hv
 generalize W.tyOf v=t at this hv
 generalize ρ v=a at this
 cases this with
 |sl t lo hi xs nl tok h1 h2 hn hx=>
  cases nl with
  |false=>rfl
  |true=>
   have:=hn rfl
   subst this
   have:=bltN hv
   simp at h1;omega
 |_=>simp_all [isNilV]
theorem holds_ok (h:Ok T G ρ W) {f:Lit} (hf:holds W f=true):f.ev ρ=true:=by
 cases f with
 |c b=>exact hf
 |bv v p=>
  simp only[holds,List.any_eq_true]at hf
  obtain⟨g,hg,he⟩:=hf
  cases g<;>simp only[isBv,Bool.false_eq_true]at he
  obtain⟨h1,h2⟩:=and2 he
  have:=h.fx _ hg
  have h1:=beqN h1;subst h1
  have h2:=eq_of_beq h2;subst h2
  exact this
 |nl v p=>
  simp only[holds,Bool.or_eq_true,List.any_eq_true]at hf
  rcases hf with⟨g,hg,he⟩|hf
  ·cases g<;>simp only[isNl,Bool.false_eq_true]at he
   obtain⟨h1,h2⟩:=and2 he
   have:=h.fx _ hg
   have h1:=beqN h1;subst h1
   have h2:=eq_of_beq h2;subst h2
   exact this
  ·obtain⟨h1,h2⟩:=and2 hf
   cases p with
   |true=>cases h1
   |false=>simp only[Lit.ev,nonnil_ok h h2];rfl
 |ge l=>simp only[Lit.ev];exact decide_eq_true (geq_ok h hf)
 |eq l p=>
  cases p with
  |true=>
   obtain⟨h1,h2⟩:=and2 hf
   have h1:=geq_ok h h1
   have h2:=geq_ok h h2
   simp only[ev_neg]at h2
   have:l.ev ρ=0:=by omega
   simp[Lit.ev,this]
  |false=>
   simp only[holds,Bool.or_eq_true]at hf
   have:l.ev ρ≠0:=by
    rcases hf with hf|hf
    ·have:=geq_ok h hf;simp only[ev_addc]at this;omega
    ·have:=geq_ok h hf;simp only[ev_addc,ev_neg]at this;omega
   simp[Lit.ev,this]
theorem Ok.addGe (h:Ok T G ρ W) {l:Lin} (hl:0≤l.ev ρ):Ok T G ρ (W.addGe l):=
 ⟨h.ty,h.top,fun x hx=>(List.mem_cons.1 hx).elim (fun e=>e▸hl) (h.ge x),h.fx,h.ln,h.pr⟩
theorem Ok.addFx (h:Ok T G ρ W) {f:Lit} (hf:f.ev ρ=true):Ok T G ρ (W.addFx f):=
 ⟨h.ty,h.top,h.ge,fun x hx=>(List.mem_cons.1 hx).elim (fun e=>e▸hf) (h.fx x),h.ln,h.pr⟩
theorem learn_ok (h:Ok T G ρ W) {f:Lit} (hf:f.ev ρ=true):Ok T G ρ (learn W f):=by
 cases f with
 |c b=>exact h
 |bv v p=>exact h.addFx hf
 |nl v p=>exact h.addFx hf
 |ge l=>exact h.addGe (of_decide_eq_true hf)
 |eq l p=>
  cases p with
  |true=>
   have hz:l.ev ρ=0:=by
    simp only[Lit.ev,beq_iff_eq]at hf;exact of_decide_eq_true hf
   exact(h.addGe (by omega)).addGe (by simp only[ev_neg];omega)
  |false=>
   have hz:l.ev ρ≠0:=by
    simp only[Lit.ev,beq_iff_eq]at hf;exact of_decide_eq_false hf
   simp only[learn]
   cases h1:geq W l with
   |true=>
    have:=geq_ok h h1
    exact h.addGe (by simp only[ev_addc];omega)
   |false=>
    cases h2:geq W l.neg with
    |true=>
     have:=geq_ok h h2
     simp only[ev_neg]at this
     exact h.addGe (by simp only[ev_addc,ev_neg];omega)
    |false=>exact h.addFx hf
end Go.AL.SX
namespace Go.AL.SX
variable {T:Tab} {G:Nat→Cl} {ρ ρ':Val} {W:SW}
def Agree (n:Nat) (ρ ρ':Val):Prop:=∀v,v<n→ρ v=ρ' v
theorem Agree.refl (n:Nat) (ρ:Val):Agree n ρ ρ:=fun _ _=>rfl
theorem Agree.symm {n:Nat} (h:Agree n ρ ρ'):Agree n ρ' ρ:=fun v hv=>(h v hv).symm
theorem Agree.trans {n m:Nat} {ρ'':Val} (h:Agree n ρ ρ') (k:Agree m ρ' ρ'') (hle:n≤m):Agree n ρ ρ'':=fun v hv=>(h v hv).trans (k v (Nat.lt_of_lt_of_le hv hle))
theorem Agree.less {n m:Nat} (h:Agree m ρ ρ') (hle:n≤m):Agree n ρ ρ':=fun v hv=>h v (Nat.lt_of_lt_of_le hv hle)
theorem at_agree {n:Nat} (h:Agree n ρ ρ') {a:At} (ha:a.cl n=true):a.ev ρ=a.ev ρ':=by
 cases a<;>(simp only[At.ev];rw[h _ (bltN ha)])
theorem evT_agree {n:Nat} (h:Agree n ρ ρ'):∀{l:List (Int × At)},clT n l=true→evT ρ l=evT ρ' l
 | [],_=>rfl
 |(k,a)::r,hl=>by
  obtain⟨h1,h2⟩:=and2 hl
  simp only[evT,at_agree h h1,evT_agree h h2]
theorem lin_agree {n:Nat} (h:Agree n ρ ρ') {l:Lin} (hl:l.cl n=true):l.ev ρ=l.ev ρ':=by
 simp only[Lin.ev,evT_agree h hl]
theorem lit_agree {n:Nat} (h:Agree n ρ ρ') {f:Lit} (hf:f.cl n=true):f.ev ρ=f.ev ρ':=by
 cases f with
 |c b=>rfl
 |bv v p=>simp only[Lit.ev,h _ (bltN hf)]
 |nl v p=>simp only[Lit.ev,h _ (bltN hf)]
 |ge l=>simp only[Lit.ev,lin_agree h hf]
 |eq l p=>simp only[Lit.ev,lin_agree h hf]
mutual
theorem sv_agree {n:Nat} (h:Agree n ρ ρ'):∀(s:SV),s.cl n=true→s.ev ρ=s.ev ρ'
 |.k a,_=>rfl
 |.i k l,hs=>by simp only[SV.ev,lin_agree h hs]
 |.b f,hs=>by simp only[SV.ev,lit_agree h hs]
 |.x v,hs=>by simp only[SV.ev,h _ (bltN hs)]
 |.p v o,hs=>by simp only[SV.ev,h _ (bltN hs)]
 |.sl l,hs=>by simp only[SV.ev,svs_agree h l hs]
 |.agg l,hs=>by simp only[SV.ev,svs_agree h l hs]
 |.tup l,hs=>by simp only[SV.ev,svs_agree h l hs]
 |.sp l,hs=>by simp only[SV.ev,svs_agree h l hs]
 |.ifc t s,hs=>by simp only[SV.ev,sv_agree h s hs]
 |.fn f a c,hs=>by simp only[SV.ev,svs_agree h a (and2 hs).1,svs_agree h c (and2 hs).2]
theorem svs_agree {n:Nat} (h:Agree n ρ ρ'):∀(l:List SV),cls n l=true→evs ρ l=evs ρ' l
 | [],_=>rfl
 |s::l,hs=>by simp only[evs,sv_agree h s (and2 hs).1,svs_agree h l (and2 hs).2]
end
theorem at_mono {n m:Nat} (hle:n≤m) {a:At} (h:a.cl n=true):a.cl m=true:=by
 cases a<;>(simp only[At.cl,blt_eq]at h⊢;exact decide_eq_true (Nat.lt_of_lt_of_le (of_decide_eq_true h) hle))
theorem clT_mono {n m:Nat} (hle:n≤m):∀{l:List (Int × At)},clT n l=true→clT m l=true
 | [],_=>rfl
 |(k,a)::r,h=>by
  obtain⟨h1,h2⟩:=and2 h
  simp only[clT,at_mono hle h1,clT_mono hle h2];rfl
theorem blt_mono {n m v:Nat} (hle:n≤m) (h:Nat.blt v n=true):Nat.blt v m=true:=by
 rw[blt_eq]at h⊢;exact decide_eq_true (Nat.lt_of_lt_of_le (of_decide_eq_true h) hle)
theorem lit_mono {n m:Nat} (hle:n≤m) {f:Lit} (h:f.cl n=true):f.cl m=true:=by
 cases f with
 |c b=>rfl
 |bv v p=>exact blt_mono hle h
 |nl v p=>exact blt_mono hle h
 |ge l=>exact clT_mono hle h
 |eq l p=>exact clT_mono hle h
mutual
theorem sv_mono {n m:Nat} (hle:n≤m):∀(s:SV),s.cl n=true→s.cl m=true
 |.k a,_=>rfl
 |.i k l,hs=>clT_mono hle (l:=l.t) hs
 |.b f,hs=>lit_mono hle hs
 |.x v,hs=>blt_mono hle hs
 |.p v o,hs=>blt_mono hle hs
 |.sl l,hs=>svs_mono hle l hs
 |.agg l,hs=>svs_mono hle l hs
 |.tup l,hs=>svs_mono hle l hs
 |.sp l,hs=>svs_mono hle l hs
 |.ifc t s,hs=>sv_mono hle s hs
 |.fn f a c,hs=>by
  have h1:=svs_mono hle a (and2 hs).1
  have h2:=svs_mono hle c (and2 hs).2
  simp only[SV.cl,h1,h2];rfl
theorem svs_mono {n m:Nat} (hle:n≤m):∀(l:List SV),cls n l=true→cls m l=true
 | [],_=>rfl
 |s::l,hs=>by
  have h1:=sv_mono hle s (and2 hs).1
  have h2:=svs_mono hle l (and2 hs).2
  simp only[cls,h1,h2];rfl
end
theorem cl_addT {n:Nat} {k:Int} {a:At} (ha:a.cl n=true):∀{l},clT n l=true→clT n (addT k a l)=true
 | [],_=>by simp[addT,clT,ha]
 |(k',a')::r,h=>by
  obtain⟨h1,h2⟩:=and2 h
  unfold addT
  cases At.beq a a' with
  |true=>cases isZ (addI k k')<;>simp[clT,h1,h2]
  |false=>simp[clT,h1,cl_addT ha h2]
theorem cl_addTs {n:Nat}:∀{l r},clT n l=true→clT n r=true→clT n (addTs l r)=true
 | [],r,_,h=>h
 |(k,a)::l,r,h,hr=>cl_addT (and2 h).1 (cl_addTs (and2 h).2 hr)
theorem cl_negTs {n:Nat}:∀{l},clT n l=true→clT n (negTs l)=true
 | [],_=>rfl
 |(k,a)::l,h=>by
  obtain⟨h1,h2⟩:=and2 h
  simp[negTs,clT,h1,cl_negTs h2]
theorem cl_mulTs {n:Nat} {m:Int}:∀{l},clT n l=true→clT n (mulTs m l)=true
 | [],_=>rfl
 |(k,a)::l,h=>by
  obtain⟨h1,h2⟩:=and2 h
  simp[mulTs,clT,h1,cl_mulTs h2]
theorem cl_k (n:Nat) (m:Int):(Lin.k m).cl n=true:=rfl
theorem cl_at {n:Nat} {a:At} (h:a.cl n=true):(Lin.at a).cl n=true:=by simp[Lin.at,Lin.cl,clT,h]
theorem cl_add {n:Nat} {x y:Lin} (h:x.cl n=true) (k:y.cl n=true):(x.add y).cl n=true:=cl_addTs h k
theorem cl_neg {n:Nat} {x:Lin} (h:x.cl n=true):(x.neg).cl n=true:=cl_negTs h
theorem cl_sub {n:Nat} {x y:Lin} (h:x.cl n=true) (k:y.cl n=true):(x.sub y).cl n=true:=cl_addTs h (cl_negTs k)
theorem cl_addc {n:Nat} {x:Lin} {m:Int} (h:x.cl n=true):(x.addc m).cl n=true:=h
theorem cl_mul {n:Nat} {x:Lin} {m:Int} (h:x.cl n=true):(Lin.mul m x).cl n=true:=by
 unfold Lin.mul;cases isZ m with
 |true=>rfl
 |false=>exact cl_mulTs h
theorem cl_negl {n:Nat} {f:Lit} (h:f.cl n=true):f.neg.cl n=true:=by
 cases f with
 |c b=>rfl
 |bv v p=>exact h
 |nl v p=>exact h
 |ge l=>exact cl_addc (cl_neg h)
 |eq l p=>exact h
theorem HasTy.mono {D:Nat→Ty} {G G':Nat→Cl} (hg:∀i c,G i=.cls c→G' i=.cls c) {t:Ty} {a:AVal} (h:HasTy D G t a):HasTy D G' t a:=by
 induction h with
 |any a=>exact .any a
 |bool b=>exact .bool b
 |str s hi h=>exact .str s hi h
 |int k lo hi n h1 h2=>exact .int k lo hi n h1 h2
 |inu k n=>exact .inu k n
 |sl t lo hi xs nl tok h1 h2 hn _ ih=>exact .sl t lo hi xs nl tok h1 h2 hn ih
 |ptr c nl i h=>exact .ptr c nl i (hg i c h)
 |nilP c=>exact .nilP c
 |map c nl i h=>exact .map c nl i (hg i c h)
 |nilM c=>exact .nilM c
 |agg ts cs hl _ ih=>exact .agg ts cs hl ih
 |tup ts cs hl _ ih=>exact .tup ts cs hl ih
 |ifc as nl t ty v hm _ ih=>exact .ifc as nl t ty v hm ih
 |nilI as=>exact .nilI as
 |fn as nl f fs cs a c hm h1 h2 _ _ ih1 ih2=>exact .fn as nl f fs cs a c hm h1 h2 ih1 ih2
 |nilF as=>exact .nilF as
 |nm k a _ ih=>exact .nm k a ih
 |con a=>exact .con a
theorem get_of_len {α β:Type} {l:List α} {r:List β} (h:l.length=r.length) {j:Nat} {b:β} (hb:r[j]? =some b):∃a,l[j]? =some a:=
 ⟨_,List.getElem?_eq_getElem (by rw[h];exact(List.getElem?_eq_some_iff.1 hb).1)⟩
theorem eqBy_ok:∀{a b:List UInt8},eqBy a b=true→a=b
 | [],[],_=>rfl
 | [],_::_,h=>by cases h
 |_::_,[],h=>by cases h
 |x::a,y::b,h=>by
  obtain⟨h1,h2⟩:=and2 h
  rw[UInt8.toNat.inj (beqN h1),eqBy_ok h2]
theorem all2_eq {α:Type} {f:α→α→Bool} (hf:∀a b,f a b=true→a=b):∀{l r:List α},all2 f l r=true→l=r
 | [],[],_=>rfl
 | [],_::_,h=>by cases h
 |_::_,[],h=>by cases h
 |x::a,y::b,h=>by
  obtain⟨h1,h2⟩:=and2 h
  rw[hf x y h1,all2_eq hf h2]
theorem eqI_ok {a b:Int} (h:eqI a b=true):a=b:=by rw[eqI_eq]at h;exact eq_of_beq h
theorem eqON_ok {a b:Option Nat} (h:eqON a b=true):a=b:=by
 cases a<;>cases b<;>first|rfl|(cases h;done)|(rw[beqN h])
theorem eqAV_ok:∀{f:Nat} {a b:AVal},eqAV f a b=true→a=b
 |0,a,b,h=>by cases h
 |f+1,a,b,h=>by
  have ih:∀a b,eqAV f a b=true→a=b:=fun a b h=>eqAV_ok h
  unfold eqAV at h
  split at h
  ·rw[eq_of_beq h]
  ·obtain⟨h1,h2⟩:=and2 h;rw[kEq_eq h1,eqI_ok h2]
  ·rw[eqBy_ok h]
  ·rfl
  ·rfl
  ·rfl
  ·rfl
  ·obtain⟨h1,h2⟩:=and2 h
   obtain⟨h2,h3⟩:=and2 h2
   rw[eq_of_beq h1,eqON_ok h2,all2_eq ih h3]
  ·rw[all2_eq ih h]
  ·rw[all2_eq ih h]
  ·rw[all2_eq ih h]
  ·obtain⟨h1,h2⟩:=and2 h;rw[beqN h1,ih _ _ h2]
  ·obtain⟨h1,h2⟩:=and2 h
   obtain⟨h2,h3⟩:=and2 h2
   rw[beqN h1,all2_eq ih h2,all2_eq ih h3]
  ·cases h
theorem tySub_ok {D:Nat→Ty}:∀{f:Nat} {t t':Ty},tySub f t t'=true→∀{a:AVal},HasTy D G t a→HasTy D G t' a
 |0,t,t',h=>by cases h
 |f+1,t,t',h=>by
  intro ha
  unfold tySub at h
  split at h
  ·exact .any _
  ·exact ha
  ·cases ha with
   |str s _ h1=>exact .str s _ (Nat.le_trans h1 (bleN h))
  ·cases ha with
   |int k lo hi n h1 h2=>
    obtain⟨e1,e2⟩:=and2 h
    obtain⟨e2,e3⟩:=and2 e2
    rw[leZ_eq]at e2 e3
    have:=kEq_eq e1;subst this
    exact .int _ _ _ n (Int.le_trans (of_decide_eq_true e2) h1) (Int.le_trans h2 (of_decide_eq_true e3))
  ·cases ha with
   |int k lo hi n h1 h2=>have:=kEq_eq h;subst this;exact .inu _ n
  ·cases ha with
   |inu k n=>have:=kEq_eq h;subst this;exact .inu _ n
  ·cases ha with
   |sl t lo hi xs nl tok h1 h2 hn hx=>
    obtain⟨e1,e2⟩:=and2 h
    obtain⟨e3,e4⟩:=and2 e1
    exact .sl _ _ _ xs nl tok (Nat.le_trans (bleN e3) h1) (Nat.le_trans h2 (bleN e4)) hn fun x hx'=>tySub_ok e2 (hx x hx')
  ·obtain⟨e1,e2⟩:=and2 h
   have:=beqN e1;subst this
   cases ha with
   |ptr c nl i h1=>exact .ptr _ _ i h1
   |nilP c=>simp at e2;subst e2;exact .nilP _
  ·obtain⟨e1,e2⟩:=and2 h
   have:=beqN e1;subst this
   cases ha with
   |map c nl i h1=>exact .map _ _ i h1
   |nilM c=>simp at e2;subst e2;exact .nilM _
  ·cases ha with
   |agg ts cs hl hx=>
    obtain⟨e1,e2⟩:=all2_get h
    refine .agg _ cs (by rw[←e1,hl]) fun j t c ht hc=> ?_
    obtain⟨u,hu⟩:=get_of_len hl hc
    exact tySub_ok (e2 j u t hu ht) (hx j u c hu hc)
  ·cases ha with
   |tup ts cs hl hx=>
    obtain⟨e1,e2⟩:=all2_get h
    refine .tup _ cs (by rw[←e1,hl]) fun j t c ht hc=> ?_
    obtain⟨u,hu⟩:=get_of_len hl hc
    exact tySub_ok (e2 j u t hu ht) (hx j u c hu hc)
  ·obtain⟨e1,e2⟩:=and2 h
   cases ha with
   |ifc as nl t ty v hm hv=>
    have:=List.all_eq_true.1 e2 _ hm
    obtain⟨q,hq,e3⟩:=List.any_eq_true.1 this
    obtain⟨e3,e4⟩:=and2 e3
    have:=beqN e3;simp only at this;subst this
    exact .ifc _ _ _ q.2 v hq (tySub_ok e4 hv)
   |nilI as=>simp at e1;subst e1;exact .nilI _
  ·obtain⟨e1,e2⟩:=and2 h
   cases ha with
   |fn as nl g fs cs a c hm h1 h2 hx hy=>
    have:=List.all_eq_true.1 e2 _ hm
    obtain⟨q,hq,e3⟩:=List.any_eq_true.1 this
    obtain⟨e3,e4⟩:=and2 e3
    obtain⟨e4,e5⟩:=and2 e4
    have:=beqN e3;simp only at this;subst this
    obtain⟨l1,m1⟩:=all2_get e4
    obtain⟨l2,m2⟩:=all2_get e5
    refine .fn _ _ _ q.2.1 q.2.2 a c hq (by rw[←l1];exact h1) (by rw[←l2];exact h2) (fun j t v ht hv=> ?_) (fun j t v ht hv=> ?_)
    ·obtain⟨u,hu⟩:=get_of_len h1 hv
     exact tySub_ok (m1 j u t hu ht) (hx j u v hu hv)
    ·obtain⟨u,hu⟩:=get_of_len h2 hv
     exact tySub_ok (m2 j u t hu ht) (hy j u v hu hv)
   |nilF as=>simp at e1;subst e1;exact .nilF _
  ·have:=beqN h;subst this;exact ha
  ·have:=eqAV_ok h;subst this;exact ha
  ·subst h;cases ha;exact .nilP _
  ·cases h
theorem all2_conTy {f:Nat} {cs:List AVal} {ts:List Ty} (ih:∀{a:AVal} {t:Ty},conTy T f a t=true→HasTy T.D G t a) (h:all2 (conTy T f) cs ts=true):
  ts.length=cs.length∧∀(j:Nat) (t:Ty) (c:AVal),ts[j]? =some t→cs[j]? =some c→HasTy T.D G t c:=by
 obtain⟨h1,h2⟩:=all2_get h
 exact⟨h1.symm,fun j t c ht hc=>ih (h2 j c t hc ht)⟩
theorem conTy_ok:∀{f:Nat} {a:AVal} {t:Ty},conTy T f a t=true→HasTy T.D G t a
 |0,a,t,h=>by cases h
 |f+1,a,t,h=>by
  unfold conTy at h
  split at h
  ·exact .any _
  ·exact .bool _
  ·exact .str _ _ (by rw[←lenS_eq];exact bleN h)
  ·obtain⟨e1,e2⟩:=and2 h
   obtain⟨e2,e3⟩:=and2 e2
   rw[leZ_eq]at e2 e3
   have:=kEq_eq e1;subst this
   exact .int _ _ _ _ (of_decide_eq_true e2) (of_decide_eq_true e3)
  ·have:=kEq_eq h;subst this;exact .inu _ _
  ·obtain⟨e1,e2⟩:=and2 h
   obtain⟨e3,e4⟩:=and2 e1
   obtain⟨e5,e6⟩:=and2 e2
   rw[lenS_eq]at e3 e4
   refine .sl _ _ _ _ _ _ (bleN e3) (bleN e4) (fun hn=> ?_) fun x hx=>conTy_ok (List.all_eq_true.1 e6 x hx)
   subst hn
   rw[lenS_eq]at e5
   simp only[Bool.not_true,Bool.false_or]at e5
   exact List.eq_nil_of_length_eq_zero (beqN e5)
  ·subst h;exact .nilP _
  ·subst h;exact .nilM _
  ·subst h;exact .nilI _
  ·subst h;exact .nilF _
  ·obtain⟨e1,e2⟩:=all2_conTy (fun h=>conTy_ok h) h
   exact .agg _ _ e1 e2
  ·obtain⟨e1,e2⟩:=all2_conTy (fun h=>conTy_ok h) h
   exact .tup _ _ e1 e2
  ·obtain⟨p,hp,e⟩:=List.any_eq_true.1 h
   obtain⟨e1,e2⟩:=and2 e
   have:=beqN e1;subst this
   exact .ifc _ _ _ p.2 _ hp (conTy_ok e2)
  ·obtain⟨p,hp,e⟩:=List.any_eq_true.1 h
   obtain⟨e1,e2⟩:=and2 e
   obtain⟨e2,e3⟩:=and2 e2
   have:=beqN e1;subst this
   obtain⟨l1,m1⟩:=all2_conTy (fun h=>conTy_ok h) e2
   obtain⟨l2,m2⟩:=all2_conTy (fun h=>conTy_ok h) e3
   exact .fn _ _ _ p.2.1 p.2.2 _ _ hp l1 l2 m1 m2
  ·exact .nm _ _ (conTy_ok h)
  ·have:=eqAV_ok h;subst this;exact .con _
  ·cases h
theorem lenX_ok (h:Ok T G ρ W) (v:Nat):(lenX W v).ev ρ=lenOf (ρ v):=by
 unfold lenX
 have hl:=h.ln
 generalize W.ln=l at hl
 induction l with
 |nil=>simp[findL,At.ev]
 |cons p r ih=>
  unfold findL
  cases hb:Nat.beq v p.1 with
  |true=>
   have:=beqN hb;subst this
   exact(hl p (List.mem_cons_self ..)).symm
  |false=>exact ih fun q hq=>hl q (List.mem_cons_of_mem _ hq)
theorem evs_eq (ρ:Val) (l:List SV):evs ρ l=l.map (SV.ev ρ):=by
 induction l with
 |nil=>rfl
 |cons s l ih=>simp only[evs,List.map_cons,ih]
theorem nonnil_lit {v:Nat} (h:Ok T G ρ W) (hv:holds W (.nl v false)=true):isNilV (ρ v)=false:=by
 have:=holds_ok h hv
 simp only[Lit.ev,beq_iff_eq]at this;exact this
theorem subX_ok (h:Ok T G ρ W) {v:Nat} {t t':Ty} (ht:HasTy T.D G t (ρ v)) (hs:subX T W v t t'=true):HasTy T.D G t' (ρ v):=by
 unfold subX at hs
 split at hs
 ·obtain⟨e1,e2⟩:=and2 hs
  have:=beqN e1;subst this
  have hn:=nonnil_lit h e2
  generalize ρ v=a at ht hn
  cases ht with
  |ptr c nl i hg=>exact .ptr _ _ i hg
  |nilP c=>cases hn
 ·obtain⟨e1,e2⟩:=and2 hs
  have:=beqN e1;subst this
  have hn:=nonnil_lit h e2
  generalize ρ v=a at ht hn
  cases ht with
  |map c nl i hg=>exact .map _ _ i hg
  |nilM c=>cases hn
 ·rename_i t0 lo0 hi0 t1 lo hi
  obtain⟨e1,e2⟩:=and2 hs
  obtain⟨e2,e3⟩:=and2 e2
  have h2:=geq_ok h e2
  have h3:=geq_ok h e3
  simp only[ev_addc,ev_neg,lenX_ok h,negI_eq,Int.ofNat_eq_natCast]at h2 h3
  generalize ρ v=a at ht h2 h3
  cases ht with
  |sl t lo hi xs nl tok k1 k2 hn hx=>
   simp only[lenOf]at h2 h3
   exact .sl _ _ _ xs nl tok (by omega) (by omega) hn fun x hx'=>tySub_ok e1 (hx x hx')
 ·have h3:=geq_ok h hs
  simp only[ev_addc,ev_neg,lenX_ok h,Int.ofNat_eq_natCast]at h3
  generalize ρ v=a at ht h3
  cases ht with
  |str s hi k1=>
   simp only[lenOf]at h3
   exact .str s _ (by omega)
 ·obtain⟨e1,e2⟩:=and2 hs
  have hn:=nonnil_lit h e2
  generalize ρ v=a at ht hn
  cases ht with
  |ifc as nl t ty w hm hw=>
   have:=tySub_ok e1 (HasTy.ifc (D:=T.D) (G:=G) _ false t ty w hm hw)
   cases this with
   |ifc _ _ _ ty' _ hm' hw'=>exact .ifc _ _ _ ty' _ hm' hw'
  |nilI as=>cases hn
 ·obtain⟨e1,e2⟩:=and2 hs
  have hn:=nonnil_lit h e2
  generalize ρ v=a at ht hn
  cases ht with
  |fn as nl g fs cs a c hm h1 h2 hx hy=>
   have:=tySub_ok e1 (HasTy.fn (D:=T.D) (G:=G) _ false g fs cs a c hm h1 h2 hx hy)
   cases this with
   |fn _ _ _ fs' cs' _ _ hm' k1 k2 hx' hy'=>exact .fn _ _ _ fs' cs' _ _ hm' k1 k2 hx' hy'
  |nilF as=>cases hn
 ·exact .nm _ _ (tySub_ok hs ht)
 ·cases ht with
  |nm k a hk=>exact tySub_ok hs hk
 ·have:=holds_ok h hs
  simp only[Lit.ev,beq_iff_eq]at this
  generalize ρ v=a at ht this
  cases ht with
  |ptr c nl i hg=>cases this
  |nilP c=>exact .con _
 ·cases hs
theorem isPtrC_ok (h:Ok T G ρ W) {v c:Nat} (e:isPtrC W v c=true):∃i,ρ v=.ptr i 0∧G i=.cls c:=by
 have hv:=h.ty v
 unfold isPtrC at e
 split at e
 ·rename_i c' n ht
  obtain⟨e3,e4⟩:=and2 e
  have:=beqN e3;subst this
  have hn:=nonnil_lit h e4
  rw[ht]at hv
  generalize ρ v=a at hv hn
  cases hv with
  |ptr _ _ i hg=>exact⟨i,rfl,hg⟩
  |nilP c=>cases hn
 ·cases e
theorem evs_ty {f:Nat} {l:List SV} {ts:List Ty} (ih:∀{s:SV} {t:Ty},isTy T W f s t=true→HasTy T.D G t (s.ev ρ)) (h:all2 (isTy T W f) l ts=true):
  ts.length=(evs ρ l).length∧∀(j:Nat) (t:Ty) (c:AVal),ts[j]? =some t→(evs ρ l)[j]? =some c→HasTy T.D G t c:=by
 obtain⟨h1,h2⟩:=all2_get h
 rw[evs_eq]
 refine⟨by simp[h1],fun j t c ht hc=> ?_⟩
 rw[List.getElem?_map]at hc
 cases hl:l[j]? with
 |none=>rw[hl]at hc;cases hc
 |some s=>rw[hl]at hc;cases hc;exact ih (h2 j s t hl ht)
theorem isTy_ok (h:Ok T G ρ W):∀{f:Nat} {s:SV} {t:Ty},isTy T W f s t=true→HasTy T.D G t (s.ev ρ)
 |0,s,t,hs=>by cases hs
 |f+1,s,t,hs=>by
  unfold isTy at hs
  split at hs
  ·exact .any _
  ·exact conTy_ok hs
  ·obtain⟨e1,e2⟩:=and2 hs
   obtain⟨e2,e3⟩:=and2 e2
   have:=kEq_eq e1;subst this
   have h2:=geq_ok h e2
   have h3:=geq_ok h e3
   simp only[ev_addc,ev_neg,negI_eq]at h2 h3
   exact .int _ _ _ _ (by omega) (by omega)
  ·have:=kEq_eq hs;subst this;exact .inu _ _
  ·exact .bool _
  ·have:=holds_ok h hs
   simp only[SV.ev,this];exact .con _
  ·have:=holds_ok h hs
   rename_i f0
   have hn:f0.ev ρ=false:=by
    rw[neg_ev]at this
    simpa using this
   simp only[SV.ev,hn];exact .con _
  ·obtain⟨e1,e2⟩:=and2 hs
   obtain⟨e2,e3⟩:=and2 e2
   have:=kEq_eq e1;subst this
   have h2:=geq_ok h e2
   have h3:=geq_ok h e3
   simp only[ev_addc,ev_neg,negI_eq]at h2 h3
   have he:∀x y:Int,0≤x+ -y→0≤ -x+y→x=y:=fun x y _ _=>by omega
   simp only[SV.ev]
   rw[he _ _ h2 h3];exact .con _
  ·rcases Bool.or_eq_true _ _|>.mp hs with e|e
   ·exact tySub_ok e (h.ty _)
   ·exact subX_ok h (h.ty _) e
  ·obtain⟨e1,e2⟩:=and2 hs
   have:=beqN e1;subst this
   obtain⟨i,hi,hg⟩:=isPtrC_ok h e2
   simp only[SV.ev,hi,offP]
   exact .ptr _ _ i hg
  ·obtain⟨e1,e2⟩:=and2 hs
   obtain⟨e3,e4⟩:=and2 e1
   rw[lenS_eq]at e3 e4
   simp only[SV.ev,evs_eq]
   refine .sl _ _ _ _ _ _ (by simpa using bleN e3) (by simpa using bleN e4) (fun hn=>by cases hn) fun x hx=> ?_
   obtain⟨s,hs',rfl⟩:=List.mem_map.1 hx
   exact isTy_ok h (List.all_eq_true.1 e2 s hs')
  ·obtain⟨e1,e2⟩:=evs_ty (ρ:=ρ) (G:=G) (fun h'=>isTy_ok h h') hs
   exact .agg _ _ e1 e2
  ·obtain⟨e1,e2⟩:=evs_ty (ρ:=ρ) (G:=G) (fun h'=>isTy_ok h h') hs
   exact .tup _ _ e1 e2
  ·obtain⟨p,hp,e⟩:=List.any_eq_true.1 hs
   obtain⟨e1,e2⟩:=and2 e
   have:=beqN e1;subst this
   exact .ifc _ _ _ p.2 _ hp (isTy_ok h e2)
  ·obtain⟨p,hp,e⟩:=List.any_eq_true.1 hs
   obtain⟨e1,e2⟩:=and2 e
   obtain⟨e2,e3⟩:=and2 e2
   have:=beqN e1;subst this
   obtain⟨l1,m1⟩:=evs_ty (ρ:=ρ) (G:=G) (fun h'=>isTy_ok h h') e2
   obtain⟨l2,m2⟩:=evs_ty (ρ:=ρ) (G:=G) (fun h'=>isTy_ok h h') e3
   exact .fn _ _ _ p.2.1 p.2.2 _ _ hp l1 l2 m1 m2
  ·exact .nm _ _ (isTy_ok h hs)
  ·cases hs
theorem ofTy_ok (h:Ok T G ρ W) {s:SV} {t:Ty} (hs:ofTy T W s t=true):HasTy T.D G t (s.ev ρ):=isTy_ok h hs
end Go.AL.SX
