/-
  A WALKER OF CODE IN SMALL, part 1: what it works on. Values with variables in them, linear facts on numbers, types of values, classes of objects.
-/
import Derived.Test.YthjhmfhmejlenaaGreatAL18
set_option linter.unusedSectionVars false
set_option linter.unusedVariables false
set_option linter.unusedSimpArgs false
section
namespace Go.bO.cK
inductive At where
 |i (v:Nat)
 |l (v:Nat)
def At.beq:At→At→Bool
 |.i a,.i b=>Nat.beq a b
 |.l a,.l b=>Nat.beq a b
 |_,_=>false
structure bn where
 c:Int
 t:List (Int × At)
def zF:Int→Bool
 |.ofNat 0=>true
 |_=>false
def nI (a b:Int):Bool:= !my b a
def Gy:Int→Int→Int
 |.ofNat a,.ofNat b=>.ofNat (Nat.mul a b)
 |a,b=>a*b
def kz (a:Int):Int:=ya (.ofNat 0) a
def wk (k:Int) (a:At):List (Int × At)→List (Int × At)
 | []=>[(k,a)]
 |(k',gX)::r=>bif At.beq a gX then(bif zF (pH k k')then r else(pH k k',gX)::r)else(k',gX)::wk k a r
def yu:List (Int × At)→List (Int × At)→List (Int × At)
 | [],r=>r
 |(k,a)::l,r=>wk k a (yu l r)
def xE:List (Int × At)→List (Int × At)
 | []=>[]
 |(k,a)::l=>(kz k,a)::xE l
def zW (n:Int):List (Int × At)→List (Int × At)
 | []=>[]
 |(k,a)::l=>(Gy n k,a)::zW n l
def bn.k (n:Int):bn:=⟨n,[]⟩
def bn.at (a:At):bn:=⟨.ofNat 0,[(.ofNat 1,a)]⟩
def bn.add (x y:bn):bn:=⟨pH x.c y.c,yu x.t y.t⟩
def bn.neg (x:bn):bn:=⟨kz x.c,xE x.t⟩
def bn.sub (x y:bn):bn:=⟨ya x.c y.c,yu x.t (xE y.t)⟩
def bn.dO (x:bn) (n:Int):bn:=⟨pH x.c n,x.t⟩
def bn.mul (n:Int) (x:bn):bn:=bif zF n then .k (.ofNat 0)else⟨Gy n x.c,zW n x.t⟩
def bn.const? (x:bn):Option Int:=match x.t with
 | []=>some x.c
 |_=>none
inductive Lit where
 |c (b:Bool)
 |bv (v:Nat) (p:Bool)
 |nl (v:Nat) (p:Bool)
 |ge (l:bn)
 |eq (l:bn) (p:Bool)
def Lit.neg:Lit→Lit
 |.c b=>.c !b
 |.bv v p=>.bv v !p
 |.nl v p=>.nl v !p
 |.ge l=>.ge ((l.neg).dO (.negSucc 0))
 |.eq l p=>.eq l !p
inductive bb where
 |any
 |bool
 |str (hi:Nat)
 |int (k:IntKind) (lo hi:Int)
 |gn (k:IntKind)
 |bN (t:bb) (lo hi:Nat)
 |own (t:bb) (sz e lo hi:Nat)
 |ptr (c:Nat) (nl:Bool)
 |map (c:Nat) (nl:Bool)
 |agg (ts:List bb)
 |eN (ts:List bb)
 |e4 (as:List (Nat × bb)) (nl:Bool)
 |fn (as:List (Nat × List bb × List bb)) (nl:Bool)
 |jL (k:Nat)
 |aS (a:ab)
 |rv (lo hi:Nat)
 |rs (k lo hi:Nat)
instance:Inhabited bb:=⟨.any⟩
def gr (e:Nat):Bool:=Nat.ble 1000000 e
def hT (e:Nat):Nat:=Nat.mod e 1000000000
def gJ (e:Nat):Nat:=Nat.div e 1000000000
def vM (k n:Nat):Nat:=Nat.add 100000000 (Nat.add (Nat.mul n 4294967296) k)
inductive pD where
 |none
 |row (sz k n:Nat)
 |obj (ts:List bb)
 |map (a7:cL) (t:bb) (cH:bb:=.any)
instance:Inhabited pD:=⟨.none⟩
inductive cR where
 |no
 |cls (c:Nat)
 |tok (i off:Nat)
 deriving DecidableEq
inductive bR (D:Nat→bb) (G:Nat→cR):bb→ab→Prop
 |any (a:ab):bR D G .any a
 |bool (b:Bool):bR D G .bool (.bool b)
 |str (s:List UInt8) (hi:Nat) (h:s.length≤hi):bR D G (.str hi) (.str s)
 |int (k:IntKind) (lo hi n:Int) (U:lo≤n) (aa:n≤hi):bR D G (.int k lo hi) (.int k n)
 |gn (k:IntKind) (n:Int):bR D G (.gn k) (.int k n)
 |bN (t:bb) (lo hi:Nat) (xs:List ab) (nl:Bool) (tok:Option Nat) (U:lo≤xs.length) (aa:xs.length≤hi) (aK:nl=true→xs=[]) (h:∀x∈xs,bR D G t x):
   bR D G (.bN t lo hi) (.slice xs nl tok)
 |ptr (c:Nat) (nl:Bool) (i:Nat) (h:G i=.cls c):bR D G (.ptr c nl) (.ptr i 0)
 |cX (c:Nat):bR D G (.ptr c true) .cX
 |map (c:Nat) (nl:Bool) (i:Nat) (h:G i=.cls c):bR D G (.map c nl) (.map (some i))
 |qf (c:Nat):bR D G (.map c true) (.map none)
 |agg (ts:List bb) (cs:List ab) (ak:ts.length=cs.length) (h:∀(j:Nat) (t:bb) (c:ab),ts[j]? =some t→cs[j]? =some c→bR D G t c):bR D G (.agg ts) (.agg cs)
 |eN (ts:List bb) (cs:List ab) (ak:ts.length=cs.length) (h:∀(j:Nat) (t:bb) (c:ab),ts[j]? =some t→cs[j]? =some c→bR D G t c):bR D G (.eN ts) (.tuple cs)
 |e4 (as:List (Nat × bb)) (nl:Bool) (t:Nat) (ty:bb) (v:ab) (hm:(t,ty)∈as) (h:bR D G ty v):bR D G (.e4 as nl) (.iface t v)
 |dC (as:List (Nat × bb)):bR D G (.e4 as true) .dC
 |fn (as:List (Nat × List bb × List bb)) (nl:Bool) (f:Nat) (fs cs:List bb) (a c:List ab) (hm:(f,fs,cs)∈as) (U:fs.length=a.length) (aa:cs.length=c.length)
   (aA:∀(j:Nat) (t:bb) (v:ab),fs[j]? =some t→a[j]? =some v→bR D G t v) (af:∀(j:Nat) (t:bb) (v:ab),cs[j]? =some t→c[j]? =some v→bR D G t v):bR D G (.fn as nl) (.func (.func f) a c)
 |fj (as:List (Nat × List bb × List bb)):bR D G (.fn as true) .fj
 |jL (k:Nat) (a:ab) (h:bR D G (D k) a):bR D G (.jL k) a
 |aS (a:ab):bR D G (.aS a) a
 |m8 (hi:Nat):bR D G (.rv 0 hi) (.slice [] true none)
 |rv (lo hi g n:Nat) (U:lo≤n) (aa:n≤hi):bR D G (.rv lo hi) (.ref g 0 n 1)
 |nP (k lo hi:Nat) (xs:List ab) (nl:Bool) (tok:Option Nat) (U:lo≤xs.length) (aa:xs.length≤hi) (aK:nl=true→xs=[]) (h:∀x∈xs,bR D G (D k) x):bR D G (.rs k lo hi) (.slice xs nl tok)
 |rl (k lo hi g n c m:Nat) (U:lo≤n) (aa:n≤hi) (av:G g=.cls (vM k m)) (hm:n≤m):bR D G (.rs k lo hi) (.ref g 0 n c)
inductive al where
 |k (a:ab)
 |i (k:IntKind) (l:bn)
 |b (f:Lit)
 |x (v:Nat)
 |p (v off:Nat)
 |bN (l:List al)
 |agg (l:List al)
 |eN (l:List al)
 |sp (l:List al)
 |e4 (t:Nat) (s:al)
 |fn (f:Nat) (a c:List al)
instance:Inhabited al:=⟨.k .top⟩
inductive fx where
 |val (s:al)
 |box (l:List al)
 |gZ (s o:Nat)
 |un
 |kc (v sz:Nat) (l:bn) (o:Nat)
instance:Inhabited fx:=⟨.un⟩
section
variable {α:Type}
def h1 (d:α):iR→cg α→α
 |.z,.dL=>d
 |.z,.fr v _ _=>v
 |.a _,.dL=>d
 |.a p,.fr _ l _=>h1 d p l
 |.b _,.dL=>d
 |.b p,.fr _ _ r=>h1 d p r
def ts (d e:α):iR→cg α→cg α
 |.z,.dL=>.fr e .dL .dL
 |.z,.fr _ l r=>.fr e l r
 |.a p,.dL=>.fr d (ts d e p .dL) .dL
 |.a p,.fr v l r=>.fr v (ts d e p l) r
 |.b p,.dL=>.fr d .dL (ts d e p .dL)
 |.b p,.fr v l r=>.fr v l (ts d e p r)
end
abbrev bE:=cg fx
def ee (env:bE) (s:Nat):fx:=h1 .un (ja s) env
def oE (env:bE) (s:Nat) (e:fx):bE:=ts .un e (ja s) env
structure aH where
 aD:Nat
 ty:cg bb
 ge:List bn
 da:List Lit
 cells:List (Nat × Nat × al)
 live:List (Nat × Nat × Nat)
 cA:List (Nat × Nat)
 wr:List Nat
 M:List Nat
 cC:List (Nat × bn)
 b2:List (Nat × List al)
 op:List (Nat × List al)
 lt:Option (Nat × Nat × Option (al × al))
 rd:Option (Nat × Nat × bn × al):=none
def aH.df (W:aH) (v:Nat):bb:=h1 .any (ja v) W.ty
def intOf:ab→Int
 |.int _ n=>n
 |_=>0
def lenOf:ab→Int
 |.slice xs _ _=>xs.length
 |.str s=>s.length
 |.ref _ _ n _=>n
 |_=>0
def pj:ab→Bool
 |.cX|.dC|.fj|.map none=>true
 |.slice _ nl _=>nl
 |_=>false
def Ex:ab→Bool
 |.bool b=>b
 |_=>false
abbrev cj:=Nat→ab
def At.ai (R:cj):At→Int
 |.i v=>intOf (R v)
 |.l v=>lenOf (R v)
def ho (R:cj):List (Int × At)→Int
 | []=>0
 |(k,a)::r=>k*a.ai R+ho R r
def bn.ai (R:cj) (l:bn):Int:=l.c+ho R l.t
def Lit.ai (R:cj):Lit→Bool
 |.c b=>b
 |.bv v p=>Ex (R v)==p
 |.nl v p=>pj (R v)==p
 |.ge l=>decide (0≤l.ai R)
 |.eq l p=>decide (l.ai R=0)==p
def sD (off:Nat):ab→ab
 |.ptr i o=>.ptr i (o+off)
 |_=>.top
mutual
def al.ai (R:cj):al→ab
 |.k a=>a
 |.i k l=>.int k (l.ai R)
 |.b f=>.bool (f.ai R)
 |.x v=>R v
 |.p v off=>sD off (R v)
 |.bN l=>.slice (aM R l) false none
 |.agg l=>.agg (aM R l)
 |.eN l=>.tuple (aM R l)
 |.sp l=>.dK (aM R l)
 |.e4 t s=>.iface t (s.ai R)
 |.fn f a c=>.func (.func f) (aM R a) (aM R c)
def aM (R:cj):List al→List ab
 | []=>[]
 |s::l=>s.ai R::aM R l
end
def At.bh (n:Nat):At→Bool
 |.i v|.l v=>Nat.blt v n
def kL (n:Nat):List (Int × At)→Bool
 | []=>true
 |(_,a)::r=>a.bh n&&kL n r
def bn.bh (n:Nat) (l:bn):Bool:=kL n l.t
def Lit.bh (n:Nat):Lit→Bool
 |.c _=>true
 |.bv v _|.nl v _=>Nat.blt v n
 |.ge l|.eq l _=>l.bh n
mutual
def al.bh (n:Nat):al→Bool
 |.k _=>true
 |.i _ l=>l.bh n
 |.b f=>f.bh n
 |.x v|.p v _=>Nat.blt v n
 |.bN l|.agg l|.eN l|.sp l=>cls n l
 |.e4 _ s=>s.bh n
 |.fn _ a c=>cls n a&&cls n c
def cls (n:Nat):List al→Bool
 | []=>true
 |s::l=>s.bh n&&cls n l
end
inductive gQ:Nat→List ab→Prop
 |idx (xs:List ab) (nl:Bool) (tok:Option Nat) (k:IntKind) (i:Nat) (e:ab) (h:xs[i]? =some e):gQ 0 [.slice xs nl tok,.int k i,e]
 |app (xs ys:List ab) (nl gq ark:Bool) (t cn DN:Option Nat):gQ 1 [.slice (xs++ys) ark DN,.slice xs nl t,.slice ys gq cn]
 |shr (q:cG) (lt:Bool) (a b r:ab) (h:k6 .shr q lt (.val a) (.val b)=some (.val r)):gQ 2 [r,a,b]
 |and (q:cG) (lt:Bool) (a b r:ab) (h:k6 .and q lt (.val a) (.val b)=some (.val r)):gQ 3 [r,a,b]
 |eql (q:cG) (lt:Bool) (a b r:ab) (h:k6 .eql q lt (.val a) (.val b)=some (.val r)):gQ 4 [r,a,b]
 |neq (q:cG) (lt:Bool) (a b r:ab) (h:k6 .neq q lt (.val a) (.val b)=some (.val r)):gQ 5 [r,a,b]
 |lss (q:cG) (lt:Bool) (a b r:ab) (h:k6 .lss q lt (.val a) (.val b)=some (.val r)):gQ 6 [r,a,b]
 |leq (q:cG) (lt:Bool) (a b r:ab) (h:k6 .leq q lt (.val a) (.val b)=some (.val r)):gQ 7 [r,a,b]
 |gtr (q:cG) (lt:Bool) (a b r:ab) (h:k6 .gtr q lt (.val a) (.val b)=some (.val r)):gQ 8 [r,a,b]
 |geq (q:cG) (lt:Bool) (a b r:ab) (h:k6 .geq q lt (.val a) (.val b)=some (.val r)):gQ 9 [r,a,b]
 |aem:gQ 10 [.slice [] true none,.slice [] true none]
 |pre (g n m:Nat) (h:m≤n):gQ 10 [.ref g 0 m 1,.ref g 0 n 1]
 |OJ (i j:Nat) (h:i≠j):gQ 12 [.ptr i 0,.ptr j 0]
 |agm (sz:Nat):gQ 11 [.slice [] true none,.slice [] true none,.int .i64 sz]
 |tail (g n l sz:Nat) (a:ab) (aA:uH g 0 n 1 sz n l=some (.val a)):gQ 11 [a,.ref g 0 n 1,.int .i64 sz]
 |cut (xs:List ab) (nl gq:Bool) (tok fg:Option Nat) (k k':IntKind) (a b:Nat):gQ 13 [.slice ((xs.take b).drop a) gq fg,.slice xs nl tok,.int k a,.int k' b]
structure bG where
 D:Nat→bb
 K:Nat→pD
 E:Nat→bb
 bA:Nat→List ab→Prop:=fun _ _=>False
 pw:aH→Nat→List al→Bool:=fun _ _ _=>false
 xi:aH→Nat→List al→List Lit:=fun _ _ _=>[]
 kept:Nat→Bool:=fun _=>false
 fix:Nat→List Nat:=fun _=>[]
abbrev hY (c:Nat):Nat:=Nat.add 1000000 c
abbrev iu (c:Nat):Nat:=Nat.add 2000000 c
def ku (T:bG) (c:Nat):Bool:=match T.K c with
 |.row _ _ _=>true
 |_=>false
def eu (T:bG) (k:Nat) (as:List ab):Prop:=gQ k as∨T.bA k as
end Go.bO.cK
end
section
namespace Go.bO.cK
def Em (W:aH):At→Option (Int × Int)
 |.i v=>match W.df v with
  |.int _ lo hi=>some (lo,hi)
  |_=>none
 |.l v=>match W.df v with
  |.bN _ lo hi=>some (.ofNat lo,.ofNat hi)
  |.str hi=>some (.ofNat 0,.ofNat hi)
  |.rv lo hi=>some (.ofNat lo,.ofNat hi)
  |.rs _ lo hi=>some (.ofNat lo,.ofNat hi)
  |_=>none
def Cw (k:Int):Option (Int × Int)→Option Int
 |some (lo,hi)=>some (bif nI (.ofNat 0) k then Gy k lo else Gy k hi)
 |none=>none
def zK (W:aH):List (Int × At)→Option Int
 | []=>some (.ofNat 0)
 |(k,a)::r=>match Cw k (Em W a),zK W r with
  |some x,some y=>some (pH x y)
  |_,_=>none
def xr (W:aH) (l:bn):Bool:=match zK W l.t with
 |some n=>nI (.ofNat 0) (pH l.c n)
 |none=>false
def ael (k:Int):Bool:=nI (.ofNat 0) k
def y' (k:Int) (a:At):List (Int × At)→Bool
 | []=>false
 |(k',gX)::r=>bif At.beq a gX then ael k==ael k' else y' k a r
def shares:List (Int × At)→List (Int × At)→Bool
 | [],_=>false
 |(k,a)::r,l=>y' k a l||shares r l
def H8:Int→Nat
 |.ofNat n=>n
 |.negSucc n=>Nat.add n 1
def aeH (k:Int) (a:At):List (Int × At)→Nat
 | []=>1
 |(k',gX)::r=>bif At.beq a gX then(bif Nat.ble 2 (Nat.div (H8 k') (H8 k))then Nat.div (H8 k') (H8 k)else 1)else aeH k a r
def LR:List (Int × At)→List (Int × At)→Nat
 | [],_=>1
 |(k,a)::r,l=>bif y' k a l then aeH k a l else LR r l
def yf (f l:bn):bn:=match LR f.t l.t with
 |1=>l.sub f
 |n=>l.sub (bn.mul (.ofNat n) f)
def MT (W:aH):List (Int × At)→Option (Int × Int × At)
 | []=>none
 |(k,a)::r=>match Cw k (Em W a)with
  |none=>some (.ofNat 0,k,a)
  |some x=>match MT W r with
   |none=>some (x,k,a)
   |some (y,k',gX)=>bif my y x then some (y,k',gX)else some (x,k,a)
def G5:Nat→aH→bn→Bool
 |0,W,l=>xr W l
 |d+1,W,l=>xr W l||W.ge.any fun f=>shares f.t l.t&&G5 d W (yf f l)
def Dp:Nat→aH→bn→Bool
 |0,W,l=>xr W l
 |d+1,W,l=>xr W l||(match MT W l.t with
  |some (_,k,a)=>W.ge.any fun f=>y' k a f.t&&Dp d W (yf f l)
  |none=>false)
def Xw:Nat:=3
def V8 (ty:cg bb):At→Option (Int × Int)
 |.i v=>match h1 .any (ja v) ty with
  |.int _ lo hi=>some (lo,hi)
  |_=>none
 |.l v=>match h1 .any (ja v) ty with
  |.bN _ lo hi=>some (.ofNat lo,.ofNat hi)
  |.str hi=>some (.ofNat 0,.ofNat hi)
  |.rv lo hi=>some (.ofNat lo,.ofNat hi)
  |.rs _ lo hi=>some (.ofNat lo,.ofNat hi)
  |_=>none
def Kx (ty:cg bb):List (Int × At)→Option Int
 | []=>some (.ofNat 0)
 |(k,a)::r=>match Cw k (V8 ty a),Kx ty r with
  |some x,some y=>some (pH x y)
  |_,_=>none
def Cx (ty:cg bb) (l:bn):Bool:=match Kx ty l.t with
 |some n=>nI (.ofNat 0) (pH l.c n)
 |none=>false
def MS (ty:cg bb):List (Int × At)→Option (Int × Int × At)
 | []=>none
 |(k,a)::r=>match Cw k (V8 ty a)with
  |none=>some (.ofNat 0,k,a)
  |some x=>match MS ty r with
   |none=>some (x,k,a)
   |some (y,k',gX)=>bif my y x then some (y,k',gX)else some (x,k,a)
def LH (ty:cg bb) (ge:List bn):Nat→bn→Bool
 |0,l=>Cx ty l
 |d+1,l=>Cx ty l||ge.any fun f=>shares f.t l.t&&LH ty ge d (yf f l)
def Dq (ty:cg bb) (ge:List bn):Nat→bn→Bool
 |0,l=>Cx ty l
 |d+1,l=>Cx ty l||(match MS ty l.t with
  |some (_,k,a)=>ge.any fun f=>y' k a f.t&&Dq ty ge d (yf f l)
  |none=>false)
def Pz (k:cg bb→Bool):cg bb→Bool
 |.dL=>k .dL
 |.fr v l r=>k (.fr v l r)
def asks (d:Nat) (W:aH) (l:bn):Bool:=Pz (fun ty=>Dq ty W.ge d l) W.ty
def geq (W:aH) (l:bn):Bool:=Pz (fun ty=>Dq ty W.ge Xw l||LH ty W.ge Xw l) W.ty
def leq (W:aH) (a b:bn):Bool:=geq W (b.sub a)
def BL (v:Nat):List (Nat × bn)→bn
 | []=>.at (.l v)
 |(w,l)::r=>bif Nat.beq v w then l else BL v r
def gg (W:aH) (v:Nat):bn:=BL v W.cC
def S0 (W:aH) (v:Nat):Bool:=match W.df v with
 |.ptr _ n|.map _ n|.e4 _ n|.fn _ n=> !n
 |.bN _ lo _=>Nat.blt 0 lo
 |_=>false
def ZZ (v:Nat) (p:Bool):Lit→Bool
 |.bv w q=>Nat.beq v w&&(p==q)
 |_=>false
def Z5 (v:Nat) (p:Bool):Lit→Bool
 |.nl w q=>Nat.beq v w&&(p==q)
 |_=>false
def Pf:List (Int × At)→List (Int × At)→Bool
 | [],[]=>true
 |(k,a)::l,(k',b)::r=>mh k k'&&(At.beq a b&&Pf l r)
 |_,_=>false
def pT (a b:bn):Bool:=mh a.c b.c&&Pf a.t b.t
def Z4 (l:bn):Lit→Bool
 |.eq m false=>pT l m||pT l.neg m
 |_=>false
def u' (d:Nat) (W:aH):Lit→Bool
 |.c b=>b
 |.bv v p=>W.da.any (ZZ v p)
 |.nl v p=>W.da.any (Z5 v p)||(!p&&S0 W v)
 |.ge l=>asks d W l
 |.eq l true=>asks d W l&&asks d W l.neg
 |.eq l false=>(asks d W (l.dO (.negSucc 0))||asks d W (l.neg.dO (.negSucc 0)))||W.da.any (Z4 l)
def uJ:Nat:=2
def holds (W:aH) (f:Lit):Bool:=u' uJ W f
def aH.g2 (W:aH) (l:bn):aH:= {W with ge:=l::W.ge}
def aH.wj (W:aH) (f:Lit):aH:= {W with da:=f::W.da}
def h0 (W:aH):Lit→aH
 |.c _=>W
 |.ge l=>W.g2 l
 |.eq l true=>(W.g2 l).g2 l.neg
 |.eq l false=>bif asks uJ W l then W.g2 (l.dO (.negSucc 0))else bif asks uJ W l.neg then W.g2 (l.neg.dO (.negSucc 0))else W.wj (.eq l false)
 |f=>W.wj f
def CB (n:Nat):List Lit→aH→aH
 | [],W=>W
 |f::l,W=>CB n l (bif f.bh n then h0 W f else W)
def aH.l7 (W:aH) (k:Nat) (as:List al):aH:= {W with b2:=(k,as)::W.b2}
def note (T:bG) (k:Nat) (as:List al) (W:aH):aH:=CB W.aD (T.xi W k as) (W.l7 k as)
def tc {β:Type} (W:aH) (f:Lit) (k:Bool→aH→Option (List β)):Option (List β):=
 bif holds W f then k true W else bif holds W f.neg then k false W else match k true (h0 W f),k false (h0 W f.neg)with
  |some x,some y=>some (x++y)
  |_,_=>none
def aH.push (W:aH) (t:bb):aH:= {W with aD:=Nat.add W.aD 1,ty:=ts .any t (ja W.aD) W.ty}
mutual
def cW (W:aH):bb→al × aH
 |.agg l=>match e3 W l with
  |(s,W)=>(.agg s,W)
 |.eN l=>match e3 W l with
  |(s,W)=>(.eN s,W)
 |.int k lo hi=>(.i k (.at (.i W.aD)),W.push (.int k lo hi))
 |.gn k=>(.i k (.at (.i W.aD)),W.push (.gn k))
 |.bool=>(.b (.bv W.aD true),W.push .bool)
 |.own t sz e lo hi=>(.x W.aD,{W.push (bif gr e then .rv lo hi else .bN t lo hi)with live:=(W.aD,sz,e)::W.live})
 |.aS a=>(.k a,W)
 |t=>(.x W.aD,W.push t)
def e3 (W:aH):List bb→List al × aH
 | []=>([],W)
 |t::l=>match cW W t with
  |(s,W)=>match e3 W l with
   |(ss,W)=>(s::ss,W)
end
def gD:al→Option (IntKind × bn)
 |.i k l=>some (k,l)
 |.k (.int k n)=>some (k,.k n)
 |_=>none
def yj:al→Option Lit
 |.b f=>some f
 |.k (.bool b)=>some (.c b)
 |_=>none
def ks:List ab→List al
 | []=>[]
 |a::l=>.k a::ks l
def rz:al→Option (List al)
 |.agg l=>some l
 |.k (.agg l)=>some (ks l)
 |_=>none
def MD:al→Option (List al)
 |.eN l=>some l
 |.k (.tuple l)=>some (ks l)
 |_=>none
def fH {β:Type}:List β→Nat
 | []=>0
 |_::l=>Nat.add (fH l) 1
def yk (W:aH):al→Option bn
 |.x v=>match W.df v with
  |.bN _ _ _=>some (gg W v)
  |_=>none
 |.bN l=>some (.k (.ofNat (fH l)))
 |.k (.slice xs _ _)=>some (.k (.ofNat (fH xs)))
 |_=>none
def AP (W:aH):al→Option bn
 |.x v=>match W.df v with
  |.str _=>some (gg W v)
  |_=>none
 |.k (.str s)=>some (.k (.ofNat (fH s)))
 |_=>none
def AO (W:aH):al→Option bn
 |.x v=>match W.df v with
  |.rv _ _|.rs _ _ _=>some (gg W v)
  |_=>none
 |_=>none
def awf (W:aH):al→Option Lit
 |.k (.cX)|.k .dC|.k .fj|.k (.map none)|.k (.slice [] true none)=>some (.c true)
 |.k (.iface _ _)|.k (.func _ _ _)|.p _ _|.bN _|.sp _|.e4 _ _|.fn _ _ _=>some (.c false)
 |.x v=>match W.df v with
  |.ptr _ _|.map _ _|.e4 _ _|.fn _ _|.bN _ _ _|.rv _ _|.rs _ _ _=>some (.nl v true)
  |_=>none
 |_=>none
def wc (T:bG):bb→bb
 |.jL k=>T.D k
 |t=>t
def m1:IntKind→IntKind→Bool
 |.i8,.i8|.i16,.i16|.i32,.i32|.i64,.i64|.u8,.u8|.u16,.u16|.u32,.u32|.u64,.u64=>true
 |_,_=>false
def gN {α β:Type} (f:α→β→Bool):List α→List β→Bool
 | [],[]=>true
 |a::l,b::r=>f a b&&gN f l r
 |_,_=>false
def fuel:Nat:=12
def O':List UInt8→List UInt8→Bool
 | [],[]=>true
 |a::l,b::r=>Nat.beq a.toNat b.toNat&&O' l r
 |_,_=>false
def XL:Option Nat→Option Nat→Bool
 |none,none=>true
 |some a,some b=>Nat.beq a b
 |_,_=>false
def rS:Nat→ab→ab→Bool
 |0,_,_=>false
 |f+1,a,b=>match a,b with
  |.bool a,.bool b=>a==b
  |.int k a,.int k' b=>m1 k k'&&mh a b
  |.str a,.str b=>O' a b
  |.cX,.cX|.dC,.dC|.fj,.fj|.map none,.map none=>true
  |.slice xs n t,.slice ys m u=>(n==m)&&(XL t u&&gN (rS f) xs ys)
  |.agg xs,.agg ys|.tuple xs,.tuple ys|.dK xs,.dK ys=>gN (rS f) xs ys
  |.iface t v,.iface u w=>Nat.beq t u&&rS f v w
  |.func (.func g) a c,.func (.func h) gX bF=>Nat.beq g h&&(gN (rS f) a gX&&gN (rS f) c bF)
  |_,_=>false
def jQ:Nat→bb→bb→Bool
 |0,_,_=>false
 |f+1,t,cn=>match t,cn with
  |_,.any=>true
  |.bool,.bool=>true
  |.str a,.str b=>Nat.ble a b
  |.int k lo hi,.int k' iv ei=>m1 k k'&&(nI iv lo&&nI hi ei)
  |.int k _ _,.gn k'=>m1 k k'
  |.gn k,.gn k'=>m1 k k'
  |.bN t lo hi,.bN cn iv ei=>(Nat.ble iv lo&&Nat.ble hi ei)&&jQ f t cn
  |.ptr c n,.ptr bF gI=>Nat.beq c bF&&(!n||gI)
  |.map c n,.map bF gI=>Nat.beq c bF&&(!n||gI)
  |.agg l,.agg c_=>gN (jQ f) l c_
  |.eN l,.eN c_=>gN (jQ f) l c_
  |.e4 as n,.e4 hC gI=>(!n||gI)&&as.all fun p=>hC.any fun q=>Nat.beq p.1 q.1&&jQ f p.2 q.2
  |.fn as n,.fn hC gI=>(!n||gI)&&as.all fun p=>hC.any fun q=>Nat.beq p.1 q.1&&(gN (jQ f) p.2.1 q.2.1&&gN (jQ f) p.2.2 q.2.2)
  |.jL k,.jL k'=>Nat.beq k k'
  |.aS a,.aS b=>rS fuel a b
  |.aS .cX,.ptr _ n=>n
  |.rv lo hi,.rv iv ei=>Nat.ble iv lo&&Nat.ble hi ei
  |.rs k lo hi,.rs k' iv ei=>Nat.beq k k'&&(Nat.ble iv lo&&Nat.ble hi ei)
  |_,_=>false
def o0 (T:bG):Nat→ab→bb→Bool
 |0,_,_=>false
 |f+1,a,t=>match a,t with
  |_,.any=>true
  |.bool _,.bool=>true
  |.str s,.str hi=>Nat.ble (fH s) hi
  |.int k n,.int k' lo hi=>m1 k k'&&(nI lo n&&nI n hi)
  |.int k _,.gn k'=>m1 k k'
  |.slice xs nl _,.bN t lo hi=>(Nat.ble lo (fH xs)&&Nat.ble (fH xs) hi)&&((!nl||Nat.beq (fH xs) 0)&&xs.all fun x=>o0 T f x t)
  |.cX,.ptr _ n=>n
  |.slice [] true none,.rv lo _=>Nat.beq lo 0
  |.slice xs nl _,.rs k lo hi=>(Nat.ble lo (fH xs)&&Nat.ble (fH xs) hi)&&((!nl||Nat.beq (fH xs) 0)&&xs.all fun x=>o0 T f x (T.D k))
  |.map none,.map _ n=>n
  |.dC,.e4 _ n=>n
  |.fj,.fn _ n=>n
  |.agg cs,.agg l=>gN (o0 T f) cs l
  |.tuple cs,.eN l=>gN (o0 T f) cs l
  |.iface t v,.e4 as _=>as.any fun p=>Nat.beq t p.1&&o0 T f v p.2
  |.func (.func g) a c,.fn as _=>as.any fun p=>Nat.beq g p.1&&(gN (o0 T f) a p.2.1&&gN (o0 T f) c p.2.2)
  |a,.jL k=>o0 T f a (T.D k)
  |a,.aS b=>rS fuel a b
  |_,_=>false
def UH (T:bG) (W:aH) (v:Nat):bb→bb→Bool
 |.ptr c _,.ptr bF _=>Nat.beq c bF&&holds W (.nl v false)
 |.map c _,.map bF _=>Nat.beq c bF&&holds W (.nl v false)
 |.bN t _ _,.bN cn lo hi=>jQ fuel t cn&&(geq W ((gg W v).dO (kz (.ofNat lo)))&&geq W ((gg W v).neg.dO (.ofNat hi)))
 |.str _,.str hi=>geq W ((gg W v).neg.dO (.ofNat hi))
 |.e4 as _,.e4 hC _=>jQ fuel (.e4 as false) (.e4 hC false)&&holds W (.nl v false)
 |.fn as _,.fn hC _=>jQ fuel (.fn as false) (.fn hC false)&&holds W (.nl v false)
 |t,.jL k=>jQ fuel t (T.D k)
 |.jL k,t=>jQ fuel (T.D k) t
 |.ptr _ _,.aS .cX=>holds W (.nl v true)
 |.bN t _ _,.rs k lo hi=>jQ fuel t (T.D k)&&(geq W ((gg W v).dO (kz (.ofNat lo)))&&geq W ((gg W v).neg.dO (.ofNat hi)))
 |.rs k _ _,.rs k' lo hi=>Nat.beq k k'&&(geq W ((gg W v).dO (kz (.ofNat lo)))&&geq W ((gg W v).neg.dO (.ofNat hi)))
 |.rv _ _,.rv lo hi=>geq W ((gg W v).dO (kz (.ofNat lo)))&&geq W ((gg W v).neg.dO (.ofNat hi))
 |_,_=>false
def RF (W:aH) (v c:Nat):Bool:=match W.df v with
 |.ptr bF _=>Nat.beq c bF&&holds W (.nl v false)
 |_=>false
def p8 (T:bG) (W:aH):Nat→al→bb→Bool
 |0,_,_=>false
 |f+1,s,t=>match s,t with
  |_,.any=>true
  |.k a,t=>o0 T fuel a t
  |.i k l,.int k' lo hi=>m1 k k'&&(geq W (l.dO (kz lo))&&geq W (l.neg.dO hi))
  |.i k _,.gn k'=>m1 k k'
  |.b _,.bool=>true
  |.b f,.aS (.bool true)=>holds W f
  |.b f,.aS (.bool false)=>holds W f.neg
  |.i k l,.aS (.int k' n)=>m1 k k'&&(geq W (l.dO (kz n))&&geq W (l.neg.dO n))
  |.x v,t=>jQ fuel (W.df v) t||UH T W v (W.df v) t
  |.p v off,.ptr c _=>Nat.beq off 0&&RF W v c
  |.bN l,.bN t lo hi=>(Nat.ble lo (fH l)&&Nat.ble (fH l) hi)&&l.all fun s=>p8 T W f s t
  |.bN l,.rs k lo hi=>(Nat.ble lo (fH l)&&Nat.ble (fH l) hi)&&l.all fun s=>p8 T W f s (T.D k)
  |.agg l,.agg ts=>gN (p8 T W f) l ts
  |.eN l,.eN ts=>gN (p8 T W f) l ts
  |.e4 cn s,.e4 as _=>as.any fun p=>Nat.beq cn p.1&&p8 T W f s p.2
  |.fn g a c,.fn as _=>as.any fun p=>Nat.beq g p.1&&(gN (p8 T W f) a p.2.1&&gN (p8 T W f) c p.2.2)
  |.e4 cn s,.jL k=>p8 T W f (.e4 cn s) (T.D k)
  |_,_=>false
def oA (T:bG) (W:aH) (s:al) (t:bb):Bool:=p8 T W fuel s t
def GJ:Nat→bG→bb→Bool
 |0,_,_=>false
 |f+1,T,t=>match t with
  |.any|.agg _|.eN _|.own _ _ _ _ _=>false
  |.jL k=>GJ f T (T.D k)
  |.aS a=>a.one
  |_=>true
def lA (T:bG) (W:aH):al→Bool
 |.k a=>a.one
 |.x v=>GJ fuel T (W.df v)
 |.p v _=>match W.df v with
  |.ptr _ _=>holds W (.nl v false)
  |_=>false
 |.agg _|.eN _=>false
 |_=>true
def gm (s:al):List al:=match rz s with
 |some l=>l
 |none=>[s]
def oY (T:bG) (W:aH) (n:Nat) (s:al):Option (List al):=bif Nat.beq (fH (gm s)) n&&(gm s).all (lA T W)then some (gm s)else none
def iT:bb→List bb
 |.agg l=>l
 |t=>[t]
def iV (T:bG) (sz:Nat) (t:bb):Bool:=Nat.beq (fH (iT t)) sz&&(iT t).all (GJ fuel T)
def jj (env:bE):aG→fx
 |.tmp t=>match ee env t with
  |.box _=>.gZ t 0
  |e=>e
 |.const a=>.val (.k a)
def au':fx→Option al
 |.val s=>some s
 |_=>none
def dZ (env:bE) (x:aG):Option al:=au' (jj env x)
def rV (env:bE):List aG→Option (List al)
 | []=>some []
 |x::l=>match dZ env x,rV env l with
  |some s,some r=>some (s::r)
  |_,_=>none
def jN (d:Option Nat) (e:fx) (env:bE):bE:=match d with
 |some s=>oE env s e
 |none=>env
def fk {β:Type}:List β→Nat→Option β
 | [],_=>none
 |a::_,0=>some a
 |_::l,n+1=>fk l n
def ru {β:Type}:Nat→List β→Option (List β)
 |0,_=>some []
 |_+1,[]=>none
 |n+1,a::l=>match ru n l with
  |some r=>some (a::r)
  |none=>none
def pS {β:Type}:Nat→List β→Option (List β)
 |0,l=>some l
 |_+1,[]=>none
 |n+1,_::l=>pS n l
def Ab (agg:Bool) (n o:Nat) (l:List al):Option al:=match pS o l with
 |some l=>match agg with
  |true=>match ru n l with
   |some r=>some (.agg r)
   |none=>none
  |false=>bif Nat.beq n 1 then fk l 0 else none
 |none=>none
def Lx:List al→List al→Option (List al)
 | [],l=>some l
 |_::_,[]=>none
 |v::vs,_::l=>match Lx vs l with
  |some r=>some (v::r)
  |none=>none
def G7:Nat→List al→List al→Option (List al)
 |0,vs,l=>Lx vs l
 |_+1,_,[]=>none
 |n+1,vs,a::l=>match G7 n vs l with
  |some r=>some (a::r)
  |none=>none
def i_ (k:IntKind):Int:=bif k.signed then kz (.ofNat (Nat.pow 2 (Nat.sub k.bits 1)))else .ofNat 0
def hZ (k:IntKind):Int:=.ofNat (Nat.sub (bif k.signed then Nat.pow 2 (Nat.sub k.bits 1)else Nat.pow 2 k.bits) 1)
def ph (W:aH) (k:IntKind) (l:bn):Bool:=geq W (l.dO (kz (i_ k)))&&geq W (l.neg.dO (hZ k))
abbrev d':=Option (fx × aH)
def gB (s:al) (W:aH):d':=some (.val s,W)
def yo (W:aH) (k:IntKind) (l:bn):d':=bif ph W k l then gB (.i k l) W else
 match cW W (.int k (i_ k) (hZ k))with
 |(s,W)=>gB s W
def lN (W:aH) (k:IntKind) (lo hi:Int):d':=match cW W (.int k lo hi)with
 |(s,W)=>gB s W
def DW (W:aH) (l:bn):Option Int:=match zK W (xE l.t)with
 |some n=>some (ya l.c n)
 |none=>none
def I3:Int→Nat→Int
 |.ofNat a,b=>.ofNat (Nat.div a b)
 |a,_=>a
def GV (x y:Nat):Nat:=Nat.sub (Nat.pow 2 (Nat.add (Nat.log2 (bif Nat.ble x y then y else x)) 1)) 1
def TU (W:aH) (b:bn):d'→d'
 |some (.val (.i k l),W1)=>some (.val (.i k l),CB W1.aD [.ge ((b.sub l).dO (.negSucc 0)),.ge ((l.add b).dO (.negSucc 0))] W1)
 |r=>r
def Yg (op:BinOp) (k:IntKind) (a b:bn):Option al:=match op with
 |.and|.or|.shr=>match a.const?,b.const? with
  |some x,some y=>match iZ op k x y with
   |some (.int k' n)=>some (.i k' (.k n))
   |_=>none
  |_,_=>none
 |_=>none
def Ns (W:aH) (op:BinOp) (k:IntKind) (a b:bn):d':=match op with
 |.add=>yo W k (a.add b)
 |.sub=>yo W k (a.sub b)
 |.mul=>match b.const? with
  |some n=>yo W k (bn.mul n a)
  |none=>match a.const? with
   |some n=>yo W k (bn.mul n b)
   |none=>lN W k (i_ k) (hZ k)
 |.rem=>match b.const? with
  |some (.ofNat (n+1))=>bif geq W a then lN W k (.ofNat 0) (.ofNat n)else lN W k (kz (.ofNat n)) (.ofNat n)
  |some _=>none
  |none=>bif geq W (b.dO (.negSucc 0))&&(ph W k a&&ph W k b)then TU W b (lN W k (i_ k) (hZ k))else none
 |.quo=>match b.const? with
  |some (.ofNat (n+1))=>match geq W a,DW W a with
   |true,some u=>bif nI (I3 u (n+1)) (hZ k)then lN W k (.ofNat 0) (I3 u (n+1))else none
   |_,_=>none
  |_=>none
 |.shr=>match b.const? with
  |some (.ofNat n)=>match geq W a,DW W a with
   |true,some u=>lN W k (.ofNat 0) (I3 u (Nat.pow 2 (bif Nat.ble n k.bits then n else k.bits)))
   |_,_=>bif ph W k a then lN W k (i_ k) (hZ k)else none
  |_=>bif geq W b&&ph W k a then lN W k (i_ k) (hZ k)else none
 |.shl=>match b.const? with
  |some (.ofNat n)=>bif Nat.ble n k.bits then yo W k (bn.mul (.ofNat (Nat.pow 2 n)) a)else lN W k (i_ k) (hZ k)
  |_=>bif geq W b then lN W k (i_ k) (hZ k)else none
 |.and=>match b.const? with
  |some (.ofNat n)=>bif nI (.ofNat n) (hZ k)then lN W k (.ofNat 0) (.ofNat n)else none
  |_=>lN W k (i_ k) (hZ k)
 |.or=>match geq W a&&geq W b,DW W a,DW W b with
  |true,some (.ofNat x),some (.ofNat y)=>bif nI (.ofNat (GV x y)) (hZ k)then lN W k (.ofNat 0) (.ofNat (GV x y))else lN W k (i_ k) (hZ k)
  |_,_,_=>lN W k (i_ k) (hZ k)
 |.xor=>lN W k (i_ k) (hZ k)
 |_=>none
def Nr (W:aH) (op:BinOp) (k:IntKind) (a b:bn):d':=match Yg op k a b with
 |some s=>gB s W
 |none=>Ns W op k a b
def EX (op:BinOp) (a b:bn):Option Lit:=match op with
 |.eql=>some (.eq (a.sub b) true)
 |.neq=>some (.eq (a.sub b) false)
 |.lss=>some (.ge ((b.sub a).dO (.negSucc 0)))
 |.leq=>some (.ge (b.sub a))
 |.gtr=>some (.ge ((a.sub b).dO (.negSucc 0)))
 |.geq=>some (.ge (a.sub b))
 |_=>none
def aoY:BinOp→Bool
 |.add|.sub|.mul|.quo|.rem|.and|.or|.xor|.shl|.shr=>true
 |_=>false
def lit (W:aH) (f:Lit):al:=bif u' 0 W f then .b (.c true)else bif u' 0 W f.neg then .b (.c false)else .b f
def po (W:aH) (f:Lit):d':=gB (lit W f) W
def Ic (W:aH):d':=match cW W .bool with
 |(s,W)=>gB s W
def xp (W:aH):al→Bool
 |.k (.str _)=>true
 |.x v=>match W.df v with
  |.str _=>true
  |_=>false
 |_=>false
def af8:BinOp→Bool
 |.eql|.neq|.lss|.leq|.gtr|.geq=>true
 |_=>false
def Au (W:aH):dH→al→Bool
 |.bool,.b _=>true
 |.bool,.k (.bool _)=>true
 |.int k,.i k' _=>m1 k k'
 |.int k,.k (.int k' _)=>m1 k k'
 |.str,s=>xp W s
 |_,_=>false
def acT (W:aH) (op:BinOp) (f:Option Lit):d':=match op,f with
 |.eql,some f=>po W f
 |.neq,some f=>po W f.neg
 |_,_=>none
def alc:BinOp→Bool
 |.eql|.neq=>true
 |_=>false
def SR:cG→al→Bool
 |.pointer,.k .cX|.iface,.k .dC|.func,.k .fj|.map,.k (.map none)|.slice,.k (.slice [] true none)=>true
 |_,_=>false
def SU (T:bG) (W:aH):cG→al→Bool
 |.pointer,.p v _=>match W.df v with
  |.ptr _ _=>holds W (.nl v false)
  |_=>false
 |.iface,.e4 _ _|.func,.fn _ _ _|.slice,.bN _|.pointer,.sp _=>true
 |.pointer,.k .cX|.iface,.k .dC|.func,.k .fj|.map,.k (.map none)|.slice,.k (.slice _ _ _)|.iface,.k (.iface _ _)|.func,.k (.func _ _ _)=>true
 |q,.x v=>match q,wc T (W.df v)with
  |.pointer,.ptr _ _|.iface,.e4 _ _|.func,.fn _ _|.map,.map _ _|.slice,.bN _ _ _|.slice,.rv _ _|.slice,.rs _ _ _=>true
  |_,_=>false
 |_,_=>false
def CN (T:bG) (W:aH):al→Option Lit
 |.k a=>some (.c (pj a))
 |.x v=>some (.nl v true)
 |_=>some (.c false)
def qN (W:aH) (f:Lit):Lit:=bif holds W f then .c true else bif holds W f.neg then .c false else f
def NF (W:aH) (op:BinOp) (f g:Lit):d':=match op,qN W g,qN W f with
 |.eql,.c true,_=>po W f
 |.eql,.c false,_=>po W f.neg
 |.neq,.c true,_=>po W f.neg
 |.neq,.c false,_=>po W f
 |.eql,_,.c true=>po W g
 |.eql,_,.c false=>po W g.neg
 |.neq,_,.c true=>po W g.neg
 |.neq,_,.c false=>po W g
 |.eql,_,_|.neq,_,_=>Ic W
 |_,_,_=>none
def Uf (W:aH):List al→List al→Bool
 | [],[]=>true
 |a::x,b::y=>(match gD a,gD b with
  |some (k,l),some (k',c_)=>m1 k k'&&(geq W (l.sub c_)&&geq W (c_.sub l))
  |_,_=>false)&&Uf W x y
 |_,_=>false
def ao0:BinOp→Bool
 |.eql=>true
 |_=>false
def wD (T:bG) (W:aH) (op:BinOp) (q:cG) (lt:Bool) (a b:al):d':=match gD a,gD b with
 |some (k,x),some (k',y)=>bif(match op with|.shl|.shr=>true|_=>m1 k k')then(bif aoY op then Nr W op k x y else match EX op x y with
  |some f=>po W f
  |none=>none)else none
 |_,_=>match yj a,yj b with
  |some f,some g=>match q with
   |.bool=>NF W op f g
   |_=>none
  |_,_=>bif xp W a&&xp W b then(bif af8 op then Ic W else none)else
   bif SR q b&&SU T W q a then(bif lt|| !(match q with|.iface=>true|_=>false)then acT W op (CN T W a)else none)else
   match q,rz a,rz b with
   |.flat ss,some x,some y=>bif gN (Au W) ss x&&(gN (Au W) ss y&&alc op)then(bif Uf W x y then po W (.c (ao0 op))else Ic W)else none
   |_,_,_=>none
end Go.bO.cK
end
section
namespace Go.bO.cK
def BK (v:Nat) (l:bn):List (Nat × List al)→Option al
 |(0,[.x w,.i _ c_,s])::r=>bif Nat.beq v w&&pT l c_ then some s else BK v l r
 |_::r=>BK v l r
 | []=>none
def w1 (v:Nat):List (Nat × List al)→Option (al × List al)
 |(1,[.x w,b,.bN ys])::r=>bif Nat.beq v w then some (b,ys)else w1 v r
 |_::r=>w1 v r
 | []=>none
def R3 (W:aH):al→Option bn
 |.x v=>some (gg W v)
 |.k (.slice [] true none)=>some (.k (.ofNat 0))
 |_=>none
def Jk (W:aH):Nat→Nat→Nat→Option al
 |0,_,_=>none
 |f+1,v,n=>match w1 v W.b2 with
  |some (b,ys)=>match R3 W b with
   |some l=>match l.const? with
    |some (.ofNat m)=>bif Nat.ble m n then fk ys (Nat.sub n m)else match b with
     |.x w=>Jk W f w n
     |_=>none
    |_=>none
   |none=>none
  |none=>none
def yZ (W:aH) (v:Nat) (l:bn):Option al:=match BK v l W.b2 with
 |some s=>some s
 |none=>match l.const? with
  |some (.ofNat n)=>Jk W 40 v n
  |_=>none
def CP:bb→Bool
 |.int .u8 _ _=>false
 |_=>true
def mz (T:bG) (b:Bool) (k:Nat) (as:List al) (W:aH):aH:=bif b then note T k as W else W
def S1 (T:bG) (st:Bool) (op:BinOp) (a b:al):d'→d'
 |some (.val s,W)=>match op with
  |.shr=>some (.val s,mz T false 2 [s,a,b] W)
  |.and=>some (.val s,mz T false 3 [s,a,b] W)
  |.eql=>some (.val s,mz T st 4 [s,a,b] W)
  |.neq=>some (.val s,mz T st 5 [s,a,b] W)
  |.lss=>some (.val s,mz T st 6 [s,a,b] W)
  |.leq=>some (.val s,mz T st 7 [s,a,b] W)
  |.gtr=>some (.val s,mz T st 8 [s,a,b] W)
  |.geq=>some (.val s,mz T st 9 [s,a,b] W)
  |_=>some (.val s,W)
 |r=>r
def SP (W:aH):fx→d'
 |.gZ s o=>some (.gZ s o,W)
 |.val (.sp l)=>gB (.sp l) W
 |.val (.p v o)=>match W.df v with
  |.ptr _ _=>bif holds W (.nl v false)then gB (.p v o) W else none
  |_=>none
 |.val (.x v)=>match W.df v with
  |.ptr _ _=>bif holds W (.nl v false)then gB (.p v 0) W else none
  |_=>none
 |_=>none
def Jq (W:aH) (off:Nat):fx→d'
 |.gZ s o=>some (.gZ s (Nat.add o off),W)
 |.kc v sz l o=>bif Nat.blt (Nat.add o off) sz then some (.kc v sz l (Nat.add o off),W)else none
 |.val (.sp l)=>match pS off l with
  |some r=>gB (.sp r) W
  |none=>none
 |.val (.p v o)=>match W.df v with
  |.ptr _ _=>bif holds W (.nl v false)then gB (.p v (Nat.add o off)) W else none
  |_=>none
 |.val (.x v)=>match W.df v with
  |.ptr _ _=>bif holds W (.nl v false)then gB (.p v off) W else none
  |_=>none
 |_=>none
def Oh (W:aH) (k:IntKind) (s:al):d':=match gD s with
 |some (_,l)=>yo W k l
 |none=>none
def Po (W:aH) (off n:Nat) (agg:Bool) (s:al):d':=match rz s with
 |some l=>match Ab agg n off l with
  |some r=>gB r W
  |none=>none
 |none=>none
def Pm (W:aH) (i:Nat) (s:al):d':=match MD s with
 |some l=>match fk l i with
  |some r=>gB r W
  |none=>none
 |none=>none
def R7 (W:aH) (s:al):d':=match yk W s with
 |some l=>gB (.i .i64 l) W
 |none=>match AO W s with
  |some l=>gB (.i .i64 l) W
  |none=>none
def Us (W:aH) (s:al):d':=match AP W s with
 |some l=>gB (.i .i64 l) W
 |none=>none
def Ke (T:bG) (W:aH) (sz:Nat) (t:bb) (v:Nat) (k:IntKind) (l:bn):d':=bif iV T sz t then(match cW W t with
 |(s,W)=>gB (.sp (gm s)) (mz T (CP t) 0 [.x v,.i k l,s] W))else none
def F7 (T:bG) (W:aH) (sz:Nat) (s:al):d':=match oY T W sz s with
 |some l=>gB (.sp l) W
 |none=>none
def Kc (T:bG) (W:aH) (sz:Nat) (x i:al):d':=match gD i with
 |some (k,l)=>match x with
  |.x v=>match W.df v with
   |.bN t _ _=>bif geq W l&&geq W (((gg W v).sub l).dO (.negSucc 0))then(match yZ W v l with
    |some s=>bif(oY T W sz s).isSome then F7 T W sz s else Ke T W sz t v k l
    |none=>Ke T W sz t v k l)else none
   |.rv _ _=>bif Nat.blt 0 sz&&(geq W l&&geq W (((gg W v).sub l).dO (.negSucc 0)))then some (.kc v sz l 0,W)else none
   |.rs k _ _=>bif(Nat.blt 0 sz&&iV T sz (T.D k))&&(geq W l&&geq W (((gg W v).sub l).dO (.negSucc 0)))then some (.kc v sz l 0,W)else none
   |_=>none
  |.bN r=>match l.const? with
   |some (.ofNat n)=>match fk r n with
    |some s=>F7 T W sz s
    |none=>none
   |_=>none
  |.k (.slice xs _ _)=>match l.const? with
   |some (.ofNat n)=>match fk (ks xs) n with
    |some s=>F7 T W sz s
    |none=>none
   |_=>none
  |_=>none
 |none=>none
def RJ (W:aH) (x i:al):d':=match gD i,AP W x with
 |some (_,l),some n=>bif geq W l&&geq W ((n.sub l).dO (.negSucc 0))then lN W .u8 (.ofNat 0) (.ofNat 255)else none
 |_,_=>none
def E8 (T:bG) (W:aH) (env:bE):List al→List (Nat × Nat × aG)→Option (List al)
 |cs,[]=>some cs
 |cs,(o,n,x)::r=>match dZ env x with
  |some s=>match oY T W n s with
   |some vs=>match G7 o vs cs with
    |some cs=>E8 T W env cs r
    |none=>none
   |none=>none
  |none=>none
def DD {β:Type} (b:β):Nat→List β→Option (List β)
 |_,[]=>none
 |0,_::l=>some (b::l)
 |n+1,a::l=>match DD b n l with
  |some r=>some (a::r)
  |none=>none
def Aq (T:bG) (W:aH) (env:bE) (sz:Nat):List al→List (Nat × aG)→Option (List al)
 |cs,[]=>some cs
 |cs,(i,x)::r=>match dZ env x with
  |some s=>match oY T W sz s,DD s i cs with
   |some _,some cs=>Aq T W env sz cs r
   |_,_=>none
  |none=>none
def tb (W:aH) (env:bE) (d:bn):Option aG→Option bn
 |none=>some d
 |some x=>match dZ env x with
  |some s=>match gD s with
   |some (_,l)=>bif geq W l then some l else none
   |none=>none
  |none=>none
def HP (W:aH) (t:bb) (l:bn):d':=match cW W t with
 |(.x v,W)=>gB (.x v) {W with cC:=(v,l)::W.cC}
 |_=>none
def On (W:aH) (t:bb) (l:bn) (as:List al):d':=match cW W t with
 |(.x v,W)=>gB (.x v) ({W with cC:=(v,l)::W.cC}.l7 13 (.x v::as))
 |_=>none
def Oq (T:bG) (W:aH) (sz v:Nat) (l h m:Option bn):d':=match W.df v,l,h,m with
 |.bN t _ hi,some l,some h,some m=>bif iV T sz t&&(leq W l h&&(leq W h m&&leq W m (gg W v)))then(bif Nat.blt 1 sz then On W (.bN t 0 hi) (h.sub l) [.x v,.i .i64 l,.i .i64 h]else HP W (.bN t 0 hi) (h.sub l))else none
 |_,_,_,_=>none
def L9:bb→Nat
 |.rv _ hi=>hi
 |_=>0
def Oo (W:aH) (env:bE) (sz v:Nat) (lo hi:Option aG):d':=match lo,hi with
 |none,some h=>match tb W env (gg W v) (some h)with
  |some h=>bif leq W h (gg W v)then(match cW W (.rv 0 (L9 (W.df v)))with
   |(.x u,W)=>gB (.x u) ({W with cC:=(u,h)::W.cC}.l7 10 [.x u,.x v])
   |_=>none)else none
  |none=>none
 |some l,none=>match tb W env (.k (.ofNat 0)) (some l)with
  |some l=>bif leq W l (gg W v)then(match cW W .any with
   |(.x u,W)=>gB (.x u) (W.l7 11 [.x u,.x v,.k (.int .i64 (.ofNat sz))])
   |_=>none)else none
  |none=>none
 |_,_=>none
def Kl:bb→Bool
 |.rv _ _=>true
 |_=>false
def isNone {β:Type}:Option β→Bool
 |none=>true
 |_=>false
def Bv (T:bG) (W:aH) (env:bE) (sz:Nat) (lo hi mx:Option aG):al→d'
 |.x v=>bif Kl (W.df v)then(bif isNone mx then Oo W env sz v lo hi else none)else Oq T W sz v (tb W env (.k (.ofNat 0)) lo) (tb W env (gg W v) hi) (tb W env (gg W v) mx)
 |.k (.slice [] nl none)=>match tb W env (.k (.ofNat 0)) lo,tb W env (.k (.ofNat 0)) hi,tb W env (.k (.ofNat 0)) mx with
  |some l,some h,some m=>match l.const?,h.const?,m.const? with
   |some (.ofNat 0),some (.ofNat 0),some (.ofNat 0)=>gB (.k (.slice [] nl none)) W
   |_,_,_=>none
  |_,_,_=>none
 |_=>none
def NM (W:aH):al→d'
 |.x v=>match W.df v with
  |.bN (.int .u8 (.ofNat _) (.ofNat hi)) _ n=>bif Nat.ble hi 255 then HP W (.str n) (gg W v)else none
  |_=>none
 |.k (.slice [] _ _)=>gB (.k (.str [])) W
 |_=>none
def agQ:bb:=.int .u8 (.ofNat 0) (.ofNat 255)
def UF (W:aH) (s:al):d':=match AP W s with
 |some l=>bif geq W (l.neg.dO (.ofNat maxLen))then HP W (.bN agQ 0 maxLen) l else none
 |none=>none
def zU (W:aH) (mx:Bool) (a b:al):d':=match gD a,gD b with
 |some (k,x),some (k',y)=>bif m1 k k' then(bif leq W x y then gB (.i k (bif mx then y else x)) W else bif leq W y x then gB (.i k (bif mx then x else y)) W else
   match cW W (bif ph W k x&&ph W k y then .int k (bif geq W x&&geq W y then .ofNat 0 else i_ k) (hZ k)else .gn k)with
   |(.i _ l,W)=>bif mx then gB (.i k l) ((W.g2 (l.sub x)).g2 (l.sub y))else gB (.i k l) ((W.g2 (x.sub l)).g2 (y.sub l))
   |_=>none)else none
 |_,_=>none
def nN {β:Type} (o:Option al) (k:al→Option β):Option β:=match o with
 |some s=>k s
 |none=>none
def xS {β:Type} (a b:Option al) (k:al→al→Option β):Option β:=match a,b with
 |some a,some b=>k a b
 |_,_=>none
def lD:bG→bE→aH→a2→d'
 |T,env,W,.mv x=>some (jj env x,W)
 |T,env,W,.nilCheck x=>SP W (jj env x)
 |T,env,W,.bin op q x y=>xS (dZ env x) (dZ env y) fun a b=>S1 T (xp W a&&xp W b) op a b (wD T W op q (qe x||qe y) a b)
 |T,env,W,.not x=>nN (dZ env x) fun s=>match yj s with
  |some f=>gB (.b f.neg) W
  |none=>none
 |T,env,W,.rR k x=>nN (dZ env x) (Oh W k)
 |T,env,W,.same x=>nN (dZ env x) fun s=>bif xp W s then gB s W else none
 |T,env,W,.iface t x=>nN (dZ env x) fun s=>gB (.e4 t s) W
 |T,env,W,.tN (.func f) a c=>match rV env a,rV env c with
  |some a,some c=>gB (.fn f a c) W
  |_,_=>none
 |T,env,W,.foff off x=>Jq W off (jj env x)
 |T,env,W,.field off n agg x=>nN (dZ env x) (Po W off n agg)
 |T,env,W,.iaddr sz x i=>xS (dZ env x) (dZ env i) (Kc T W sz)
 |T,env,W,.istr x i=>xS (dZ env x) (dZ env i) (RJ W)
 |T,env,W,.extract x i=>nN (dZ env x) (Pm W i)
 |T,env,W,.len x=>nN (dZ env x) (R7 W)
 |T,env,W,.tI x=>nN (dZ env x) (Us W)
 |T,env,W,.build z br=>match E8 T W env (ks z) br with
  |some l=>gB (.agg l) W
  |none=>none
 |T,env,W,.bslice false sz _ n z br=>match Aq T W env sz (List.replicate n (.k z)) br with
  |some l=>gB (.bN l) W
  |none=>none
 |T,env,W,.cut sz x lo hi=>nN (dZ env x) (Bv T W env sz lo hi none)
 |T,env,W,.cut3 sz x lo hi mx=>nN (dZ env x) (Bv T W env sz lo (some hi) (some mx))
 |T,env,W,.bytesStr x=>nN (dZ env x) (NM W)
 |T,env,W,.strBytes _ x=>nN (dZ env x) (UF W)
 |T,env,W,.neg x=>nN (dZ env x) fun s=>match gD s with
  |some (k,l)=>yo W k l.neg
  |none=>none
 |T,env,W,.min x y=>xS (dZ env x) (dZ env y) (zU W false)
 |T,env,W,.max x y=>xS (dZ env x) (dZ env y) (zU W true)
 |T,env,W,.tM x y z=>nN (dZ env z) fun c=>xS (dZ env x) (dZ env y) fun a b=>match zU W true a b with
  |some (.val s,W)=>zU W true s c
  |_=>none
 |T,env,W,_=>none
abbrev dG:=Option (List (bE × aH))
def one (env:bE) (d:Option Nat):d'→dG
 |some (e,W)=>some [(jN d e env,W)]
 |none=>none
def iL (env:bE) (d:Option Nat) (s:al) (W:aH):dG:=some [(jN d (.val s) env,W)]
def pU (v o:Nat):List (Nat × Nat × al)→Option al
 | []=>none
 |(w,p,s)::r=>bif Nat.beq v w&&Nat.beq o p then some s else pU v o r
def zD (v o:Nat) (l:List (Nat × Nat)):Bool:=l.any fun p=>Nat.beq v p.1&&Nat.beq o p.2
def hF (v:Nat) (l:List Nat):Bool:=l.any fun w=>Nat.beq v w
def nq (W:aH) (v:Nat):Option Nat:=match W.df v with
 |.ptr c _=>bif holds W (.nl v false)then some c else none
 |_=>none
def CH (W:aH) (v:Nat):Option Nat:=match W.df v with
 |.map c _=>bif holds W (.nl v false)then some c else none
 |_=>none
def hE:pD→List bb
 |.obj l=>l
 |_=>[]
def l0:bb→bb
 |.own t _ e lo hi=>bif gr e then .rv lo hi else .bN t lo hi
 |t=>t
def CE (W:aH) (v o:Nat) (t:bb):al × aH:=match pU v o W.cells with
 |some s=>(s,W)
 |none=>match cW W (l0 t)with
  |(s,W)=>(s,{W with cells:=(v,o,s)::W.cells})
def Gr (v:Nat):Nat→List bb→Nat→aH→Option (List al × aH)
 |0,_,_,W=>some ([],W)
 |_+1,[],_,_=>none
 |n+1,t::l,o,W=>bif zD v o W.cA then none else match CE W v o t with
  |(s,W)=>match Gr v n l (Nat.add o 1) W with
   |some (ss,W)=>some (s::ss,W)
   |none=>none
def zP (T:bG) (W:aH) (v c:Nat):Option (List al × aH):=match hE (T.K c)with
 | []=>none
 |t::l=>Gr v (fH (t::l)) (t::l) 0 W
def GM (W:aH) (c:Nat):Bool:=W.op.all fun p=>match W.df p.1 with
 |.ptr bF _=> !Nat.beq c bF
 |_=>false
def KE (T:bG) (W:aH) (v c o:Nat):aH:=bif T.kept c&&(GM W c&&(pU v o W.cells).isNone)then(match zP T W v c with
 |some (l,W1)=>note T (hY c) [.agg l] W1
 |none=>W)else W
def Lu (T:bG) (W:aH) (v c:Nat):Option aH:=bif T.kept c&& !(W.op.any fun p=>Nat.beq v p.1)then(bif GM W c then(match zP T W v c with
 |some (l,W1)=>match note T (hY c) [.agg l] W1 with
  |cD=>bif GM cD c then some {cD with op:=(v,l)::cD.op}else none
 |none=>none)else none)else some W
def EU (T:bG):Nat→aH→Option aH
 |0,W=>match W.op with
  | []=>some W
  |_=>none
 |n+1,W=>match W.op with
  | []=>some W
  |(v,_)::_=>match nq W v with
   |some c=>match zP T W v c with
    |some (c_,W1)=>match W1.op with
     |(u,l)::r=>bif Nat.beq u v&&(T.pw W1 (hY c) [.agg c_]&&T.pw W1 (iu c) [.agg l,.agg c_])then EU T n {W1 with op:=r}else none
     | []=>none
    |none=>none
   |none=>none
def yJ (T:bG) (W:aH):Option aH:=EU T 4 W
def Sz (agg:Bool) (l:List al):Option al:=bif agg then some (.agg l)else match l with
 | [s]=>some s
 |_=>none
def CF (T:bG) (W:aH) (agg:Bool) (n v o:Nat):Option (al × aH):=match nq W v with
 |some c=>bif Nat.beq n 0 then none else match pS o (hE (T.K c))with
  |some l=>match Gr v n l o (KE T W v c o)with
   |some (ss,W)=>match Sz agg ss with
    |some s=>some (s,W)
    |none=>none
   |none=>none
  |none=>none
 |none=>none
def L3 (sz v:Nat):List (Nat × Nat × Nat)→Option Nat
 | []=>none
 |p::r=>bif Nat.beq v p.1&&(Nat.beq sz p.2.1&&gr p.2.2)then some p.2.2 else L3 sz v r
def A' (W:aH) (e:Nat) (u:Nat):Option bn:=match gJ e with
 |0=>none
 |k+1=>match pU u k W.cells with
  |some d=>match gD d with
   |some (_,l)=>some l
   |none=>none
  |none=>none
def A_ (e:Nat):Option bn:=match gJ e with
 |0=>none
 |b+1=>some (.at (.i b))
def rowAt (T:bG) (W:aH) (wr:Bool) (sz u off:Nat):Option Nat:=bif W.cA.any (fun p=>Nat.beq off p.2)then none else match nq W u with
 |some c=>bif !wr||(hF u W.wr||hF c W.M)then(match pS off (hE (T.K c))with
  |some (.own _ gu e _ _::_)=>bif Nat.beq sz gu&&gr e then some e else none
  |_=>none)else none
 |none=>none
def Aj (T:bG) (W:aH) (wr:Bool) (sz v:Nat):List (Nat × Nat × al)→Option (Nat × Nat)
 | []=>none
 |(u,off,.x w)::r=>bif Nat.beq v w then(match rowAt T W wr sz u off with
  |some e=>some (e,u)
  |none=>Aj T W wr sz v r)else Aj T W wr sz v r
 |_::r=>Aj T W wr sz v r
def Ak (T:bG) (W:aH) (wr:Bool) (sz v:Nat):Option (bb × Bool × Option bn):=match L3 sz v W.live with
 |some e=>some (T.E (hT e),!Nat.beq (gJ e) 0,A_ e)
 |none=>match Aj T W wr sz v W.cells with
  |some (e,u)=>some (T.E (hT e),!Nat.beq (gJ e) 0,A' W e u)
  |none=>bif wr then none else match W.df v with
   |.rs k _ _=>bif Nat.blt k 4294967296&&Nat.beq (fH (iT (T.D k))) sz then some (T.D k,false,none)else none
   |_=>none
def Jm (l:List al):Option bn:=match l with
 |s::_=>match gD s with
  |some (_,l)=>some l
  |none=>none
 | []=>none
def L' (W:aH) (v sz:Nat) (l:bn):Option al:=match W.rd with
 |some (w,gu,c_,s)=>bif Nat.beq v w&&(Nat.beq sz gu&&pT l c_)then some s else none
 |none=>none
def CA (b:Option bn) (l:List al) (W:aH):aH:=match b,Jm l with
 |some b,some f=>W.g2 (b.sub f)
 |_,_=>W
def El (W:aH) (is:Bool) (b:Option bn) (l:List al):Bool:= !is||(match b,Jm l with
 |some b,some f=>geq W (b.sub f)
 |_,_=>false)
def zR (T:bG) (env:bE) (W:aH) (agg:Bool) (n:Nat):fx→Option (al × aH)
 |.kc v sz l o=>match Ak T W false sz v with
  |some (t,_,b)=>bif iV T sz t&&Nat.blt sz 1000000000 then(match L' W v sz l with
   |some s=>match Ab agg n o (gm s)with
    |some r=>some (r,W)
    |none=>none
   |none=>match cW W t with
    |(s,W)=>match Ab agg n o (gm s)with
     |some r=>some (r,{CA b (gm s) W with rd:=some (v,sz,l,s)})
     |none=>none)else none
  |none=>none
 |.gZ s o=>match ee env s with
  |.box l=>match Ab agg n o l with
   |some r=>some (r,W)
   |none=>none
  |_=>none
 |.val (.sp l)=>match Ab agg n 0 l with
  |some r=>some (r,W)
  |none=>none
 |.val (.p v o)=>CF T W agg n v o
 |.val (.x v)=>CF T W agg n v 0
 |_=>none
def xQ (T:bG) (agg:Bool) (n:Nat) (x:aG) (d:Option Nat) (env:bE) (W:aH):dG:=match zR T env W agg n (jj env x)with
 |some (s,W)=>iL env d s W
 |none=>none
def abK (s:Nat):fx→fx
 |.gZ dy o=>bif Nat.beq dy s then .un else .gZ dy o
 |e=>e
def sy (f:fx→fx):bE→bE
 |.dL=>.dL
 |.fr v l r=>.fr (f v) (sy f l) (sy f r)
def NI (env:bE) (s:Nat) (l:List al):bE:=oE (sy (abK s) env) s (.box l)
def DQ (v sz e:Nat):List (Nat × Nat × Nat)→Option (List (Nat × Nat × Nat))
 | []=>none
 |p::r=>bif Nat.beq v p.1&&(Nat.beq sz p.2.1&&Nat.beq e p.2.2)then some r else match DQ v sz e r with
  |some r=>some (p::r)
  |none=>none
def BP (T:bG) (W:aH) (s:al):bb→Option aH
 |.own t sz e lo hi=>match s with
  |.k (.slice [] true none)=>bif Nat.beq lo 0 then some W else none
  |.x v=>match DQ v sz e W.live with
   |some l=>bif oA T W s (l0 (.own t sz e lo hi))&&Nat.beq (gJ e) 0 then some {W with live:=l}else none
   |none=>none
  |_=>none
 |t=>bif oA T W s t then some W else none
def k9 (T:bG):aH→List al→List bb→Option aH
 |W,[],[]=>some W
 |W,s::l,t::ts=>match BP T W s t with
  |some W=>k9 T W l ts
  |none=>none
 |_,_,_=>none
def newObj (T:bG) (c:Nat) (l:List al) (d:Option Nat) (env:bE) (W:aH):dG:=match T.K c with
 |.obj ts=>bif !T.kept c||T.pw W (hY c) [.agg l]then(match k9 T W l ts with
  |some W=>match cW W (.ptr c false)with
   |(.x v,W1)=>iL env d (.x v) {W1 with wr:=v::W1.wr,cells:=(q' v 0 l)++W1.cells,b2:=bif T.kept c then others W c v W1.cells++W1.b2 else W1.b2,rd:=none}
   |_=>none
  |none=>none)else none
 |_=>none
where
 others (W:aH) (c v:Nat):List (Nat × Nat × al)→List (Nat × List al)
 | []=>[]
 |(u,o,_)::r=>bif Nat.beq o 0&&(match W.df u with
  |.ptr bF _=>Nat.beq c bF
  |_=>false)then(12,[.x v,.x u])::others W c v r else others W c v r
 q' (v:Nat):Nat→List al→List (Nat × Nat × al)
 |_,[]=>[]
 |o,s::l=>(v,o,s)::q' v (Nat.add o 1) l
def vv (W:aH) (v c:Nat):Bool:=hF v W.wr||hF c W.M
def E3 (W:aH) (v c o n:Nat) (l:List (Nat × Nat × al)):List (Nat × Nat × al):=
 l.filter fun p=> !((Nat.beq p.1 v||(match W.df p.1 with|.ptr bF _=>Nat.beq c bF|_=>true))&&(Nat.ble o p.2.1&&Nat.blt p.2.1 (Nat.add o n)))
def MJ (v o n:Nat) (l:List (Nat × Nat)):List (Nat × Nat):=l.filter fun p=> !(Nat.beq p.1 v&&(Nat.ble o p.2&&Nat.blt p.2 (Nat.add o n)))
def Z7 (u w:Nat):Nat × List al→Bool
 |(10,[.x a,.x b])=>Nat.beq u a&&Nat.beq w b
 |_=>false
def RL (W:aH) (v o:Nat) (l:List al) (ts:List bb):Bool:=match l,ts with
 | [.x u],[.own _ _ e lo _]=>(gr e&&Nat.beq lo 0)&&(!zD v o W.cA&&(match pU v o W.cells with
  |some (.x w)=>Nat.beq u w||W.b2.any (Z7 u w)
  |_=>false))
 |_,_=>false
def acF (W:aH) (v o:Nat) (l:List al) (k:Nat):Bool:=bif Nat.ble o k&&Nat.blt k (Nat.add o (fH l))then(match fk l (Nat.sub k o),pU v k W.cells with
  |some n,some d=>match gD n,gD d with
   |some (_,n),some (_,d)=>geq W (n.sub d)
   |_,_=>false
  |_,_=>false)else true
def SE (T:bG) (W:aH) (v c o:Nat) (l:List al):Bool:=(hE (T.K c)).all fun t=>match t with
 |.own _ _ e _ _=>match gJ e with
  |0=>true
  |k+1=>acF W v o l k
 |_=>true
def Jv (T:bG) (W:aH) (v:Nat) (l:List al) (ts:List bb):Option aH:=match l,ts with
 | [.x u],[.own _ sz e lo hi]=>match gJ e with
  |0=>none
  |k+1=>match Mw u sz (hT e) W.live,pU v k W.cells with
   |some (aR,r),some d=>match A_ aR,gD d with
    |some b,some (_,d)=>bif oA T W (.x u) (.rv lo hi)&&geq W (d.sub b)then some {W with live:=r}else none
    |_,_=>none
   |_,_=>none
 |_,_=>none
where
 Mw (v sz e:Nat):List (Nat × Nat × Nat)→Option (Nat × List (Nat × Nat × Nat))
 | []=>none
 |p::r=>bif Nat.beq v p.1&&(Nat.beq sz p.2.1&&(gr p.2.2&&Nat.beq e (hT p.2.2)))then some (p.2.2,r)else match Mw v sz e r with
  |some (aR,r)=>some (aR,p::r)
  |none=>none
def Ht (T:bG) (W:aH) (v o:Nat) (l:List al):Option aH:=match nq W v with
 |some c=>bif vv W v c then match T.K c with
  |.obj ts=>match pS o ts with
   |some ts=>match ru (fH l) ts with
    |some ts=>match Lu T W v c with
     |some W=>bif SE T W v c o l then(bif RL W v o l ts then some {W with cells:=newObj.q' v o l++E3 W v c o (fH l) W.cells,rd:=none}else match Jv T W v l ts with
      |some W=>some {W with cells:=newObj.q' v o l++E3 W v c o (fH l) W.cells,cA:=MJ v o (fH l) W.cA,rd:=none}
      |none=>match k9 T W l ts with
      |some W=>some {W with cells:=newObj.q' v o l++E3 W v c o (fH l) W.cells,cA:=MJ v o (fH l) W.cA,rd:=none}
      |none=>none)else none
     |none=>none
    |none=>none
   |none=>none
  |_=>none
  else none
 |none=>none
def Tk (T:bG) (n:Nat) (x v:aG) (d:Option Nat) (env:bE) (W:aH):dG:=match dZ env v with
 |some s=>match oY T W n s with
  |some l=>match jj env x with
   |.gZ b o=>match ee env b with
    |.box cs=>match G7 o l cs with
     |some cs=>some [(jN d .un (oE env b (.box cs)),W)]
     |none=>none
    |_=>none
   |.val (.p w o)=>match Ht T W w o l with
    |some W=>some [(jN d .un env,W)]
    |none=>none
   |.val (.x w)=>match Ht T W w 0 l with
    |some W=>some [(jN d .un env,W)]
    |none=>none
   |.kc w sz _ o=>match Ak T W true sz w with
    |some (t,is,b)=>bif iV T sz t&&(Nat.blt 0 o||El W is b l)then(match pS o (iT t)with
     |some ts=>match ru (fH l) ts with
      |some ts=>bif gN (oA T W) l ts then some [(jN d .un env,{W with rd:=none})]else none
      |none=>none
     |none=>none)else none
    |none=>none
   |_=>none
  |none=>none
 |none=>none
def vP (T:bG) (W:aH) (sz:Nat) (te:bb):al→Option bn
 |.x v=>match W.df v with
  |.bN t _ _=>bif iV T sz t&&jQ fuel t te then some (gg W v)else none
  |_=>none
 |.bN l=>bif l.all (fun s=>oA T W s te&&(oY T W sz s).isSome)then some (.k (.ofNat (fH l)))else none
 |.k (.slice xs _ _)=>bif(ks xs).all (fun s=>oA T W s te&&(oY T W sz s).isSome)then some (.k (.ofNat (fH xs)))else none
 |_=>none
def C1 (T:bG) (W:aH) (sz e:Nat) (te:bb) (u off:Nat):Bool:=match nq W u with
 |some c=>vv W u c&&match pS off (hE (T.K c))with
  |some (.own t gu aR _ _::_)=>Nat.beq sz gu&&(Nat.beq e aR&&jQ fuel t te)
  |_=>false
 |none=>false
def z_ (T:bG) (W:aH) (v sz e:Nat) (te:bb):List (Nat × Nat × al)→Option (Nat × Nat)
 | []=>none
 |(u,off,.x w)::r=>bif Nat.beq v w&&C1 T W sz e te u off then some (u,off)else z_ T W v sz e te r
 |_::r=>z_ T W v sz e te r
def GQ (T:bG) (W:aH) (u:Nat):aH:=match nq W u with
 |some c=>match Lu T W u c with
  |some W=>W
  |none=>W
 |none=>W
def Lt (T:bG) (W:aH) (sz e:Nat) (te:bb):al→aH
 |.x v=>match W.live.any (fun p=>Nat.beq v p.1),z_ T W v sz e te W.cells with
  |false,some (u,_)=>GQ T W u
  |_,_=>W
 |_=>W
def ac6 (W:aH) (u off:Nat) (p:Nat × Nat × al):Bool:= !(Nat.beq off p.2.1&&(Nat.beq u p.1||(match W.df u,W.df p.1 with
 |.ptr c _,.ptr bF _=>Nat.beq c bF
 |_,_=>true)))
def UQ (T:bG) (W:aH) (sz e:Nat) (te:bb):al→Option (bn × aH)
 |.k (.slice [] true none)=>some (.k (.ofNat 0),{W with rd:=none})
 |.x v=>match W.df v with
  |.bN t _ _=>bif jQ fuel t te&&iV T sz t then(match DQ v sz e W.live with
   |some l=>some (gg W v,{W with live:=l,rd:=none})
   |none=>match W.cA,z_ T W v sz e te W.cells with
    | [],some (u,off)=>some (gg W v,{W with cA:=[(u,off)],cells:=W.cells.filter (ac6 W u off),rd:=none})
    |_,_=>none)else none
  |_=>none
 |_=>none
def rk (bytes:Nat):Nat:=bif Nat.beq bytes 0 then maxLen else bif Nat.ble maxLen (Nat.div 140737488355328 bytes)then maxLen else Nat.div 140737488355328 bytes
def No (T:bG) (te:bb) (sz e bytes:Nat) (x y:al) (d:Option Nat) (env:bE) (W:aH):dG:=match vP T W sz te y,UQ T W sz e te x with
 |some m,some (n,W)=>bif(iV T sz te&& !gr e)&&geq W ((n.add m).neg.dO (.ofNat (rk bytes)))then(match cW W (.own te sz e 0 (rk bytes))with
  |(.x v,W)=>iL env d (.x v) (mz T (CP te) 1 [.x v,x,y] {W with cC:=(v,n.add m)::W.cC})
  |_=>none)else none
 |_,_=>none
def Nn (T:bG) (te:bb) (sz e bytes:Nat) (x y:aG) (d:Option Nat) (env:bE) (W:aH):dG:=match dZ env x,dZ env y with
 |some x,some y=>No T te sz e bytes x y d env (Lt T W sz e te x)
 |_,_=>none
def Ux (T:bG) (W:aH) (sz:Nat) (te:bb) (s:al):Option bn:=match s with
 |.x v=>match Ak T W false sz v with
  |some (t,_,_)=>bif iV T sz t&&jQ fuel t te then some (gg W v)else none
  |none=>vP T W sz te s
 |_=>vP T W sz te s
def Mx (v sz e:Nat):List (Nat × Nat × Nat)→Option (Nat × List (Nat × Nat × Nat))
 | []=>none
 |p::r=>bif Nat.beq v p.1&&(Nat.beq sz p.2.1&&(gr p.2.2&&Nat.beq e (hT p.2.2)))then some (p.2.2,r)else match Mx v sz e r with
  |some (aR,r)=>some (aR,p::r)
  |none=>none
def Ww (W:aH) (e u:Nat):Option (Nat × aH):=match gJ e with
 |0=>some (hT e,W)
 |_+1=>match A' W e u with
  |some l=>match cW W (.gn .i64)with
   |(.i _ x,W1)=>some (Nat.add (hT e) (Nat.mul 1000000000 (Nat.add W.aD 1)),(W1.g2 (x.sub l)).g2 (l.sub x))
   |_=>none
  |none=>none
def AG (T:bG) (W:aH) (sz e:Nat):al→Option (bn × Nat × aH)
 |.k (.slice [] true none)=>some (.k (.ofNat 0),e,{W with rd:=none})
 |.x v=>bif Kl (W.df v)then(match Mx v sz e W.live with
  |some (aR,l)=>some (gg W v,aR,{W with live:=l,rd:=none})
  |none=>match W.cA,cellOf T W v sz e W.cells with
   | [],some (aR,u,off)=>match Ww W aR u with
    |some (aN,W)=>some (gg W v,aN,{W with cA:=[(u,off)],cells:=W.cells.filter (ac6 W u off),rd:=none})
    |none=>none
   |_,_=>none)else none
 |_=>none
where
 cellOf (T:bG) (W:aH) (v sz e:Nat):List (Nat × Nat × al)→Option (Nat × Nat × Nat)
 | []=>none
 |(u,off,.x w)::r=>bif Nat.beq v w then(match rowAt T W true sz u off with
  |some aR=>bif Nat.beq e (hT aR)then some (aR,u,off)else cellOf T W v sz e r
  |none=>cellOf T W v sz e r)else cellOf T W v sz e r
 |_::r=>cellOf T W v sz e r
def Nv (W:aH) (e:Nat) (y:al):Bool:=match A_ e with
 |none=>true
 |some b=>match y with
  |.bN l=>l.all fun s=>El W true (some b) (gm s)
  |_=>false
def Ls (T:bG) (W:aH) (sz e:Nat):al→aH
 |.x v=>match W.live.any (fun p=>Nat.beq v p.1),AG.cellOf T W v sz e W.cells with
  |false,some (_,u,_)=>GQ T W u
  |_,_=>W
 |_=>W
def Nl (T:bG) (sz e bytes:Nat) (x y:al) (d:Option Nat) (env:bE) (W:aH):dG:=match Ux T W sz (T.E e) y,AG T W sz e x with
 |some m,some (n,aR,W)=>bif((gr e&&Nat.beq (gJ e) 0)&&Nv W aR y)&&(iV T sz (T.E e)&&geq W ((n.add m).neg.dO (.ofNat (rk bytes))))then(match cW W (.own (T.E e) sz aR 0 (rk bytes))with
  |(.x v,W)=>iL env d (.x v) {W with cC:=(v,n.add m)::W.cC}
  |_=>none)else none
 |_,_=>none
def Nk (T:bG) (sz e bytes:Nat) (x y:aG) (d:Option Nat) (env:bE) (W:aH):dG:=match dZ env x,dZ env y with
 |some x,some y=>Nl T sz e bytes x y d env (Ls T W sz e x)
 |_,_=>none
def SM (T:bG) (sz e n:Nat) (z:ab) (br:List (Nat × aG)) (d:Option Nat) (env:bE) (W:aH):dG:=match Aq T W env sz (List.replicate n (.k z)) br with
 |some l=>match vP T W sz (T.E e) (.bN l)with
  |some _=>bif(gr e&&Nat.beq (gJ e) 0)&&iV T sz (T.E e)then(match cW {W with rd:=none} (.own (T.E e) sz e n n)with
   |(s,W)=>iL env d s W)else none
  |none=>none
 |none=>none
def E9 (u sz:Nat):List (Nat × List al)→Option Nat
 |(11,[.x a,.x b,.k (.int .i64 (.ofNat n))])::r=>bif Nat.beq u a&&Nat.beq sz n then some b else E9 u sz r
 |_::r=>E9 u sz r
 | []=>none
def Oa (T:bG) (sz:Nat) (z:ab) (x:aG) (d:Option Nat) (env:bE) (W:aH):dG:=match dZ env x with
 |some (.x u)=>match E9 u sz W.b2 with
  |some v=>match Ak T W true sz v with
   |some (t,is,b)=>bif iV T sz t&&(gN (oA T W) (gm (.k z)) (iT t)&&El W is b (gm (.k z)))then iL env d (.k (.tuple [])) {W with rd:=none}else none
   |none=>none
  |none=>none
 |some (.k (.slice [] _ _))=>iL env d (.k (.tuple [])) W
 |_=>none
def NK (T:bG) (sz e n:Nat) (z:ab) (br:List (Nat × aG)) (d:Option Nat) (env:bE) (W:aH):dG:=match Aq T W env sz (List.replicate n (.k z)) br with
 |some l=>match vP T W sz (T.E e) (.bN l)with
  |some _=>bif gr e then none else(match cW {W with rd:=none} (.own (T.E e) sz e n n)with
   |(s,W)=>iL env d s W)
  |none=>none
 |none=>none
def Gf (W:aH):cL→al→Bool
 |.one k,s=>Au W k s
 |.row l,s=>match rz s with
  |some r=>gN (Au W) l r
  |none=>false
def Mg:dH→dH→Bool
 |.bool,.bool=>true
 |.int a,.int b=>m1 a b
 |.str,.str=>true
 |_,_=>false
def Gh:cL→cL→Bool
 |.one a,.one b=>Mg a b
 |.row a,.row b=>gN Mg a b
 |_,_=>false
def ym (W:aH) (c:Nat):Bool:=match W.lt with
 |none=>true
 |some p=>match W.df p.1 with
  |.map bF _=> !Nat.beq c bF
  |_=>false
def Gk (W:aH) (s:al):bb→aH
 |.int _ lo hi=>match gD s with
  |some (_,l)=>(W.g2 (l.dO (kz lo))).g2 (l.neg.dO hi)
  |none=>W
 |_=>W
def ow:IntKind→Nat
 |.i8=>1000000000
 |.i16=>1000000001
 |.i32=>1000000002
 |.i64=>1000000003
 |.u8=>1000000004
 |.u16=>1000000005
 |.u32=>1000000006
 |.u64=>1000000007
def aci (ok:Bool) (zero:ab) (t:bb) (key:al):Option (IntKind × bn):=match ok,zero,t with
 |false,.map none,.map _ _=>gD key
 |_,_,_=>none
def Sp (t:bb) (m key a:al):Option (Nat × Nat × bn × al):=match m,t,gD key with
 |.x v,.map _ _,some (k,l)=>some (v,ow k,l,a)
 |_,_,_=>none
def K0 (T:bG) (a7:cL) (zero:ab) (ok:Bool) (x i:aG) (d:Option Nat) (env:bE) (W:aH):dG:=match dZ env x,dZ env i with
 |some (.x v),some key=>bif Gf W a7 key then match W.df v with
  |.map c _=>match T.K c with
   |.map kx t cH=>bif Gh kx a7&&(o0 T fuel zero t&&ym W c)then(match aci ok zero t key with
    |some (k,l)=>(match L' W v (ow k) l with
     |some s=>iL env d s W
     |none=>match cW W t with
      |(s,W1)=>iL env d s {W1 with rd:=some (v,ow k,l,s)})
    |none=>match cW W t with
    |(s,W1)=>match ok with
     |false=>iL env d s W1
     |true=>match cH with
      |.any=>match cW W1 .bool with
       |(b,cD)=>iL env d (.eN [s,b]) cD
      |_=>some [(jN d (.val (.eN [s,.k (.bool true)])) env,Gk W1 key cH),(jN d (.val (.eN [.k zero,.k (.bool false)])) env,W)])else none
   |_=>none
  |_=>none
  else none
 |_,_=>none
def K7 (T:bG) (W:aH) (a7:cL):al→Option (bb × bb)
 |.x v=>match CH W v with
  |some c=>bif vv W v c then match T.K c with
   |.map kx t cH=>bif Gh kx a7&&ym W c then some (t,cH)else none
   |_=>none
   else none
  |none=>none
 |_=>none
def SL (T:bG) (a7:cL) (x i v:aG) (d:Option Nat) (env:bE) (W:aH):dG:=match dZ env x,dZ env i,dZ env v with
 |some m,some key,some a=>match K7 T W a7 m with
  |some t=>bif Gf W a7 key&&(oA T W a t.1&&oA T W key t.2)then some [(jN d .un env,{W with rd:=Sp t.1 m key a})]else none
  |none=>none
 |_,_,_=>none
def Sw (T:bG) (a7:cL) (x i:aG) (d:Option Nat) (env:bE) (W:aH):dG:=match dZ env x,dZ env i with
 |some m,some key=>match K7 T W a7 m with
  |some _=>bif Gf W a7 key then iL env d (.eN []) {W with rd:=none}else none
  |none=>none
 |_,_=>none
def K3 (T:bG) (x:aG) (d:Option Nat) (env:bE) (W:aH):dG:=match dZ env x with
 |some (.x v)=>match W.df v with
  |.map c _=>match T.K c with
   |.map _ _ _=>bif ym W c then(match cW W (.gn .i64)with
    |(s,W)=>iL env d s W)else none
   |_=>none
  |_=>none
 |_=>none
def clearS (T:bG) (x:aG) (d:Option Nat) (env:bE) (W:aH):dG:=match dZ env x with
 |some (.x v)=>match CH W v with
  |some c=>bif vv W v c&&ym W c then match T.K c with
   |.map _ _ _=>iL env d (.eN []) {W with rd:=none}
   |_=>none
   else none
  |none=>none
 |_=>none
def SD (T:bG) (c:Nat) (d:Option Nat) (env:bE) (W:aH):dG:=match T.K c with
 |.map _ _ _=>match cW W (.map c false)with
  |(.x v,W)=>iL env d (.x v) {W with wr:=v::W.wr,rd:=none}
  |_=>none
 |_=>none
def LQ (d:Option Nat) (env:bE) (W:aH):dG:=match cW W .any with
 |(.x w,W)=>some [(jN d (.val (.x w)) env,{W with wr:=w::W.wr,lt:=some (w,w,none),rd:=none})]
 |_=>none
def TQ (T:bG) (v:Nat) (d:Option Nat) (env:bE) (W:aH):dG:=match CH W v with
 |some c=>bif vv W v c then match T.K c with
  |.map _ _ _=>match cW W .any with
   |(.x w,W)=>some [(jN d (.val (.x w)) env,{W with wr:=w::W.wr,lt:=some (v,w,none),rd:=none})]
   |_=>none
  |_=>none
  else none
 |none=>none
def aeF (T:bG) (v:Nat) (d:Option Nat) (env:bE) (W:aH):dG:=match W.lt with
 |none=>match W.df v with
  |.map _ _=>tc W (.nl v true) fun t W=>match W.lt with
   |none=>bif t then LQ d env W else TQ T v d env W
   |some _=>none
  |_=>none
 |some _=>none
def TR (T:bG) (x:aG) (d:Option Nat) (env:bE) (W:aH):dG:=match dZ env x with
 |some (.k (.map none))=>match W.lt with
  |none=>LQ d env W
  |some _=>none
 |some (.x v)=>aeF T v d env W
 |_=>none
def O7 (x:aG) (d:Option Nat) (env:bE) (W:aH):dG:=match W.lt,dZ env x with
 |some (_,w,some (k,v)),some (.x u)=>bif Nat.beq u w then iL env d (.eN [k,v]) W else none
 |_,_=>none
abbrev iy:=Nat→List al→aH→Option (List (al × aH))
def Tp (env:bE) (d:Option Nat):List (al × aH)→List (bE × aH)
 | []=>[]
 |(s,W)::l=>(jN d (.val s) env,W)::Tp env d l
def Bm (sc:iy) (f:Nat) (l:List al) (d:Option Nat) (env:bE) (W:aH):dG:=match sc f l W with
 |some o=>some (Tp env d o)
 |none=>none
def yC {β:Type}:Option (List β)→Option (List β)→Option (List β)
 |some a,some b=>some (a++b)
 |_,_=>none
def A2 (k:Nat→List al→aH→dG) (args:List al) (W:aH):List (Nat × List bb × List bb)→dG
 | []=>some []
 |(g,x,y)::r=>match e3 W x with
  |(a,W1)=>match e3 W1 y with
   |(c,cD)=>yC (k g (a++args++c) cD) (A2 k args W r)
def A3 (k:Nat→List al→aH→dG) (eg:List (Nat × Nat)) (args:List al) (W:aH):List (Nat × bb)→dG
 | []=>some []
 |(t,ty)::r=>match oG eg t with
  |some f=>match cW W ty with
   |(s,W1)=>yC (k f (s::args) W1) (A3 k eg args W r)
  |none=>none
def Jp (T:bG) (k:Nat→List al→aH→dG) (args:List al) (W:aH):al→dG
 |.fn g a c=>k g (a++args++c) W
 |.k (.func (.func g) a c)=>k g (ks a++args++ks c) W
 |.x v=>match wc T (W.df v)with
  |.fn as _=>bif holds W (.nl v false)then A2 k args W as else none
  |_=>none
 |_=>none
def Kf (T:bG) (k:Nat→List al→aH→dG) (eg:List (Nat × Nat)) (args:List al) (W:aH):al→dG
 |.e4 t s=>match oG eg t with
  |some f=>k f (s::args) W
  |none=>none
 |.k (.iface t v)=>match oG eg t with
  |some f=>k f (.k v::args) W
  |none=>none
 |.x v=>match wc T (W.df v)with
  |.e4 as _=>bif holds W (.nl v false)then A3 k eg args W as else none
  |_=>none
 |_=>none
def DR (u t:Nat) (s:al):al:=bif Nat.beq u t then .eN [s,.k (.bool true)]else .eN [.k .cX,.k (.bool false)]
def HB (t:Nat) (d:Option Nat) (env:bE) (W:aH):List (Nat × bb)→List (bE × aH)
 | []=>[]
 |(u,ty)::r=>match cW W ty with
  |(s,W1)=>(jN d (.val (DR u t s)) env,W1)::HB t d env W r
def UX (T:bG) (t:Nat) (x:aG) (d:Option Nat) (env:bE) (W:aH):dG:=match dZ env x with
 |some (.e4 u s)=>iL env d (DR u t s) W
 |some (.k (.iface u v))=>iL env d (DR u t (.k v)) W
 |some (.k .dC)=>iL env d (.eN [.k .cX,.k (.bool false)]) W
 |some (.x v)=>match wc T (W.df v)with
  |.e4 as _=>some (HB t d env W as++(bif holds W (.nl v false)then []else [(jN d (.val (.eN [.k .cX,.k (.bool false)])) env,W)]))
  |_=>none
 |_=>none
def vF:Nat→bG→bb→Bool
 |0,_,_=>false
 |f+1,T,t=>match t with
  |.bool|.str _|.int _ _ _|.gn _=>true
  |.bN t _ _=>vF f T t
  |.agg l|.eN l=>l.all (vF f T)
  |_=>false
def SX:bb→Bool
 |.bool|.str _|.int _ _ _|.gn _=>true
 |_=>false
def Dn (T:bG) (W:aH) (n:Nat):Nat→al→Bool
 |0,_=>false
 |f+1,s=>match s with
  |.k a=>a.plain
  |.i _ _|.b _=>true
  |.x v=>vF fuel T (W.df v)&&(Nat.ble n v||SX (W.df v))
  |.bN l|.agg l|.eN l=>l.all (Dn T W n f)
  |.e4 _ s=>Dn T W n f s
  |_=>false
def Dw (T:bG) (W:aH) (n:Nat) (t0:cg bb):Nat→cg bb
 |0=>t0
 |k+1=>ts .any (bif vF fuel T (W.df (Nat.add n k))then W.df (Nat.add n k)else .any) (ja (Nat.add n k)) (Dw T W n t0 k)
def LK (T:bG) (cS:aH) (s:al) (W:aH):Option aH:=bif Dn T W cS.aD fuel s then some {cS with aD:=W.aD,ty:=Dw T W cS.aD cS.ty (Nat.sub W.aD cS.aD),ge:=W.ge,da:=W.da,cC:=W.cC}else none
def LN (T:bG) (d:Option Nat) (env:bE) (cS:aH):List (al × aH)→dG
 | []=>some []
 |(s,W)::l=>match LK T cS s W,LN T d env cS l with
  |some W,some r=>some ((jN d (.val s) env,W)::r)
  |_,_=>none
def Ce (W:aH):aH:= {W with live:=[],wr:=[],M:=[]}
def Bl (T:bG) (sc:iy) (d:Option Nat) (env:bE) (f:Nat) (l:List al) (W:aH):dG:=match yJ T W with
 |some W=>match W.lt with
  |some _=>none
  |none=>match sc f l (Ce W)with
  |some o=>LN T d env W o
  |none=>none
 |none=>none
structure gE where
 bh:List (Nat × Nat)
 md:Bool:=false
def gE.at (an:gE) (d:Option Nat):Option Nat:=match d with
 |some s=>(an.bh.find? fun p=>Nat.beq p.1 s).map (·.2)
 |none=>none
def LF (c a b:aG) (d:Option Nat) (env:bE) (W:aH):dG:=match dZ env c with
 |some s=>match yj s with
  |some f=>tc W f fun t W=>some [(jN d (bif t then jj env a else jj env b) env,W)]
  |none=>none
 |none=>none
def H9 (sz:Nat) (x:fx) (i:bn) (d:Option Nat) (env:bE):Nat→Nat→aH→dG
 |0,_,_=>some []
 |f+1,j,W=>tc W (.eq (i.dO (kz (.ofNat j))) true) fun b W=>bif b then one env d (Jq W (Nat.mul j sz) x)else H9 sz x i d env f (Nat.add j 1) W
def H_ (n sz:Nat) (x i:aG) (d:Option Nat) (env:bE) (W:aH):dG:=match dZ env i with
 |some s=>match gD s with
  |some (_,l)=>bif geq W l&&geq W (l.neg.dO (ya (.ofNat n) (.ofNat 1)))then H9 sz (jj env x) l d env n 0 W else none
  |none=>none
 |none=>none
def gE.Wa (an:gE) (d:Option Nat):List Nat:=match d with
 |some s=>(an.bh.filter fun p=>Nat.beq p.1 s).map (·.2)
 |none=>[]
def E_ {β:Type} (k:Nat→Option β):List Nat→Option β
 | []=>none
 |c::l=>match k c with
  |some r=>some r
  |none=>E_ k l
def Lf (T:bG) (an:gE) (l:List al) (d:Option Nat) (env:bE) (W:aH):dG:=match l with
 |s::l=>E_ (fun c=>newObj T c (s::l) d env W) (an.Wa d)
 |_=>none
def Kb (T:bG) (sz:Nat) (x:al) (k:IntKind) (l:bn) (d:Option Nat) (env:bE):Nat→Nat→aH→dG
 |0,_,_=>some []
 |f+1,j,W=>tc W (.eq (l.dO (kz (.ofNat j))) true) fun b W=>bif b then one env d (Kc T W sz x (.i k (.k (.ofNat j))))else Kb T sz x k l d env f (Nat.add j 1) W
def abT (W:aH) (v:Nat):Nat→Bool
 |0=>true
 |n+1=>(yZ W v (.k (.ofNat n))).isSome&&abT W v n
def Rv (T:bG) (sz:Nat) (x i:aG) (d:Option Nat) (env:bE) (W:aH):dG:=match dZ env x,dZ env i with
 |some (.x v),some s=>match gD s with
  |some (k,l)=>bif(l.const?.isNone&&abT W v 4)&&((yZ W v l).isNone&&(geq W l&&geq W (l.neg.dO (.ofNat 3))))then Kb T sz (.x v) k l d env 4 0 W else one env d (lD T env W (.iaddr sz x i))
  |none=>one env d (lD T env W (.iaddr sz x i))
 |_,_=>one env d (lD T env W (.iaddr sz x i))
def vB:bG→gE→iy→a2→Option Nat→bE→aH→dG
 |T,an,sc,.pick c a b,d,env,W=>LF c a b d env W
 |T,an,sc,.box cs,d,env,W=>match d with
  |some s=>some [(NI env s (ks cs),W)]
  |none=>none
 |T,an,sc,.boxv x,d,env,W=>match d,dZ env x with
  |some s,some v=>bif(gm v).all (lA T W)then some [(NI env s (gm v),W)]else none
  |_,_=>none
 |T,an,sc,.obj cs,d,env,W=>Lf T an (ks cs) d env W
 |T,an,sc,.objv x,d,env,W=>match dZ env x with
  |some v=>bif(gm v).all (lA T W)then Lf T an (gm v) d env W else none
  |none=>none
 |T,an,sc,.bslice true sz e n z br,d,env,W=>NK T sz e n z br d env W
 |T,an,sc,.load agg n x,d,env,W=>xQ T agg n x d env W
 |T,an,sc,.store n x v,d,env,W=>Tk T n x v d env W
 |T,an,sc,.append sz e bytes x y,d,env,W=>E_ (fun n=>Nn T (bif Nat.beq n 0 then T.E e else T.D n) sz e bytes x y d env W) (List.append (an.Wa d) [0])
 |T,an,sc,.appendM sz e bytes x y,d,env,W=>Nk T sz (Nat.add e 1000000) bytes x y d env W
 |T,an,sc,.mslice sz e n z br,d,env,W=>SM T sz (Nat.add e 1000000) n z br d env W
 |T,an,sc,.clearS sz z x,d,env,W=>Oa T sz z x d env W
 |T,an,sc,.aidx n sz x i,d,env,W=>H_ n sz x i d env W
 |T,an,sc,.iaddr sz x i,d,env,W=>Rv T sz x i d env W
 |T,an,sc,.mmap,d,env,W=>match an.at d with
  |some c=>SD T c d env W
  |none=>none
 |T,an,sc,.mget a7 z ok x i,d,env,W=>K0 T a7 z ok x i d env W
 |T,an,sc,.mset a7 x i v,d,env,W=>SL T a7 x i v d env W
 |T,an,sc,.mdel a7 x i,d,env,W=>Sw T a7 x i d env W
 |T,an,sc,.mlen x,d,env,W=>K3 T x d env W
 |T,an,sc,.clearM x,d,env,W=>clearS T x d env W
 |T,an,sc,.ua t x,d,env,W=>UX T t x d env W
 |T,an,sc,.range x,d,env,W=>TR T x d env W
 |T,an,sc,.entry x,d,env,W=>O7 x d env W
 |T,an,sc,.call f args,d,env,W=>match rV env args with
  |some l=>Bm sc f l d env W
  |none=>none
 |T,an,sc,.callv f args,d,env,W=>match dZ env f,rV env args with
  |some s,some l=>Jp T (fun g a W=>Bm sc g a d env W) l W s
  |_,_=>none
 |T,an,sc,.inv eg x args,d,env,W=>match dZ env x,rV env args with
  |some s,some l=>Kf T (fun g a W=>Bm sc g a d env W) eg l W s
  |_,_=>none
 |T,an,sc,o,d,env,W=>one env d (lD T env W o)
def MN:fx:=.val (.eN [])
def w2 (g:Option (Nat × Bool)) (d:Option Nat) (k:bE→aH→dG) (env:bE) (W:aH):dG:=match g with
 |none=>k env W
 |some (j,cO)=>match ee env j with
  |.val (.eN [])=>some [(jN d MN env,W)]
  |.val s=>match yj s with
   |some f=>tc W (bif cO then f else f.neg) fun avt W=>bif avt then k env W else some [(jN d MN env,W)]
   |none=>none
  |_=>none
def GU (T:bG) (an:gE) (sc:iy) (o:ca) (env:bE) (W:aH):dG:=w2 o.guard o.dst (vB T an sc o.op o.dst) env W
def It (k:bE→aH→dG):List (bE × aH)→dG
 | []=>some []
 |(e,W)::l=>yC (k e W) (It k l)
def Mc (r:dG) (k:bE→aH→dG):dG:=match r with
 |some l=>It k l
 |none=>none
def CZ (T:bG) (an:gE) (sc:iy):List ca→bE→aH→dG
 | [],env,W=>some [(env,W)]
 |o::l,env,W=>Mc (GU T an sc o env W) (CZ T an sc l)
def tP:bG→iy→List Nat→a2→Option Nat→bE→aH→dG
 |T,sc,B,.pick c a b,d,env,W=>LF c a b d env W
 |T,sc,B,.load agg n x,d,env,W=>match jj env x with
  |.gZ s _=>bif hF s B then none else xQ T agg n x d env W
  |_=>xQ T agg n x d env W
 |T,sc,B,.mget a7 z ok x i,d,env,W=>K0 T a7 z ok x i d env W
 |T,sc,B,.mlen x,d,env,W=>K3 T x d env W
 |T,sc,B,.aidx n sz x i,d,env,W=>H_ n sz x i d env W
 |T,sc,B,.call f args,d,env,W=>match rV env args with
  |some l=>Bl T sc d env f l W
  |none=>none
 |T,sc,B,.callv f args,d,env,W=>match dZ env f,rV env args with
  |some s,some l=>Jp T (fun g a W=>Bl T sc d env g a W) l W s
  |_,_=>none
 |T,sc,B,.inv eg x args,d,env,W=>match dZ env x,rV env args with
  |some s,some l=>Kf T (fun g a W=>Bl T sc d env g a W) eg l W s
  |_,_=>none
 |T,sc,B,.cap _,d,env,W=>none
 |T,sc,B,o,d,env,W=>one env d (lD T env W o)
def Mq (B:List Nat) (env:bE):a2→Bool
 |.store _ x _=>match jj env x with
  |.gZ s _=>hF s B
  |.val _=>true
  |_=>false
 |_=>true
def Uz (env:bE):a2→Bool
 |.store _ x _=>match jj env x with
  |.gZ _ _=>true
  |_=>false
 |_=>false
def Gj (env:bE):a2→Bool
 |.load _ _ x=>match jj env x with
  |.gZ _ _=>true
  |_=>false
 |_=>false
def RW (T:bG) (an:gE) (sc scq:iy) (B:List Nat):Nat→ca→bE→aH→dG
 |2,o,env,W=>bif Mq B env o.op then GU T an sc o env W else none
 |3,o,env,W=>GU T an sc o env W
 |4,o,env,W=>bif Mq B env o.op&&Uz env o.op then GU T an sc o env W else none
 |5,o,env,W=>w2 o.guard o.dst (fun env W=>bif Gj env o.op then tP T scq B o.op o.dst env W else none) env W
 |6,o,env,W=>w2 o.guard o.dst (fun env W=>bif Gj env o.op then tP T scq (ns B) o.op o.dst env W else none) env W
 |_,o,env,W=>w2 o.guard o.dst (tP T scq B o.op o.dst) env W
def OR (T:bG) (an:gE) (sc scq:iy) (B:List Nat):List (Nat × ca)→bE→aH→dG
 | [],env,W=>some [(env,W)]
 |(k,o)::l,env,W=>Mc (RW T an sc scq B k o env W) (OR T an sc scq B l)
def PA (l:List (Nat × ca)) (env:bE):bE:=match zX l with
 | []=>env
 |B=>sy (fun e=>match e with
  |.gZ s o=>bif hF s B then .un else .gZ s o
  |e=>e) env
end Go.bO.cK
end
