/-
  A WALKER OF CODE IN SMALL, part 1: what it works on. Values with variables in them, linear facts on numbers, types of values, classes of objects.
-/
import Derived.Test.YtfoeaeeaflmkfaaGreatAL18
set_option linter.unusedSectionVars false
set_option linter.unusedVariables false
set_option linter.unusedSimpArgs false
namespace Go.AL.SX
inductive At where
 |i (v:Nat)
 |l (v:Nat)
def At.beq:At→At→Bool
 |.i a,.i b=>Nat.beq a b
 |.l a,.l b=>Nat.beq a b
 |_,_=>false
structure Lin where
 c:Int
 t:List (Int × At)
def isZ:Int→Bool
 |.ofNat 0=>true
 |_=>false
def leZ (a b:Int):Bool:= !ltI b a
def mulI:Int→Int→Int
 |.ofNat a,.ofNat b=>.ofNat (Nat.mul a b)
 |a,b=>a*b
def negI (a:Int):Int:=subI (.ofNat 0) a
def addT (k:Int) (a:At):List (Int × At)→List (Int × At)
 | []=>[(k,a)]
 |(k',a')::r=>bif At.beq a a' then(bif isZ (addI k k')then r else(addI k k',a')::r)else(k',a')::addT k a r
def addTs:List (Int × At)→List (Int × At)→List (Int × At)
 | [],r=>r
 |(k,a)::l,r=>addT k a (addTs l r)
def negTs:List (Int × At)→List (Int × At)
 | []=>[]
 |(k,a)::l=>(negI k,a)::negTs l
def mulTs (n:Int):List (Int × At)→List (Int × At)
 | []=>[]
 |(k,a)::l=>(mulI n k,a)::mulTs n l
def Lin.k (n:Int):Lin:=⟨n,[]⟩
def Lin.at (a:At):Lin:=⟨.ofNat 0,[(.ofNat 1,a)]⟩
def Lin.add (x y:Lin):Lin:=⟨addI x.c y.c,addTs x.t y.t⟩
def Lin.neg (x:Lin):Lin:=⟨negI x.c,negTs x.t⟩
def Lin.sub (x y:Lin):Lin:=⟨subI x.c y.c,addTs x.t (negTs y.t)⟩
def Lin.addc (x:Lin) (n:Int):Lin:=⟨addI x.c n,x.t⟩
def Lin.mul (n:Int) (x:Lin):Lin:=bif isZ n then .k (.ofNat 0)else⟨mulI n x.c,mulTs n x.t⟩
def Lin.const? (x:Lin):Option Int:=match x.t with
 | []=>some x.c
 |_=>none
inductive Lit where
 |c (b:Bool)
 |bv (v:Nat) (p:Bool)
 |nl (v:Nat) (p:Bool)
 |ge (l:Lin)
 |eq (l:Lin) (p:Bool)
def Lit.neg:Lit→Lit
 |.c b=>.c !b
 |.bv v p=>.bv v !p
 |.nl v p=>.nl v !p
 |.ge l=>.ge ((l.neg).addc (.negSucc 0))
 |.eq l p=>.eq l !p
inductive Ty where
 |any
 |bool
 |str (hi:Nat)
 |int (k:IntKind) (lo hi:Int)
 |inu (k:IntKind)
 |sl (t:Ty) (lo hi:Nat)
 |own (t:Ty) (sz e lo hi:Nat)
 |ptr (c:Nat) (nl:Bool)
 |map (c:Nat) (nl:Bool)
 |agg (ts:List Ty)
 |tup (ts:List Ty)
 |ifc (as:List (Nat × Ty)) (nl:Bool)
 |fn (as:List (Nat × List Ty × List Ty)) (nl:Bool)
 |nm (k:Nat)
 |con (a:AVal)
instance:Inhabited Ty:=⟨.any⟩
inductive CD where
 |none
 |obj (ts:List Ty)
 |map (kk:KeyK) (t:Ty)
instance:Inhabited CD:=⟨.none⟩
inductive Cl where
 |no
 |cls (c:Nat)
 |tok (i off:Nat)
 deriving DecidableEq
inductive HasTy (D:Nat→Ty) (G:Nat→Cl):Ty→AVal→Prop
 |any (a:AVal):HasTy D G .any a
 |bool (b:Bool):HasTy D G .bool (.bool b)
 |str (s:List UInt8) (hi:Nat) (h:s.length≤hi):HasTy D G (.str hi) (.str s)
 |int (k:IntKind) (lo hi n:Int) (h1:lo≤n) (h2:n≤hi):HasTy D G (.int k lo hi) (.int k n)
 |inu (k:IntKind) (n:Int):HasTy D G (.inu k) (.int k n)
 |sl (t:Ty) (lo hi:Nat) (xs:List AVal) (nl:Bool) (tok:Option Nat) (h1:lo≤xs.length) (h2:xs.length≤hi) (hn:nl=true→xs=[]) (h:∀x∈xs,HasTy D G t x):
   HasTy D G (.sl t lo hi) (.slice xs nl tok)
 |ptr (c:Nat) (nl:Bool) (i:Nat) (h:G i=.cls c):HasTy D G (.ptr c nl) (.ptr i 0)
 |nilP (c:Nat):HasTy D G (.ptr c true) .nilP
 |map (c:Nat) (nl:Bool) (i:Nat) (h:G i=.cls c):HasTy D G (.map c nl) (.map (some i))
 |nilM (c:Nat):HasTy D G (.map c true) (.map none)
 |agg (ts:List Ty) (cs:List AVal) (hl:ts.length=cs.length) (h:∀(j:Nat) (t:Ty) (c:AVal),ts[j]? =some t→cs[j]? =some c→HasTy D G t c):HasTy D G (.agg ts) (.agg cs)
 |tup (ts:List Ty) (cs:List AVal) (hl:ts.length=cs.length) (h:∀(j:Nat) (t:Ty) (c:AVal),ts[j]? =some t→cs[j]? =some c→HasTy D G t c):HasTy D G (.tup ts) (.tuple cs)
 |ifc (as:List (Nat × Ty)) (nl:Bool) (t:Nat) (ty:Ty) (v:AVal) (hm:(t,ty)∈as) (h:HasTy D G ty v):HasTy D G (.ifc as nl) (.iface t v)
 |nilI (as:List (Nat × Ty)):HasTy D G (.ifc as true) .nilI
 |fn (as:List (Nat × List Ty × List Ty)) (nl:Bool) (f:Nat) (fs cs:List Ty) (a c:List AVal) (hm:(f,fs,cs)∈as) (h1:fs.length=a.length) (h2:cs.length=c.length)
   (ha:∀(j:Nat) (t:Ty) (v:AVal),fs[j]? =some t→a[j]? =some v→HasTy D G t v) (hc:∀(j:Nat) (t:Ty) (v:AVal),cs[j]? =some t→c[j]? =some v→HasTy D G t v):HasTy D G (.fn as nl) (.func (.func f) a c)
 |nilF (as:List (Nat × List Ty × List Ty)):HasTy D G (.fn as true) .nilF
 |nm (k:Nat) (a:AVal) (h:HasTy D G (D k) a):HasTy D G (.nm k) a
 |con (a:AVal):HasTy D G (.con a) a
inductive SV where
 |k (a:AVal)
 |i (k:IntKind) (l:Lin)
 |b (f:Lit)
 |x (v:Nat)
 |p (v off:Nat)
 |sl (l:List SV)
 |agg (l:List SV)
 |tup (l:List SV)
 |sp (l:List SV)
 |ifc (t:Nat) (s:SV)
 |fn (f:Nat) (a c:List SV)
instance:Inhabited SV:=⟨.k .top⟩
inductive SEnt where
 |val (s:SV)
 |box (l:List SV)
 |lp (s o:Nat)
 |un
instance:Inhabited SEnt:=⟨.un⟩
section
variable {α:Type}
def tg (d:α):Pa→Tr α→α
 |.z,.lf=>d
 |.z,.nd v _ _=>v
 |.a _,.lf=>d
 |.a p,.nd _ l _=>tg d p l
 |.b _,.lf=>d
 |.b p,.nd _ _ r=>tg d p r
def ts (d e:α):Pa→Tr α→Tr α
 |.z,.lf=>.nd e .lf .lf
 |.z,.nd _ l r=>.nd e l r
 |.a p,.lf=>.nd d (ts d e p .lf) .lf
 |.a p,.nd v l r=>.nd v (ts d e p l) r
 |.b p,.lf=>.nd d .lf (ts d e p .lf)
 |.b p,.nd v l r=>.nd v l (ts d e p r)
end
abbrev SE:=Tr SEnt
def sat (env:SE) (s:Nat):SEnt:=tg .un (pathOf s) env
def sput (env:SE) (s:Nat) (e:SEnt):SE:=ts .un e (pathOf s) env
structure SW where
 nv:Nat
 ty:Tr Ty
 ge:List Lin
 fx:List Lit
 cells:List (Nat × Nat × SV)
 live:List (Nat × Nat × Nat)
 bro:List (Nat × Nat)
 wr:List Nat
 M:List Nat
 ln:List (Nat × Lin)
 pr:List (Nat × List SV)
def SW.tyOf (W:SW) (v:Nat):Ty:=tg .any (pathOf v) W.ty
def intOf:AVal→Int
 |.int _ n=>n
 |_=>0
def lenOf:AVal→Int
 |.slice xs _ _=>xs.length
 |.str s=>s.length
 |_=>0
def isNilV:AVal→Bool
 |.nilP|.nilI|.nilF|.map none=>true
 |.slice _ nl _=>nl
 |_=>false
def boolOf:AVal→Bool
 |.bool b=>b
 |_=>false
abbrev Val:=Nat→AVal
def At.ev (ρ:Val):At→Int
 |.i v=>intOf (ρ v)
 |.l v=>lenOf (ρ v)
def evT (ρ:Val):List (Int × At)→Int
 | []=>0
 |(k,a)::r=>k*a.ev ρ+evT ρ r
def Lin.ev (ρ:Val) (l:Lin):Int:=l.c+evT ρ l.t
def Lit.ev (ρ:Val):Lit→Bool
 |.c b=>b
 |.bv v p=>boolOf (ρ v)==p
 |.nl v p=>isNilV (ρ v)==p
 |.ge l=>decide (0≤l.ev ρ)
 |.eq l p=>decide (l.ev ρ=0)==p
def offP (off:Nat):AVal→AVal
 |.ptr i o=>.ptr i (o+off)
 |_=>.top
mutual
def SV.ev (ρ:Val):SV→AVal
 |.k a=>a
 |.i k l=>.int k (l.ev ρ)
 |.b f=>.bool (f.ev ρ)
 |.x v=>ρ v
 |.p v off=>offP off (ρ v)
 |.sl l=>.slice (evs ρ l) false none
 |.agg l=>.agg (evs ρ l)
 |.tup l=>.tuple (evs ρ l)
 |.sp l=>.sptr (evs ρ l)
 |.ifc t s=>.iface t (s.ev ρ)
 |.fn f a c=>.func (.func f) (evs ρ a) (evs ρ c)
def evs (ρ:Val):List SV→List AVal
 | []=>[]
 |s::l=>s.ev ρ::evs ρ l
end
def At.cl (n:Nat):At→Bool
 |.i v|.l v=>Nat.blt v n
def clT (n:Nat):List (Int × At)→Bool
 | []=>true
 |(_,a)::r=>a.cl n&&clT n r
def Lin.cl (n:Nat) (l:Lin):Bool:=clT n l.t
def Lit.cl (n:Nat):Lit→Bool
 |.c _=>true
 |.bv v _|.nl v _=>Nat.blt v n
 |.ge l|.eq l _=>l.cl n
mutual
def SV.cl (n:Nat):SV→Bool
 |.k _=>true
 |.i _ l=>l.cl n
 |.b f=>f.cl n
 |.x v|.p v _=>Nat.blt v n
 |.sl l|.agg l|.tup l|.sp l=>cls n l
 |.ifc _ s=>s.cl n
 |.fn _ a c=>cls n a&&cls n c
def cls (n:Nat):List SV→Bool
 | []=>true
 |s::l=>s.cl n&&cls n l
end
inductive Bi:Nat→List AVal→Prop
 |idx (xs:List AVal) (nl:Bool) (tok:Option Nat) (k:IntKind) (i:Nat) (e:AVal) (h:xs[i]? =some e):Bi 0 [.slice xs nl tok,.int k i,e]
 |app (xs ys:List AVal) (nl nl' nl'':Bool) (t t' t'':Option Nat):Bi 1 [.slice (xs++ys) nl'' t'',.slice xs nl t,.slice ys nl' t']
 |shr (q:EqK) (lt:Bool) (a b r:AVal) (h:binE .shr q lt (.val a) (.val b)=some (.val r)):Bi 2 [r,a,b]
 |and (q:EqK) (lt:Bool) (a b r:AVal) (h:binE .and q lt (.val a) (.val b)=some (.val r)):Bi 3 [r,a,b]
 |eql (q:EqK) (lt:Bool) (a b r:AVal) (h:binE .eql q lt (.val a) (.val b)=some (.val r)):Bi 4 [r,a,b]
 |neq (q:EqK) (lt:Bool) (a b r:AVal) (h:binE .neq q lt (.val a) (.val b)=some (.val r)):Bi 5 [r,a,b]
 |lss (q:EqK) (lt:Bool) (a b r:AVal) (h:binE .lss q lt (.val a) (.val b)=some (.val r)):Bi 6 [r,a,b]
 |leq (q:EqK) (lt:Bool) (a b r:AVal) (h:binE .leq q lt (.val a) (.val b)=some (.val r)):Bi 7 [r,a,b]
 |gtr (q:EqK) (lt:Bool) (a b r:AVal) (h:binE .gtr q lt (.val a) (.val b)=some (.val r)):Bi 8 [r,a,b]
 |geq (q:EqK) (lt:Bool) (a b r:AVal) (h:binE .geq q lt (.val a) (.val b)=some (.val r)):Bi 9 [r,a,b]
structure Tab where
 D:Nat→Ty
 K:Nat→CD
 E:Nat→Ty
 Φ:Nat→List AVal→Prop:=fun _ _=>False
 prv:SW→Nat→List SV→Bool:=fun _ _ _=>false
 hook:SW→Nat→List SV→List Lit:=fun _ _ _=>[]
def phi (T:Tab) (k:Nat) (as:List AVal):Prop:=Bi k as∨T.Φ k as
end Go.AL.SX
namespace Go.AL.SX
def atB (W:SW):At→Option (Int × Int)
 |.i v=>match W.tyOf v with
  |.int _ lo hi=>some (lo,hi)
  |_=>none
 |.l v=>match W.tyOf v with
  |.sl _ lo hi=>some (.ofNat lo,.ofNat hi)
  |.str hi=>some (.ofNat 0,.ofNat hi)
  |_=>none
def lb1 (k:Int):Option (Int × Int)→Option Int
 |some (lo,hi)=>some (bif leZ (.ofNat 0) k then mulI k lo else mulI k hi)
 |none=>none
def lbT (W:SW):List (Int × At)→Option Int
 | []=>some (.ofNat 0)
 |(k,a)::r=>match lb1 k (atB W a),lbT W r with
  |some x,some y=>some (addI x y)
  |_,_=>none
def lbOk (W:SW) (l:Lin):Bool:=match lbT W l.t with
 |some n=>leZ (.ofNat 0) (addI l.c n)
 |none=>false
def pos (k:Int):Bool:=leZ (.ofNat 0) k
def has1 (k:Int) (a:At):List (Int × At)→Bool
 | []=>false
 |(k',a')::r=>bif At.beq a a' then pos k==pos k' else has1 k a r
def shares:List (Int × At)→List (Int × At)→Bool
 | [],_=>false
 |(k,a)::r,l=>has1 k a l||shares r l
def absN:Int→Nat
 |.ofNat n=>n
 |.negSucc n=>Nat.add n 1
def rat1 (k:Int) (a:At):List (Int × At)→Nat
 | []=>1
 |(k',a')::r=>bif At.beq a a' then(bif Nat.ble 2 (Nat.div (absN k') (absN k))then Nat.div (absN k') (absN k)else 1)else rat1 k a r
def ratio:List (Int × At)→List (Int × At)→Nat
 | [],_=>1
 |(k,a)::r,l=>bif has1 k a l then rat1 k a l else ratio r l
def takeF (f l:Lin):Lin:=match ratio f.t l.t with
 |1=>l.sub f
 |n=>l.sub (Lin.mul (.ofNat n) f)
def prove:Nat→SW→Lin→Bool
 |0,W,l=>lbOk W l
 |d+1,W,l=>lbOk W l||W.ge.any fun f=>shares f.t l.t&&prove d W (takeF f l)
def deep:Nat:=3
def geq (W:SW) (l:Lin):Bool:=prove deep W l
def leq (W:SW) (a b:Lin):Bool:=geq W (b.sub a)
def findL (v:Nat):List (Nat × Lin)→Lin
 | []=>.at (.l v)
 |(w,l)::r=>bif Nat.beq v w then l else findL v r
def lenX (W:SW) (v:Nat):Lin:=findL v W.ln
def nonnil (W:SW) (v:Nat):Bool:=match W.tyOf v with
 |.ptr _ n|.map _ n|.ifc _ n|.fn _ n=> !n
 |.sl _ lo _=>Nat.blt 0 lo
 |_=>false
def isBv (v:Nat) (p:Bool):Lit→Bool
 |.bv w q=>Nat.beq v w&&(p==q)
 |_=>false
def isNl (v:Nat) (p:Bool):Lit→Bool
 |.nl w q=>Nat.beq v w&&(p==q)
 |_=>false
def holds (W:SW):Lit→Bool
 |.c b=>b
 |.bv v p=>W.fx.any (isBv v p)
 |.nl v p=>W.fx.any (isNl v p)||(!p&&nonnil W v)
 |.ge l=>geq W l
 |.eq l true=>geq W l&&geq W l.neg
 |.eq l false=>geq W (l.addc (.negSucc 0))||geq W (l.neg.addc (.negSucc 0))
def SW.addGe (W:SW) (l:Lin):SW:= {W with ge:=l::W.ge}
def SW.addFx (W:SW) (f:Lit):SW:= {W with fx:=f::W.fx}
def learn (W:SW):Lit→SW
 |.c _=>W
 |.ge l=>W.addGe l
 |.eq l true=>(W.addGe l).addGe l.neg
 |.eq l false=>bif geq W l then W.addGe (l.addc (.negSucc 0))else bif geq W l.neg then W.addGe (l.neg.addc (.negSucc 0))else W.addFx (.eq l false)
 |f=>W.addFx f
def learns (n:Nat):List Lit→SW→SW
 | [],W=>W
 |f::l,W=>learns n l (bif f.cl n then learn W f else W)
def SW.addPr (W:SW) (k:Nat) (as:List SV):SW:= {W with pr:=(k,as)::W.pr}
def note (T:Tab) (k:Nat) (as:List SV) (W:SW):SW:=learns W.nv (T.hook W k as) (W.addPr k as)
def suppose (W:SW) (f:Lit):Option SW:=bif holds W f.neg then none else bif holds W f then some W else some (learn W f)
def both {β:Type} (W:SW) (f:Lit) (k:Bool→SW→Option (List β)):Option (List β):=
 match suppose W f,suppose W f.neg with
 |some a,some b=>match k true a,k false b with
  |some x,some y=>some (x++y)
  |_,_=>none
 |some a,none=>k true a
 |none,some b=>k false b
 |none,none=>some []
def SW.push (W:SW) (t:Ty):SW:= {W with nv:=Nat.add W.nv 1,ty:=ts .any t (pathOf W.nv) W.ty}
mutual
def freshTy (W:SW):Ty→SV × SW
 |.agg l=>match freshTys W l with
  |(s,W)=>(.agg s,W)
 |.tup l=>match freshTys W l with
  |(s,W)=>(.tup s,W)
 |.int k lo hi=>(.i k (.at (.i W.nv)),W.push (.int k lo hi))
 |.inu k=>(.i k (.at (.i W.nv)),W.push (.inu k))
 |.bool=>(.b (.bv W.nv true),W.push .bool)
 |.own t sz e lo hi=>(.x W.nv,{W.push (.sl t lo hi)with live:=(W.nv,sz,e)::W.live})
 |.con a=>(.k a,W)
 |t=>(.x W.nv,W.push t)
def freshTys (W:SW):List Ty→List SV × SW
 | []=>([],W)
 |t::l=>match freshTy W t with
  |(s,W)=>match freshTys W l with
   |(ss,W)=>(s::ss,W)
end
def toI:SV→Option (IntKind × Lin)
 |.i k l=>some (k,l)
 |.k (.int k n)=>some (k,.k n)
 |_=>none
def toB:SV→Option Lit
 |.b f=>some f
 |.k (.bool b)=>some (.c b)
 |_=>none
def ks:List AVal→List SV
 | []=>[]
 |a::l=>.k a::ks l
def toAgg:SV→Option (List SV)
 |.agg l=>some l
 |.k (.agg l)=>some (ks l)
 |_=>none
def toTup:SV→Option (List SV)
 |.tup l=>some l
 |.k (.tuple l)=>some (ks l)
 |_=>none
def lenS {β:Type}:List β→Nat
 | []=>0
 |_::l=>Nat.add (lenS l) 1
def toLen (W:SW):SV→Option Lin
 |.x v=>match W.tyOf v with
  |.sl _ _ _=>some (lenX W v)
  |_=>none
 |.sl l=>some (.k (.ofNat (lenS l)))
 |.k (.slice xs _ _)=>some (.k (.ofNat (lenS xs)))
 |_=>none
def toSlen (W:SW):SV→Option Lin
 |.x v=>match W.tyOf v with
  |.str _=>some (lenX W v)
  |_=>none
 |.k (.str s)=>some (.k (.ofNat (lenS s)))
 |_=>none
def toNil (W:SW):SV→Option Lit
 |.k (.nilP)|.k .nilI|.k .nilF|.k (.map none)|.k (.slice [] true none)=>some (.c true)
 |.k (.iface _ _)|.k (.func _ _ _)|.p _ _|.sl _|.sp _|.ifc _ _|.fn _ _ _=>some (.c false)
 |.x v=>match W.tyOf v with
  |.ptr _ _|.map _ _|.ifc _ _|.fn _ _|.sl _ _ _=>some (.nl v true)
  |_=>none
 |_=>none
def D2 (T:Tab):Ty→Ty
 |.nm k=>T.D k
 |t=>t
def toNil2 (T:Tab) (W:SW):SV→Option Lit
 |.x v=>match D2 T (W.tyOf v)with
  |.ptr _ _|.map _ _|.ifc _ _|.fn _ _|.sl _ _ _=>some (.nl v true)
  |_=>none
 |s=>toNil W s
def kEq:IntKind→IntKind→Bool
 |.i8,.i8|.i16,.i16|.i32,.i32|.i64,.i64|.u8,.u8|.u16,.u16|.u32,.u32|.u64,.u64=>true
 |_,_=>false
def all2 {α β:Type} (f:α→β→Bool):List α→List β→Bool
 | [],[]=>true
 |a::l,b::r=>f a b&&all2 f l r
 |_,_=>false
def fuel:Nat:=12
def eqBy:List UInt8→List UInt8→Bool
 | [],[]=>true
 |a::l,b::r=>Nat.beq a.toNat b.toNat&&eqBy l r
 |_,_=>false
def eqON:Option Nat→Option Nat→Bool
 |none,none=>true
 |some a,some b=>Nat.beq a b
 |_,_=>false
def eqAV:Nat→AVal→AVal→Bool
 |0,_,_=>false
 |f+1,a,b=>match a,b with
  |.bool a,.bool b=>a==b
  |.int k a,.int k' b=>kEq k k'&&eqI a b
  |.str a,.str b=>eqBy a b
  |.nilP,.nilP|.nilI,.nilI|.nilF,.nilF|.map none,.map none=>true
  |.slice xs n t,.slice ys m u=>(n==m)&&(eqON t u&&all2 (eqAV f) xs ys)
  |.agg xs,.agg ys|.tuple xs,.tuple ys|.sptr xs,.sptr ys=>all2 (eqAV f) xs ys
  |.iface t v,.iface u w=>Nat.beq t u&&eqAV f v w
  |.func (.func g) a c,.func (.func h) a' c'=>Nat.beq g h&&(all2 (eqAV f) a a'&&all2 (eqAV f) c c')
  |_,_=>false
def tySub:Nat→Ty→Ty→Bool
 |0,_,_=>false
 |f+1,t,t'=>match t,t' with
  |_,.any=>true
  |.bool,.bool=>true
  |.str a,.str b=>Nat.ble a b
  |.int k lo hi,.int k' lo' hi'=>kEq k k'&&(leZ lo' lo&&leZ hi hi')
  |.int k _ _,.inu k'=>kEq k k'
  |.inu k,.inu k'=>kEq k k'
  |.sl t lo hi,.sl t' lo' hi'=>(Nat.ble lo' lo&&Nat.ble hi hi')&&tySub f t t'
  |.ptr c n,.ptr c' n'=>Nat.beq c c'&&(!n||n')
  |.map c n,.map c' n'=>Nat.beq c c'&&(!n||n')
  |.agg l,.agg l'=>all2 (tySub f) l l'
  |.tup l,.tup l'=>all2 (tySub f) l l'
  |.ifc as n,.ifc as' n'=>(!n||n')&&as.all fun p=>as'.any fun q=>Nat.beq p.1 q.1&&tySub f p.2 q.2
  |.fn as n,.fn as' n'=>(!n||n')&&as.all fun p=>as'.any fun q=>Nat.beq p.1 q.1&&(all2 (tySub f) p.2.1 q.2.1&&all2 (tySub f) p.2.2 q.2.2)
  |.nm k,.nm k'=>Nat.beq k k'
  |.con a,.con b=>eqAV fuel a b
  |.con .nilP,.ptr _ n=>n
  |_,_=>false
def conTy (T:Tab):Nat→AVal→Ty→Bool
 |0,_,_=>false
 |f+1,a,t=>match a,t with
  |_,.any=>true
  |.bool _,.bool=>true
  |.str s,.str hi=>Nat.ble (lenS s) hi
  |.int k n,.int k' lo hi=>kEq k k'&&(leZ lo n&&leZ n hi)
  |.int k _,.inu k'=>kEq k k'
  |.slice xs nl _,.sl t lo hi=>(Nat.ble lo (lenS xs)&&Nat.ble (lenS xs) hi)&&((!nl||Nat.beq (lenS xs) 0)&&xs.all fun x=>conTy T f x t)
  |.nilP,.ptr _ n=>n
  |.map none,.map _ n=>n
  |.nilI,.ifc _ n=>n
  |.nilF,.fn _ n=>n
  |.agg cs,.agg l=>all2 (conTy T f) cs l
  |.tuple cs,.tup l=>all2 (conTy T f) cs l
  |.iface t v,.ifc as _=>as.any fun p=>Nat.beq t p.1&&conTy T f v p.2
  |.func (.func g) a c,.fn as _=>as.any fun p=>Nat.beq g p.1&&(all2 (conTy T f) a p.2.1&&all2 (conTy T f) c p.2.2)
  |a,.nm k=>conTy T f a (T.D k)
  |a,.con b=>eqAV fuel a b
  |_,_=>false
def subX (T:Tab) (W:SW) (v:Nat):Ty→Ty→Bool
 |.ptr c _,.ptr c' _=>Nat.beq c c'&&holds W (.nl v false)
 |.map c _,.map c' _=>Nat.beq c c'&&holds W (.nl v false)
 |.sl t _ _,.sl t' lo hi=>tySub fuel t t'&&(geq W ((lenX W v).addc (negI (.ofNat lo)))&&geq W ((lenX W v).neg.addc (.ofNat hi)))
 |.str _,.str hi=>geq W ((lenX W v).neg.addc (.ofNat hi))
 |.ifc as _,.ifc as' _=>tySub fuel (.ifc as false) (.ifc as' false)&&holds W (.nl v false)
 |.fn as _,.fn as' _=>tySub fuel (.fn as false) (.fn as' false)&&holds W (.nl v false)
 |t,.nm k=>tySub fuel t (T.D k)
 |.nm k,t=>tySub fuel (T.D k) t
 |.ptr _ _,.con .nilP=>holds W (.nl v true)
 |_,_=>false
def isPtrC (W:SW) (v c:Nat):Bool:=match W.tyOf v with
 |.ptr c' _=>Nat.beq c c'&&holds W (.nl v false)
 |_=>false
def isTy (T:Tab) (W:SW):Nat→SV→Ty→Bool
 |0,_,_=>false
 |f+1,s,t=>match s,t with
  |_,.any=>true
  |.k a,t=>conTy T fuel a t
  |.i k l,.int k' lo hi=>kEq k k'&&(geq W (l.addc (negI lo))&&geq W (l.neg.addc hi))
  |.i k _,.inu k'=>kEq k k'
  |.b _,.bool=>true
  |.b f,.con (.bool true)=>holds W f
  |.b f,.con (.bool false)=>holds W f.neg
  |.i k l,.con (.int k' n)=>kEq k k'&&(geq W (l.addc (negI n))&&geq W (l.neg.addc n))
  |.x v,t=>tySub fuel (W.tyOf v) t||subX T W v (W.tyOf v) t
  |.p v off,.ptr c _=>Nat.beq off 0&&isPtrC W v c
  |.sl l,.sl t lo hi=>(Nat.ble lo (lenS l)&&Nat.ble (lenS l) hi)&&l.all fun s=>isTy T W f s t
  |.agg l,.agg ts=>all2 (isTy T W f) l ts
  |.tup l,.tup ts=>all2 (isTy T W f) l ts
  |.ifc t' s,.ifc as _=>as.any fun p=>Nat.beq t' p.1&&isTy T W f s p.2
  |.fn g a c,.fn as _=>as.any fun p=>Nat.beq g p.1&&(all2 (isTy T W f) a p.2.1&&all2 (isTy T W f) c p.2.2)
  |.ifc t' s,.nm k=>isTy T W f (.ifc t' s) (T.D k)
  |_,_=>false
def ofTy (T:Tab) (W:SW) (s:SV) (t:Ty):Bool:=isTy T W fuel s t
def oneTy:Nat→Tab→Ty→Bool
 |0,_,_=>false
 |f+1,T,t=>match t with
  |.any|.agg _|.tup _|.own _ _ _ _ _=>false
  |.nm k=>oneTy f T (T.D k)
  |.con a=>a.one
  |_=>true
def one1 (T:Tab) (W:SW):SV→Bool
 |.k a=>a.one
 |.x v=>oneTy fuel T (W.tyOf v)
 |.p v _=>match W.tyOf v with
  |.ptr _ _=>holds W (.nl v false)
  |_=>false
 |.agg _|.tup _=>false
 |_=>true
def cellsS (s:SV):List SV:=match toAgg s with
 |some l=>l
 |none=>[s]
def cellsN (T:Tab) (W:SW) (n:Nat) (s:SV):Option (List SV):=bif Nat.beq (lenS (cellsS s)) n&&(cellsS s).all (one1 T W)then some (cellsS s)else none
def cellsTy:Ty→List Ty
 |.agg l=>l
 |t=>[t]
def elemTy (T:Tab) (sz:Nat) (t:Ty):Bool:=Nat.beq (lenS (cellsTy t)) sz&&(cellsTy t).all (oneTy fuel T)
def eoS (env:SE):Opd→SEnt
 |.tmp t=>match sat env t with
  |.box _=>.lp t 0
  |e=>e
 |.const a=>.val (.k a)
def valS:SEnt→Option SV
 |.val s=>some s
 |_=>none
def evS (env:SE) (x:Opd):Option SV:=valS (eoS env x)
def evsS (env:SE):List Opd→Option (List SV)
 | []=>some []
 |x::l=>match evS env x,evsS env l with
  |some s,some r=>some (s::r)
  |_,_=>none
def setS (d:Option Nat) (e:SEnt) (env:SE):SE:=match d with
 |some s=>sput env s e
 |none=>env
def nthS {β:Type}:List β→Nat→Option β
 | [],_=>none
 |a::_,0=>some a
 |_::l,n+1=>nthS l n
def takeS {β:Type}:Nat→List β→Option (List β)
 |0,_=>some []
 |_+1,[]=>none
 |n+1,a::l=>match takeS n l with
  |some r=>some (a::r)
  |none=>none
def dropS {β:Type}:Nat→List β→Option (List β)
 |0,l=>some l
 |_+1,[]=>none
 |n+1,_::l=>dropS n l
def partS (agg:Bool) (n o:Nat) (l:List SV):Option SV:=match dropS o l with
 |some l=>match agg with
  |true=>match takeS n l with
   |some r=>some (.agg r)
   |none=>none
  |false=>bif Nat.beq n 1 then nthS l 0 else none
 |none=>none
def overS:List SV→List SV→Option (List SV)
 | [],l=>some l
 |_::_,[]=>none
 |v::vs,_::l=>match overS vs l with
  |some r=>some (v::r)
  |none=>none
def putS:Nat→List SV→List SV→Option (List SV)
 |0,vs,l=>overS vs l
 |_+1,_,[]=>none
 |n+1,vs,a::l=>match putS n vs l with
  |some r=>some (a::r)
  |none=>none
def kMin (k:IntKind):Int:=bif k.signed then negI (.ofNat (Nat.pow 2 (Nat.sub k.bits 1)))else .ofNat 0
def kMax (k:IntKind):Int:=.ofNat (Nat.sub (bif k.signed then Nat.pow 2 (Nat.sub k.bits 1)else Nat.pow 2 k.bits) 1)
def inKind (W:SW) (k:IntKind) (l:Lin):Bool:=geq W (l.addc (negI (kMin k)))&&geq W (l.neg.addc (kMax k))
abbrev R1:=Option (SEnt × SW)
def some1 (s:SV) (W:SW):R1:=some (.val s,W)
def wrapS (W:SW) (k:IntKind) (l:Lin):R1:=bif inKind W k l then some1 (.i k l) W else
 match freshTy W (.int k (kMin k) (kMax k))with
 |(s,W)=>some1 s W
def anyInt (W:SW) (k:IntKind) (lo hi:Int):R1:=match freshTy W (.int k lo hi)with
 |(s,W)=>some1 s W
def ubOf (W:SW) (l:Lin):Option Int:=match lbT W (negTs l.t)with
 |some n=>some (subI l.c n)
 |none=>none
def divN:Int→Nat→Int
 |.ofNat a,b=>.ofNat (Nat.div a b)
 |a,_=>a
def orTop (x y:Nat):Nat:=Nat.sub (Nat.pow 2 (Nat.add (Nat.log2 (bif Nat.ble x y then y else x)) 1)) 1
def arS (W:SW) (op:BinOp) (k:IntKind) (a b:Lin):R1:=match op with
 |.add=>wrapS W k (a.add b)
 |.sub=>wrapS W k (a.sub b)
 |.mul=>match b.const? with
  |some n=>wrapS W k (Lin.mul n a)
  |none=>match a.const? with
   |some n=>wrapS W k (Lin.mul n b)
   |none=>anyInt W k (kMin k) (kMax k)
 |.rem=>match b.const? with
  |some (.ofNat (n+1))=>bif geq W a then anyInt W k (.ofNat 0) (.ofNat n)else anyInt W k (negI (.ofNat n)) (.ofNat n)
  |_=>none
 |.quo=>match b.const? with
  |some (.ofNat (n+1))=>match geq W a,ubOf W a with
   |true,some u=>bif leZ (divN u (n+1)) (kMax k)then anyInt W k (.ofNat 0) (divN u (n+1))else none
   |_,_=>none
  |_=>none
 |.shr=>match b.const? with
  |some (.ofNat n)=>match geq W a,ubOf W a with
   |true,some u=>anyInt W k (.ofNat 0) (divN u (Nat.pow 2 (bif Nat.ble n k.bits then n else k.bits)))
   |_,_=>bif inKind W k a then anyInt W k (kMin k) (kMax k)else none
  |_=>bif geq W b&&inKind W k a then anyInt W k (kMin k) (kMax k)else none
 |.shl=>match b.const? with
  |some (.ofNat n)=>bif Nat.ble n k.bits then wrapS W k (Lin.mul (.ofNat (Nat.pow 2 n)) a)else anyInt W k (kMin k) (kMax k)
  |_=>bif geq W b then anyInt W k (kMin k) (kMax k)else none
 |.and=>match b.const? with
  |some (.ofNat n)=>bif leZ (.ofNat n) (kMax k)then anyInt W k (.ofNat 0) (.ofNat n)else none
  |_=>anyInt W k (kMin k) (kMax k)
 |.or=>match geq W a&&geq W b,ubOf W a,ubOf W b with
  |true,some (.ofNat x),some (.ofNat y)=>bif leZ (.ofNat (orTop x y)) (kMax k)then anyInt W k (.ofNat 0) (.ofNat (orTop x y))else anyInt W k (kMin k) (kMax k)
  |_,_,_=>anyInt W k (kMin k) (kMax k)
 |.xor=>anyInt W k (kMin k) (kMax k)
 |_=>none
def cmpS (op:BinOp) (a b:Lin):Option Lit:=match op with
 |.eql=>some (.eq (a.sub b) true)
 |.neq=>some (.eq (a.sub b) false)
 |.lss=>some (.ge ((b.sub a).addc (.negSucc 0)))
 |.leq=>some (.ge (b.sub a))
 |.gtr=>some (.ge ((a.sub b).addc (.negSucc 0)))
 |.geq=>some (.ge (a.sub b))
 |_=>none
def isAr:BinOp→Bool
 |.add|.sub|.mul|.quo|.rem|.and|.or|.xor|.shl|.shr=>true
 |_=>false
def lit (W:SW) (f:Lit):SV:=bif holds W f then .b (.c true)else bif holds W f.neg then .b (.c false)else .b f
def litE (W:SW) (f:Lit):R1:=some1 (lit W f) W
def anyBool (W:SW):R1:=match freshTy W .bool with
 |(s,W)=>some1 s W
def isStr (W:SW):SV→Bool
 |.k (.str _)=>true
 |.x v=>match W.tyOf v with
  |.str _=>true
  |_=>false
 |_=>false
def strOp:BinOp→Bool
 |.eql|.neq|.lss|.leq|.gtr|.geq=>true
 |_=>false
def skS (W:SW):SK→SV→Bool
 |.bool,.b _=>true
 |.bool,.k (.bool _)=>true
 |.int k,.i k' _=>kEq k k'
 |.int k,.k (.int k' _)=>kEq k k'
 |.str,s=>isStr W s
 |_,_=>false
def nilOp (W:SW) (op:BinOp) (f:Option Lit):R1:=match op,f with
 |.eql,some f=>litE W f
 |.neq,some f=>litE W f.neg
 |_,_=>none
def eqOp:BinOp→Bool
 |.eql|.neq=>true
 |_=>false
def nilQ:EqK→SV→Bool
 |.pointer,.k .nilP|.iface,.k .nilI|.func,.k .nilF|.map,.k (.map none)|.slice,.k (.slice [] true none)=>true
 |_,_=>false
def nilSide (T:Tab) (W:SW):EqK→SV→Bool
 |.pointer,.p v _=>match W.tyOf v with
  |.ptr _ _=>holds W (.nl v false)
  |_=>false
 |.iface,.ifc _ _|.func,.fn _ _ _|.slice,.sl _|.pointer,.sp _=>true
 |.pointer,.k .nilP|.iface,.k .nilI|.func,.k .nilF|.map,.k (.map none)|.slice,.k (.slice _ _ _)|.iface,.k (.iface _ _)|.func,.k (.func _ _ _)=>true
 |q,.x v=>match q,D2 T (W.tyOf v)with
  |.pointer,.ptr _ _|.iface,.ifc _ _|.func,.fn _ _|.map,.map _ _|.slice,.sl _ _ _=>true
  |_,_=>false
 |_,_=>false
def nilLit (T:Tab) (W:SW):SV→Option Lit
 |.k a=>some (.c (isNilV a))
 |.x v=>some (.nl v true)
 |_=>some (.c false)
def decB (W:SW) (f:Lit):Lit:=bif holds W f then .c true else bif holds W f.neg then .c false else f
def boolS (W:SW) (op:BinOp) (f g:Lit):R1:=match op,decB W g,decB W f with
 |.eql,.c true,_=>litE W f
 |.eql,.c false,_=>litE W f.neg
 |.neq,.c true,_=>litE W f.neg
 |.neq,.c false,_=>litE W f
 |.eql,_,.c true=>litE W g
 |.eql,_,.c false=>litE W g.neg
 |.neq,_,.c true=>litE W g.neg
 |.neq,_,.c false=>litE W g
 |.eql,_,_|.neq,_,_=>anyBool W
 |_,_,_=>none
def binS (T:Tab) (W:SW) (op:BinOp) (q:EqK) (lt:Bool) (a b:SV):R1:=match toI a,toI b with
 |some (k,x),some (k',y)=>bif(match op with|.shl|.shr=>true|_=>kEq k k')then(bif isAr op then arS W op k x y else match cmpS op x y with
  |some f=>litE W f
  |none=>none)else none
 |_,_=>match toB a,toB b with
  |some f,some g=>match q with
   |.bool=>boolS W op f g
   |_=>none
  |_,_=>bif isStr W a&&isStr W b then(bif strOp op then anyBool W else none)else
   bif nilQ q b&&nilSide T W q a then(bif lt|| !(match q with|.iface=>true|_=>false)then nilOp W op (nilLit T W a)else none)else
   match q,toAgg a,toAgg b with
   |.flat ss,some x,some y=>bif all2 (skS W) ss x&&(all2 (skS W) ss y&&eqOp op)then anyBool W else none
   |_,_,_=>none
end Go.AL.SX
namespace Go.AL.SX
def eqTs:List (Int × At)→List (Int × At)→Bool
 | [],[]=>true
 |(k,a)::l,(k',b)::r=>eqI k k'&&(At.beq a b&&eqTs l r)
 |_,_=>false
def eqLin (a b:Lin):Bool:=eqI a.c b.c&&eqTs a.t b.t
def findI (v:Nat) (l:Lin):List (Nat × List SV)→Option SV
 |(0,[.x w,.i _ l',s])::r=>bif Nat.beq v w&&eqLin l l' then some s else findI v l r
 |_::r=>findI v l r
 | []=>none
def findA (v:Nat):List (Nat × List SV)→Option (SV × List SV)
 |(1,[.x w,b,.sl ys])::r=>bif Nat.beq v w then some (b,ys)else findA v r
 |_::r=>findA v r
 | []=>none
def lenBS (W:SW):SV→Option Lin
 |.x v=>some (lenX W v)
 |.k (.slice [] true none)=>some (.k (.ofNat 0))
 |_=>none
def findE (W:SW):Nat→Nat→Nat→Option SV
 |0,_,_=>none
 |f+1,v,n=>match findA v W.pr with
  |some (b,ys)=>match lenBS W b with
   |some l=>match l.const? with
    |some (.ofNat m)=>bif Nat.ble m n then nthS ys (Nat.sub n m)else match b with
     |.x w=>findE W f w n
     |_=>none
    |_=>none
   |none=>none
  |none=>none
def findIE (W:SW) (v:Nat) (l:Lin):Option SV:=match findI v l W.pr with
 |some s=>some s
 |none=>match l.const? with
  |some (.ofNat n)=>findE W 40 v n
  |_=>none
def noteIf (T:Tab) (b:Bool) (k:Nat) (as:List SV) (W:SW):SW:=bif b then note T k as W else W
def noteBin (T:Tab) (st:Bool) (op:BinOp) (a b:SV):R1→R1
 |some (.val s,W)=>match op with
  |.shr=>some (.val s,noteIf T true 2 [s,a,b] W)
  |.and=>some (.val s,noteIf T true 3 [s,a,b] W)
  |.eql=>some (.val s,noteIf T st 4 [s,a,b] W)
  |.neq=>some (.val s,noteIf T st 5 [s,a,b] W)
  |.lss=>some (.val s,noteIf T st 6 [s,a,b] W)
  |.leq=>some (.val s,noteIf T st 7 [s,a,b] W)
  |.gtr=>some (.val s,noteIf T st 8 [s,a,b] W)
  |.geq=>some (.val s,noteIf T st 9 [s,a,b] W)
  |_=>some (.val s,W)
 |r=>r
def nilChk (W:SW):SEnt→R1
 |.lp s o=>some (.lp s o,W)
 |.val (.sp l)=>some1 (.sp l) W
 |.val (.p v o)=>match W.tyOf v with
  |.ptr _ _=>bif holds W (.nl v false)then some1 (.p v o) W else none
  |_=>none
 |.val (.x v)=>match W.tyOf v with
  |.ptr _ _=>bif holds W (.nl v false)then some1 (.p v 0) W else none
  |_=>none
 |_=>none
def foffS (W:SW) (off:Nat):SEnt→R1
 |.lp s o=>some (.lp s (Nat.add o off),W)
 |.val (.sp l)=>match dropS off l with
  |some r=>some1 (.sp r) W
  |none=>none
 |.val (.p v o)=>match W.tyOf v with
  |.ptr _ _=>bif holds W (.nl v false)then some1 (.p v (Nat.add o off)) W else none
  |_=>none
 |.val (.x v)=>match W.tyOf v with
  |.ptr _ _=>bif holds W (.nl v false)then some1 (.p v off) W else none
  |_=>none
 |_=>none
def convS (W:SW) (k:IntKind) (s:SV):R1:=match toI s with
 |some (_,l)=>wrapS W k l
 |none=>none
def fieldS (W:SW) (off n:Nat) (agg:Bool) (s:SV):R1:=match toAgg s with
 |some l=>match partS agg n off l with
  |some r=>some1 r W
  |none=>none
 |none=>none
def extS (W:SW) (i:Nat) (s:SV):R1:=match toTup s with
 |some l=>match nthS l i with
  |some r=>some1 r W
  |none=>none
 |none=>none
def lenSV (W:SW) (s:SV):R1:=match toLen W s with
 |some l=>some1 (.i .i64 l) W
 |none=>none
def slenSV (W:SW) (s:SV):R1:=match toSlen W s with
 |some l=>some1 (.i .i64 l) W
 |none=>none
def idxFresh (T:Tab) (W:SW) (sz:Nat) (t:Ty) (v:Nat) (k:IntKind) (l:Lin):R1:=bif elemTy T sz t then(match freshTy W t with
 |(s,W)=>some1 (.sp (cellsS s)) (note T 0 [.x v,.i k l,s] W))else none
def idxK (T:Tab) (W:SW) (sz:Nat) (s:SV):R1:=match cellsN T W sz s with
 |some l=>some1 (.sp l) W
 |none=>none
def iaddrS (T:Tab) (W:SW) (sz:Nat) (x i:SV):R1:=match toI i with
 |some (k,l)=>match x with
  |.x v=>match W.tyOf v with
   |.sl t _ _=>bif geq W l&&geq W (((lenX W v).sub l).addc (.negSucc 0))then(match findIE W v l with
    |some s=>bif(cellsN T W sz s).isSome then idxK T W sz s else idxFresh T W sz t v k l
    |none=>idxFresh T W sz t v k l)else none
   |_=>none
  |.sl r=>match l.const? with
   |some (.ofNat n)=>match nthS r n with
    |some s=>idxK T W sz s
    |none=>none
   |_=>none
  |.k (.slice xs _ _)=>match l.const? with
   |some (.ofNat n)=>match nthS (ks xs) n with
    |some s=>idxK T W sz s
    |none=>none
   |_=>none
  |_=>none
 |none=>none
def istrS (W:SW) (x i:SV):R1:=match toI i,toSlen W x with
 |some (_,l),some n=>bif geq W l&&geq W ((n.sub l).addc (.negSucc 0))then anyInt W .u8 (.ofNat 0) (.ofNat 255)else none
 |_,_=>none
def fillS (T:Tab) (W:SW) (env:SE):List SV→List (Nat × Nat × Opd)→Option (List SV)
 |cs,[]=>some cs
 |cs,(o,n,x)::r=>match evS env x with
  |some s=>match cellsN T W n s with
   |some vs=>match putS o vs cs with
    |some cs=>fillS T W env cs r
    |none=>none
   |none=>none
  |none=>none
def setL {β:Type} (b:β):Nat→List β→Option (List β)
 |_,[]=>none
 |0,_::l=>some (b::l)
 |n+1,a::l=>match setL b n l with
  |some r=>some (a::r)
  |none=>none
def setSs (T:Tab) (W:SW) (env:SE) (sz:Nat):List SV→List (Nat × Opd)→Option (List SV)
 |cs,[]=>some cs
 |cs,(i,x)::r=>match evS env x with
  |some s=>match cellsN T W sz s,setL s i cs with
   |some _,some cs=>setSs T W env sz cs r
   |_,_=>none
  |none=>none
def bndS (W:SW) (env:SE) (d:Lin):Option Opd→Option Lin
 |none=>some d
 |some x=>match evS env x with
  |some s=>match toI s with
   |some (_,l)=>bif geq W l then some l else none
   |none=>none
  |none=>none
def withLen (W:SW) (t:Ty) (l:Lin):R1:=match freshTy W t with
 |(.x v,W)=>some1 (.x v) {W with ln:=(v,l)::W.ln}
 |_=>none
def slHi (W:SW):SV→Nat
 |.x v=>match W.tyOf v with
  |.sl _ _ hi=>hi
  |.str hi=>hi
  |_=>0
 |.sl l=>lenS l
 |.k (.slice xs _ _)=>lenS xs
 |.k (.str s)=>lenS s
 |_=>0
def cutVar (T:Tab) (W:SW) (sz v:Nat) (l h m:Option Lin):R1:=match W.tyOf v,l,h,m with
 |.sl t _ hi,some l,some h,some m=>bif elemTy T sz t&&(leq W l h&&(leq W h m&&leq W m (lenX W v)))then withLen W (.sl t 0 hi) (h.sub l)else none
 |_,_,_,_=>none
def cutS (T:Tab) (W:SW) (env:SE) (sz:Nat) (lo hi mx:Option Opd):SV→R1
 |.x v=>cutVar T W sz v (bndS W env (.k (.ofNat 0)) lo) (bndS W env (lenX W v) hi) (bndS W env (lenX W v) mx)
 |.k (.slice [] nl none)=>match bndS W env (.k (.ofNat 0)) lo,bndS W env (.k (.ofNat 0)) hi,bndS W env (.k (.ofNat 0)) mx with
  |some l,some h,some m=>match l.const?,h.const?,m.const? with
   |some (.ofNat 0),some (.ofNat 0),some (.ofNat 0)=>some1 (.k (.slice [] nl none)) W
   |_,_,_=>none
  |_,_,_=>none
 |_=>none
def bstrS (W:SW):SV→R1
 |.x v=>match W.tyOf v with
  |.sl (.int .u8 (.ofNat _) (.ofNat hi)) _ n=>bif Nat.ble hi 255 then withLen W (.str n) (lenX W v)else none
  |_=>none
 |.k (.slice [] _ _)=>some1 (.k (.str [])) W
 |_=>none
def u8T:Ty:=.int .u8 (.ofNat 0) (.ofNat 255)
def strbS (W:SW) (s:SV):R1:=match toSlen W s with
 |some l=>bif geq W (l.neg.addc (.ofNat maxLen))then withLen W (.sl u8T 0 maxLen) l else none
 |none=>none
def mmS (W:SW) (mx:Bool) (a b:SV):R1:=match toI a,toI b with
 |some (k,x),some (k',y)=>bif kEq k k' then(bif leq W x y then some1 (.i k (bif mx then y else x)) W else bif leq W y x then some1 (.i k (bif mx then x else y)) W else
   match freshTy W (.inu k)with
   |(.i _ l,W)=>bif mx then some1 (.i k l) ((W.addGe (l.sub x)).addGe (l.sub y))else some1 (.i k l) ((W.addGe (x.sub l)).addGe (y.sub l))
   |_=>none)else none
 |_,_=>none
def opt1 {β:Type} (o:Option SV) (k:SV→Option β):Option β:=match o with
 |some s=>k s
 |none=>none
def opt2 {β:Type} (a b:Option SV) (k:SV→SV→Option β):Option β:=match a,b with
 |some a,some b=>k a b
 |_,_=>none
def pureS (T:Tab) (env:SE) (W:SW):AOp→R1
 |.mv x=>some (eoS env x,W)
 |.nilCheck x=>nilChk W (eoS env x)
 |.bin op q x y=>opt2 (evS env x) (evS env y) fun a b=>noteBin T (isStr W a&&isStr W b) op a b (binS T W op q (nilConst x||nilConst y) a b)
 |.not x=>opt1 (evS env x) fun s=>match toB s with
  |some f=>some1 (.b f.neg) W
  |none=>none
 |.convInt k x=>opt1 (evS env x) (convS W k)
 |.same x=>opt1 (evS env x) fun s=>bif isStr W s then some1 s W else none
 |.iface t x=>opt1 (evS env x) fun s=>some1 (.ifc t s) W
 |.mkFunc (.func f) a c=>match evsS env a,evsS env c with
  |some a,some c=>some1 (.fn f a c) W
  |_,_=>none
 |.foff off x=>foffS W off (eoS env x)
 |.field off n agg x=>opt1 (evS env x) (fieldS W off n agg)
 |.iaddr sz x i=>opt2 (evS env x) (evS env i) (iaddrS T W sz)
 |.istr x i=>opt2 (evS env x) (evS env i) (istrS W)
 |.extract x i=>opt1 (evS env x) (extS W i)
 |.len x=>opt1 (evS env x) (lenSV W)
 |.lenStr x=>opt1 (evS env x) (slenSV W)
 |.build z ps=>match fillS T W env (ks z) ps with
  |some l=>some1 (.agg l) W
  |none=>none
 |.bslice false sz _ n z ps=>match setSs T W env sz (List.replicate n (.k z)) ps with
  |some l=>some1 (.sl l) W
  |none=>none
 |.cut sz x lo hi=>opt1 (evS env x) (cutS T W env sz lo hi none)
 |.cut3 sz x lo hi mx=>opt1 (evS env x) (cutS T W env sz lo (some hi) (some mx))
 |.bytesStr x=>opt1 (evS env x) (bstrS W)
 |.strBytes _ x=>opt1 (evS env x) (strbS W)
 |.neg x=>opt1 (evS env x) fun s=>match toI s with
  |some (k,l)=>wrapS W k l.neg
  |none=>none
 |.min x y=>opt2 (evS env x) (evS env y) (mmS W false)
 |.max x y=>opt2 (evS env x) (evS env y) (mmS W true)
 |_=>none
abbrev RN:=Option (List (SE × SW))
def one (env:SE) (d:Option Nat):R1→RN
 |some (e,W)=>some [(setS d e env,W)]
 |none=>none
def oneV (env:SE) (d:Option Nat) (s:SV) (W:SW):RN:=some [(setS d (.val s) env,W)]
def findC (v o:Nat):List (Nat × Nat × SV)→Option SV
 | []=>none
 |(w,p,s)::r=>bif Nat.beq v w&&Nat.beq o p then some s else findC v o r
def inBro (v o:Nat) (l:List (Nat × Nat)):Bool:=l.any fun p=>Nat.beq v p.1&&Nat.beq o p.2
def hasN (v:Nat) (l:List Nat):Bool:=l.any fun w=>Nat.beq v w
def classOf (W:SW) (v:Nat):Option Nat:=match W.tyOf v with
 |.ptr c _=>bif holds W (.nl v false)then some c else none
 |_=>none
def mclassOf (W:SW) (v:Nat):Option Nat:=match W.tyOf v with
 |.map c _=>bif holds W (.nl v false)then some c else none
 |_=>none
def celT:CD→List Ty
 |.obj l=>l
 |_=>[]
def readT:Ty→Ty
 |.own t _ _ lo hi=>.sl t lo hi
 |t=>t
def load1 (W:SW) (v o:Nat) (t:Ty):SV × SW:=match findC v o W.cells with
 |some s=>(s,W)
 |none=>match freshTy W (readT t)with
  |(s,W)=>(s,{W with cells:=(v,o,s)::W.cells})
def loadN (v:Nat):Nat→List Ty→Nat→SW→Option (List SV × SW)
 |0,_,_,W=>some ([],W)
 |_+1,[],_,_=>none
 |n+1,t::l,o,W=>bif inBro v o W.bro then none else match load1 W v o t with
  |(s,W)=>match loadN v n l (Nat.add o 1) W with
   |some (ss,W)=>some (s::ss,W)
   |none=>none
def mkS (agg:Bool) (l:List SV):Option SV:=bif agg then some (.agg l)else match l with
 | [s]=>some s
 |_=>none
def loadP (T:Tab) (W:SW) (agg:Bool) (n v o:Nat):Option (SV × SW):=match classOf W v with
 |some c=>bif Nat.beq n 0 then none else match dropS o (celT (T.K c))with
  |some l=>match loadN v n l o W with
   |some (ss,W)=>match mkS agg ss with
    |some s=>some (s,W)
    |none=>none
   |none=>none
  |none=>none
 |none=>none
def loadS (T:Tab) (env:SE) (W:SW) (agg:Bool) (n:Nat):SEnt→Option (SV × SW)
 |.lp s o=>match sat env s with
  |.box l=>match partS agg n o l with
   |some r=>some (r,W)
   |none=>none
  |_=>none
 |.val (.sp l)=>match partS agg n 0 l with
  |some r=>some (r,W)
  |none=>none
 |.val (.p v o)=>loadP T W agg n v o
 |.val (.x v)=>loadP T W agg n v 0
 |_=>none
def opLoadS (T:Tab) (agg:Bool) (n:Nat) (x:Opd) (d:Option Nat) (env:SE) (W:SW):RN:=match loadS T env W agg n (eoS env x)with
 |some (s,W)=>oneV env d s W
 |none=>none
def killS (s:Nat):SEnt→SEnt
 |.lp s' o=>bif Nat.beq s' s then .un else .lp s' o
 |e=>e
def mapS (f:SEnt→SEnt):SE→SE
 |.lf=>.lf
 |.nd v l r=>.nd (f v) (mapS f l) (mapS f r)
def boxS (env:SE) (s:Nat) (l:List SV):SE:=sput (mapS (killS s) env) s (.box l)
def takeLive (v sz e:Nat):List (Nat × Nat × Nat)→Option (List (Nat × Nat × Nat))
 | []=>none
 |p::r=>bif Nat.beq v p.1&&(Nat.beq sz p.2.1&&Nat.beq e p.2.2)then some r else match takeLive v sz e r with
  |some r=>some (p::r)
  |none=>none
def giveTy (T:Tab) (W:SW) (s:SV):Ty→Option SW
 |.own t sz e lo hi=>match s with
  |.k (.slice [] true none)=>bif Nat.beq lo 0 then some W else none
  |.x v=>match takeLive v sz e W.live with
   |some l=>bif ofTy T W s (.sl t lo hi)then some {W with live:=l}else none
   |none=>none
  |_=>none
 |t=>bif ofTy T W s t then some W else none
def giveTys (T:Tab):SW→List SV→List Ty→Option SW
 |W,[],[]=>some W
 |W,s::l,t::ts=>match giveTy T W s t with
  |some W=>giveTys T W l ts
  |none=>none
 |_,_,_=>none
def newObj (T:Tab) (c:Nat) (l:List SV) (d:Option Nat) (env:SE) (W:SW):RN:=match T.K c with
 |.obj ts=>match giveTys T W l ts with
  |some W=>match freshTy W (.ptr c false)with
   |(.x v,W)=>oneV env d (.x v) {W with wr:=v::W.wr,cells:=(numC v 0 l)++W.cells}
   |_=>none
  |none=>none
 |_=>none
where numC (v:Nat):Nat→List SV→List (Nat × Nat × SV)
 |_,[]=>[]
 |o,s::l=>(v,o,s)::numC v (Nat.add o 1) l
def mayWr (W:SW) (v c:Nat):Bool:=hasN v W.wr||hasN c W.M
def dropC (W:SW) (v c o n:Nat) (l:List (Nat × Nat × SV)):List (Nat × Nat × SV):=
 l.filter fun p=> !((Nat.beq p.1 v||(match W.tyOf p.1 with|.ptr c' _=>Nat.beq c c'|_=>true))&&(Nat.ble o p.2.1&&Nat.blt p.2.1 (Nat.add o n)))
def unBro (v o n:Nat) (l:List (Nat × Nat)):List (Nat × Nat):=l.filter fun p=> !(Nat.beq p.1 v&&(Nat.ble o p.2&&Nat.blt p.2 (Nat.add o n)))
def storeP (T:Tab) (W:SW) (v o:Nat) (l:List SV):Option SW:=match classOf W v with
 |some c=>bif mayWr W v c then match T.K c with
  |.obj ts=>match dropS o ts with
   |some ts=>match takeS (lenS l) ts with
    |some ts=>match giveTys T W l ts with
     |some W=>some {W with cells:=newObj.numC v o l++dropC W v c o (lenS l) W.cells,bro:=unBro v o (lenS l) W.bro}
     |none=>none
    |none=>none
   |none=>none
  |_=>none
  else none
 |none=>none
def opStoreS (T:Tab) (n:Nat) (x v:Opd) (d:Option Nat) (env:SE) (W:SW):RN:=match evS env v with
 |some s=>match cellsN T W n s with
  |some l=>match eoS env x with
   |.lp b o=>match sat env b with
    |.box cs=>match putS o l cs with
     |some cs=>some [(setS d .un (sput env b (.box cs)),W)]
     |none=>none
    |_=>none
   |.val (.p w o)=>match storeP T W w o l with
    |some W=>some [(setS d .un env,W)]
    |none=>none
   |.val (.x w)=>match storeP T W w 0 l with
    |some W=>some [(setS d .un env,W)]
    |none=>none
   |_=>none
  |none=>none
 |none=>none
def srcS (T:Tab) (W:SW) (sz:Nat) (te:Ty):SV→Option Lin
 |.x v=>match W.tyOf v with
  |.sl t _ _=>bif elemTy T sz t&&tySub fuel t te then some (lenX W v)else none
  |_=>none
 |.sl l=>bif l.all (fun s=>ofTy T W s te&&(cellsN T W sz s).isSome)then some (.k (.ofNat (lenS l)))else none
 |.k (.slice xs _ _)=>bif(ks xs).all (fun s=>ofTy T W s te&&(cellsN T W sz s).isSome)then some (.k (.ofNat (lenS xs)))else none
 |_=>none
def ownAt (T:Tab) (W:SW) (sz e:Nat) (te:Ty) (u off:Nat):Bool:=match classOf W u with
 |some c=>mayWr W u c&&match dropS off (celT (T.K c))with
  |some (.own t sz' e' _ _::_)=>Nat.beq sz sz'&&(Nat.beq e e'&&tySub fuel t te)
  |_=>false
 |none=>false
def ownerOf (T:Tab) (W:SW) (v sz e:Nat) (te:Ty):List (Nat × Nat × SV)→Option (Nat × Nat)
 | []=>none
 |(u,off,.x w)::r=>bif Nat.beq v w&&ownAt T W sz e te u off then some (u,off)else ownerOf T W v sz e te r
 |_::r=>ownerOf T W v sz e te r
def takeRow (T:Tab) (W:SW) (sz e:Nat) (te:Ty):SV→Option (Lin × SW)
 |.k (.slice [] true none)=>some (.k (.ofNat 0),W)
 |.x v=>match W.tyOf v with
  |.sl t _ _=>bif tySub fuel t te&&elemTy T sz t then(match takeLive v sz e W.live with
   |some l=>some (lenX W v,{W with live:=l})
   |none=>match W.bro,ownerOf T W v sz e te W.cells with
    | [],some (u,off)=>some (lenX W v,{W with bro:=[(u,off)],cells:=W.cells.filter fun p=> !Nat.beq off p.2.1})
    |_,_=>none)else none
  |_=>none
 |_=>none
def roomN (bytes:Nat):Nat:=bif Nat.beq bytes 0 then maxLen else bif Nat.ble maxLen (Nat.div 140737488355328 bytes)then maxLen else Nat.div 140737488355328 bytes
def appS (T:Tab) (te:Ty) (sz e bytes:Nat) (x y:Opd) (d:Option Nat) (env:SE) (W:SW):RN:=match evS env x,evS env y with
 |some x,some y=>match srcS T W sz te y,takeRow T W sz e te x with
  |some m,some (n,W)=>bif elemTy T sz te&&geq W ((n.add m).neg.addc (.ofNat (roomN bytes)))then(match freshTy W (.own te sz e 0 (roomN bytes))with
   |(.x v,W)=>oneV env d (.x v) (note T 1 [.x v,x,y] {W with ln:=(v,n.add m)::W.ln})
   |_=>none)else none
  |_,_=>none
 |_,_=>none
def bslS (T:Tab) (sz e n:Nat) (z:AVal) (ps:List (Nat × Opd)) (d:Option Nat) (env:SE) (W:SW):RN:=match setSs T W env sz (List.replicate n (.k z)) ps with
 |some l=>match srcS T W sz (T.E e) (.sl l)with
  |some _=>match freshTy W (.own (T.E e) sz e n n)with
   |(s,W)=>oneV env d s W
  |none=>none
 |none=>none
def keyS (W:SW):KeyK→SV→Bool
 |.one k,s=>skS W k s
 |.row l,s=>match toAgg s with
  |some r=>all2 (skS W) l r
  |none=>false
def skEqS:SK→SK→Bool
 |.bool,.bool=>true
 |.int a,.int b=>kEq a b
 |.str,.str=>true
 |_,_=>false
def kkEqS:KeyK→KeyK→Bool
 |.one a,.one b=>skEqS a b
 |.row a,.row b=>all2 skEqS a b
 |_,_=>false
def mgetS (T:Tab) (kk:KeyK) (zero:AVal) (ok:Bool) (x i:Opd) (d:Option Nat) (env:SE) (W:SW):RN:=match evS env x,evS env i with
 |some (.x v),some key=>bif keyS W kk key then match W.tyOf v with
  |.map c _=>match T.K c with
   |.map kk' t=>bif kkEqS kk' kk&&conTy T fuel zero t then(match freshTy W t with
    |(s,W)=>match ok with
     |false=>oneV env d s W
     |true=>match freshTy W .bool with
      |(b,W)=>oneV env d (.tup [s,b]) W)else none
   |_=>none
  |_=>none
  else none
 |_,_=>none
def mwrite (T:Tab) (W:SW) (kk:KeyK):SV→Option Ty
 |.x v=>match mclassOf W v with
  |some c=>bif mayWr W v c then match T.K c with
   |.map kk' t=>bif kkEqS kk' kk then some t else none
   |_=>none
   else none
  |none=>none
 |_=>none
def msetS (T:Tab) (kk:KeyK) (x i v:Opd) (d:Option Nat) (env:SE) (W:SW):RN:=match evS env x,evS env i,evS env v with
 |some m,some key,some a=>match mwrite T W kk m with
  |some t=>bif keyS W kk key&&ofTy T W a t then some [(setS d .un env,W)]else none
  |none=>none
 |_,_,_=>none
def mdelS (T:Tab) (kk:KeyK) (x i:Opd) (d:Option Nat) (env:SE) (W:SW):RN:=match evS env x,evS env i with
 |some m,some key=>match mwrite T W kk m with
  |some _=>bif keyS W kk key then oneV env d (.tup []) W else none
  |none=>none
 |_,_=>none
def mlenS (T:Tab) (x:Opd) (d:Option Nat) (env:SE) (W:SW):RN:=match evS env x with
 |some (.x v)=>match W.tyOf v with
  |.map c _=>match T.K c with
   |.map _ _=>match freshTy W (.inu .i64)with
    |(s,W)=>oneV env d s W
   |_=>none
  |_=>none
 |_=>none
def clearS (T:Tab) (x:Opd) (d:Option Nat) (env:SE) (W:SW):RN:=match evS env x with
 |some (.x v)=>match mclassOf W v with
  |some c=>bif mayWr W v c then match T.K c with
   |.map _ _=>oneV env d (.tup []) W
   |_=>none
   else none
  |none=>none
 |_=>none
def mnewS (T:Tab) (c:Nat) (d:Option Nat) (env:SE) (W:SW):RN:=match T.K c with
 |.map _ _=>match freshTy W (.map c false)with
  |(.x v,W)=>oneV env d (.x v) {W with wr:=v::W.wr}
  |_=>none
 |_=>none
abbrev SC:=Nat→List SV→SW→Option (List (SV × SW))
def outsS (env:SE) (d:Option Nat):List (SV × SW)→List (SE × SW)
 | []=>[]
 |(s,W)::l=>(setS d (.val s) env,W)::outsS env d l
def callS (sc:SC) (f:Nat) (l:List SV) (d:Option Nat) (env:SE) (W:SW):RN:=match sc f l W with
 |some o=>some (outsS env d o)
 |none=>none
def cat {β:Type}:Option (List β)→Option (List β)→Option (List β)
 |some a,some b=>some (a++b)
 |_,_=>none
def altFn (k:Nat→List SV→SW→RN) (args:List SV) (W:SW):List (Nat × List Ty × List Ty)→RN
 | []=>some []
 |(g,x,y)::r=>match freshTys W x with
  |(a,W1)=>match freshTys W1 y with
   |(c,W2)=>cat (k g (a++args++c) W2) (altFn k args W r)
def altInv (k:Nat→List SV→SW→RN) (tbl:List (Nat × Nat)) (args:List SV) (W:SW):List (Nat × Ty)→RN
 | []=>some []
 |(t,ty)::r=>match tblGet tbl t with
  |some f=>match freshTy W ty with
   |(s,W1)=>cat (k f (s::args) W1) (altInv k tbl args W r)
  |none=>none
def fnS (T:Tab) (k:Nat→List SV→SW→RN) (args:List SV) (W:SW):SV→RN
 |.fn g a c=>k g (a++args++c) W
 |.k (.func (.func g) a c)=>k g (ks a++args++ks c) W
 |.x v=>match D2 T (W.tyOf v)with
  |.fn as _=>bif holds W (.nl v false)then altFn k args W as else none
  |_=>none
 |_=>none
def invS (T:Tab) (k:Nat→List SV→SW→RN) (tbl:List (Nat × Nat)) (args:List SV) (W:SW):SV→RN
 |.ifc t s=>match tblGet tbl t with
  |some f=>k f (s::args) W
  |none=>none
 |.k (.iface t v)=>match tblGet tbl t with
  |some f=>k f (.k v::args) W
  |none=>none
 |.x v=>match D2 T (W.tyOf v)with
  |.ifc as _=>bif holds W (.nl v false)then altInv k tbl args W as else none
  |_=>none
 |_=>none
def tasV (u t:Nat) (s:SV):SV:=bif Nat.beq u t then .tup [s,.k (.bool true)]else .tup [.k .nilP,.k (.bool false)]
def tasAlts (t:Nat) (d:Option Nat) (env:SE) (W:SW):List (Nat × Ty)→List (SE × SW)
 | []=>[]
 |(u,ty)::r=>match freshTy W ty with
  |(s,W1)=>(setS d (.val (tasV u t s)) env,W1)::tasAlts t d env W r
def tasS (T:Tab) (t:Nat) (x:Opd) (d:Option Nat) (env:SE) (W:SW):RN:=match evS env x with
 |some (.ifc u s)=>oneV env d (tasV u t s) W
 |some (.k (.iface u v))=>oneV env d (tasV u t (.k v)) W
 |some (.k .nilI)=>oneV env d (.tup [.k .nilP,.k (.bool false)]) W
 |some (.x v)=>match D2 T (W.tyOf v)with
  |.ifc as _=>some (tasAlts t d env W as++(bif holds W (.nl v false)then []else [(setS d (.val (.tup [.k .nilP,.k (.bool false)])) env,W)]))
  |_=>none
 |_=>none
def plainTy:Nat→Tab→Ty→Bool
 |0,_,_=>false
 |f+1,T,t=>match t with
  |.bool|.str _|.int _ _ _|.inu _=>true
  |.sl t _ _=>plainTy f T t
  |.agg l|.tup l=>l.all (plainTy f T)
  |_=>false
def noSl:Ty→Bool
 |.bool|.str _|.int _ _ _|.inu _=>true
 |_=>false
def plainSV (T:Tab) (W:SW) (n:Nat):Nat→SV→Bool
 |0,_=>false
 |f+1,s=>match s with
  |.k a=>a.plain
  |.i _ _|.b _=>true
  |.x v=>plainTy fuel T (W.tyOf v)&&(Nat.ble n v||noSl (W.tyOf v))
  |.sl l|.agg l|.tup l=>l.all (plainSV T W n f)
  |.ifc _ s=>plainSV T W n f s
  |_=>false
def retype (T:Tab) (W:SW) (n:Nat) (t0:Tr Ty):Nat→Tr Ty
 |0=>t0
 |k+1=>ts .any (bif plainTy fuel T (W.tyOf (Nat.add n k))then W.tyOf (Nat.add n k)else .any) (pathOf (Nat.add n k)) (retype T W n t0 k)
def quiet1 (T:Tab) (W0:SW) (s:SV) (W:SW):Option SW:=bif plainSV T W W0.nv fuel s then some {W0 with nv:=W.nv,ty:=retype T W W0.nv W0.ty (Nat.sub W.nv W0.nv),ge:=W.ge,fx:=W.fx,ln:=W.ln}else none
def quietS (T:Tab) (d:Option Nat) (env:SE) (W0:SW):List (SV × SW)→RN
 | []=>some []
 |(s,W)::l=>match quiet1 T W0 s W,quietS T d env W0 l with
  |some W,some r=>some ((setS d (.val s) env,W)::r)
  |_,_=>none
def hush (W:SW):SW:= {W with live:=[],wr:=[],M:=[]}
def callQ (T:Tab) (sc:SC) (d:Option Nat) (env:SE) (f:Nat) (l:List SV) (W:SW):RN:=match sc f l (hush W)with
 |some o=>quietS T d env W o
 |none=>none
structure An where
 cl:List (Nat × Nat)
def An.at (an:An) (d:Option Nat):Option Nat:=match d with
 |some s=>(an.cl.find? fun p=>Nat.beq p.1 s).map (·.2)
 |none=>none
def pickS (c a b:Opd) (d:Option Nat) (env:SE) (W:SW):RN:=match evS env c with
 |some s=>match toB s with
  |some f=>both W f fun t W=>some [(setS d (bif t then eoS env a else eoS env b) env,W)]
  |none=>none
 |none=>none
def An.ats (an:An) (d:Option Nat):List Nat:=match d with
 |some s=>(an.cl.filter fun p=>Nat.beq p.1 s).map (·.2)
 |none=>[]
def firstR {β:Type} (k:Nat→Option β):List Nat→Option β
 | []=>none
 |c::l=>match k c with
  |some r=>some r
  |none=>firstR k l
def objS (T:Tab) (an:An) (l:List SV) (d:Option Nat) (env:SE) (W:SW):RN:=match l with
 |s::l=>firstR (fun c=>newObj T c (s::l) d env W) (an.ats d)
 |_=>none
def opS (T:Tab) (an:An) (sc:SC) (o:AOp) (d:Option Nat) (env:SE) (W:SW):RN:=match o with
 |.pick c a b=>pickS c a b d env W
 |.box cs=>match d with
  |some s=>some [(boxS env s (ks cs),W)]
  |none=>none
 |.boxv x=>match d,evS env x with
  |some s,some v=>bif(cellsS v).all (one1 T W)then some [(boxS env s (cellsS v),W)]else none
  |_,_=>none
 |.obj cs=>objS T an (ks cs) d env W
 |.objv x=>match evS env x with
  |some v=>bif(cellsS v).all (one1 T W)then objS T an (cellsS v) d env W else none
  |none=>none
 |.bslice true sz e n z ps=>bslS T sz e n z ps d env W
 |.load agg n x=>opLoadS T agg n x d env W
 |.store n x v=>opStoreS T n x v d env W
 |.append sz e bytes x y=>firstR (fun n=>appS T (bif Nat.beq n 0 then T.E e else T.D n) sz e bytes x y d env W) (0::an.ats d)
 |.mmap=>match an.at d with
  |some c=>mnewS T c d env W
  |none=>none
 |.mget kk z ok x i=>mgetS T kk z ok x i d env W
 |.mset kk x i v=>msetS T kk x i v d env W
 |.mdel kk x i=>mdelS T kk x i d env W
 |.mlen x=>mlenS T x d env W
 |.clearM x=>clearS T x d env W
 |.tassert t x=>tasS T t x d env W
 |.call f args=>match evsS env args with
  |some l=>callS sc f l d env W
  |none=>none
 |.callv f args=>match evS env f,evsS env args with
  |some s,some l=>fnS T (fun g a W=>callS sc g a d env W) l W s
  |_,_=>none
 |.inv tbl x args=>match evS env x,evsS env args with
  |some s,some l=>invS T (fun g a W=>callS sc g a d env W) tbl l W s
  |_,_=>none
 |o=>one env d (pureS T env W o)
def undoneS:SEnt:=.val (.tup [])
def guarded (g:Option (Nat × Bool)) (d:Option Nat) (k:SE→SW→RN) (env:SE) (W:SW):RN:=match g with
 |none=>k env W
 |some (j,want)=>match sat env j with
  |.val (.tup [])=>some [(setS d undoneS env,W)]
  |.val s=>match toB s with
   |some f=>both W (bif want then f else f.neg) fun yes W=>bif yes then k env W else some [(setS d undoneS env,W)]
   |none=>none
  |_=>none
def operS (T:Tab) (an:An) (sc:SC) (o:AOper) (env:SE) (W:SW):RN:=guarded o.guard o.dst (opS T an sc o.op o.dst) env W
def bindN (k:SE→SW→RN):List (SE × SW)→RN
 | []=>some []
 |(e,W)::l=>cat (k e W) (bindN k l)
def seqN (r:RN) (k:SE→SW→RN):RN:=match r with
 |some l=>bindN k l
 |none=>none
def opsS (T:Tab) (an:An) (sc:SC):List AOper→SE→SW→RN
 | [],env,W=>some [(env,W)]
 |o::l,env,W=>seqN (operS T an sc o env W) (opsS T an sc l)
def opDS (T:Tab) (sc:SC) (B:List Nat) (o:AOp) (d:Option Nat) (env:SE) (W:SW):RN:=match o with
 |.pick c a b=>pickS c a b d env W
 |.load agg n x=>match eoS env x with
  |.lp s _=>bif hasN s B then none else opLoadS T agg n x d env W
  |_=>opLoadS T agg n x d env W
 |.mget kk z ok x i=>mgetS T kk z ok x i d env W
 |.mlen x=>mlenS T x d env W
 |.call f args=>match evsS env args with
  |some l=>callQ T sc d env f l W
  |none=>none
 |.callv f args=>match evS env f,evsS env args with
  |some s,some l=>fnS T (fun g a W=>callQ T sc d env g a W) l W s
  |_,_=>none
 |.inv tbl x args=>match evS env x,evsS env args with
  |some s,some l=>invS T (fun g a W=>callQ T sc d env g a W) tbl l W s
  |_,_=>none
 |.cap _=>none
 |o=>one env d (pureS T env W o)
def stOkS (B:List Nat) (env:SE):AOp→Bool
 |.store _ x _=>match eoS env x with
  |.lp s _=>hasN s B
  |.val _=>true
  |_=>false
 |_=>true
def stBoxS (env:SE):AOp→Bool
 |.store _ x _=>match eoS env x with
  |.lp _ _=>true
  |_=>false
 |_=>false
def ldBoxS (env:SE):AOp→Bool
 |.load _ _ x=>match eoS env x with
  |.lp _ _=>true
  |_=>false
 |_=>false
def kindS (T:Tab) (an:An) (sc:SC) (B:List Nat):Nat→AOper→SE→SW→RN
 |2,o,env,W=>bif stOkS B env o.op then operS T an sc o env W else none
 |3,o,env,W=>operS T an sc o env W
 |4,o,env,W=>bif stOkS B env o.op&&stBoxS env o.op then operS T an sc o env W else none
 |5,o,env,W=>bif ldBoxS env o.op then guarded o.guard o.dst (opDS T sc B o.op o.dst) env W else none
 |6,o,env,W=>bif ldBoxS env o.op then guarded o.guard o.dst (opDS T sc (cutW B) o.op o.dst) env W else none
 |_,o,env,W=>guarded o.guard o.dst (opDS T sc B o.op o.dst) env W
def drawnS' (T:Tab) (an:An) (sc:SC) (B:List Nat):List (Nat × AOper)→SE→SW→RN
 | [],env,W=>some [(env,W)]
 |(k,o)::l,env,W=>seqN (kindS T an sc B k o env W) (drawnS' T an sc B l)
def forgetS (l:List (Nat × AOper)) (env:SE):SE:=match newBoxes l with
 | []=>env
 |B=>mapS (fun e=>match e with
  |.lp s o=>bif hasN s B then .un else .lp s o
  |e=>e) env
end Go.AL.SX
