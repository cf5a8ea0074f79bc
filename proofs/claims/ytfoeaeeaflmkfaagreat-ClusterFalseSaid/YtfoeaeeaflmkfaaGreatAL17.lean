/-
  AN ABSTRACT LOGIC OVER THE MODEL, part 17: an evaluator of code in small, for the kernel to reckon with: closed alternatives, small bodies.
-/
import Derived.Test.YtfoeaeeaflmkfaaGreatAL16
namespace Go.AL
noncomputable section
inductive VObj where
 |dead
 |obj (cs:List AVal)
 |row (sz:Nat) (cs:List AVal)
 |opn (n sz e:Nat)
 |map (kk:Option KeyK) (es:List (AVal × AVal))
 |iter (m:Nat) (kk:Option KeyK) (es left:List (AVal × AVal)) (cur:Option (AVal × AVal))
 |lent
structure VS where
 n:Nat
 g:Nat
 t:Tr VObj
abbrev VE:=Tr Ent
def eat (env:VE) (s:Nat):Ent:=Tr.get (.val .top) env s
def eput (env:VE) (s:Nat) (e:Ent):VE:=Tr.set (.val .top) env s e
def VS.at (V:VS) (i:Nat):VObj:=Tr.get .dead V.t i
def VS.put (V:VS) (i:Nat) (o:VObj):VS:=⟨V.n,V.g,Tr.set .dead V.t i o⟩
def VS.new (V:VS) (o:VObj):VS:=⟨Nat.add V.n 1,V.g,Tr.set .dead V.t V.n o⟩
inductive ER where
 |done (x:Ex) (env:VE) (V:VS)
 |bad
inductive FR where
 |got (a:AVal) (V:VS)
 |fail
def eoT (t:Nat) (e:Ent):Ent:=Ent.rec (fun a=>.val a) (fun _=>.lptr t 0) (fun s o=>.lptr s o) e
def eoTmp (t:Nat) (env:VE):Ent:=eoT t (eat env t)
def eoConst (a:AVal) (_:VE):Ent:=.val a
def eo (x:Opd):VE→Ent:=Opd.rec eoTmp eoConst x
def consO (a:AVal) (o:Option (List AVal)):Option (List AVal):=Option.rec none (fun as=>some (a::as)) o
def evalsC (ih:VE→Option (List AVal)) (env:VE):Ent→Option (List AVal):= @Ent.rec (fun _=>Option (List AVal)) (fun a=>consO a (ih env)) (fun _=>none) (fun _ _=>none)
def evals (l:List Opd):VE→Option (List AVal):=List.rec (fun _=>some []) (fun x _ ih env=>evalsC ih env (eo x env)) l
def setd (d:Option Nat) (e:Ent) (env:VE):VE:=Option.rec env (fun s=>eput env s e) d
def pow2:Nat→Nat:=Nat.pow 2
def kindMax (k:IntKind):Nat:=bif k.signed then Nat.pow 2 (Nat.sub k.bits 1)else Nat.pow 2 k.bits
def wrapP (k:IntKind) (n:Int) (m:Nat):Int:=bif Nat.blt m (kindMax k)then n else k.wrap n
def wrapN (k:IntKind) (n:Int) (m:Nat):Int:=bif k.signed&&Nat.blt m (kindMax k)then n else k.wrap n
def wrapF (k:IntKind) (n:Int):Int:=Int.rec (wrapP k n) (wrapN k n) n
def eqI:Int→Int→Bool
 |.ofNat a,.ofNat b=>Nat.beq a b
 |.negSucc a,.negSucc b=>Nat.beq a b
 |_,_=>false
def ltI:Int→Int→Bool
 |.ofNat a,.ofNat b=>Nat.blt a b
 |.negSucc a,.negSucc b=>Nat.blt b a
 |.negSucc _,.ofNat _=>true
 |.ofNat _,.negSucc _=>false
def addI:Int→Int→Int
 |.ofNat a,.ofNat b=>.ofNat (Nat.add a b)
 |a,b=>a+b
def subF (a b:Nat):Int:=bif Nat.ble b a then .ofNat (Nat.sub a b)else .negSucc (Nat.sub (Nat.sub b a) 1)
def subI:Int→Int→Int
 |.ofNat a,.ofNat b=>subF a b
 |a,b=>a-b
def vI (k:IntKind) (n:Int):Option AVal:=some (.int k n)
def vB (b:Bool):Option AVal:=some (.bool b)
def iAdd (k:IntKind) (a b:Int):Option AVal:=vI k (wrapF k (addI a b))
def iSub (k:IntKind) (a b:Int):Option AVal:=vI k (wrapF k (subI a b))
def iEql (_:IntKind) (a b:Int):Option AVal:=vB (eqI a b)
def iNeq (_:IntKind) (a b:Int):Option AVal:=vB (!eqI a b)
def iLss (_:IntKind) (a b:Int):Option AVal:=vB (ltI a b)
def iLeq (_:IntKind) (a b:Int):Option AVal:=vB (!ltI b a)
def iGtr (_:IntKind) (a b:Int):Option AVal:=vB (ltI b a)
def iGeq (_:IntKind) (a b:Int):Option AVal:=vB (!ltI a b)
def shrF:Int→Int→IntKind→Option AVal
 |.ofNat a,.ofNat b,k=>vI k (.ofNat (Nat.div a (Nat.pow 2 (bif Nat.ble b k.bits then b else k.bits))))
 |a,b,k=>intV .shr k a b
def iShr (k:IntKind) (a b:Int):Option AVal:=shrF a b k
def iOther (op:BinOp) (k:IntKind) (a b:Int):Option AVal:=intV op k a b
def intF:BinOp→IntKind→Int→Int→Option AVal:= @BinOp.rec (fun _=>IntKind→Int→Int→Option AVal) iAdd iSub (iOther .mul) (iOther .quo) (iOther .rem) (iOther .and) (iOther .or) (iOther .xor) (iOther .shl) iShr (iOther .andNot) iEql iNeq iLss iLeq iGtr iGeq
def eqB:List UInt8→List UInt8→Bool
 | [],[]=>true
 |a::as,b::bs=>bif Nat.beq a.toNat b.toNat then eqB as bs else false
 |_,_=>false
def sEql (a b:List UInt8):Option AVal:=vB (eqB a b)
def sNeq (a b:List UInt8):Option AVal:=vB (!eqB a b)
def sOther (op:BinOp) (a b:List UInt8):Option AVal:=strV op a b
def strF:BinOp→List UInt8→List UInt8→Option AVal:= @BinOp.rec (fun _=>List UInt8→List UInt8→Option AVal) (sOther .add) (sOther .sub) (sOther .mul) (sOther .quo) (sOther .rem) (sOther .and) (sOther .or) (sOther .xor) (sOther .shl) (sOther .shr) (sOther .andNot) sEql sNeq (sOther .lss) (sOther .leq) (sOther .gtr) (sOther .geq)
def cellEqF:AVal→AVal→Bool
 |.bool a,.bool b=>a==b
 |.int _ a,.int _ b=>eqI a b
 |.str a,.str b=>eqB a b
 |_,_=>false
def cellsEqF:List AVal→List AVal→Bool
 | [],[]=>true
 |a::as,b::bs=>bif cellEqF a b then cellsEqF as bs else false
 |_,_=>false
def keyEqF:AVal→AVal→Bool
 |.agg a,.agg b=>cellsEqF a b
 |a,b=>cellEqF a b
def skEq:SK→SK→Bool
 |.bool,.bool=>true
 |.int a,.int b=>decide (a=b)
 |.str,.str=>true
 |_,_=>false
def sksEq:List SK→List SK→Bool
 | [],[]=>true
 |a::as,b::bs=>bif skEq a b then sksEq as bs else false
 |_,_=>false
def kkEq:KeyK→KeyK→Bool
 |.one a,.one b=>skEq a b
 |.row a,.row b=>sksEq a b
 |_,_=>false
def mfindF (key:AVal):List (AVal × AVal)→Option AVal
 | []=>none
 |e::r=>bif keyEqF key e.1 then some e.2 else mfindF key r
def mputF (key v:AVal):List (AVal × AVal)→List (AVal × AVal)
 | []=>[(key,v)]
 |e::r=>bif keyEqF key e.1 then(key,v)::r else e::mputF key v r
def mdelF (key:AVal):List (AVal × AVal)→List (AVal × AVal)
 | []=>[]
 |e::r=>bif keyEqF key e.1 then r else e::mdelF key r
def toE (o:Option AVal):Option Ent:=Option.rec none (fun a=>some (.val a)) o
def nilE0:Ent→Option Ent
 |.val (.ptr b o)=>some (.val (.ptr b o))
 |.val (.sptr cs)=>some (.val (.sptr cs))
 |.lptr s o=>some (.lptr s o)
 |_=>none
def nilV:AVal→Option Ent:= @AVal.rec (fun _=>Option Ent) (fun _=>Unit)
 (none)
 (fun(_:Bool)=>none)
 (fun(_:IntKind) (_:Int)=>none)
 (fun(_:List UInt8)=>none)
 (none)
 (fun(b:Nat) (o:Nat)=>some (.val (.ptr b o)))
 (fun(cs:List AVal) (_:Unit)=>some (.val (.sptr cs)))
 (fun(_:List AVal) (_:Bool) (_:Option Nat) (_:Unit)=>none)
 (fun(_:Nat) (_:Nat)=>none)
 (fun(_:Nat) (_:Nat) (_:Nat) (_:Nat)=>none)
 (fun(_:List AVal) (_:Unit)=>none)
 (fun(_:List AVal) (_:Unit)=>none)
 (fun(_:TypeId) (_:AVal) (_:Option Ent)=>none)
 (none)
 (fun(_:Fn) (_:List AVal) (_:List AVal) (_:Unit) (_:Unit)=>none)
 (none)
 (fun(_:Option Nat)=>none)
 () (fun _ _ _ _=>())
def nilET:Ent→Option Ent:= @Ent.rec (fun _=>Option Ent) nilV (fun(_:List AVal)=>none) (fun(s:Nat) (o:Nat)=>some (.lptr s o))
def nilE:Ent→Option Ent:=fun e=>nilET e
def binI0 (op:BinOp) (k:IntKind) (a:Int):AVal→Option AVal
 |.int k' b=>bif sameK op k k' then intF op k a b else none
 |_=>none
def kEq_i8:IntKind→Bool:= @IntKind.rec (fun _=>Bool) true false false false false false false false
def kEq_i16:IntKind→Bool:= @IntKind.rec (fun _=>Bool) false true false false false false false false
def kEq_i32:IntKind→Bool:= @IntKind.rec (fun _=>Bool) false false true false false false false false
def kEq_i64:IntKind→Bool:= @IntKind.rec (fun _=>Bool) false false false true false false false false
def kEq_u8:IntKind→Bool:= @IntKind.rec (fun _=>Bool) false false false false true false false false
def kEq_u16:IntKind→Bool:= @IntKind.rec (fun _=>Bool) false false false false false true false false
def kEq_u32:IntKind→Bool:= @IntKind.rec (fun _=>Bool) false false false false false false true false
def kEq_u64:IntKind→Bool:= @IntKind.rec (fun _=>Bool) false false false false false false false true
def kEqF:IntKind→IntKind→Bool:= @IntKind.rec (fun _=>IntKind→Bool) kEq_i8 kEq_i16 kEq_i32 kEq_i64 kEq_u8 kEq_u16 kEq_u32 kEq_u64
def anyK (_ _:IntKind):Bool:=true
def sameKF:BinOp→IntKind→IntKind→Bool:= @BinOp.rec (fun _=>IntKind→IntKind→Bool) kEqF kEqF kEqF kEqF kEqF kEqF kEqF kEqF anyK anyK kEqF kEqF kEqF kEqF kEqF kEqF kEqF
def isIfaceQ:EqK→Bool:= @EqK.rec (fun _=>Bool) false false false true false false (fun _=>false) false
def binIV:AVal→BinOp→IntKind→Int→Option AVal:= @AVal.rec (fun _=>BinOp→IntKind→Int→Option AVal) (fun _=>Unit)
 (fun(_:BinOp) (_:IntKind) (_:Int)=>none)
 (fun(_:Bool)=>fun(_:BinOp) (_:IntKind) (_:Int)=>none)
 (fun(k2:IntKind) (b:Int)=>fun(op:BinOp) (k:IntKind) (a:Int)=>bif sameKF op k k2 then intF op k a b else none)
 (fun(_:List UInt8)=>fun(_:BinOp) (_:IntKind) (_:Int)=>none)
 (fun(_:BinOp) (_:IntKind) (_:Int)=>none)
 (fun(_:Nat) (_:Nat)=>fun(_:BinOp) (_:IntKind) (_:Int)=>none)
 (fun(_:List AVal) (_:Unit)=>fun(_:BinOp) (_:IntKind) (_:Int)=>none)
 (fun(_:List AVal) (_:Bool) (_:Option Nat) (_:Unit)=>fun(_:BinOp) (_:IntKind) (_:Int)=>none)
 (fun(_:Nat) (_:Nat)=>fun(_:BinOp) (_:IntKind) (_:Int)=>none)
 (fun(_:Nat) (_:Nat) (_:Nat) (_:Nat)=>fun(_:BinOp) (_:IntKind) (_:Int)=>none)
 (fun(_:List AVal) (_:Unit)=>fun(_:BinOp) (_:IntKind) (_:Int)=>none)
 (fun(_:List AVal) (_:Unit)=>fun(_:BinOp) (_:IntKind) (_:Int)=>none)
 (fun(_:TypeId) (_:AVal) (_:BinOp→IntKind→Int→Option AVal)=>fun(_:BinOp) (_:IntKind) (_:Int)=>none)
 (fun(_:BinOp) (_:IntKind) (_:Int)=>none)
 (fun(_:Fn) (_:List AVal) (_:List AVal) (_:Unit) (_:Unit)=>fun(_:BinOp) (_:IntKind) (_:Int)=>none)
 (fun(_:BinOp) (_:IntKind) (_:Int)=>none)
 (fun(_:Option Nat)=>fun(_:BinOp) (_:IntKind) (_:Int)=>none)
 () (fun _ _ _ _=>())
def binI (op:BinOp) (k:IntKind) (a:Int):AVal→Option AVal:=fun y=>binIV y op k a
def binS0 (op:BinOp) (a:List UInt8):AVal→Option AVal
 |.str b=>strF op a b
 |_=>none
def binSV:AVal→BinOp→List UInt8→Option AVal:= @AVal.rec (fun _=>BinOp→List UInt8→Option AVal) (fun _=>Unit)
 (fun(_:BinOp) (_:List UInt8)=>none)
 (fun(_:Bool)=>fun(_:BinOp) (_:List UInt8)=>none)
 (fun(_:IntKind) (_:Int)=>fun(_:BinOp) (_:List UInt8)=>none)
 (fun(b:List UInt8)=>fun(op:BinOp) (a:List UInt8)=>strF op a b)
 (fun(_:BinOp) (_:List UInt8)=>none)
 (fun(_:Nat) (_:Nat)=>fun(_:BinOp) (_:List UInt8)=>none)
 (fun(_:List AVal) (_:Unit)=>fun(_:BinOp) (_:List UInt8)=>none)
 (fun(_:List AVal) (_:Bool) (_:Option Nat) (_:Unit)=>fun(_:BinOp) (_:List UInt8)=>none)
 (fun(_:Nat) (_:Nat)=>fun(_:BinOp) (_:List UInt8)=>none)
 (fun(_:Nat) (_:Nat) (_:Nat) (_:Nat)=>fun(_:BinOp) (_:List UInt8)=>none)
 (fun(_:List AVal) (_:Unit)=>fun(_:BinOp) (_:List UInt8)=>none)
 (fun(_:List AVal) (_:Unit)=>fun(_:BinOp) (_:List UInt8)=>none)
 (fun(_:TypeId) (_:AVal) (_:BinOp→List UInt8→Option AVal)=>fun(_:BinOp) (_:List UInt8)=>none)
 (fun(_:BinOp) (_:List UInt8)=>none)
 (fun(_:Fn) (_:List AVal) (_:List AVal) (_:Unit) (_:Unit)=>fun(_:BinOp) (_:List UInt8)=>none)
 (fun(_:BinOp) (_:List UInt8)=>none)
 (fun(_:Option Nat)=>fun(_:BinOp) (_:List UInt8)=>none)
 () (fun _ _ _ _=>())
def binS (op:BinOp) (a:List UInt8):AVal→Option AVal:=fun y=>binSV y op a
def eqOf0 (op:BinOp) (t:Option Bool):Option AVal:=match op with
 |.eql=>Option.rec none (fun t=>vB t) t
 |.neq=>Option.rec none (fun t=>vB (!t)) t
 |_=>none
def eqT (t:Option Bool):Option AVal:=Option.rec none (fun t=>vB t) t
def eqN (t:Option Bool):Option AVal:=Option.rec none (fun t=>vB (!t)) t
def noB (_:Option Bool):Option AVal:=none
def eqOf:BinOp→Option Bool→Option AVal:= @BinOp.rec (fun _=>Option Bool→Option AVal) noB noB noB noB noB noB noB noB noB noB noB eqT eqN noB noB noB noB
def flatF (ss:List SK) (a b:List AVal):Option Bool:=bif rowIs ss a&&rowIs ss b then some (cellsEqF a b)else none
def rawGt (op:BinOp) (n:Nat) (k:IntKind) (z:Int):Option AVal:=match op,k,z with
 |.gtr,.i64,.ofNat m=>bif Nat.beq n 1&&Nat.beq m 0 then some (.bool true)else none
 |_,_,_=>none
def binV20 (op:BinOp) (q:EqK) (lit:Bool):AVal→AVal→Option AVal
 |.int k a,y=>binI op k a y
 |.str a,y=>binS op a y
 |.nilI,.nilI=>bif lit then(match q with
  |.iface=>eqOf op (some true)
  |_=>none)else none
 |.bool a,.bool b=>match q with
  |.bool=>eqOf op (some (a==b))
  |_=>none
 |.nilP,.nilP=>match q with
  |.pointer=>eqOf op (some true)
  |_=>none
 |.nilP,.ptr _ _=>match q with
  |.pointer=>eqOf op (some false)
  |_=>none
 |.nilP,.sptr _=>match q with
  |.pointer=>eqOf op (some false)
  |_=>none
 |.ptr _ _,.nilP=>match q with
  |.pointer=>eqOf op (some false)
  |_=>none
 |.sptr _,.nilP=>match q with
  |.pointer=>eqOf op (some false)
  |_=>none
 |.slice _ nl _,.slice [] true none=>match q with
  |.slice=>eqOf op (some nl)
  |_=>none
 |.ref _ _ _ _,.slice [] true none=>match q with
  |.slice=>eqOf op (some false)
  |_=>none
 |.iface _ _,.nilI=>match q with
  |.iface=>eqOf op (some false)
  |_=>none
 |.func _ _ _,.nilF=>match q with
  |.func=>eqOf op (some false)
  |_=>none
 |.nilF,.nilF=>match q with
  |.func=>eqOf op (some true)
  |_=>none
 |.map none,.map none=>match q with
  |.map=>eqOf op (some true)
  |_=>none
 |.map (some _),.map none=>match q with
  |.map=>eqOf op (some false)
  |_=>none
 |.agg a,.agg b=>match q with
  |.flat ss=>eqOf op (flatF ss a b)
  |_=>none
 |.raw _ n,.int k z=>rawGt op n k z
 |_,_=>none
def binIf:AVal→BinOp→EqK→Option AVal:= @AVal.rec (fun _=>BinOp→EqK→Option AVal) (fun _=>Unit)
 (fun(_:BinOp) (_:EqK)=>none)
 (fun(_:Bool)=>fun(_:BinOp) (_:EqK)=>none)
 (fun(_:IntKind) (_:Int)=>fun(_:BinOp) (_:EqK)=>none)
 (fun(_:List UInt8)=>fun(_:BinOp) (_:EqK)=>none)
 (fun(_:BinOp) (_:EqK)=>none)
 (fun(_:Nat) (_:Nat)=>fun(_:BinOp) (_:EqK)=>none)
 (fun(_:List AVal) (_:Unit)=>fun(_:BinOp) (_:EqK)=>none)
 (fun(_:List AVal) (_:Bool) (_:Option Nat) (_:Unit)=>fun(_:BinOp) (_:EqK)=>none)
 (fun(_:Nat) (_:Nat)=>fun(_:BinOp) (_:EqK)=>none)
 (fun(_:Nat) (_:Nat) (_:Nat) (_:Nat)=>fun(_:BinOp) (_:EqK)=>none)
 (fun(_:List AVal) (_:Unit)=>fun(_:BinOp) (_:EqK)=>none)
 (fun(_:List AVal) (_:Unit)=>fun(_:BinOp) (_:EqK)=>none)
 (fun(_:TypeId) (_:AVal) (_:BinOp→EqK→Option AVal)=>fun(_:BinOp) (_:EqK)=>none)
 (fun(op:BinOp) (q:EqK)=>bif isIfaceQ q then eqOf op (some false)else none)
 (fun(_:Fn) (_:List AVal) (_:List AVal) (_:Unit) (_:Unit)=>fun(_:BinOp) (_:EqK)=>none)
 (fun(_:BinOp) (_:EqK)=>none)
 (fun(_:Option Nat)=>fun(_:BinOp) (_:EqK)=>none)
 () (fun _ _ _ _=>())
def binNi:AVal→BinOp→EqK→Bool→Option AVal:= @AVal.rec (fun _=>BinOp→EqK→Bool→Option AVal) (fun _=>Unit)
 (fun(_:BinOp) (_:EqK) (_:Bool)=>none)
 (fun(_:Bool)=>fun(_:BinOp) (_:EqK) (_:Bool)=>none)
 (fun(_:IntKind) (_:Int)=>fun(_:BinOp) (_:EqK) (_:Bool)=>none)
 (fun(_:List UInt8)=>fun(_:BinOp) (_:EqK) (_:Bool)=>none)
 (fun(_:BinOp) (_:EqK) (_:Bool)=>none)
 (fun(_:Nat) (_:Nat)=>fun(_:BinOp) (_:EqK) (_:Bool)=>none)
 (fun(_:List AVal) (_:Unit)=>fun(_:BinOp) (_:EqK) (_:Bool)=>none)
 (fun(_:List AVal) (_:Bool) (_:Option Nat) (_:Unit)=>fun(_:BinOp) (_:EqK) (_:Bool)=>none)
 (fun(_:Nat) (_:Nat)=>fun(_:BinOp) (_:EqK) (_:Bool)=>none)
 (fun(_:Nat) (_:Nat) (_:Nat) (_:Nat)=>fun(_:BinOp) (_:EqK) (_:Bool)=>none)
 (fun(_:List AVal) (_:Unit)=>fun(_:BinOp) (_:EqK) (_:Bool)=>none)
 (fun(_:List AVal) (_:Unit)=>fun(_:BinOp) (_:EqK) (_:Bool)=>none)
 (fun(_:TypeId) (_:AVal) (_:BinOp→EqK→Bool→Option AVal)=>fun(_:BinOp) (_:EqK) (_:Bool)=>none)
 (fun(op:BinOp) (q:EqK) (lit:Bool)=>bif lit then(bif isIfaceQ q then eqOf op (some true)else none)else none)
 (fun(_:Fn) (_:List AVal) (_:List AVal) (_:Unit) (_:Unit)=>fun(_:BinOp) (_:EqK) (_:Bool)=>none)
 (fun(_:BinOp) (_:EqK) (_:Bool)=>none)
 (fun(_:Option Nat)=>fun(_:BinOp) (_:EqK) (_:Bool)=>none)
 () (fun _ _ _ _=>())
def binVT:AVal→BinOp→EqK→Bool→AVal→Option AVal:= @AVal.rec (fun _=>BinOp→EqK→Bool→AVal→Option AVal) (fun _=>Unit)
 (fun(op:BinOp) (q:EqK) (lit:Bool) (y:AVal)=>binV20 op q lit (.top) y)
 (fun(z0:Bool)=>fun(op:BinOp) (q:EqK) (lit:Bool) (y:AVal)=>binV20 op q lit (.bool z0) y)
 (fun(k:IntKind) (a:Int)=>fun(op:BinOp) (_:EqK) (_:Bool) (y:AVal)=>binI op k a y)
 (fun(a:List UInt8)=>fun(op:BinOp) (_:EqK) (_:Bool) (y:AVal)=>binS op a y)
 (fun(op:BinOp) (q:EqK) (lit:Bool) (y:AVal)=>binV20 op q lit (.nilP) y)
 (fun(z0:Nat) (z1:Nat)=>fun(op:BinOp) (q:EqK) (lit:Bool) (y:AVal)=>binV20 op q lit (.ptr z0 z1) y)
 (fun(z0:List AVal) (_:Unit)=>fun(op:BinOp) (q:EqK) (lit:Bool) (y:AVal)=>binV20 op q lit (.sptr z0) y)
 (fun(z0:List AVal) (z1:Bool) (z2:Option Nat) (_:Unit)=>fun(op:BinOp) (q:EqK) (lit:Bool) (y:AVal)=>binV20 op q lit (.slice z0 z1 z2) y)
 (fun(z0:Nat) (z1:Nat)=>fun(op:BinOp) (q:EqK) (lit:Bool) (y:AVal)=>binV20 op q lit (.raw z0 z1) y)
 (fun(z0:Nat) (z1:Nat) (z2:Nat) (z3:Nat)=>fun(op:BinOp) (q:EqK) (lit:Bool) (y:AVal)=>binV20 op q lit (.ref z0 z1 z2 z3) y)
 (fun(z0:List AVal) (_:Unit)=>fun(op:BinOp) (q:EqK) (lit:Bool) (y:AVal)=>binV20 op q lit (.agg z0) y)
 (fun(z0:List AVal) (_:Unit)=>fun(op:BinOp) (q:EqK) (lit:Bool) (y:AVal)=>binV20 op q lit (.tuple z0) y)
 (fun(_:TypeId) (_:AVal) (_:BinOp→EqK→Bool→AVal→Option AVal)=>fun(op:BinOp) (q:EqK) (_:Bool) (y:AVal)=>binIf y op q)
 (fun(op:BinOp) (q:EqK) (lit:Bool) (y:AVal)=>binNi y op q lit)
 (fun(z0:Fn) (z1:List AVal) (z2:List AVal) (_:Unit) (_:Unit)=>fun(op:BinOp) (q:EqK) (lit:Bool) (y:AVal)=>binV20 op q lit (.func z0 z1 z2) y)
 (fun(op:BinOp) (q:EqK) (lit:Bool) (y:AVal)=>binV20 op q lit (.nilF) y)
 (fun(z0:Option Nat)=>fun(op:BinOp) (q:EqK) (lit:Bool) (y:AVal)=>binV20 op q lit (.map z0) y)
 () (fun _ _ _ _=>())
def binV2 (op:BinOp) (q:EqK) (lit:Bool) (x y:AVal):Option AVal:=binVT x op q lit y
def binE0 (op:BinOp) (q:EqK) (lit:Bool):Ent→Ent→Option Ent
 |.val x,.val y=>toE (binV2 op q lit x y)
 |.lptr _ _,.val .nilP=>match q with
  |.pointer=>toE (eqOf op (some false))
  |_=>none
 |_,_=>none
def binET2:Ent→BinOp→EqK→Bool→AVal→Option Ent:= @Ent.rec (fun _=>BinOp→EqK→Bool→AVal→Option Ent) (fun y op q lit x=>toE (binV2 op q lit x y)) (fun _ _ _ _ _=>none) (fun _ _ _ _ _ _=>none)
def binET:Ent→BinOp→EqK→Bool→Ent→Option Ent:= @Ent.rec (fun _=>BinOp→EqK→Bool→Ent→Option Ent) (fun x op q lit y=>binET2 y op q lit x) (fun _ _ _ _ _=>none) (fun s o op q lit y=>binE0 op q lit (.lptr s o) y)
def binE (op:BinOp) (q:EqK) (lit:Bool):Ent→Ent→Option Ent:=fun x y=>binET x op q lit y
def notE0:Ent→Option Ent
 |.val (.bool b)=>some (.val (.bool (!b)))
 |_=>none
def notV:AVal→Option Ent:= @AVal.rec (fun _=>Option Ent) (fun _=>Unit)
 (none)
 (fun(b:Bool)=>some (.val (.bool (!b))))
 (fun(_:IntKind) (_:Int)=>none)
 (fun(_:List UInt8)=>none)
 (none)
 (fun(_:Nat) (_:Nat)=>none)
 (fun(_:List AVal) (_:Unit)=>none)
 (fun(_:List AVal) (_:Bool) (_:Option Nat) (_:Unit)=>none)
 (fun(_:Nat) (_:Nat)=>none)
 (fun(_:Nat) (_:Nat) (_:Nat) (_:Nat)=>none)
 (fun(_:List AVal) (_:Unit)=>none)
 (fun(_:List AVal) (_:Unit)=>none)
 (fun(_:TypeId) (_:AVal) (_:Option Ent)=>none)
 (none)
 (fun(_:Fn) (_:List AVal) (_:List AVal) (_:Unit) (_:Unit)=>none)
 (none)
 (fun(_:Option Nat)=>none)
 () (fun _ _ _ _=>())
def notET:Ent→Option Ent:= @Ent.rec (fun _=>Option Ent) notV (fun(_:List AVal)=>none) (fun(_:Nat) (_:Nat)=>none)
def notE:Ent→Option Ent:=fun e=>notET e
def convE0 (k:IntKind):Ent→Option Ent
 |.val (.int _ n)=>some (.val (.int k (wrapF k n)))
 |_=>none
def convV:AVal→IntKind→Option Ent:= @AVal.rec (fun _=>IntKind→Option Ent) (fun _=>Unit)
 (fun(_:IntKind)=>none)
 (fun(_:Bool)=>fun(_:IntKind)=>none)
 (fun(_:IntKind) (n:Int)=>fun(k:IntKind)=>some (.val (.int k (wrapF k n))))
 (fun(_:List UInt8)=>fun(_:IntKind)=>none)
 (fun(_:IntKind)=>none)
 (fun(_:Nat) (_:Nat)=>fun(_:IntKind)=>none)
 (fun(_:List AVal) (_:Unit)=>fun(_:IntKind)=>none)
 (fun(_:List AVal) (_:Bool) (_:Option Nat) (_:Unit)=>fun(_:IntKind)=>none)
 (fun(_:Nat) (_:Nat)=>fun(_:IntKind)=>none)
 (fun(_:Nat) (_:Nat) (_:Nat) (_:Nat)=>fun(_:IntKind)=>none)
 (fun(_:List AVal) (_:Unit)=>fun(_:IntKind)=>none)
 (fun(_:List AVal) (_:Unit)=>fun(_:IntKind)=>none)
 (fun(_:TypeId) (_:AVal) (_:IntKind→Option Ent)=>fun(_:IntKind)=>none)
 (fun(_:IntKind)=>none)
 (fun(_:Fn) (_:List AVal) (_:List AVal) (_:Unit) (_:Unit)=>fun(_:IntKind)=>none)
 (fun(_:IntKind)=>none)
 (fun(_:Option Nat)=>fun(_:IntKind)=>none)
 () (fun _ _ _ _=>())
def convET:Ent→IntKind→Option Ent:= @Ent.rec (fun _=>IntKind→Option Ent) convV (fun(_:List AVal)=>fun(_:IntKind)=>none) (fun(_:Nat) (_:Nat)=>fun(_:IntKind)=>none)
def convE (k:IntKind):Ent→Option Ent:=fun e=>convET e k
def sameE:Ent→Option Ent
 |.val (.str s)=>some (.val (.str s))
 |_=>none
def ifaceE (t:Nat):Ent→Option Ent
 |.val a=>some (.val (.iface t a))
 |_=>none
def mkF2 (fn:Fn) (f:List AVal):Option (List AVal)→Option Ent
 |some c=>some (.val (.func fn f c))
 |none=>none
def mkF1 (fn:Fn) (c:Option (List AVal)):Option (List AVal)→Option Ent
 |some f=>mkF2 fn f c
 |none=>none
def foffE0 (off:Nat):Ent→Option Ent
 |.val (.ptr b o)=>some (.val (.ptr b (Nat.add o off)))
 |.val (.sptr cs)=>some (.val (.sptr (cs.drop off)))
 |.lptr s o=>some (.lptr s (Nat.add o off))
 |_=>none
def foffV:AVal→Nat→Option Ent:= @AVal.rec (fun _=>Nat→Option Ent) (fun _=>Unit)
 (fun(_:Nat)=>none)
 (fun(_:Bool)=>fun(_:Nat)=>none)
 (fun(_:IntKind) (_:Int)=>fun(_:Nat)=>none)
 (fun(_:List UInt8)=>fun(_:Nat)=>none)
 (fun(_:Nat)=>none)
 (fun(b:Nat) (o:Nat)=>fun(off:Nat)=>some (.val (.ptr b (Nat.add o off))))
 (fun(cs:List AVal) (_:Unit)=>fun(off:Nat)=>some (.val (.sptr (cs.drop off))))
 (fun(_:List AVal) (_:Bool) (_:Option Nat) (_:Unit)=>fun(_:Nat)=>none)
 (fun(_:Nat) (_:Nat)=>fun(_:Nat)=>none)
 (fun(_:Nat) (_:Nat) (_:Nat) (_:Nat)=>fun(_:Nat)=>none)
 (fun(_:List AVal) (_:Unit)=>fun(_:Nat)=>none)
 (fun(_:List AVal) (_:Unit)=>fun(_:Nat)=>none)
 (fun(_:TypeId) (_:AVal) (_:Nat→Option Ent)=>fun(_:Nat)=>none)
 (fun(_:Nat)=>none)
 (fun(_:Fn) (_:List AVal) (_:List AVal) (_:Unit) (_:Unit)=>fun(_:Nat)=>none)
 (fun(_:Nat)=>none)
 (fun(_:Option Nat)=>fun(_:Nat)=>none)
 () (fun _ _ _ _=>())
def foffET:Ent→Nat→Option Ent:= @Ent.rec (fun _=>Nat→Option Ent) foffV (fun(_:List AVal)=>fun(_:Nat)=>none) (fun(s:Nat) (o:Nat)=>fun(off:Nat)=>some (.lptr s (Nat.add o off)))
def foffE (off:Nat):Ent→Option Ent:=fun e=>foffET e off
def aidxE2 (n sz:Nat) (x:Ent):Int→Option Ent
 |.ofNat j=>bif Nat.blt j n then foffE (Nat.mul j sz) x else none
 |_=>none
def aidxE (n sz:Nat) (x:Ent):Ent→Option Ent
 |.val (.int _ j)=>aidxE2 n sz x j
 |_=>none
def arrE (n:Nat):Ent→Option Ent
 |.val (.ptr b o)=>bif Nat.ble n maxLen&&Nat.blt 0 n then some (.val (.ref b o n (Nat.mul 2 n)))else none
 |_=>none
def negE:Ent→Option Ent
 |.val (.int k n)=>some (.val (.int k (wrapF k (0-n))))
 |_=>none
def nthV:List AVal→Nat→Option AVal:= @List.rec AVal (fun _=>Nat→Option AVal) (fun _=>none) (fun x _ ih n=> @Nat.rec (fun _=>Option AVal) (some x) (fun m _=>ih m) n)
def extE0 (i:Nat):Ent→Option Ent
 |.val (.tuple vs)=>toE (nthV vs i)
 |_=>none
def extV:AVal→Nat→Option Ent:= @AVal.rec (fun _=>Nat→Option Ent) (fun _=>Unit)
 (fun(_:Nat)=>none)
 (fun(_:Bool)=>fun(_:Nat)=>none)
 (fun(_:IntKind) (_:Int)=>fun(_:Nat)=>none)
 (fun(_:List UInt8)=>fun(_:Nat)=>none)
 (fun(_:Nat)=>none)
 (fun(_:Nat) (_:Nat)=>fun(_:Nat)=>none)
 (fun(_:List AVal) (_:Unit)=>fun(_:Nat)=>none)
 (fun(_:List AVal) (_:Bool) (_:Option Nat) (_:Unit)=>fun(_:Nat)=>none)
 (fun(_:Nat) (_:Nat)=>fun(_:Nat)=>none)
 (fun(_:Nat) (_:Nat) (_:Nat) (_:Nat)=>fun(_:Nat)=>none)
 (fun(_:List AVal) (_:Unit)=>fun(_:Nat)=>none)
 (fun(vs:List AVal) (_:Unit)=>fun(i:Nat)=>toE (nthV vs i))
 (fun(_:TypeId) (_:AVal) (_:Nat→Option Ent)=>fun(_:Nat)=>none)
 (fun(_:Nat)=>none)
 (fun(_:Fn) (_:List AVal) (_:List AVal) (_:Unit) (_:Unit)=>fun(_:Nat)=>none)
 (fun(_:Nat)=>none)
 (fun(_:Option Nat)=>fun(_:Nat)=>none)
 () (fun _ _ _ _=>())
def extET:Ent→Nat→Option Ent:= @Ent.rec (fun _=>Nat→Option Ent) extV (fun(_:List AVal)=>fun(_:Nat)=>none) (fun(_:Nat) (_:Nat)=>fun(_:Nat)=>none)
def extE (i:Nat):Ent→Option Ent:=fun e=>extET e i
def takeN:Nat→List AVal→Option (List AVal):= @Nat.rec (fun _=>List AVal→Option (List AVal)) (fun _=>some []) (fun _ ih=> @List.rec AVal (fun _=>Option (List AVal)) none (fun x xs _=>consO x (ih xs)))
def headO:List AVal→Option AVal:= @List.rec AVal (fun _=>Option AVal) none (fun x _ _=>some x)
def aggO (o:Option (List AVal)):Option AVal:=Option.rec none (fun cs=>some (.agg cs)) o
def atO {β:Type} (f:List AVal→Option β) (o:Nat):List AVal→Option β:=Nat.rec f (fun _ ih cs=>List.rec none (fun _ cs _=>ih cs) cs) o
def partOf (agg:Bool) (n:Nat) (cs:List AVal):Option AVal:=bif agg then aggO (takeN n cs)else bif Nat.beq n 1 then headO cs else none
def partAt (agg:Bool) (n:Nat) (o:Nat):List AVal→Option AVal:=atO (partOf agg n) o
def fieldE0 (off n:Nat) (agg:Bool):Ent→Option Ent
 |.val (.agg cs)=>toE (partAt agg n off cs)
 |_=>none
def fieldV:AVal→Nat→Nat→Bool→Option Ent:= @AVal.rec (fun _=>Nat→Nat→Bool→Option Ent) (fun _=>Unit)
 (fun(_:Nat) (_:Nat) (_:Bool)=>none)
 (fun(_:Bool)=>fun(_:Nat) (_:Nat) (_:Bool)=>none)
 (fun(_:IntKind) (_:Int)=>fun(_:Nat) (_:Nat) (_:Bool)=>none)
 (fun(_:List UInt8)=>fun(_:Nat) (_:Nat) (_:Bool)=>none)
 (fun(_:Nat) (_:Nat) (_:Bool)=>none)
 (fun(_:Nat) (_:Nat)=>fun(_:Nat) (_:Nat) (_:Bool)=>none)
 (fun(_:List AVal) (_:Unit)=>fun(_:Nat) (_:Nat) (_:Bool)=>none)
 (fun(_:List AVal) (_:Bool) (_:Option Nat) (_:Unit)=>fun(_:Nat) (_:Nat) (_:Bool)=>none)
 (fun(_:Nat) (_:Nat)=>fun(_:Nat) (_:Nat) (_:Bool)=>none)
 (fun(_:Nat) (_:Nat) (_:Nat) (_:Nat)=>fun(_:Nat) (_:Nat) (_:Bool)=>none)
 (fun(cs:List AVal) (_:Unit)=>fun(off:Nat) (n:Nat) (agg:Bool)=>toE (partAt agg n off cs))
 (fun(_:List AVal) (_:Unit)=>fun(_:Nat) (_:Nat) (_:Bool)=>none)
 (fun(_:TypeId) (_:AVal) (_:Nat→Nat→Bool→Option Ent)=>fun(_:Nat) (_:Nat) (_:Bool)=>none)
 (fun(_:Nat) (_:Nat) (_:Bool)=>none)
 (fun(_:Fn) (_:List AVal) (_:List AVal) (_:Unit) (_:Unit)=>fun(_:Nat) (_:Nat) (_:Bool)=>none)
 (fun(_:Nat) (_:Nat) (_:Bool)=>none)
 (fun(_:Option Nat)=>fun(_:Nat) (_:Nat) (_:Bool)=>none)
 () (fun _ _ _ _=>())
def fieldET:Ent→Nat→Nat→Bool→Option Ent:= @Ent.rec (fun _=>Nat→Nat→Bool→Option Ent) fieldV (fun(_:List AVal)=>fun(_:Nat) (_:Nat) (_:Bool)=>none) (fun(_:Nat) (_:Nat)=>fun(_:Nat) (_:Nat) (_:Bool)=>none)
def fieldE (off:Nat) (n:Nat) (agg:Bool):Ent→Option Ent:=fun e=>fieldET e off n agg
def over:List AVal→List AVal→List AVal:= @List.rec AVal (fun _=>List AVal→List AVal) (fun cs=>cs) (fun v _ ih=> @List.rec AVal (fun _=>List AVal) [] (fun _ cs _=>v::ih cs))
def putAt:Nat→List AVal→List AVal→List AVal:= @Nat.rec (fun _=>List AVal→List AVal→List AVal) over (fun _ ih vs=> @List.rec AVal (fun _=>List AVal) [] (fun c cs _=>c::ih vs cs))
def lenIs:Nat→List AVal→Bool:= @Nat.rec (fun _=>List AVal→Bool) (@List.rec AVal (fun _=>Bool) true (fun _ _ _=>false)) (fun _ ih=> @List.rec AVal (fun _=>Bool) false (fun _ xs _=>ih xs))
def cellsC:AVal→List AVal:= @AVal.rec (fun _=>List AVal) (fun _=>Unit)
 ([(.top)])
 (fun(z0:Bool)=>[(.bool z0)])
 (fun(z0:IntKind) (z1:Int)=>[(.int z0 z1)])
 (fun(z0:List UInt8)=>[(.str z0)])
 ([(.nilP)])
 (fun(z0:Nat) (z1:Nat)=>[(.ptr z0 z1)])
 (fun(z0:List AVal) (_:Unit)=>[(.sptr z0)])
 (fun(z0:List AVal) (z1:Bool) (z2:Option Nat) (_:Unit)=>[(.slice z0 z1 z2)])
 (fun(z0:Nat) (z1:Nat)=>[(.raw z0 z1)])
 (fun(z0:Nat) (z1:Nat) (z2:Nat) (z3:Nat)=>[(.ref z0 z1 z2 z3)])
 (fun(cs:List AVal) (_:Unit)=>cs)
 (fun(z0:List AVal) (_:Unit)=>[(.tuple z0)])
 (fun(z0:TypeId) (z1:AVal) (_:List AVal)=>[(.iface z0 z1)])
 ([(.nilI)])
 (fun(z0:Fn) (z1:List AVal) (z2:List AVal) (_:Unit) (_:Unit)=>[(.func z0 z1 z2)])
 ([(.nilF)])
 (fun(z0:Option Nat)=>[(.map z0)])
 () (fun _ _ _ _=>())
def cellsOkV:AVal→Nat→Bool:= @AVal.rec (fun _=>Nat→Bool) (fun _=>Unit)
 (fun(_:Nat)=>false)
 (fun(_:Bool)=>fun(n:Nat)=>Nat.beq n 1)
 (fun(_:IntKind) (_:Int)=>fun(n:Nat)=>Nat.beq n 1)
 (fun(_:List UInt8)=>fun(n:Nat)=>Nat.beq n 1)
 (fun(n:Nat)=>Nat.beq n 1)
 (fun(_:Nat) (_:Nat)=>fun(n:Nat)=>Nat.beq n 1)
 (fun(_:List AVal) (_:Unit)=>fun(n:Nat)=>Nat.beq n 1)
 (fun(_:List AVal) (_:Bool) (_:Option Nat) (_:Unit)=>fun(n:Nat)=>Nat.beq n 1)
 (fun(_:Nat) (_:Nat)=>fun(n:Nat)=>Nat.beq n 1)
 (fun(_:Nat) (_:Nat) (_:Nat) (_:Nat)=>fun(n:Nat)=>Nat.beq n 1)
 (fun(cs:List AVal) (_:Unit)=>fun(n:Nat)=>bif lenIs n cs then cs.all AVal.one else false)
 (fun(_:List AVal) (_:Unit)=>fun(_:Nat)=>false)
 (fun(_:TypeId) (_:AVal) (_:Nat→Bool)=>fun(n:Nat)=>Nat.beq n 1)
 (fun(n:Nat)=>Nat.beq n 1)
 (fun(_:Fn) (_:List AVal) (_:List AVal) (_:Unit) (_:Unit)=>fun(n:Nat)=>Nat.beq n 1)
 (fun(n:Nat)=>Nat.beq n 1)
 (fun(_:Option Nat)=>fun(n:Nat)=>Nat.beq n 1)
 () (fun _ _ _ _=>())
def cellsOk (n:Nat) (v:AVal):Bool:=cellsOkV v n
def fits (n:Nat) (cs:List AVal):Bool:=Option.rec false (fun _=>true) (takeN n cs)
def fillE:List AVal→List (Nat × Nat × Opd)→VE→Option (List AVal)
 |cs,[],_=>some cs
 |cs,(o,n,x)::r,env=>match eo x env with
  |.val v=>bif cellsOk n v&&fits (Nat.add o n) cs then fillE (putAt o v.cells cs) r env else none
  |_=>none
def buildE (cells:List AVal) (ps:List (Nat × Nat × Opd)) (env:VE):Option Ent:=toE (aggO (fillE cells ps env))
def elemAt (v:AVal):Nat→List AVal→List AVal
 |_,[]=>[]
 |0,_::xs=>v::xs
 |n+1,x::xs=>x::elemAt v n xs
def setE (sz:Nat):List AVal→List (Nat × Opd)→VE→Option (List AVal)
 |xs,[],_=>some xs
 |xs,(i,x)::r,env=>match eo x env with
  |.val v=>bif cellsOk sz v&&fits (Nat.add i 1) xs then setE sz (elemAt v i xs) r env else none
  |_=>none
def sliceO (o:Option (List AVal)):Option Ent:=Option.rec none (fun xs=>some (.val (.slice xs false none))) o
def lenF:List AVal→Nat→Nat:= @List.rec AVal (fun _=>Nat→Nat) (fun n=>n) (fun _ _ ih n=>ih (Nat.add n 1))
def rawLen (i n:Nat):Option Ent:=bif Nat.beq n 2 then some (.val (.raw i 1))else none
def lenE0:Ent→Option Ent
 |.val (.slice xs _ _)=>some (.val (.int .i64 (.ofNat (lenF xs 0))))
 |.val (.ref _ _ n _)=>some (.val (.int .i64 (.ofNat n)))
 |.val (.raw i n)=>rawLen i n
 |_=>none
def lenV:AVal→Option Ent:= @AVal.rec (fun _=>Option Ent) (fun _=>Unit)
 (none)
 (fun(_:Bool)=>none)
 (fun(_:IntKind) (_:Int)=>none)
 (fun(_:List UInt8)=>none)
 (none)
 (fun(_:Nat) (_:Nat)=>none)
 (fun(_:List AVal) (_:Unit)=>none)
 (fun(xs:List AVal) (_:Bool) (_:Option Nat) (_:Unit)=>some (.val (.int .i64 (.ofNat (lenF xs 0)))))
 (fun(i:Nat) (n:Nat)=>rawLen i n)
 (fun(_:Nat) (_:Nat) (n:Nat) (_:Nat)=>some (.val (.int .i64 (.ofNat n))))
 (fun(_:List AVal) (_:Unit)=>none)
 (fun(_:List AVal) (_:Unit)=>none)
 (fun(_:TypeId) (_:AVal) (_:Option Ent)=>none)
 (none)
 (fun(_:Fn) (_:List AVal) (_:List AVal) (_:Unit) (_:Unit)=>none)
 (none)
 (fun(_:Option Nat)=>none)
 () (fun _ _ _ _=>())
def lenET:Ent→Option Ent:= @Ent.rec (fun _=>Option Ent) lenV (fun(_:List AVal)=>none) (fun(_:Nat) (_:Nat)=>none)
def lenE:Ent→Option Ent:=fun e=>lenET e
def lenB:List UInt8→Nat→Nat
 | [],n=>n
 |_::xs,n=>lenB xs (Nat.add n 1)
def lenSE:Ent→Option Ent
 |.val (.str s)=>some (.val (.int .i64 (.ofNat (lenB s 0))))
 |_=>none
def minE:Ent→Ent→Option Ent
 |.val (.int k a),.val (.int _ b)=>some (.val (.int k (bif ltI b a then b else a)))
 |_,_=>none
def maxE:Ent→Ent→Option Ent
 |.val (.int k a),.val (.int _ b)=>some (.val (.int k (bif ltI a b then b else a)))
 |_,_=>none
def maxI (a b:Int):Int:=bif ltI a b then b else a
def max3E:Ent→Ent→Ent→Option Ent
 |.val (.int k a),.val (.int _ b),.val (.int _ c)=>some (.val (.int k (maxI (maxI a b) c)))
 |_,_,_=>none
def pickE0 (a b:Opd) (env:VE):Ent→Option Ent
 |.val (.bool t)=>some (bif t then eo a env else eo b env)
 |_=>none
def pickV:AVal→Opd→Opd→VE→Option Ent:= @AVal.rec (fun _=>Opd→Opd→VE→Option Ent) (fun _=>Unit)
 (fun(_:Opd) (_:Opd) (_:VE)=>none)
 (fun(t:Bool)=>fun(a:Opd) (b:Opd) (env:VE)=>some (bif t then eo a env else eo b env))
 (fun(_:IntKind) (_:Int)=>fun(_:Opd) (_:Opd) (_:VE)=>none)
 (fun(_:List UInt8)=>fun(_:Opd) (_:Opd) (_:VE)=>none)
 (fun(_:Opd) (_:Opd) (_:VE)=>none)
 (fun(_:Nat) (_:Nat)=>fun(_:Opd) (_:Opd) (_:VE)=>none)
 (fun(_:List AVal) (_:Unit)=>fun(_:Opd) (_:Opd) (_:VE)=>none)
 (fun(_:List AVal) (_:Bool) (_:Option Nat) (_:Unit)=>fun(_:Opd) (_:Opd) (_:VE)=>none)
 (fun(_:Nat) (_:Nat)=>fun(_:Opd) (_:Opd) (_:VE)=>none)
 (fun(_:Nat) (_:Nat) (_:Nat) (_:Nat)=>fun(_:Opd) (_:Opd) (_:VE)=>none)
 (fun(_:List AVal) (_:Unit)=>fun(_:Opd) (_:Opd) (_:VE)=>none)
 (fun(_:List AVal) (_:Unit)=>fun(_:Opd) (_:Opd) (_:VE)=>none)
 (fun(_:TypeId) (_:AVal) (_:Opd→Opd→VE→Option Ent)=>fun(_:Opd) (_:Opd) (_:VE)=>none)
 (fun(_:Opd) (_:Opd) (_:VE)=>none)
 (fun(_:Fn) (_:List AVal) (_:List AVal) (_:Unit) (_:Unit)=>fun(_:Opd) (_:Opd) (_:VE)=>none)
 (fun(_:Opd) (_:Opd) (_:VE)=>none)
 (fun(_:Option Nat)=>fun(_:Opd) (_:Opd) (_:VE)=>none)
 () (fun _ _ _ _=>())
def pickET:Ent→Opd→Opd→VE→Option Ent:= @Ent.rec (fun _=>Opd→Opd→VE→Option Ent) pickV (fun(_:List AVal)=>fun(_:Opd) (_:Opd) (_:VE)=>none) (fun(_:Nat) (_:Nat)=>fun(_:Opd) (_:Opd) (_:VE)=>none)
def pickE (a:Opd) (b:Opd) (env:VE):Ent→Option Ent:=fun e=>pickET e a b env
def byteOf:AVal→Option UInt8
 |.int .u8 (.ofNat n)=>bif Nat.blt n 256 then some (UInt8.ofNat n)else none
 |_=>none
def bytesC (ih:Option (List UInt8)):Option UInt8→Option (List UInt8)
 |some c=>Option.rec none (fun l=>some (c::l)) ih
 |none=>none
def bytesOf:List AVal→Option (List UInt8)
 | []=>some []
 |x::xs=>bytesC (bytesOf xs) (byteOf x)
def strO (o:Option (List UInt8)):Option Ent:=Option.rec none (fun l=>some (.val (.str l))) o
def bstrE:Ent→Option Ent
 |.val (.slice xs _ _)=>strO (bytesOf xs)
 |_=>none
def ofByte (c:UInt8):AVal:=.int .u8 (.ofNat c.toNat)
def ofBytes:List UInt8→List AVal
 | []=>[]
 |c::l=>ofByte c::ofBytes l
def strbE:Ent→Option Ent
 |.val (.str l)=>bif Nat.ble (lenB l 0) maxLen then some (.val (.slice (ofBytes l) false none))else none
 |_=>none
def bndE (d:Nat) (env:VE):Option Opd→Option Nat
 |none=>some d
 |some x=>match eo x env with
  |.val (.int _ (.ofNat n))=>some n
  |_=>none
def szIs (sz:Nat):List AVal→Bool
 | []=>true
 |x::_=>lenIs sz x.cells
def cutF (xs:List AVal) (nl:Bool) (tok:Option Nat) (len h l:Nat):Option Ent:=
 bif Nat.ble h len&&Nat.ble l h then some (.val (.slice ((xs.take h).drop l) nl (bif Nat.beq l 0&&Nat.beq h len then tok else none)))else none
def cutR (b o n c sz h l:Nat):Option Ent:=
 bif Nat.ble h n&&Nat.ble l h then
  (bif Nat.beq l 0 then some (.val (.ref b o h c))else bif Nat.beq h l then some (.val (.slice [] false none))else
   bif Nat.beq (Nat.mod c 2) 1 then some (.val (.ref b (Nat.add o (Nat.mul l sz)) (Nat.sub h l) (Nat.add c (Nat.mul 2 l))))else some (.val (.ref b (Nat.add o (Nat.mul l sz)) (Nat.sub h l) (Nat.sub c (Nat.mul 2 l)))))else none
def two (a b:Option Nat) (k:Nat→Nat→Option Ent):Option Ent:=Option.rec none (fun a=>Option.rec none (fun b=>k a b) b) a
def cutE (sz:Nat) (lo hi:Option Opd) (env:VE):Ent→Option Ent
 |.val (.slice xs nl tok)=>bif szIs sz xs then two (bndE (lenF xs 0) env hi) (bndE 0 env lo) (cutF xs nl tok (lenF xs 0))else none
 |.val (.ref b o n c)=>two (bndE n env hi) (bndE 0 env lo) (cutR b o n c sz)
 |_=>none
def cut3F (xs:List AVal) (nl:Bool) (len m h l:Nat):Option Ent:=
 bif Nat.ble m len&&(Nat.ble h m&&Nat.ble l h)then some (.val (.slice ((xs.take h).drop l) nl none))else none
def cut3G (xs:List AVal) (nl:Bool) (len:Nat) (a b:Option Nat) (m:Option Nat):Option Ent:=Option.rec none (fun m=>two a b (cut3F xs nl len m)) m
def cut3E (sz:Nat) (lo:Option Opd) (hi mx:Opd) (env:VE):Ent→Option Ent
 |.val (.slice xs nl _)=>bif szIs sz xs then cut3G xs nl (lenF xs 0) (bndE 0 env (some hi)) (bndE 0 env lo) (bndE 0 env (some mx))else none
 |_=>none
def cutSF (s:List UInt8) (len h l:Nat):Option Ent:=
 bif Nat.ble h len&&Nat.ble l h then some (.val (.str ((s.take h).drop l)))else none
def cutSE (lo hi:Option Opd) (env:VE):Ent→Option Ent
 |.val (.str s)=>two (bndE (lenB s 0) env hi) (bndE 0 env lo) (cutSF s (lenB s 0))
 |_=>none
def sptrE (sz:Nat) (a:AVal):Option Ent:=bif lenIs sz (cellsC a)then some (.val (.sptr (cellsC a)))else none
def idx10 (sz n:Nat):Ent→Option Ent
 |.val (.slice xs _ _)=>Option.rec none (fun a=>sptrE sz a) (nthV xs n)
 |.val (.ref b o m _)=>bif Nat.blt n m then some (.val (.ptr b (Nat.add o (Nat.mul n sz))))else none
 |_=>none
def idxV:AVal→Nat→Nat→Option Ent:= @AVal.rec (fun _=>Nat→Nat→Option Ent) (fun _=>Unit)
 (fun(_:Nat) (_:Nat)=>none)
 (fun(_:Bool)=>fun(_:Nat) (_:Nat)=>none)
 (fun(_:IntKind) (_:Int)=>fun(_:Nat) (_:Nat)=>none)
 (fun(_:List UInt8)=>fun(_:Nat) (_:Nat)=>none)
 (fun(_:Nat) (_:Nat)=>none)
 (fun(_:Nat) (_:Nat)=>fun(_:Nat) (_:Nat)=>none)
 (fun(_:List AVal) (_:Unit)=>fun(_:Nat) (_:Nat)=>none)
 (fun(xs:List AVal) (_:Bool) (_:Option Nat) (_:Unit)=>fun(sz:Nat) (n:Nat)=>Option.rec none (fun a=>sptrE sz a) (nthV xs n))
 (fun(_:Nat) (_:Nat)=>fun(_:Nat) (_:Nat)=>none)
 (fun(b:Nat) (o:Nat) (m:Nat) (_:Nat)=>fun(sz:Nat) (n:Nat)=>bif Nat.blt n m then some (.val (.ptr b (Nat.add o (Nat.mul n sz))))else none)
 (fun(_:List AVal) (_:Unit)=>fun(_:Nat) (_:Nat)=>none)
 (fun(_:List AVal) (_:Unit)=>fun(_:Nat) (_:Nat)=>none)
 (fun(_:TypeId) (_:AVal) (_:Nat→Nat→Option Ent)=>fun(_:Nat) (_:Nat)=>none)
 (fun(_:Nat) (_:Nat)=>none)
 (fun(_:Fn) (_:List AVal) (_:List AVal) (_:Unit) (_:Unit)=>fun(_:Nat) (_:Nat)=>none)
 (fun(_:Nat) (_:Nat)=>none)
 (fun(_:Option Nat)=>fun(_:Nat) (_:Nat)=>none)
 () (fun _ _ _ _=>())
def idx1T:Ent→Nat→Nat→Option Ent:= @Ent.rec (fun _=>Nat→Nat→Option Ent) idxV (fun(_:List AVal)=>fun(_:Nat) (_:Nat)=>none) (fun(_:Nat) (_:Nat)=>fun(_:Nat) (_:Nat)=>none)
def idx1 (sz:Nat) (n:Nat):Ent→Option Ent:=fun e=>idx1T e sz n
def iaddrE0 (sz:Nat) (x:Ent):Ent→Option Ent
 |.val (.int _ (.ofNat n))=>idx1 sz n x
 |_=>none
def iaddrZ (sz:Nat) (x:Ent):Int→Option Ent:= @Int.rec (fun _=>Option Ent) (fun n=>idx1 sz n x) (fun _=>none)
def iaddrV:AVal→Nat→Ent→Option Ent:= @AVal.rec (fun _=>Nat→Ent→Option Ent) (fun _=>Unit)
 (fun(_:Nat) (_:Ent)=>none)
 (fun(_:Bool)=>fun(_:Nat) (_:Ent)=>none)
 (fun(_:IntKind) (n:Int)=>fun(sz:Nat) (x:Ent)=>iaddrZ sz x n)
 (fun(_:List UInt8)=>fun(_:Nat) (_:Ent)=>none)
 (fun(_:Nat) (_:Ent)=>none)
 (fun(_:Nat) (_:Nat)=>fun(_:Nat) (_:Ent)=>none)
 (fun(_:List AVal) (_:Unit)=>fun(_:Nat) (_:Ent)=>none)
 (fun(_:List AVal) (_:Bool) (_:Option Nat) (_:Unit)=>fun(_:Nat) (_:Ent)=>none)
 (fun(_:Nat) (_:Nat)=>fun(_:Nat) (_:Ent)=>none)
 (fun(_:Nat) (_:Nat) (_:Nat) (_:Nat)=>fun(_:Nat) (_:Ent)=>none)
 (fun(_:List AVal) (_:Unit)=>fun(_:Nat) (_:Ent)=>none)
 (fun(_:List AVal) (_:Unit)=>fun(_:Nat) (_:Ent)=>none)
 (fun(_:TypeId) (_:AVal) (_:Nat→Ent→Option Ent)=>fun(_:Nat) (_:Ent)=>none)
 (fun(_:Nat) (_:Ent)=>none)
 (fun(_:Fn) (_:List AVal) (_:List AVal) (_:Unit) (_:Unit)=>fun(_:Nat) (_:Ent)=>none)
 (fun(_:Nat) (_:Ent)=>none)
 (fun(_:Option Nat)=>fun(_:Nat) (_:Ent)=>none)
 () (fun _ _ _ _=>())
def iaddrET:Ent→Nat→Ent→Option Ent:= @Ent.rec (fun _=>Nat→Ent→Option Ent) iaddrV (fun(_:List AVal)=>fun(_:Nat) (_:Ent)=>none) (fun(_:Nat) (_:Nat)=>fun(_:Nat) (_:Ent)=>none)
def iaddrE (sz:Nat) (x:Ent):Ent→Option Ent:=fun e=>iaddrET e sz x
def istrE2 (n:Nat) (s:List UInt8):Option Ent:=match s[n]? with
 |some c=>some (.val (ofByte c))
 |none=>none
def istrE (x:Ent):Ent→Option Ent
 |.val (.int _ (.ofNat n))=>match x with
  |.val (.str s)=>istrE2 n s
  |_=>none
 |_=>none
def pMv (x:Opd) (env:VE):Option Ent:=some (eo x env)
def pNil (x:Opd) (env:VE):Option Ent:=nilE (eo x env)
def pBin (op:BinOp) (q:EqK) (x y:Opd) (env:VE):Option Ent:=binE op q (nilConst x||nilConst y) (eo x env) (eo y env)
def pNot (x:Opd) (env:VE):Option Ent:=notE (eo x env)
def pConv (k:IntKind) (x:Opd) (env:VE):Option Ent:=convE k (eo x env)
def pSame (x:Opd) (env:VE):Option Ent:=sameE (eo x env)
def pIface (t:Nat) (x:Opd) (env:VE):Option Ent:=ifaceE t (eo x env)
def pMk (fn:Fn) (f c:List Opd) (env:VE):Option Ent:=mkF1 fn (evals c env) (evals f env)
def pFoff (off:Nat) (x:Opd) (env:VE):Option Ent:=foffE off (eo x env)
def pAidx (n sz:Nat) (x i:Opd) (env:VE):Option Ent:=aidxE n sz (eo x env) (eo i env)
def pArr (n:Nat) (x:Opd) (env:VE):Option Ent:=arrE n (eo x env)
def tassertE (t:Nat):Ent→Option Ent
 |.val (.iface u v)=>some (.val (.tuple (bif Nat.beq u t then [v,.bool true]else [.nilP,.bool false])))
 |.val .nilI=>some (.val (.tuple [.nilP,.bool false]))
 |_=>none
def agetE2 (m n:Nat) (agg:Bool) (cs:List AVal):Ent→Option Ent
 |.val (.int _ (.ofNat j))=>bif Nat.blt j m&&Nat.ble (Nat.add (Nat.mul j n) n) (lenF cs 0)then some (.val (mkv agg ((cs.drop (Nat.mul j n)).take n)))else none
 |_=>none
def agetE (m n:Nat) (agg:Bool) (x i:Ent):Option Ent:=match x with
 |.val (.agg cs)=>agetE2 m n agg cs i
 |_=>none
def pAget (m n:Nat) (agg:Bool) (x i:Opd) (env:VE):Option Ent:=agetE m n agg (eo x env) (eo i env)
def capE:Ent→Option Ent
 |.val (.slice [] true none)=>some (.val (.int .i64 (.ofNat 0)))
 |_=>none
def pCap (x:Opd) (env:VE):Option Ent:=capE (eo x env)
def pTas (t:Nat) (x:Opd) (env:VE):Option Ent:=tassertE t (eo x env)
def pNeg (x:Opd) (env:VE):Option Ent:=negE (eo x env)
def pExt (x:Opd) (i:Nat) (env:VE):Option Ent:=extE i (eo x env)
def pField (off n:Nat) (agg:Bool) (x:Opd) (env:VE):Option Ent:=fieldE off n agg (eo x env)
def pLen (x:Opd) (env:VE):Option Ent:=lenE (eo x env)
def pLenS (x:Opd) (env:VE):Option Ent:=lenSE (eo x env)
def pMin (x y:Opd) (env:VE):Option Ent:=minE (eo x env) (eo y env)
def pMax (x y:Opd) (env:VE):Option Ent:=maxE (eo x env) (eo y env)
def pMax3 (x y z:Opd) (env:VE):Option Ent:=max3E (eo x env) (eo y env) (eo z env)
def pPick (c a b:Opd) (env:VE):Option Ent:=pickE a b env (eo c env)
def pBsl (own:Bool) (sz n:Nat) (z:AVal) (ps:List (Nat × Opd)) (env:VE):Option Ent:=bif own then none else sliceO (setE sz (List.replicate n z) ps env)
def pBstr (x:Opd) (env:VE):Option Ent:=bstrE (eo x env)
def pStrb (x:Opd) (env:VE):Option Ent:=strbE (eo x env)
def pCut (sz:Nat) (x:Opd) (lo hi:Option Opd) (env:VE):Option Ent:=cutE sz lo hi env (eo x env)
def pCut3 (sz:Nat) (x:Opd) (lo:Option Opd) (hi mx:Opd) (env:VE):Option Ent:=cut3E sz lo hi mx env (eo x env)
def pCutS (x:Opd) (lo hi:Option Opd) (env:VE):Option Ent:=cutSE lo hi env (eo x env)
def pIaddr (sz:Nat) (x i:Opd) (env:VE):Option Ent:=iaddrE sz (eo x env) (eo i env)
def pIstr (x i:Opd) (env:VE):Option Ent:=istrE (eo x env) (eo i env)
def pNone (_:VE):Option Ent:=none
def pureE:AOp→VE→Option Ent:= @AOp.rec (fun _=>VE→Option Ent)
 (fun(x:Opd)=>pMv x)
 (fun(c:Opd) (a:Opd) (b:Opd)=>pPick c a b)
 (fun(_:List AVal)=>pNone)
 (fun(_:Opd)=>pNone)
 (fun(_:List AVal)=>pNone)
 (fun(_:Opd)=>pNone)
 (fun(z:List AVal) (ps:List (Nat × Nat × Opd))=>buildE z ps)
 (fun(own:Bool) (sz:Nat) (_:Nat) (n:Nat) (z:AVal) (ps:List (Nat × Opd))=>pBsl own sz n z ps)
 (fun(_:Bool) (_:Nat) (_:Opd)=>pNone)
 (fun(_:Nat) (_:Opd) (_:Opd)=>pNone)
 (fun(x:Opd)=>pNil x)
 (fun(op:BinOp) (q:EqK) (x:Opd) (y:Opd)=>pBin op q x y)
 (fun(x:Opd)=>pNot x)
 (fun(k:IntKind) (x:Opd)=>pConv k x)
 (fun(x:Opd)=>pSame x)
 (fun(x:Opd)=>pBstr x)
 (fun(_:Nat) (x:Opd)=>pStrb x)
 (fun(_:Opd)=>pNone)
 (fun(t:Nat) (x:Opd)=>pIface t x)
 (fun(fn:Fn) (f:List Opd) (c:List Opd)=>pMk fn f c)
 (fun(sz:Nat) (x:Opd) (lo:Option Opd) (hi:Option Opd)=>pCut sz x lo hi)
 (fun(sz:Nat) (x:Opd) (lo:Option Opd) (hi:Opd) (mx:Opd)=>pCut3 sz x lo hi mx)
 (fun(x:Opd) (lo:Option Opd) (hi:Option Opd)=>pCutS x lo hi)
 (fun(off:Nat) (x:Opd)=>pFoff off x)
 (fun(off:Nat) (n:Nat) (agg:Bool) (x:Opd)=>pField off n agg x)
 (fun(sz:Nat) (x:Opd) (i:Opd)=>pIaddr sz x i)
 (fun(x:Opd) (i:Opd)=>pIstr x i)
 (fun(x:Opd) (i:Nat)=>pExt x i)
 (fun(_:Nat) (_:List Opd)=>pNone)
 (fun(_:Opd) (_:List Opd)=>pNone)
 (fun(x:Opd)=>pLen x)
 (fun(x:Opd)=>pLenS x)
 (fun(_:Nat) (_:Nat) (_:Nat) (_:Opd) (_:Opd)=>pNone)
 (fun(_:Nat) (_:Nat) (_:Nat) (_:Opd) (_:Opd)=>pNone)
 (fun(_:Nat) (_:Nat) (_:Nat) (_:Opd) (_:Opd)=>pNone)
 (fun(_:Nat) (_:Nat) (_:Nat) (_:AVal) (_:List (Nat × Opd))=>pNone)
 (fun(_:Opd)=>pNone)
 (fun(x:Opd)=>pNeg x)
 (fun(t:Nat) (x:Opd)=>pTas t x)
 (fun(m:Nat) (n:Nat) (agg:Bool) (x:Opd) (i:Opd)=>pAget m n agg x i)
 (pNone)
 (fun(_:KeyK) (_:AVal) (_:Bool) (_:Opd) (_:Opd)=>pNone)
 (fun(_:KeyK) (_:Opd) (_:Opd) (_:Opd)=>pNone)
 (fun(_:KeyK) (_:Opd) (_:Opd)=>pNone)
 (fun(_:Opd)=>pNone)
 (fun(_:Opd)=>pNone)
 (fun(_:Opd)=>pNone)
 (fun(_:Opd)=>pNone)
 (fun(n:Nat) (x:Opd)=>pArr n x)
 (fun(_:List (Nat × Nat)) (_:Opd) (_:List Opd)=>pNone)
 (fun(_:Nat) (_:AVal) (_:Opd)=>pNone)
 (fun(_:Opd)=>pNone)
 (fun(n:Nat) (sz:Nat) (x:Opd) (i:Opd)=>pAidx n sz x i)
 (pNone)
 (fun(x:Opd) (y:Opd)=>pMin x y)
 (fun(x:Opd) (y:Opd)=>pMax x y)
 (fun(x:Opd) (y:Opd) (z:Opd)=>pMax3 x y z)
abbrev EK:=VE→VS→ER
abbrev Callee':=List AVal→VS→FR
def cellsAt0:VObj→Option (List AVal)
 |.obj cs=>some cs
 |.row _ cs=>some cs
 |_=>none
def cellsAt:VObj→Option (List AVal):= @VObj.rec (fun _=>Option (List AVal)) none (fun cs=>some cs) (fun _ cs=>some cs) (fun _ _ _=>none) (fun _ _=>none) (fun _ _ _ _ _=>none) none
def objCells (V:VS) (i:Nat):Option (List AVal):=cellsAt (V.at i)
def loadC (agg:Bool) (n o:Nat) (c:Option (List AVal)):Option AVal:=Option.rec none (fun cs=>partAt agg n o cs) c
def loadB0 (agg:Bool) (n o:Nat):Ent→Option AVal
 |.box cs=>partAt agg n o cs
 |_=>none
def loadBT:Ent→Bool→Nat→Nat→Option AVal:= @Ent.rec (fun _=>Bool→Nat→Nat→Option AVal) (fun _ _ _ _=>none) (fun cs agg n o=>partAt agg n o cs) (fun _ _ _ _ _=>none)
def loadB (agg:Bool) (n o:Nat):Ent→Option AVal:=fun e=>loadBT e agg n o
def loadE0 (agg:Bool) (n:Nat) (env:VE) (V:VS):Ent→Option AVal
 |.val (.ptr i o)=>loadC agg n o (objCells V i)
 |.val (.sptr cs)=>partOf agg n cs
 |.lptr s o=>loadB agg n o (eat env s)
 |_=>none
def loadV:AVal→Bool→Nat→VS→Option AVal:= @AVal.rec (fun _=>Bool→Nat→VS→Option AVal) (fun _=>Unit)
 (fun(_:Bool) (_:Nat) (_:VS)=>none)
 (fun(_:Bool)=>fun(_:Bool) (_:Nat) (_:VS)=>none)
 (fun(_:IntKind) (_:Int)=>fun(_:Bool) (_:Nat) (_:VS)=>none)
 (fun(_:List UInt8)=>fun(_:Bool) (_:Nat) (_:VS)=>none)
 (fun(_:Bool) (_:Nat) (_:VS)=>none)
 (fun(i:Nat) (o:Nat)=>fun(agg:Bool) (n:Nat) (V:VS)=>loadC agg n o (objCells V i))
 (fun(cs:List AVal) (_:Unit)=>fun(agg:Bool) (n:Nat) (_:VS)=>partOf agg n cs)
 (fun(_:List AVal) (_:Bool) (_:Option Nat) (_:Unit)=>fun(_:Bool) (_:Nat) (_:VS)=>none)
 (fun(_:Nat) (_:Nat)=>fun(_:Bool) (_:Nat) (_:VS)=>none)
 (fun(_:Nat) (_:Nat) (_:Nat) (_:Nat)=>fun(_:Bool) (_:Nat) (_:VS)=>none)
 (fun(_:List AVal) (_:Unit)=>fun(_:Bool) (_:Nat) (_:VS)=>none)
 (fun(_:List AVal) (_:Unit)=>fun(_:Bool) (_:Nat) (_:VS)=>none)
 (fun(_:TypeId) (_:AVal) (_:Bool→Nat→VS→Option AVal)=>fun(_:Bool) (_:Nat) (_:VS)=>none)
 (fun(_:Bool) (_:Nat) (_:VS)=>none)
 (fun(_:Fn) (_:List AVal) (_:List AVal) (_:Unit) (_:Unit)=>fun(_:Bool) (_:Nat) (_:VS)=>none)
 (fun(_:Bool) (_:Nat) (_:VS)=>none)
 (fun(_:Option Nat)=>fun(_:Bool) (_:Nat) (_:VS)=>none)
 () (fun _ _ _ _=>())
def loadT:Ent→Bool→Nat→VE→VS→Option AVal:= @Ent.rec (fun _=>Bool→Nat→VE→VS→Option AVal) (fun a agg n _ V=>loadV a agg n V) (fun _ _ _ _ _=>none) (fun s o agg n env _=>loadB agg n o (eat env s))
def loadE (agg:Bool) (n:Nat) (env:VE) (V:VS):Ent→Option AVal:=fun e=>loadT e agg n env V
def ret1 (d:Option Nat) (k:EK) (env:VE) (V:VS) (o:Option AVal):ER:=Option.rec .bad (fun a=>k (setd d (.val a) env) V) o
def opLoad (agg:Bool) (n:Nat) (x:Opd) (d:Option Nat) (k:EK) (env:VE) (V:VS):ER:=ret1 d k env V (loadE agg n env V (eo x env))
def mapTr (f:Ent→Ent) (t:VE):VE:=Tr.rec .lf (fun v _ _ l r=>.nd (f v) l r) t
def killE (s:Nat) (e:Ent):Ent:=Ent.rec (fun a=>.val a) (fun cs=>.box cs) (fun s' o=>bif Nat.beq s' s then .val .top else .lptr s' o) e
def boxAt (env:VE) (s:Nat) (cs:List AVal):VE:=eput (mapTr (killE s) env) s (.box cs)
def opBox (cs:List AVal) (d:Option Nat) (k:EK) (env:VE) (V:VS):ER:=match d with
 |some s=>k (boxAt env s cs) V
 |none=>.bad
def opBoxv2 (s:Nat) (k:EK) (env:VE) (V:VS):Ent→ER
 |.val a=>bif a.cells.all AVal.one then k (boxAt env s a.cells) V else .bad
 |_=>.bad
def opBoxv (x:Opd) (d:Option Nat) (k:EK) (env:VE) (V:VS):ER:=match d with
 |some s=>opBoxv2 s k env V (eo x env)
 |none=>.bad
def opObj (cs:List AVal) (d:Option Nat) (k:EK) (env:VE) (V:VS):ER:=k (setd d (.val (.ptr V.n 0)) env) (V.new (.obj cs))
def opObjv2 (d:Option Nat) (k:EK) (env:VE) (V:VS):Ent→ER
 |.val a=>bif a.cells.all AVal.one then opObj a.cells d k env V else .bad
 |_=>.bad
def opObjv (x:Opd) (d:Option Nat) (k:EK) (env:VE) (V:VS):ER:=opObjv2 d k env V (eo x env)
def newOpn (d:Option Nat) (k:EK) (env:VE) (V:VS) (xs:List AVal) (n sz e:Nat):ER:=k (setd d (.val (.slice xs false (some V.n))) env) (V.new (.opn n sz e))
def opBsl2 (sz e n:Nat) (d:Option Nat) (k:EK) (env:VE) (V:VS) (o:Option (List AVal)):ER:=Option.rec .bad (fun xs=>newOpn d k env V xs n sz e) o
def opBsl1 (d:Option Nat) (k:EK) (env:VE) (V:VS) (o:Option (List AVal)):ER:=Option.rec .bad (fun xs=>k (setd d (.val (.slice xs false none)) env) V) o
def opBsl (own:Bool) (sz e n:Nat) (z:AVal) (ps:List (Nat × Opd)) (d:Option Nat) (k:EK) (env:VE) (V:VS):ER:=
 bif own then opBsl2 sz e n d k env V (setE sz (List.replicate n z) ps env)else opBsl1 d k env V (setE sz (List.replicate n z) ps env)
def elemsB (sz:Nat):List AVal→Bool:= @List.rec AVal (fun _=>Bool) true (fun y _ ih=>bif cellsOk sz y then ih else false)
def flat2:List AVal→List AVal:= @List.rec AVal (fun _=>List AVal) [] (fun x _ ih=>cellsC x++ih)
def opMsl2 (sz n:Nat) (d:Option Nat) (k:EK) (env:VE) (V:VS) (o:Option (List AVal)):ER:=Option.rec .bad (fun xs=>bif elemsB sz xs then k (setd d (.val (.ref V.n 0 n 1)) env) (V.new (.row sz (flat2 xs)))else .bad) o
def opMsl (sz n:Nat) (z:AVal) (ps:List (Nat × Opd)) (d:Option Nat) (k:EK) (env:VE) (V:VS):ER:=opMsl2 sz n d k env V (setE sz (List.replicate n z) ps env)
def wrObj (i o n:Nat) (vs:List AVal) (d:Option Nat) (k:EK) (env:VE) (V:VS):VObj→ER
 |.obj cs=>bif fits (Nat.add o n) cs then k (setd d (.val .top) env) (V.put i (.obj (putAt o vs cs)))else .bad
 |.row sz cs=>bif fits (Nat.add o n) cs then k (setd d (.val .top) env) (V.put i (.row sz (putAt o vs cs)))else .bad
 |_=>.bad
def wrBox (s o n:Nat) (vs:List AVal) (d:Option Nat) (k:EK) (env:VE) (V:VS):Ent→ER
 |.box cs=>bif fits (Nat.add o n) cs then k (setd d (.val .top) (eput env s (.box (putAt o vs cs)))) V else .bad
 |_=>.bad
def opSt20 (n:Nat) (vs:List AVal) (d:Option Nat) (k:EK) (env:VE) (V:VS):Ent→ER
 |.val (.ptr i o)=>bif Nat.ble V.g i then wrObj i o n vs d k env V (V.at i)else .bad
 |.lptr s o=>wrBox s o n vs d k env V (eat env s)
 |_=>.bad
def opSt2V:AVal→Nat→List AVal→Option Nat→EK→VE→VS→ER:= @AVal.rec (fun _=>Nat→List AVal→Option Nat→EK→VE→VS→ER) (fun _=>Unit)
 (fun(_:Nat) (_:List AVal) (_:Option Nat) (_:EK) (_:VE) (_:VS)=>.bad)
 (fun(_:Bool)=>fun(_:Nat) (_:List AVal) (_:Option Nat) (_:EK) (_:VE) (_:VS)=>.bad)
 (fun(_:IntKind) (_:Int)=>fun(_:Nat) (_:List AVal) (_:Option Nat) (_:EK) (_:VE) (_:VS)=>.bad)
 (fun(_:List UInt8)=>fun(_:Nat) (_:List AVal) (_:Option Nat) (_:EK) (_:VE) (_:VS)=>.bad)
 (fun(_:Nat) (_:List AVal) (_:Option Nat) (_:EK) (_:VE) (_:VS)=>.bad)
 (fun(i:Nat) (o:Nat)=>fun(n:Nat) (vs:List AVal) (d:Option Nat) (k:EK) (env:VE) (V:VS)=>bif Nat.ble V.g i then wrObj i o n vs d k env V (V.at i)else .bad)
 (fun(_:List AVal) (_:Unit)=>fun(_:Nat) (_:List AVal) (_:Option Nat) (_:EK) (_:VE) (_:VS)=>.bad)
 (fun(_:List AVal) (_:Bool) (_:Option Nat) (_:Unit)=>fun(_:Nat) (_:List AVal) (_:Option Nat) (_:EK) (_:VE) (_:VS)=>.bad)
 (fun(_:Nat) (_:Nat)=>fun(_:Nat) (_:List AVal) (_:Option Nat) (_:EK) (_:VE) (_:VS)=>.bad)
 (fun(_:Nat) (_:Nat) (_:Nat) (_:Nat)=>fun(_:Nat) (_:List AVal) (_:Option Nat) (_:EK) (_:VE) (_:VS)=>.bad)
 (fun(_:List AVal) (_:Unit)=>fun(_:Nat) (_:List AVal) (_:Option Nat) (_:EK) (_:VE) (_:VS)=>.bad)
 (fun(_:List AVal) (_:Unit)=>fun(_:Nat) (_:List AVal) (_:Option Nat) (_:EK) (_:VE) (_:VS)=>.bad)
 (fun(_:TypeId) (_:AVal) (_:Nat→List AVal→Option Nat→EK→VE→VS→ER)=>fun(_:Nat) (_:List AVal) (_:Option Nat) (_:EK) (_:VE) (_:VS)=>.bad)
 (fun(_:Nat) (_:List AVal) (_:Option Nat) (_:EK) (_:VE) (_:VS)=>.bad)
 (fun(_:Fn) (_:List AVal) (_:List AVal) (_:Unit) (_:Unit)=>fun(_:Nat) (_:List AVal) (_:Option Nat) (_:EK) (_:VE) (_:VS)=>.bad)
 (fun(_:Nat) (_:List AVal) (_:Option Nat) (_:EK) (_:VE) (_:VS)=>.bad)
 (fun(_:Option Nat)=>fun(_:Nat) (_:List AVal) (_:Option Nat) (_:EK) (_:VE) (_:VS)=>.bad)
 () (fun _ _ _ _=>())
def opSt2T:Ent→Nat→List AVal→Option Nat→EK→VE→VS→ER:= @Ent.rec (fun _=>Nat→List AVal→Option Nat→EK→VE→VS→ER) opSt2V (fun(_:List AVal)=>fun(_:Nat) (_:List AVal) (_:Option Nat) (_:EK) (_:VE) (_:VS)=>.bad) (fun(s:Nat) (o:Nat)=>fun(n:Nat) (vs:List AVal) (d:Option Nat) (k:EK) (env:VE) (V:VS)=>wrBox s o n vs d k env V (eat env s))
def opSt2 (n:Nat) (vs:List AVal) (d:Option Nat) (k:EK) (env:VE) (V:VS):Ent→ER:=fun e=>opSt2T e n vs d k env V
def opSt1 (n:Nat) (x:Opd) (d:Option Nat) (k:EK) (env:VE) (V:VS):Ent→ER
 |.val a=>bif cellsOk n a then opSt2 n (cellsC a) d k env V (eo x env)else .bad
 |_=>.bad
def opStore (n:Nat) (x v:Opd) (d:Option Nat) (k:EK) (env:VE) (V:VS):ER:=opSt1 n x d k env V (eo v env)
def markK (g:Nat) (xs:List AVal) (d:Option Nat) (k:EK) (env:VE) (V:VS):VObj→ER
 |.opn _ _ _=>bif Nat.ble V.g g then k (setd d (.val (.slice xs false none)) env) (V.put g .dead)else .bad
 |_=>.bad
def opMark2 (d:Option Nat) (k:EK) (env:VE) (V:VS):Ent→ER
 |.val (.slice xs false (some g))=>markK g xs d k env V (V.at g)
 |_=>.bad
def opMark (x:Opd) (d:Option Nat) (k:EK) (env:VE) (V:VS):ER:=opMark2 d k env V (eo x env)
def room (n bytes:Nat):Bool:=bif Nat.ble n maxLen then Nat.ble (Nat.mul n bytes) 140737488355328 else false
def srcE0 (sz:Nat) (V:VS):Ent→Option (List AVal)
 |.val (.slice ys _ _)=>bif elemsB sz ys then some ys else none
 |.val (.ref i o n _)=>bif Nat.beq sz 1 then Option.rec none (fun cs=>Option.rec none (fun ys=>bif ys.all AVal.one then some ys else none) (atO (takeN n) o cs)) (objCells V i)else none
 |_=>none
def srcV:AVal→Nat→VS→Option (List AVal):= @AVal.rec (fun _=>Nat→VS→Option (List AVal)) (fun _=>Unit)
 (fun(_:Nat) (_:VS)=>none)
 (fun(_:Bool)=>fun(_:Nat) (_:VS)=>none)
 (fun(_:IntKind) (_:Int)=>fun(_:Nat) (_:VS)=>none)
 (fun(_:List UInt8)=>fun(_:Nat) (_:VS)=>none)
 (fun(_:Nat) (_:VS)=>none)
 (fun(_:Nat) (_:Nat)=>fun(_:Nat) (_:VS)=>none)
 (fun(_:List AVal) (_:Unit)=>fun(_:Nat) (_:VS)=>none)
 (fun(ys:List AVal) (_:Bool) (_:Option Nat) (_:Unit)=>fun(sz:Nat) (_:VS)=>bif elemsB sz ys then some ys else none)
 (fun(_:Nat) (_:Nat)=>fun(_:Nat) (_:VS)=>none)
 (fun(i:Nat) (o:Nat) (n:Nat) (_:Nat)=>fun(sz:Nat) (V:VS)=>bif Nat.beq sz 1 then Option.rec none (fun cs=>Option.rec none (fun ys=>bif ys.all AVal.one then some ys else none) (atO (takeN n) o cs)) (objCells V i)else none)
 (fun(_:List AVal) (_:Unit)=>fun(_:Nat) (_:VS)=>none)
 (fun(_:List AVal) (_:Unit)=>fun(_:Nat) (_:VS)=>none)
 (fun(_:TypeId) (_:AVal) (_:Nat→VS→Option (List AVal))=>fun(_:Nat) (_:VS)=>none)
 (fun(_:Nat) (_:VS)=>none)
 (fun(_:Fn) (_:List AVal) (_:List AVal) (_:Unit) (_:Unit)=>fun(_:Nat) (_:VS)=>none)
 (fun(_:Nat) (_:VS)=>none)
 (fun(_:Option Nat)=>fun(_:Nat) (_:VS)=>none)
 () (fun _ _ _ _=>())
def srcET:Ent→Nat→VS→Option (List AVal):= @Ent.rec (fun _=>Nat→VS→Option (List AVal)) srcV (fun(_:List AVal)=>fun(_:Nat) (_:VS)=>none) (fun(_:Nat) (_:Nat)=>fun(_:Nat) (_:VS)=>none)
def srcE (sz:Nat) (V:VS):Ent→Option (List AVal):=fun e=>srcET e sz V
def isNil:List AVal→Bool:= @List.rec AVal (fun _=>Bool) true (fun _ _ _=>false)
def appGrow (g:Nat) (xs ys:List AVal) (sz e bytes:Nat) (d:Option Nat) (k:EK) (env:VE) (V:VS):VObj→ER
 |.opn n sz' e'=>bif Nat.beq sz sz'&&(Nat.beq e e'&&(Nat.ble V.g g&&room (Nat.add n (lenF ys 0)) bytes))then newOpn d k env (V.put g .dead) (xs++ys) (Nat.add n (lenF ys 0)) sz e else .bad
 |_=>.bad
def appNew (ys:List AVal) (sz e bytes:Nat) (d:Option Nat) (k:EK) (env:VE) (V:VS):ER:=bif room (lenF ys 0) bytes then newOpn d k env V ys (lenF ys 0) sz e else .bad
def appK0 (ys:List AVal) (sz e bytes:Nat) (d:Option Nat) (k:EK) (env:VE) (V:VS):Ent→ER
 |.val (.slice xs _ (some g))=>appGrow g xs ys sz e bytes d k env V (V.at g)
 |.val (.slice [] true none)=>appNew ys sz e bytes d k env V
 |_=>.bad
def appKS (xs:List AVal) (nl:Bool) (ys:List AVal) (sz e bytes:Nat) (d:Option Nat) (k:EK) (env:VE) (V:VS) (tok:Option Nat):ER:=Option.rec (bif isNil xs&&nl then appNew ys sz e bytes d k env V else .bad) (fun g=>appGrow g xs ys sz e bytes d k env V (V.at g)) tok
def appKV:AVal→List AVal→Nat→Nat→Nat→Option Nat→EK→VE→VS→ER:= @AVal.rec (fun _=>List AVal→Nat→Nat→Nat→Option Nat→EK→VE→VS→ER) (fun _=>Unit)
 (fun(_:List AVal) (_:Nat) (_:Nat) (_:Nat) (_:Option Nat) (_:EK) (_:VE) (_:VS)=>.bad)
 (fun(_:Bool)=>fun(_:List AVal) (_:Nat) (_:Nat) (_:Nat) (_:Option Nat) (_:EK) (_:VE) (_:VS)=>.bad)
 (fun(_:IntKind) (_:Int)=>fun(_:List AVal) (_:Nat) (_:Nat) (_:Nat) (_:Option Nat) (_:EK) (_:VE) (_:VS)=>.bad)
 (fun(_:List UInt8)=>fun(_:List AVal) (_:Nat) (_:Nat) (_:Nat) (_:Option Nat) (_:EK) (_:VE) (_:VS)=>.bad)
 (fun(_:List AVal) (_:Nat) (_:Nat) (_:Nat) (_:Option Nat) (_:EK) (_:VE) (_:VS)=>.bad)
 (fun(_:Nat) (_:Nat)=>fun(_:List AVal) (_:Nat) (_:Nat) (_:Nat) (_:Option Nat) (_:EK) (_:VE) (_:VS)=>.bad)
 (fun(_:List AVal) (_:Unit)=>fun(_:List AVal) (_:Nat) (_:Nat) (_:Nat) (_:Option Nat) (_:EK) (_:VE) (_:VS)=>.bad)
 (fun(xs:List AVal) (nl:Bool) (tok:Option Nat) (_:Unit)=>fun(ys:List AVal) (sz:Nat) (e:Nat) (bytes:Nat) (d:Option Nat) (k:EK) (env:VE) (V:VS)=>appKS xs nl ys sz e bytes d k env V tok)
 (fun(_:Nat) (_:Nat)=>fun(_:List AVal) (_:Nat) (_:Nat) (_:Nat) (_:Option Nat) (_:EK) (_:VE) (_:VS)=>.bad)
 (fun(_:Nat) (_:Nat) (_:Nat) (_:Nat)=>fun(_:List AVal) (_:Nat) (_:Nat) (_:Nat) (_:Option Nat) (_:EK) (_:VE) (_:VS)=>.bad)
 (fun(_:List AVal) (_:Unit)=>fun(_:List AVal) (_:Nat) (_:Nat) (_:Nat) (_:Option Nat) (_:EK) (_:VE) (_:VS)=>.bad)
 (fun(_:List AVal) (_:Unit)=>fun(_:List AVal) (_:Nat) (_:Nat) (_:Nat) (_:Option Nat) (_:EK) (_:VE) (_:VS)=>.bad)
 (fun(_:TypeId) (_:AVal) (_:List AVal→Nat→Nat→Nat→Option Nat→EK→VE→VS→ER)=>fun(_:List AVal) (_:Nat) (_:Nat) (_:Nat) (_:Option Nat) (_:EK) (_:VE) (_:VS)=>.bad)
 (fun(_:List AVal) (_:Nat) (_:Nat) (_:Nat) (_:Option Nat) (_:EK) (_:VE) (_:VS)=>.bad)
 (fun(_:Fn) (_:List AVal) (_:List AVal) (_:Unit) (_:Unit)=>fun(_:List AVal) (_:Nat) (_:Nat) (_:Nat) (_:Option Nat) (_:EK) (_:VE) (_:VS)=>.bad)
 (fun(_:List AVal) (_:Nat) (_:Nat) (_:Nat) (_:Option Nat) (_:EK) (_:VE) (_:VS)=>.bad)
 (fun(_:Option Nat)=>fun(_:List AVal) (_:Nat) (_:Nat) (_:Nat) (_:Option Nat) (_:EK) (_:VE) (_:VS)=>.bad)
 () (fun _ _ _ _=>())
def appKT:Ent→List AVal→Nat→Nat→Nat→Option Nat→EK→VE→VS→ER:= @Ent.rec (fun _=>List AVal→Nat→Nat→Nat→Option Nat→EK→VE→VS→ER) appKV (fun(_:List AVal)=>fun(_:List AVal) (_:Nat) (_:Nat) (_:Nat) (_:Option Nat) (_:EK) (_:VE) (_:VS)=>.bad) (fun(_:Nat) (_:Nat)=>fun(_:List AVal) (_:Nat) (_:Nat) (_:Nat) (_:Option Nat) (_:EK) (_:VE) (_:VS)=>.bad)
def appK (ys:List AVal) (sz:Nat) (e1:Nat) (bytes:Nat) (d:Option Nat) (k:EK) (env:VE) (V:VS):Ent→ER:=fun e=>appKT e ys sz e1 bytes d k env V
def aliveO (sz e bytes:Nat):VObj→Bool
 |.opn n sz' e'=>Nat.beq sz sz'&&(Nat.beq e e'&&room n bytes)
 |_=>false
def app0 (sz e bytes:Nat) (d:Option Nat) (k:EK) (env:VE) (V:VS):Ent→ER
 |.val (.slice xs nl (some g))=>bif aliveO sz e bytes (V.at g)then k (setd d (.val (.slice xs nl (some g))) env) V else .bad
 |.val (.slice [] true none)=>k (setd d (.val (.slice [] true none)) env) V
 |_=>.bad
def appY (sz e bytes:Nat) (x:Opd) (d:Option Nat) (k:EK) (env:VE) (V:VS) (o:Option (List AVal)):ER:=
 Option.rec .bad (fun ys=>bif isNil ys then app0 sz e bytes d k env V (eo x env)else appK ys sz e bytes d k env V (eo x env)) o
def opApp (sz e bytes:Nat) (x y:Opd) (d:Option Nat) (k:EK) (env:VE) (V:VS):ER:=appY sz e bytes x d k env V (srcE sz V (eo y env))
def srcM (sz:Nat) (V:VS):Ent→Option (List AVal × Nat)
 |.val (.slice ys _ _)=>bif elemsB sz ys then some (flat2 ys,lenF ys 0)else none
 |.val (.ref i o n _)=>Option.rec none (fun cs=>Option.rec none (fun ys=>bif ys.all AVal.one then some (ys,n)else none) (atO (takeN (Nat.mul n sz)) o cs)) (objCells V i)
 |_=>none
def newRow' (d:Option Nat) (k:EK) (env:VE) (V:VS) (cs:List AVal) (n sz:Nat):ER:=k (setd d (.val (.ref V.n 0 n 1)) env) (V.new (.row sz cs))
def appM2 (i n:Nat) (ys:List AVal) (m sz bytes:Nat) (d:Option Nat) (k:EK) (env:VE) (V:VS):VObj→ER
 |.row sz' cs=>bif Nat.beq sz sz'&&(Nat.ble V.g i&&room (Nat.add n m) bytes)then
   Option.rec .bad (fun old=>newRow' d k env (V.put i .dead) (old++ys) (Nat.add n m) sz) (takeN (Nat.mul n sz) cs)else .bad
 |_=>.bad
def appM1 (ys:List AVal) (m sz bytes:Nat) (d:Option Nat) (k:EK) (env:VE) (V:VS):Ent→ER
 |.val (.ref i 0 n 1)=>appM2 i n ys m sz bytes d k env V (V.at i)
 |.val (.slice [] true none)=>bif room m bytes then newRow' d k env V ys m sz else .bad
 |_=>.bad
def isRow' (sz:Nat):VObj→Bool
 |.row sz' _=>Nat.beq sz sz'
 |_=>false
def appM0 (sz bytes:Nat) (d:Option Nat) (k:EK) (env:VE) (V:VS):Ent→ER
 |.val (.ref i 0 n 1)=>bif isRow' sz (V.at i)&&room n bytes then k (setd d (.val (.ref i 0 n 1)) env) V else .bad
 |.val (.slice [] true none)=>k (setd d (.val (.slice [] true none)) env) V
 |_=>.bad
def appMY (sz bytes:Nat) (x:Opd) (d:Option Nat) (k:EK) (env:VE) (V:VS) (o:Option (List AVal × Nat)):ER:=
 Option.rec .bad (fun p=>bif Nat.beq p.2 0 then appM0 sz bytes d k env V (eo x env)else appM1 p.1 p.2 sz bytes d k env V (eo x env)) o
def opAppM (sz bytes:Nat) (x y:Opd) (d:Option Nat) (k:EK) (env:VE) (V:VS):ER:=appMY sz bytes x d k env V (srcM sz V (eo y env))
def opMmap (d:Option Nat) (k:EK) (env:VE) (V:VS):ER:=k (setd d (.val (.map (some V.n))) env) (V.new (.map none []))
def mRes (zero:AVal) (ok:Bool) (o:Option AVal):AVal:=bif ok then Option.rec (.tuple [zero,.bool false]) (fun v=>.tuple [v,.bool true]) o else Option.rec zero (fun v=>v) o
def mapKk (kk:KeyK) (ko:Option KeyK):Bool:=Option.rec true (fun k'=>kkEq k' kk) ko
def mgetK (kk:KeyK) (zero:AVal) (ok:Bool) (key:AVal) (d:Option Nat) (k:EK) (env:VE) (V:VS):VObj→ER
 |.map ko es=>bif mapKk kk ko then k (setd d (.val (mRes zero ok (mfindF key es))) env) V else .bad
 |_=>.bad
def mget1 (kk:KeyK) (zero:AVal) (ok:Bool) (key:AVal) (d:Option Nat) (k:EK) (env:VE) (V:VS):Ent→ER
 |.val (.map none)=>k (setd d (.val (mRes zero ok none)) env) V
 |.val (.map (some r))=>mgetK kk zero ok key d k env V (V.at r)
 |_=>.bad
def mget0 (kk:KeyK) (zero:AVal) (ok:Bool) (x:Opd) (d:Option Nat) (k:EK) (env:VE) (V:VS):Ent→ER
 |.val key=>bif kk.is key then mget1 kk zero ok key d k env V (eo x env)else .bad
 |_=>.bad
def opMget (kk:KeyK) (zero:AVal) (ok:Bool) (x i:Opd) (d:Option Nat) (k:EK) (env:VE) (V:VS):ER:=mget0 kk zero ok x d k env V (eo i env)
def msetK (kk:KeyK) (r:Nat) (key v:AVal) (d:Option Nat) (k:EK) (env:VE) (V:VS):VObj→ER
 |.map ko es=>bif mapKk kk ko&&Nat.ble V.g r then k (setd d (.val .top) env) (V.put r (.map (some kk) (mputF key v es)))else .bad
 |_=>.bad
def mset1 (kk:KeyK) (key v:AVal) (d:Option Nat) (k:EK) (env:VE) (V:VS):Ent→ER
 |.val (.map (some r))=>msetK kk r key v d k env V (V.at r)
 |_=>.bad
def mset2 (kk:KeyK) (v:AVal) (x:Opd) (d:Option Nat) (k:EK) (env:VE) (V:VS):Ent→ER
 |.val key=>bif kk.is key then mset1 kk key v d k env V (eo x env)else .bad
 |_=>.bad
def mset3 (kk:KeyK) (x i:Opd) (d:Option Nat) (k:EK) (env:VE) (V:VS):Ent→ER
 |.val v=>mset2 kk v x d k env V (eo i env)
 |_=>.bad
def opMset (kk:KeyK) (x i v:Opd) (d:Option Nat) (k:EK) (env:VE) (V:VS):ER:=mset3 kk x i d k env V (eo v env)
def mdelK (kk:KeyK) (r:Nat) (key:AVal) (d:Option Nat) (k:EK) (env:VE) (V:VS):VObj→ER
 |.map ko es=>bif mapKk kk ko&&Nat.ble V.g r then k (setd d (.val (.tuple [])) env) (V.put r (.map ko (mdelF key es)))else .bad
 |_=>.bad
def mdel1 (kk:KeyK) (key:AVal) (d:Option Nat) (k:EK) (env:VE) (V:VS):Ent→ER
 |.val (.map (some r))=>mdelK kk r key d k env V (V.at r)
 |_=>.bad
def mdel0 (kk:KeyK) (x:Opd) (d:Option Nat) (k:EK) (env:VE) (V:VS):Ent→ER
 |.val key=>bif kk.is key then mdel1 kk key d k env V (eo x env)else .bad
 |_=>.bad
def opMdel (kk:KeyK) (x i:Opd) (d:Option Nat) (k:EK) (env:VE) (V:VS):ER:=mdel0 kk x d k env V (eo i env)
def lenM:List (AVal × AVal)→Nat→Nat
 | [],n=>n
 |_::xs,n=>lenM xs (Nat.add n 1)
def mlenK (d:Option Nat) (k:EK) (env:VE) (V:VS):VObj→ER
 |.map _ es=>k (setd d (.val (.int .i64 (.ofNat (lenM es 0)))) env) V
 |_=>.bad
def mlen1 (d:Option Nat) (k:EK) (env:VE) (V:VS):Ent→ER
 |.val (.map none)=>k (setd d (.val (.int .i64 (.ofNat 0))) env) V
 |.val (.map (some r))=>mlenK d k env V (V.at r)
 |_=>.bad
def opMlen (x:Opd) (d:Option Nat) (k:EK) (env:VE) (V:VS):ER:=mlen1 d k env V (eo x env)
def rangeK (r:Nat) (d:Option Nat) (k:EK) (env:VE) (V:VS):VObj→ER
 |.map ko es=>bif Nat.ble V.g r then k (setd d (.val (.ptr V.n 0)) env) ((V.put r .lent).new (.iter r ko es es none))else .bad
 |_=>.bad
def range1 (d:Option Nat) (k:EK) (env:VE) (V:VS):Ent→ER
 |.val (.map (some r))=>rangeK r d k env V (V.at r)
 |_=>.bad
def opRange (x:Opd) (d:Option Nat) (k:EK) (env:VE) (V:VS):ER:=range1 d k env V (eo x env)
def entryK (d:Option Nat) (k:EK) (env:VE) (V:VS):VObj→ER
 |.iter _ _ _ _ (some e)=>bif e.1.plain then k (setd d (.val (.tuple [e.1,e.2])) env) V else .bad
 |_=>.bad
def entry1 (d:Option Nat) (k:EK) (env:VE) (V:VS):Ent→ER
 |.val (.ptr i 0)=>entryK d k env V (V.at i)
 |_=>.bad
def opEntry (x:Opd) (d:Option Nat) (k:EK) (env:VE) (V:VS):ER:=entry1 d k env V (eo x env)
def clearMK (r:Nat) (d:Option Nat) (k:EK) (env:VE) (V:VS):VObj→ER
 |.map _ _=>bif Nat.ble V.g r then k (setd d (.val (.tuple [])) env) (V.put r (.map none []))else .bad
 |_=>.bad
def clearM1 (d:Option Nat) (k:EK) (env:VE) (V:VS):Ent→ER
 |.val (.map none)=>k (setd d (.val (.tuple [])) env) V
 |.val (.map (some r))=>clearMK r d k env V (V.at r)
 |_=>.bad
def opClearM (x:Opd) (d:Option Nat) (k:EK) (env:VE) (V:VS):ER:=clearM1 d k env V (eo x env)
def zerosF (n sz:Nat) (z:AVal):List AVal:=(List.range (Nat.mul n sz)).map fun q=>z.cells.getD (q%sz) .top
def clearSK (i o n sz:Nat) (z:AVal) (d:Option Nat) (k:EK) (env:VE) (V:VS):VObj→ER
 |.row sz' cs=>bif fits (Nat.add o (Nat.mul n sz)) cs&&Nat.ble V.g i then k (setd d (.val (.tuple [])) env) (V.put i (.row sz' (putAt o (zerosF n sz z) cs)))else .bad
 |.obj cs=>bif fits (Nat.add o (Nat.mul n sz)) cs&&Nat.ble V.g i then k (setd d (.val (.tuple [])) env) (V.put i (.obj (putAt o (zerosF n sz z) cs)))else .bad
 |_=>.bad
def clearS1 (sz:Nat) (z:AVal) (d:Option Nat) (k:EK) (env:VE) (V:VS):Ent→ER
 |.val (.slice [] _ _)=>k (setd d (.val (.tuple [])) env) V
 |.val (.ref i o n _)=>clearSK i o n sz z d k env V (V.at i)
 |_=>.bad
def opClearS (sz:Nat) (z:AVal) (x:Opd) (d:Option Nat) (k:EK) (env:VE) (V:VS):ER:=clearS1 sz z d k env V (eo x env)
def retK (d:Option Nat) (k:EK) (env:VE):FR→ER
 |.got a V=>k (setd d (.val a) env) V
 |.fail=>.bad
def callK (call:Nat→Callee') (f:Nat) (d:Option Nat) (k:EK) (env:VE) (V:VS) (as:Option (List AVal)):ER:=Option.rec .bad (fun as=>retK d k env (call f as V)) as
def opCall (call:Nat→Callee') (f:Nat) (args:List Opd) (d:Option Nat) (k:EK) (env:VE) (V:VS):ER:=callK call f d k env V (evals args env)
def callvK (call:Nat→Callee') (as:List AVal) (d:Option Nat) (k:EK) (env:VE) (V:VS):Ent→ER
 |.val (.func (.func f) fs cs)=>retK d k env (call f (fs++as++cs) V)
 |_=>.bad
def opCallv (call:Nat→Callee') (f:Opd) (args:List Opd) (d:Option Nat) (k:EK) (env:VE) (V:VS):ER:=Option.rec .bad (fun as=>callvK call as d k env V (eo f env)) (evals args env)
def invF (call:Nat→Callee') (v:AVal) (as:List AVal) (d:Option Nat) (k:EK) (env:VE) (V:VS):Option Nat→ER
 |some f=>retK d k env (call f (v::as) V)
 |none=>.bad
def tblF:List (Nat × Nat)→Nat→Option Nat
 | [],_=>none
 |(t,f)::r,u=>bif Nat.beq t u then some f else tblF r u
def invK (call:Nat→Callee') (tbl:List (Nat × Nat)) (as:List AVal) (d:Option Nat) (k:EK) (env:VE) (V:VS):Ent→ER
 |.val (.iface t v)=>invF call v as d k env V (tblF tbl t)
 |_=>.bad
def opInv (call:Nat→Callee') (tbl:List (Nat × Nat)) (x:Opd) (args:List Opd) (d:Option Nat) (k:EK) (env:VE) (V:VS):ER:=Option.rec .bad (fun as=>invK call tbl as d k env V (eo x env)) (evals args env)
def opPure (o:AOp) (d:Option Nat) (k:EK) (env:VE) (V:VS):ER:=Option.rec .bad (fun e=>k (setd d e env) V) (pureE o env)
def opP (m:VE→Option Ent) (d:Option Nat) (k:EK) (env:VE) (V:VS):ER:=Option.rec .bad (fun e=>k (setd d e env) V) (m env)
def opBad (_:Option Nat) (_:EK) (_:VE) (_:VS):ER:=.bad
def opT:AOp→(Nat→Callee')→Option Nat→EK→VE→VS→ER:= @AOp.rec (fun _=>(Nat→Callee')→Option Nat→EK→VE→VS→ER)
 (fun(x:Opd)=>fun _=>opP (pMv x))
 (fun(c:Opd) (a:Opd) (b:Opd)=>fun _=>opP (pPick c a b))
 (fun(cs:List AVal)=>fun _=>opBox cs)
 (fun(x:Opd)=>fun _=>opBoxv x)
 (fun(cs:List AVal)=>fun _=>opObj cs)
 (fun(x:Opd)=>fun _=>opObjv x)
 (fun(z:List AVal) (ps:List (Nat × Nat × Opd))=>fun _=>opP (buildE z ps))
 (fun(own:Bool) (sz:Nat) (e:Nat) (n:Nat) (z:AVal) (ps:List (Nat × Opd))=>fun _=>opBsl own sz e n z ps)
 (fun(agg:Bool) (n:Nat) (x:Opd)=>fun _=>opLoad agg n x)
 (fun(n:Nat) (x:Opd) (v:Opd)=>fun _=>opStore n x v)
 (fun(x:Opd)=>fun _=>opP (pNil x))
 (fun(op:BinOp) (q:EqK) (x:Opd) (y:Opd)=>fun _=>opP (pBin op q x y))
 (fun(x:Opd)=>fun _=>opP (pNot x))
 (fun(k:IntKind) (x:Opd)=>fun _=>opP (pConv k x))
 (fun(x:Opd)=>fun _=>opP (pSame x))
 (fun(x:Opd)=>fun _=>opP (pBstr x))
 (fun(_:Nat) (x:Opd)=>fun _=>opP (pStrb x))
 (fun(x:Opd)=>fun _=>opMark x)
 (fun(t:Nat) (x:Opd)=>fun _=>opP (pIface t x))
 (fun(fn:Fn) (f:List Opd) (c:List Opd)=>fun _=>opP (pMk fn f c))
 (fun(sz:Nat) (x:Opd) (lo:Option Opd) (hi:Option Opd)=>fun _=>opP (pCut sz x lo hi))
 (fun(sz:Nat) (x:Opd) (lo:Option Opd) (hi:Opd) (mx:Opd)=>fun _=>opP (pCut3 sz x lo hi mx))
 (fun(x:Opd) (lo:Option Opd) (hi:Option Opd)=>fun _=>opP (pCutS x lo hi))
 (fun(off:Nat) (x:Opd)=>fun _=>opP (pFoff off x))
 (fun(off:Nat) (n:Nat) (agg:Bool) (x:Opd)=>fun _=>opP (pField off n agg x))
 (fun(sz:Nat) (x:Opd) (i:Opd)=>fun _=>opP (pIaddr sz x i))
 (fun(x:Opd) (i:Opd)=>fun _=>opP (pIstr x i))
 (fun(x:Opd) (i:Nat)=>fun _=>opP (pExt x i))
 (fun(f:Nat) (args:List Opd)=>fun call=>opCall call f args)
 (fun(f:Opd) (args:List Opd)=>fun call=>opCallv call f args)
 (fun(x:Opd)=>fun _=>opP (pLen x))
 (fun(x:Opd)=>fun _=>opP (pLenS x))
 (fun(sz:Nat) (e:Nat) (bytes:Nat) (x:Opd) (y:Opd)=>fun _=>opApp sz e bytes x y)
 (fun(_:Nat) (_:Nat) (_:Nat) (_:Opd) (_:Opd)=>fun _=>opBad)
 (fun(sz:Nat) (_:Nat) (bytes:Nat) (x:Opd) (y:Opd)=>fun _=>opAppM sz bytes x y)
 (fun(sz:Nat) (_:Nat) (n:Nat) (z:AVal) (ps:List (Nat × Opd))=>fun _=>opMsl sz n z ps)
 (fun(x:Opd)=>fun _=>opP (pCap x))
 (fun(x:Opd)=>fun _=>opP (pNeg x))
 (fun(t:Nat) (x:Opd)=>fun _=>opP (pTas t x))
 (fun(m:Nat) (n:Nat) (agg:Bool) (x:Opd) (i:Opd)=>fun _=>opP (pAget m n agg x i))
 (fun _=>opMmap)
 (fun(kk:KeyK) (zero:AVal) (ok:Bool) (x:Opd) (i:Opd)=>fun _=>opMget kk zero ok x i)
 (fun(kk:KeyK) (x:Opd) (i:Opd) (v:Opd)=>fun _=>opMset kk x i v)
 (fun(kk:KeyK) (x:Opd) (i:Opd)=>fun _=>opMdel kk x i)
 (fun(x:Opd)=>fun _=>opMlen x)
 (fun(x:Opd)=>fun _=>opRange x)
 (fun(_:Opd)=>fun _=>opBad)
 (fun(x:Opd)=>fun _=>opEntry x)
 (fun(n:Nat) (x:Opd)=>fun _=>opP (pArr n x))
 (fun(tbl:List (Nat × Nat)) (x:Opd) (args:List Opd)=>fun call=>opInv call tbl x args)
 (fun(sz:Nat) (z:AVal) (x:Opd)=>fun _=>opClearS sz z x)
 (fun(x:Opd)=>fun _=>opClearM x)
 (fun(n:Nat) (sz:Nat) (x:Opd) (i:Opd)=>fun _=>opP (pAidx n sz x i))
 (fun _=>opBad)
 (fun(x:Opd) (y:Opd)=>fun _=>opP (pMin x y))
 (fun(x:Opd) (y:Opd)=>fun _=>opP (pMax x y))
 (fun(x:Opd) (y:Opd) (z:Opd)=>fun _=>opP (pMax3 x y z))
def opE (call:Nat→Callee') (o:AOp):Option Nat→EK→VE→VS→ER:=opT o call
def operG2 (call:Nat→Callee') (op:AOp) (d:Option Nat) (want:Bool) (k:EK) (env:VE) (V:VS):Ent→ER
 |.val (.bool t)=>bif t==want then opE call op d k env V else k (setd d undone env) V
 |.val (.tuple [])=>k (setd d undone env) V
 |_=>.bad
def operG (call:Nat→Callee') (d:Option Nat) (op:AOp) (g:Option (Nat × Bool)):EK→VE→VS→ER:=
 Option.rec (opE call op d) (fun jw k env V=>operG2 call op d jw.2 k env V (eat env jw.1)) g
def operE (call:Nat→Callee') (o:AOper):EK→VE→VS→ER:=AOper.rec (fun d g op=>operG call d op g) o
def opsStep (call:Nat→Callee') (o:AOper) (ih:EK→EK) (k:EK):EK:=operE call o (ih k)
def opsE (call:Nat→Callee') (l:List AOper):EK→EK:=List.rec (fun k=>k) (fun o _ ih=>opsStep call o ih) l
mutual
def AVal.shut:AVal→AVal
 |.slice xs nl _=>.slice (shuts xs) nl none
 |.agg cs=>.agg (shuts cs)
 |.tuple cs=>.tuple (shuts cs)
 |.iface t v=>.iface t v.shut
 |.sptr cs=>.sptr (shuts cs)
 |.func fn f c=>.func fn (shuts f) (shuts c)
 |v=>v
def shuts:List AVal→List AVal
 | []=>[]
 |x::xs=>x.shut::shuts xs
end
def quietR (d:Option Nat) (k:EK) (env:VE) (V:VS):FR→ER
 |.got a _=>bif a.shut.plain then k (setd d (.val a.shut) env) V else .bad
 |.fail=>.bad
def VS.guard (V:VS):VS:=⟨V.n,V.n,V.t⟩
def quietK (call:Nat→Callee') (f:Nat) (as:List AVal) (d:Option Nat) (k:EK) (env:VE) (V:VS):ER:=quietR d k env V (call f as V.guard)
def callD (call:Nat→Callee') (f:Nat) (args:List Opd) (d:Option Nat) (k:EK) (env:VE) (V:VS):ER:=Option.rec .bad (fun as=>quietK call f as d k env V) (evals args env)
def callvDK (call:Nat→Callee') (as:List AVal) (d:Option Nat) (k:EK) (env:VE) (V:VS):Ent→ER
 |.val (.func (.func f) fs cs)=>quietK call f (fs++as++cs) d k env V
 |_=>.bad
def callvD (call:Nat→Callee') (f:Opd) (args:List Opd) (d:Option Nat) (k:EK) (env:VE) (V:VS):ER:=Option.rec .bad (fun as=>callvDK call as d k env V (eo f env)) (evals args env)
def invDF (call:Nat→Callee') (v:AVal) (as:List AVal) (d:Option Nat) (k:EK) (env:VE) (V:VS):Option Nat→ER
 |some f=>quietK call f (v::as) d k env V
 |none=>.bad
def invDK (call:Nat→Callee') (tbl:List (Nat × Nat)) (as:List AVal) (d:Option Nat) (k:EK) (env:VE) (V:VS):Ent→ER
 |.val (.iface t v)=>invDF call v as d k env V (tblF tbl t)
 |_=>.bad
def invD (call:Nat→Callee') (tbl:List (Nat × Nat)) (x:Opd) (args:List Opd) (d:Option Nat) (k:EK) (env:VE) (V:VS):ER:=Option.rec .bad (fun as=>invDK call tbl as d k env V (eo x env)) (evals args env)
def loadD (W:List Nat) (agg:Bool) (n:Nat) (env:VE) (V:VS):Ent→Option AVal
 |.lptr s o=>bif W.contains s then none else loadB agg n o (eat env s)
 |e=>loadE agg n env V e
def opLoadD (W:List Nat) (agg:Bool) (n:Nat) (x:Opd) (d:Option Nat) (k:EK) (env:VE) (V:VS):ER:=ret1 d k env V (loadD W agg n env V (eo x env))
def opDT:AOp→(Nat→Callee')→List Nat→Option Nat→EK→VE→VS→ER:= @AOp.rec (fun _=>(Nat→Callee')→List Nat→Option Nat→EK→VE→VS→ER)
 (fun(x:Opd)=>fun _ _=>opP (pMv x))
 (fun(c:Opd) (a:Opd) (b:Opd)=>fun _ _=>opP (pPick c a b))
 (fun(_:List AVal)=>fun _ _=>opBad)
 (fun(_:Opd)=>fun _ _=>opBad)
 (fun(_:List AVal)=>fun _ _=>opBad)
 (fun(_:Opd)=>fun _ _=>opBad)
 (fun(z:List AVal) (ps:List (Nat × Nat × Opd))=>fun _ _=>opP (buildE z ps))
 (fun(own:Bool) (sz:Nat) (_:Nat) (n:Nat) (z:AVal) (ps:List (Nat × Opd))=>fun _ _=>opP (pBsl own sz n z ps))
 (fun(agg:Bool) (n:Nat) (x:Opd)=>fun _ W=>opLoadD W agg n x)
 (fun(_:Nat) (_:Opd) (_:Opd)=>fun _ _=>opBad)
 (fun(x:Opd)=>fun _ _=>opP (pNil x))
 (fun(op:BinOp) (q:EqK) (x:Opd) (y:Opd)=>fun _ _=>opP (pBin op q x y))
 (fun(x:Opd)=>fun _ _=>opP (pNot x))
 (fun(k:IntKind) (x:Opd)=>fun _ _=>opP (pConv k x))
 (fun(x:Opd)=>fun _ _=>opP (pSame x))
 (fun(x:Opd)=>fun _ _=>opP (pBstr x))
 (fun(_:Nat) (x:Opd)=>fun _ _=>opP (pStrb x))
 (fun(_:Opd)=>fun _ _=>opBad)
 (fun(t:Nat) (x:Opd)=>fun _ _=>opP (pIface t x))
 (fun(fn:Fn) (f:List Opd) (c:List Opd)=>fun _ _=>opP (pMk fn f c))
 (fun(sz:Nat) (x:Opd) (lo:Option Opd) (hi:Option Opd)=>fun _ _=>opP (pCut sz x lo hi))
 (fun(sz:Nat) (x:Opd) (lo:Option Opd) (hi:Opd) (mx:Opd)=>fun _ _=>opP (pCut3 sz x lo hi mx))
 (fun(x:Opd) (lo:Option Opd) (hi:Option Opd)=>fun _ _=>opP (pCutS x lo hi))
 (fun(off:Nat) (x:Opd)=>fun _ _=>opP (pFoff off x))
 (fun(off:Nat) (n:Nat) (agg:Bool) (x:Opd)=>fun _ _=>opP (pField off n agg x))
 (fun(sz:Nat) (x:Opd) (i:Opd)=>fun _ _=>opP (pIaddr sz x i))
 (fun(x:Opd) (i:Opd)=>fun _ _=>opP (pIstr x i))
 (fun(x:Opd) (i:Nat)=>fun _ _=>opP (pExt x i))
 (fun(f:Nat) (args:List Opd)=>fun call _=>callD call f args)
 (fun(f:Opd) (args:List Opd)=>fun call _=>callvD call f args)
 (fun(x:Opd)=>fun _ _=>opP (pLen x))
 (fun(x:Opd)=>fun _ _=>opP (pLenS x))
 (fun(_:Nat) (_:Nat) (_:Nat) (_:Opd) (_:Opd)=>fun _ _=>opBad)
 (fun(_:Nat) (_:Nat) (_:Nat) (_:Opd) (_:Opd)=>fun _ _=>opBad)
 (fun(_:Nat) (_:Nat) (_:Nat) (_:Opd) (_:Opd)=>fun _ _=>opBad)
 (fun(_:Nat) (_:Nat) (_:Nat) (_:AVal) (_:List (Nat × Opd))=>fun _ _=>opBad)
 (fun(_:Opd)=>fun _ _=>opBad)
 (fun(x:Opd)=>fun _ _=>opP (pNeg x))
 (fun(t:Nat) (x:Opd)=>fun _ _=>opP (pTas t x))
 (fun(m:Nat) (n:Nat) (agg:Bool) (x:Opd) (i:Opd)=>fun _ _=>opP (pAget m n agg x i))
 (fun _ _=>opBad)
 (fun(kk:KeyK) (zero:AVal) (ok:Bool) (x:Opd) (i:Opd)=>fun _ _=>opMget kk zero ok x i)
 (fun(_:KeyK) (_:Opd) (_:Opd) (_:Opd)=>fun _ _=>opBad)
 (fun(_:KeyK) (_:Opd) (_:Opd)=>fun _ _=>opBad)
 (fun(x:Opd)=>fun _ _=>opMlen x)
 (fun(_:Opd)=>fun _ _=>opBad)
 (fun(_:Opd)=>fun _ _=>opBad)
 (fun(_:Opd)=>fun _ _=>opBad)
 (fun(n:Nat) (x:Opd)=>fun _ _=>opP (pArr n x))
 (fun(tbl:List (Nat × Nat)) (x:Opd) (args:List Opd)=>fun call _=>invD call tbl x args)
 (fun(_:Nat) (_:AVal) (_:Opd)=>fun _ _=>opBad)
 (fun(_:Opd)=>fun _ _=>opBad)
 (fun(n:Nat) (sz:Nat) (x:Opd) (i:Opd)=>fun _ _=>opP (pAidx n sz x i))
 (fun _ _=>opBad)
 (fun(x:Opd) (y:Opd)=>fun _ _=>opP (pMin x y))
 (fun(x:Opd) (y:Opd)=>fun _ _=>opP (pMax x y))
 (fun(x:Opd) (y:Opd) (z:Opd)=>fun _ _=>opP (pMax3 x y z))
def opD (call:Nat→Callee') (W:List Nat) (o:AOp):Option Nat→EK→VE→VS→ER:=opDT o call W
def operDG2 (call:Nat→Callee') (W:List Nat) (op:AOp) (d:Option Nat) (want:Bool) (k:EK) (env:VE) (V:VS):Ent→ER
 |.val (.bool t)=>bif t==want then opD call W op d k env V else k (setd d undone env) V
 |.val (.tuple [])=>k (setd d undone env) V
 |_=>.bad
def operDG (call:Nat→Callee') (W:List Nat) (d:Option Nat) (op:AOp) (g:Option (Nat × Bool)):EK→VE→VS→ER:=
 Option.rec (opD call W op d) (fun jw k env V=>operDG2 call W op d jw.2 k env V (eat env jw.1)) g
def operD (call:Nat→Callee') (W:List Nat) (o:AOper):EK→VE→VS→ER:=AOper.rec (fun d g op=>operDG call W d op g) o
def hasE (W:List Nat) (s:Nat):Bool:=List.rec false (fun t _ ih=>bif Nat.beq t s then true else ih) W
def stOkE2 (W:List Nat):Ent→Bool
 |.lptr s _=>hasE W s
 |_=>true
def stOkE (W:List Nat) (env:VE):AOp→Bool
 |.store _ x _=>stOkE2 W (eo x env)
 |_=>true
def isL:Ent→Bool
 |.lptr _ _=>true
 |_=>false
def stBoxE (env:VE):AOp→Bool
 |.store _ x _=>isL (eo x env)
 |_=>false
def ldBoxE (env:VE):AOp→Bool
 |.load _ _ x=>isL (eo x env)
 |_=>false
def ldG2 (want:Bool) (env:VE) (op:AOp):Ent→Bool
 |.val (.bool t)=>bif t==want then ldBoxE env op else true
 |_=>true
def ldBoxGE (env:VE) (op:AOp) (g:Option (Nat × Bool)):Bool:=Option.rec (ldBoxE env op) (fun jw=>ldG2 jw.2 env op (eat env jw.1)) g
def okK (b:Bool) (m:EK):EK:=fun env V=>bif b then m env V else .bad
def kindE (call:Nat→Callee') (W:List Nat):Nat→AOper→EK→EK
 |0,o,k=>operD call W o k
 |1,o,k=>operD call W o k
 |2,o,k=>fun env V=>okK (stOkE W env o.op) (operE call o k) env V
 |3,o,k=>operE call o k
 |4,o,k=>fun env V=>okK (stOkE W env o.op&&stBoxE env o.op) (operE call o k) env V
 |5,o,k=>fun env V=>okK (ldBoxGE env o.op o.guard) (operD call W o k) env V
 |6,o,k=>fun env V=>okK (ldBoxGE env o.op o.guard) (operD call (cutW W) o k) env V
 |_+7,o,k=>operD call W o k
def drawnStep (call:Nat→Callee') (W:List Nat) (o:Nat × AOper) (ih:EK→EK) (k:EK):EK:=kindE call W o.1 o.2 (ih k)
def killK (B:List Nat) (e:Ent):Ent:=Ent.rec (fun a=>.val a) (fun cs=>.box cs) (fun s o=>bif hasE B s then .val .top else .lptr s o) e
def forgetK (env:VE) (B:List Nat):VE:=List.rec env (fun _ _ _=>mapTr (killK B) env) B
def forgetE (l:List (Nat × AOper)) (env:VE):VE:=forgetK env (newBoxes l)
def drawnS (call:Nat→Callee') (W:List Nat) (l:List (Nat × AOper)):EK→EK:=List.rec (fun k=>k) (fun o _ ih=>drawnStep call W o ih) l
def drawnE (call:Nat→Callee') (W:List Nat) (l:List (Nat × AOper)) (k:EK):EK:=fun env V=>drawnS call W l k (forgetE l env) V
abbrev EC:=VE→VS→ER
def seqT (b:EC) (env:VE) (V:VS):Ex→ER:= @Ex.rec (fun _=>ER) (b env V) (fun i=>.done (.exit i) env V) (.done .ret env V)
def seqK (b:EC):ER→ER:= @ER.rec (fun _=>ER) (fun x env V=>seqT b env V x) .bad
def condV:AVal→EC→EC→VE→VS→ER:=@AVal.rec (fun _=>EC→EC→VE→VS→ER) (fun _=>Unit)
 (fun(_:EC) (_:EC) (_:VE) (_:VS)=>.bad)
 (fun(t:Bool)=>fun(a:EC) (b:EC) (env:VE) (V:VS)=>Bool.rec (b env V) (a env V) t)
 (fun(_:IntKind) (_:Int)=>fun(_:EC) (_:EC) (_:VE) (_:VS)=>.bad)
 (fun(_:List UInt8)=>fun(_:EC) (_:EC) (_:VE) (_:VS)=>.bad)
 (fun(_:EC) (_:EC) (_:VE) (_:VS)=>.bad)
 (fun(_:Nat) (_:Nat)=>fun(_:EC) (_:EC) (_:VE) (_:VS)=>.bad)
 (fun(_:List AVal) (_:Unit)=>fun(_:EC) (_:EC) (_:VE) (_:VS)=>.bad)
 (fun(_:List AVal) (_:Bool) (_:Option Nat) (_:Unit)=>fun(_:EC) (_:EC) (_:VE) (_:VS)=>.bad)
 (fun(_:Nat) (_:Nat)=>fun(_:EC) (_:EC) (_:VE) (_:VS)=>.bad)
 (fun(_:Nat) (_:Nat) (_:Nat) (_:Nat)=>fun(_:EC) (_:EC) (_:VE) (_:VS)=>.bad)
 (fun(_:List AVal) (_:Unit)=>fun(_:EC) (_:EC) (_:VE) (_:VS)=>.bad)
 (fun(_:List AVal) (_:Unit)=>fun(_:EC) (_:EC) (_:VE) (_:VS)=>.bad)
 (fun(_:TypeId) (_:AVal) (_:EC→EC→VE→VS→ER)=>fun(_:EC) (_:EC) (_:VE) (_:VS)=>.bad)
 (fun(_:EC) (_:EC) (_:VE) (_:VS)=>.bad)
 (fun(_:Fn) (_:List AVal) (_:List AVal) (_:Unit) (_:Unit)=>fun(_:EC) (_:EC) (_:VE) (_:VS)=>.bad)
 (fun(_:EC) (_:EC) (_:VE) (_:VS)=>.bad)
 (fun(_:Option Nat)=>fun(_:EC) (_:EC) (_:VE) (_:VS)=>.bad)
 () (fun _ _ _ _=>())
def condT:Ent→EC→EC→VE→VS→ER:= @Ent.rec (fun _=>EC→EC→VE→VS→ER) condV (fun _ _ _ _ _=>.bad) (fun _ _ _ _ _ _=>.bad)
def condK (a b:EC) (env:VE) (V:VS) (e:Ent):ER:=condT e a b env V
def blockT (id:Nat) (env:VE) (V:VS):Ex→ER:= @Ex.rec (fun _=>ER) (.done .normal env V) (fun i=>bif Nat.beq i id then .done .normal env V else .done (.exit i) env V) (.done .ret env V)
def blockK (id:Nat):ER→ER:= @ER.rec (fun _=>ER) (fun x env V=>blockT id env V x) .bad
def loopN (body:EC) (n:Nat):EC:= @Nat.rec (fun _=>EC) (fun _ _=>.bad) (fun _ ih env V=>seqK ih (body env V)) n
mutual
def eqA:AVal→AVal→Bool
 |.top,.top=>true
 |.bool a,.bool b=>a==b
 |.int k a,.int k' b=>bif kEqF k k' then eqI a b else false
 |.str a,.str b=>eqB a b
 |.nilP,.nilP=>true
 |.nilI,.nilI=>true
 |.nilF,.nilF=>true
 |.ptr a o,.ptr b p=>Nat.beq a b&&Nat.beq o p
 |.ref a o n c,.ref b p m d=>Nat.beq a b&&(Nat.beq o p&&(Nat.beq n m&&Nat.beq c d))
 |.slice xs a none,.slice ys b none=>(a==b)&&eqAs xs ys
 |.slice xs a (some g),.slice ys b (some h)=>Nat.beq g h&&((a==b)&&eqAs xs ys)
 |.func (.func f) xs ys,.func (.func g) zs ws=>Nat.beq f g&&(eqAs xs zs&&eqAs ys ws)
 |.agg xs,.agg ys=>eqAs xs ys
 |.sptr xs,.sptr ys=>eqAs xs ys
 |.tuple xs,.tuple ys=>eqAs xs ys
 |.iface t v,.iface u w=>Nat.beq t u&&eqA v w
 |.map none,.map none=>true
 |.map (some a),.map (some b)=>Nat.beq a b
 |_,_=>false
def eqAs:List AVal→List AVal→Bool
 | [],[]=>true
 |x::xs,y::ys=>bif eqA x y then eqAs xs ys else false
 |_,_=>false
end
def eqEn:Ent→Ent→Bool
 |.val a,.val b=>eqA a b
 |.box a,.box b=>eqAs a b
 |.lptr s o,.lptr t p=>Nat.beq s t&&Nat.beq o p
 |_,_=>false
def meetE (a b:Ent):Ent:=bif eqEn a b then a else .val .top
def meetT:VE→VE→VE
 |.nd v l r,.nd w m s=>.nd (meetE v w) (meetT l m) (meetT r s)
 |_,_=>.lf
def maxN (a b:Nat):Nat:=bif Nat.ble a b then b else a
def picks:List (AVal × AVal)→List ((AVal × AVal) × List (AVal × AVal))
 | []=>[]
 |e::r=>(e,r)::(picks r).map fun p=>(p.1,e::p.2)
def eqM:List (AVal × AVal)→List (AVal × AVal)→Bool
 | [],[]=>true
 |x::xs,y::ys=>eqA x.1 y.1&&(eqA x.2 y.2&&eqM xs ys)
 |_,_=>false
def eqKo:Option KeyK→Option KeyK→Bool
 |none,none=>true
 |some a,some b=>kkEq a b
 |_,_=>false
def eqCur:Option (AVal × AVal)→Option (AVal × AVal)→Bool
 |none,none=>true
 |some a,some b=>eqA a.1 b.1&&eqA a.2 b.2
 |_,_=>false
def eqO:VObj→VObj→Bool
 |.dead,.dead=>true
 |.obj a,.obj b=>eqAs a b
 |.row s a,.row t b=>Nat.beq s t&&eqAs a b
 |.opn a b c,.opn d e f=>Nat.beq a d&&(Nat.beq b e&&Nat.beq c f)
 |.map k a,.map l b=>eqKo k l&&eqM a b
 |.iter m k a b c,.iter n l d e f=>Nat.beq m n&&(eqKo k l&&(eqM a d&&(eqM b e&&eqCur c f)))
 |.lent,.lent=>true
 |_,_=>false
abbrev RS:=VE × Nat × VObj
abbrev RR:=Option RS
def meetR:RR→RR→RR
 |some a,some b=>bif eqO a.2.2 b.2.2 then some (meetT a.1 b.1,maxN a.2.1 b.2.1,a.2.2)else none
 |_,_=>none
def roundK (go:VE→Nat→VObj→RR) (i:Nat) (it:VObj):ER→RR
 |.done .normal env V=>bif eqO (V.at i) it then go env V.n (V.at (Nat.sub i 1))else none
 |_=>none
def meetL:List RR→RR
 | []=>none
 | [r]=>r
 |r::s::l=>meetR r (meetL (s::l))
def roundT (tr:Tr VObj) (i:Nat) (o it:VObj):Tr VObj:=Tr.set .dead (Tr.set .dead tr (Nat.sub i 1) o) i it
def roundE (run:Option AVal→EC) (i m:Nat) (ko:Option KeyK) (es:List (AVal × AVal)) (tr:Tr VObj) (env:VE) (n:Nat) (o:VObj) (go:List (AVal × AVal)→VE→Nat→VObj→RR) (p:(AVal × AVal) × List (AVal × AVal)):RR:=
 bif p.1.1.plain then roundK (go p.2) i (.iter m ko es p.2 (some p.1)) (run (some (.tuple [.bool true,p.1.1,p.1.2])) env ⟨n,Nat.sub i 1,roundT tr i o (.iter m ko es p.2 (some p.1))⟩)else none
def isPtr (i:Nat):Ent→Bool
 |.val (.ptr j 0)=>Nat.beq i j
 |_=>false
def rangeE (run:Option AVal→EC) (s i m:Nat) (ko:Option KeyK) (es:List (AVal × AVal)) (tr:Tr VObj):Nat→List (AVal × AVal)→VE→Nat→VObj→RR
 |0,_,_,_,_=>none
 |_+1,[],env,n,o=>some (env,n,o)
 |f+1,e::r,env,n,o=>bif isPtr i (eat env s)then meetL ((picks (e::r)).map (roundE run i m ko es tr env n o (rangeE run s i m ko es tr f)))else none
def notNormal:ER→ER
 |.done .normal _ _=>.bad
 |r=>r
def rangeEnd (run:Option AVal→EC) (s i m:Nat) (ko:Option KeyK) (es:List (AVal × AVal)) (V:VS):RR→ER
 |some p=>bif isPtr i (eat p.1 s)then notNormal (run (some (.tuple [.bool false])) p.1 ((((VS.mk p.2.1 V.g V.t).put (Nat.sub i 1) p.2.2).put i .dead).put m (.map ko es)))else .bad
 |none=>.bad
def isLent:VObj→Bool
 |.lent=>true
 |_=>false
def roundOk (i m:Nat) (V:VS):Bool:=Nat.blt V.g i&&(Nat.ble V.g m&&(isLent (V.at m)&&(Nat.beq V.n (Nat.add i 1)&& !Nat.beq m (Nat.sub i 1))))
def loopI (run:Option AVal→EC) (s i:Nat) (env:VE) (V:VS):VObj→ER
 |.iter m ko es left none=>bif roundOk i m V then rangeEnd run s i m ko es V (rangeE run s i m ko es V.t (left.length+1) left env V.n (V.at (Nat.sub i 1)))else .bad
 |_=>.bad
def loopS (run:Option AVal→EC) (s:Nat) (env:VE) (V:VS):Ent→ER
 |.val (.ptr i 0)=>loopI run s i env V (V.at i)
 |_=>.bad
def loopR (sl:Option Nat) (run:Option AVal→EC) (n:Nat):EC:= @Option.rec Nat (fun _=>EC) (loopN (run none) n) (fun s env V=>loopS run s env V (eat env s)) sl
def nextSlot1:AOper→Option Nat
 |⟨_,none,.next (.tmp s)⟩=>some s
 |_=>none
def nextSlot0:List AOper→Option Nat
 |o::_=>nextSlot1 o
 | []=>none
def nextSlot2:ACode→Option Nat
 |.region l=>nextSlot0 l
 |_=>none
def nextSlot:ACode→Option Nat
 |.seq a _=>nextSlot2 a
 |_=>none
def nextOps (call:Nat→Callee') (v:AVal) (env:VE) (V:VS):List AOper→ER
 |⟨d,none,.next _⟩::l=>opsE call l (.done .normal) (setd d (.val v) env) V
 |_=>.bad
def regR (call:Nat→Callee') (ops:List AOper) (nx:Option AVal):EC:= @Option.rec AVal (fun _=>EC) (opsE call ops (.done .normal)) (fun v env V=>nextOps call v env V ops) nx
def codeR:ACode→(Nat→Callee')→Nat→Option AVal→EC:= @ACode.rec (fun _=>(Nat→Callee')→Nat→Option AVal→EC)
 (fun _ _ _=>.done .normal)
 (fun ops call _ nx=>regR call ops nx)
 (fun W ops call _ _=>drawnE call W ops (.done .normal))
 (fun _ _ iha ihb call n nx env V=>seqK (ihb call n none) (iha call n nx env V))
 (fun c _ _ iha ihb call n _ env V=>condK (iha call n none) (ihb call n none) env V (eo c env))
 (fun id _ ih call n _ env V=>blockK id (ih call n none env V))
 (fun b ih call n _=>loopR (nextSlot b) (ih call n) n)
 (fun id _ _ _=>.done (.exit id))
 (fun _ _ _=>.done .ret)
inductive FE where
 |none
 |code (f:AFun)
 |told (f:List AVal→VS→FR)
def argsE:List AVal→Nat→VE→VE:= @List.rec AVal (fun _=>Nat→VE→VE) (fun _ env=>env) (fun a _ ih i env=>ih (Nat.add i 1) (eput env i (.val a)))
def resE (env:VE) (V:VS):ARes→Option AVal
 |.tmp t=>match eo (.tmp t) env with
  |.val a=>some a
  |_=>none
 |.cell agg n t=>match eo (.tmp t) env with
  |.lptr s o=>loadB agg n o (eat env s)
  |.val (.ptr i o)=>loadC agg n o (objCells V i)
  |_=>none
def resC (a:Option AVal) (r:Option (List AVal)):Option (List AVal):=Option.rec none (fun a=>consO a r) a
def ressE (env:VE) (V:VS):List ARes→Option (List AVal)
 | []=>some []
 |r::rs=>resC (resE env V r) (ressE env V rs)
def tupO:List AVal→AVal
 | [a]=>a
 |as=>.tuple as
def finK (V:VS) (o:Option (List AVal)):FR:=Option.rec .fail (fun as=>.got (tupO as) V) o
def endK (f:AFun):ER→FR
 |.done (.exit _) _ _=>.fail
 |.done _ env V=>finK V (ressE env V f.res)
 |.bad=>.fail
def rounds:Nat:=4611686018427387904
def runF (call:Nat→Callee') (f:AFun) (as:List AVal) (V:VS):FR:=bif Nat.ble (lenF as 0) f.n then endK f (codeR f.body call rounds none (argsE as 0 .lf) V)else .fail
def callF (call:Nat→Callee'):FE→Callee':= @FE.rec (fun _=>Callee') (fun _ _=>.fail) (fun f=>runF call f) (fun g=>g)
def forceN (n:Nat) (k:Nat→FR):FR:= @Nat.rec (fun _=>FR) .fail (fun p _=>k p) (Nat.add n 1)
def forceI (n:Int) (k:Int→FR):FR:= @Int.rec (fun _=>FR) (fun n=>forceN n (fun n=>k (.ofNat n))) (fun n=>forceN n (fun n=>k (.negSucc n))) n
def forceB (b:Bool) (k:Bool→FR):FR:= @Bool.rec (fun _=>FR) (k false) (k true) b
def forceS:List UInt8→(List UInt8→FR)→FR:= @List.rec UInt8 (fun _=>(List UInt8→FR)→FR) (fun k=>k []) (fun c _ ih k=>forceN c.toNat (fun n=>ih (fun l=>k (UInt8.ofNat n::l))))
mutual
def forceV:AVal→(AVal→FR)→FR
 |.int kd n,k=>forceI n (fun n=>k (.int kd n))
 |.bool b,k=>forceB b (fun b=>k (.bool b))
 |.str s,k=>forceS s (fun s=>k (.str s))
 |.slice xs nl _,k=>forceB nl (fun nl=>forceL xs (fun xs=>k (.slice xs nl none)))
 |.agg xs,k=>forceL xs (fun xs=>k (.agg xs))
 |.tuple xs,k=>forceL xs (fun xs=>k (.tuple xs))
 |.sptr xs,k=>forceL xs (fun xs=>k (.sptr xs))
 |.iface t v,k=>forceN t (fun t=>forceV v (fun v=>k (.iface t v)))
 |v,k=>k v.shut
def forceL:List AVal→(List AVal→FR)→FR
 | [],k=>k []
 |x::xs,k=>forceV x (fun x=>forceL xs (fun xs=>k (x::xs)))
end
def memoR (V:VS):FR→FR
 |.got a _=>bif a.shut.plain then .got a.shut V else .fail
 |.fail=>.fail
def memoC (c:Callee') (as:List AVal):FR:=c as ⟨0,0,.lf⟩
def memoF (c:Callee') (as:List AVal) (V:VS):FR:=forceL as (fun bs=>bif plains bs then memoR V (memoC c bs)else c as V)
abbrev FT:=Tr FE
def failC (_:Nat):Callee':=fun _ _=>.fail
def callN (T:FT) (n:Nat):Nat→Callee':= @Nat.rec (fun _=>Nat→Callee') failC (fun _ ih f=>callF ih (Tr.get .none T f)) n
end
end Go.AL
