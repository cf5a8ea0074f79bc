/-
  AN ABSTRACT LOGIC OVER THE MODEL, part 1: a function's code in small (types resolved to numbers of cells), how it is made out of the model's code, and what it asks: a proposition without a heap.
-/
import Derived.Test.YtfoeaeeaflmkfaaGreatAL0
namespace Go.AL
open Go.RowKit
def AVal.one:AVal→Bool
 |.top|.agg _|.tuple _=>false
 |_=>true
inductive Opd where
 |tmp (t:Nat)
 |const (a:AVal)
inductive SK where
 |bool|int (k:IntKind)|str
 deriving DecidableEq
inductive KeyK where
 |one (s:SK)
 |row (ss:List SK)
inductive EqK where
 |bool|pointer|slice|iface|func|map|flat (ss:List SK)|other
 deriving DecidableEq
def SK.is:SK→AVal→Bool
 |.bool,.bool _=>true
 |.int k,.int k' _=>decide (k=k')
 |.str,.str _=>true
 |_,_=>false
def rowIs:List SK→List AVal→Bool
 | [],[]=>true
 |s::ss,a::as=>s.is a&&rowIs ss as
 |_,_=>false
def KeyK.is:KeyK→AVal→Bool
 |.one s,a=>s.is a
 |.row ss,.agg cs=>rowIs ss cs
 |.row _,_=>false
def cellEq:AVal→AVal→Bool
 |.bool a,.bool b=>a==b
 |.int _ a,.int _ b=>a==b
 |.str a,.str b=>a==b
 |_,_=>false
def cellsEq:List AVal→List AVal→Bool
 | [],[]=>true
 |a::as,b::bs=>cellEq a b&&cellsEq as bs
 |_,_=>false
def keyEq:AVal→AVal→Bool
 |.agg a,.agg b=>cellsEq a b
 |a,b=>cellEq a b
def KeysOk (kk:KeyK) (key:AVal) (es:List (AVal × AVal)):Prop:=kk.is key=true∧∀e∈es,kk.is e.1=true
def mfind (key:AVal) (es:List (AVal × AVal)):Option AVal:=(es.find? fun e=>keyEq key e.1).map (·.2)
def mput (key v:AVal) (es:List (AVal × AVal)):List (AVal × AVal):=
 match es.findIdx? fun e=>keyEq key e.1 with
 |some i=>es.set i (key,v)
 |none=>es++[(key,v)]
def mdel (key:AVal) (es:List (AVal × AVal)):List (AVal × AVal):=es.eraseP fun e=>keyEq key e.1
inductive AOp where
 |mv (x:Opd)
 |pick (c a b:Opd)
 |box (cs:List AVal)
 |boxv (x:Opd)
 |obj (cs:List AVal)
 |objv (x:Opd)
 |build (zero:List AVal) (parts:List (Nat × Nat × Opd))
 |bslice (own:Bool) (sz e len:Nat) (zero:AVal) (parts:List (Nat × Opd))
 |load (agg:Bool) (n:Nat) (x:Opd)
 |store (n:Nat) (x v:Opd)
 |nilCheck (x:Opd)
 |bin (op:BinOp) (q:EqK) (x y:Opd)
 |not (x:Opd)
 |convInt (k:IntKind) (x:Opd)
 |same (x:Opd)
 |bytesStr (x:Opd)
 |strBytes (e:Nat) (x:Opd)
 |mark (x:Opd)
 |iface (t:Nat) (x:Opd)
 |mkFunc (fn:Fn) (first captured:List Opd)
 |cut (sz:Nat) (x:Opd) (lo hi:Option Opd)
 |cut3 (sz:Nat) (x:Opd) (lo:Option Opd) (hi mx:Opd)
 |cutStr (x:Opd) (lo hi:Option Opd)
 |foff (off:Nat) (x:Opd)
 |field (off n:Nat) (agg:Bool) (x:Opd)
 |iaddr (sz:Nat) (x i:Opd)
 |istr (x i:Opd)
 |extract (x:Opd) (i:Nat)
 |call (f:Nat) (args:List Opd)
 |callv (f:Opd) (args:List Opd)
 |len (x:Opd)
 |lenStr (x:Opd)
 |append (sz e bytes:Nat) (x y:Opd)
 |appendZ (sz e bytes:Nat) (x y:Opd)
 |appendM (sz e bytes:Nat) (x y:Opd)
 |mslice (sz e len:Nat) (zero:AVal) (parts:List (Nat × Opd))
 |cap (x:Opd)
 |neg (x:Opd)
 |tassert (t:Nat) (x:Opd)
 |aget (m n:Nat) (agg:Bool) (x i:Opd)
 |mmap
 |mget (kk:KeyK) (zero:AVal) (ok:Bool) (x i:Opd)
 |mset (kk:KeyK) (x i v:Opd)
 |mdel (kk:KeyK) (x i:Opd)
 |mlen (x:Opd)
 |range (x:Opd)
 |next (x:Opd)
 |entry (x:Opd)
 |arr (n:Nat) (x:Opd)
 |inv (tbl:List (Nat × Nat)) (x:Opd) (args:List Opd)
 |clearS (sz:Nat) (zero:AVal) (x:Opd)
 |clearM (x:Opd)
 |aidx (n sz:Nat) (x i:Opd)
 |dead
 |min (x y:Opd)
 |max (x y:Opd)
 |max3 (x y z:Opd)
def AOp.opds:AOp→List Opd
 |.mv x|.boxv x|.objv x|.load _ _ x|.nilCheck x|.not x|.convInt _ x|.same x|.bytesStr x|.strBytes _ x|.mark x|.iface _ x|.foff _ x|.field _ _ _ x|.extract x _|.len x|.lenStr x|.cap x|.neg x|.tassert _ x|.mlen x|.range x|.next x|.entry x|.arr _ x|.clearS _ _ x|.clearM x=>[x]
 |.pick c a b=>[c,a,b]
 |.box _|.obj _=>[]
 |.build _ ps=>ps.map fun p=>p.2.2
 |.bslice _ _ _ _ _ ps=>ps.map fun p=>p.2
 |.mslice _ _ _ _ ps=>ps.map fun p=>p.2
 |.store _ x v=>[x,v]
 |.bin _ _ x y|.iaddr _ x y|.istr x y|.aget _ _ _ x y|.append _ _ _ x y|.appendZ _ _ _ x y|.appendM _ _ _ x y|.min x y|.max x y=>[x,y]
 |.dead|.mmap=>[]
 |.max3 x y z=>[x,y,z]
 |.mget _ _ _ x i|.mdel _ x i|.aidx _ _ x i=>[x,i]
 |.mset _ x i v=>[x,i,v]
 |.mkFunc _ f c=>f++c
 |.cut _ x lo hi=>x::(lo.toList++hi.toList)
 |.cut3 _ x lo hi mx=>x::(lo.toList++[hi,mx])
 |.cutStr x lo hi=>x::(lo.toList++hi.toList)
 |.call _ as=>as
 |.callv f as=>f::as
 |.inv _ x as=>x::as
def AOp.kind:AOp→Nat
 |.load .. |.call .. |.callv .. |.inv .. |.mget .. |.mlen .. =>1
 |.store .. |.obj .. |.objv .. |.append .. |.appendZ .. |.appendM .. |.mslice .. |.cap .. |.dead|.mark .. |.bslice true .. |.mmap|.mset .. |.mdel .. |.range .. |.next .. |.entry .. |.clearS .. |.clearM .. =>2
 |.box .. |.boxv .. =>3
 |_=>0
def AOp.isLoad:AOp→Bool
 |.load .. =>true
 |_=>false
def AOp.isObj:AOp→Bool
 |.obj .. |.objv .. |.load .. =>true
 |_=>false
def AOp.isStore:AOp→Bool
 |.store .. =>true
 |_=>false
def AOp.isBox:AOp→Bool
 |.box .. |.boxv .. =>true
 |_=>false
def AOp.isCall:AOp→Bool
 |.call .. |.callv .. |.inv .. =>true
 |_=>false
def AOp.isAppend:AOp→Bool
 |.append .. |.bslice true .. =>true
 |_=>false
structure AOper where
 dst:Option Nat
 guard:Option (Nat × Bool)
 op:AOp
def AOper.slots (o:AOper):List Nat:=
 (match o.guard with
  |some (j,_)=>[j]
  |none=>[])++o.op.opds.filterMap fun
   |.tmp t=>some t
   |.const _=>none
def qk (k:Nat):Bool:=k==0||k==1||k==5||k==6
def cutW:List Nat→List Nat
 | []=>[]
 |x::r=>bif Nat.beq x 888888 then []else x::cutW r
def AOper.free (k1:Nat) (o1:AOper) (k2:Nat) (o2:AOper):Bool:=
 ((qk k1&&qk k2)||((k1==0||k1==5)&&k2==2)||(qk k1&& !(k1==6)&&k2==4)||(k1==6&&k2==2&& !o2.op.isStore)||(qk k1&&k2==3)||(k1==3&&(qk k2||k2==2||k2==3||k2==4))||(k1==1&&k2==2&&o1.op.isLoad&&o2.op.isAppend)||(k1==1&&k2==2&&o2.op.isObj))&&
 (match o1.dst with
  |some d=> !o2.slots.contains d&&o2.dst !=some d
  |none=>true)&&
 (match o2.dst with
  |some d=> !o1.slots.contains d
  |none=>true)
inductive ACode where
 |skip
 |region (ops:List AOper)
 |drawn (W:List Nat) (ops:List (Nat × AOper))
 |seq (a b:ACode)
 |cond (c:Opd) (a b:ACode)
 |block (id:Nat) (body:ACode)
 |loop (body:ACode)
 |exit (id:Nat)
 |ret
mutual
def ofV:Value→Option AVal
 |.bool b=>some (.bool b)
 |.int k n=>some (.int k n)
 |.string s=>some (.str s.data.toList)
 |.pointer none=>some .nilP
 |.slice none 0 0=>some (.slice [] true none)
 |.nilIface=>some .nilI
 |.nilFunc=>some .nilF
 |.map none=>some (.map none)
 |.agg ⟨cs⟩=>match ofVs cs with
  |some as=>some (.agg as)
  |none=>none
 |_=>none
def ofVs:List Value→Option (List AVal)
 | []=>some []
 |v::r=>match ofV v,ofVs r with
  |some a,some as=>some (a::as)
  |_,_=>none
end
def ofOpd:Operand→Option Opd
 |.tmp t=>some (.tmp t)
 |.const v=>match ofV v with
  |some a=>some (.const a)
  |none=>none
 |.func f=>some (.const (.func (.func f) [] []))
 |.global _=>none
def ofOpds:List Operand→Option (List Opd)
 | []=>some []
 |x::r=>match ofOpd x,ofOpds r with
  |some a,some as=>some (a::as)
  |_,_=>none
def ofOpdO:Option Operand→Option (Option Opd)
 |none=>some none
 |some x=>match ofOpd x with
  |some a=>some (some a)
  |none=>none
section
variable (P:Program)
def tSize (t:TypeId):Option Nat:=match P.info? t with
 |some i=>some i.size
 |none=>none
def tBytes (t:TypeId):Option Nat:=match P.info? t with
 |some i=>some i.bytes
 |none=>none
def tZero (t:TypeId):Option AVal:=match P.info? t with
 |some i=>match i.zero with
  |some z=>ofV z
  |none=>none
 |none=>none
def tAgg (t:TypeId):Option Bool:=match P.underlying t with
 |some (.struct _)=>some true
 |some (.array _ _)=>some true
 |some _=>some false
 |none=>none
def tLay (t:TypeId):Option (Bool × Nat):=match tAgg P t,tSize P t with
 |some true,some n=>some (true,n)
 |some false,some _=>some (false,1)
 |_,_=>none
def tElem (t:TypeId):Option TypeId:=match P.underlying t with
 |some (.slice e)=>some e
 |_=>none
def tArr (t:TypeId):Option (Nat × TypeId):=match P.underlying t with
 |some (.array n e)=>some (n,e)
 |_=>none
def tField (s:TypeId) (f:Nat):Option Field:=match P.underlying s with
 |some (.struct fs)=>fs[f]?
 |_=>none
def tSK (t:TypeId):Option SK:=match P.underlying t with
 |some .bool=>some .bool
 |some (.int k)=>some (.int k)
 |some .string=>some .str
 |_=>none
def fieldsSK:List Field→Nat→Option (List SK)
 | [],_=>some []
 |f::r,off=>match tSK P f.type,fieldsSK r (off+1)with
  |some s,some ss=>if f.offset=off∧f.name≠ "_" then some (s::ss)else none
  |_,_=>none
def tFlat (t:TypeId):Option (List SK):=match P.underlying t with
 |some (.struct fs)=>match fieldsSK P fs.toList 0 with
  |some ss=>if P.stoodInHeld t=false∧P.eqGuardType P.depth t=false then some ss else none
  |none=>none
 |_=>none
def tKeyK (t:TypeId):Option KeyK:=match tSK P t with
 |some s=>some (.one s)
 |none=>match tFlat P t with
  |some ss=>some (.row ss)
  |none=>none
def tEqK (t:TypeId):EqK:=match P.underlying t with
 |some .bool=>.bool
 |some (.pointer _)=>.pointer
 |some (.slice _)=>.slice
 |some (.interface _)=>.iface
 |some (.func ..)=>.func
 |some (.map ..)=>.map
 |some (.struct _)=>match tFlat P t with
  |some ss=>.flat ss
  |none=>.other
 |_=>.other
def allPlaces:List Field→Option (List (Nat × Nat))
 | []=>some []
 |f::r=>match tSize P f.type,allPlaces r with
  |some n,some l=>some ((f.offset,n)::l)
  |_,_=>none
def places (pl:List (Nat × Nat)) (parts:List (Nat × Operand)):Option (List (Nat × Nat × Opd)):=
 match parts with
 | []=>some []
 |(i,x)::r=>match pl[i]?,ofOpd x,places pl r with
  |some (o,n),some a,some as=>some ((o,n,a)::as)
  |_,_,_=>none
def elems (parts:List (Nat × Operand)):Option (List (Nat × Opd)):=
 match parts with
 | []=>some []
 |(i,x)::r=>match ofOpd x,elems r with
  |some a,some as=>some ((i,a)::as)
  |_,_=>none
def aplaces (sz:Option Nat):List (Nat × Operand)→Option (List (Nat × Nat × Opd))
 | []=>some []
 |(i,x)::r=>match sz,ofOpd x,aplaces sz r with
  |some sz,some a,some as=>some ((i*sz,sz,a)::as)
  |_,_,_=>none
def ofBuiltin (b:Builtin) (args:List Operand) (argTypes:List TypeId):Option AOp:=
 match b with
 |.len=>match args,argTypes with
  | [x],[t]=>match ofOpd x,P.underlying t with
   |some x,some (.slice _)=>some (.len x)
   |some x,some .string=>some (.lenStr x)
   |some x,some (.map _ _)=>some (.mlen x)
   |_,_=>none
  |_,_=>none
 |.delete=>match args,argTypes with
  | [x,i],[t,_]=>match ofOpd x,ofOpd i,P.underlying t with
   |some x,some i,some (.map kt _)=>match tKeyK P kt with
    |some kk=>some (.mdel kk x i)
    |none=>none
   |_,_,_=>none
  |_,_=>none
 |.clear=>match args,argTypes with
  | [x],[t]=>match ofOpd x,P.underlying t with
   |some x,some (.map _ _)=>some (.clearM x)
   |some x,some (.slice e)=>match tSize P e,tZero P e with
    |some sz,some z=>if z.cells.length=sz∧z.cells.all AVal.one=true then some (.clearS sz z x)else none
    |_,_=>none
   |_,_=>none
  |_,_=>none
 |.append=>match args,argTypes with
  | [x,y],[t,u]=>match ofOpd x,ofOpd y,tElem P t,P.underlying u with
   |some x,some y,some e,some (.slice _)=>match tSize P e,tBytes P e,tZero P e with
    |some (sz+1),some by_,some z=>if z.cells.length=sz+1∧t=u then some (.append (sz+1) e by_ x y)else none
    |_,_,_=>none
   |some x,some y,some e,some (.int _)=>match tSize P e,tBytes P e,tZero P e with
    |some (sz+1),some by_,some z=>if z.cells.length=sz+1 then some (.appendZ (sz+1) e by_ x y)else none
    |_,_,_=>none
   |_,_,_,_=>none
  |_,_=>none
 |.cap=>match args,argTypes with
  | [x],[t]=>match ofOpd x,P.underlying t with
   |some x,some (.slice _)=>some (.cap x)
   |_,_=>none
  |_,_=>none
 |.min=>match args with
  | [x,y]=>match ofOpd x,ofOpd y with
   |some x,some y=>some (.min x y)
   |_,_=>none
  |_=>none
 |.max=>match args with
  | [x,y]=>match ofOpd x,ofOpd y with
   |some x,some y=>some (.max x y)
   |_,_=>none
  | [x,y,z]=>match ofOpd x,ofOpd y,ofOpd z with
   |some x,some y,some z=>some (.max3 x y z)
   |_,_,_=>none
  |_=>none
 |_=>none
def methRow (m:String) (t:TypeId):Option (Nat × Nat):=match P.info? t with
 |some i=>match i.methods.find? (·.name==m)with
  |some r=>if r.path.toList.isEmpty=true then(match r.func,P.underlying t with
   |some (f,true),some (.pointer _)=>match P.funcs[f]? with
    |some fn=>if(fn.body.isSome&&fn.name != "runtime.NumGoroutine")=true then some (t,f)else none
    |none=>none
   |_,_=>none)else none
  |none=>none
 |none=>none
def methTbl (esc:List Nat) (m:String):List (Nat × Nat):=(esc.filter (2000000≤ ·)).filterMap fun t=>methRow P m (t-2000000)
def ofCall (esc:List Nat) (c:Call):Option AOp:=
 match c.callee with
 |.value f=>match f with
  |.func f=>match ofOpds c.args.toList,P.funcs[f]? with
   |some as,some fn=>if fn.body.isSome&&fn.name != "runtime.NumGoroutine" then some (.call f as)else none
   |_,_=>none
  |f=>match ofOpd f,ofOpds c.args.toList with
   |some f,some as=>some (.callv f as)
   |_,_=>none
 |.builtin b=>ofBuiltin P b c.args.toList c.argTypes.toList
 |.invoke x m=>match ofOpd x,ofOpds c.args.toList with
  |some x,some as=>some (.inv (methTbl P esc m) x as)
  |_,_=>none
def AOp.onto:AOp→AOp
 |.append sz e b x y=>.appendM sz e b x y
 |o=>o
def mutSlot (esc:List Nat):Option Nat→Bool
 |some d=>esc.contains (d+1000000)
 |none=>false
def ofOp (esc:List Nat) (dst:Option Nat):Op→Option AOp
 |.move x|.assign x=>match ofOpd x with
  |some a=>some (.mv a)
  |none=>none
 |.pick c a b=>match ofOpd c,ofOpd a,ofOpd b with
  |some c,some a,some b=>some (.pick c a b)
  |_,_,_=>none
 |.alloc t=>match tZero P t,dst with
  |some z,some d=>some (if esc.contains d then .obj z.cells else .box z.cells)
  |_,_=>none
 |.box _ x=>match ofOpd x,dst with
  |some x,some d=>some (if esc.contains d then .objv x else .boxv x)
  |_,_=>none
 |.build t parts=>match P.underlying t,tZero P t with
  |some (.struct fs),some z=>match allPlaces P fs.toList with
   |some pl=>match places pl parts.toList with
    |some ps=>some (.build z.cells ps)
    |none=>none
   |none=>none
  |some (.array _ e),some z=>match tSize P e,aplaces (tSize P e) parts.toList with
   |some _,some ps=>some (.build z.cells ps)
   |_,_=>none
  |_,_=>none
 |.buildSlice t n parts=>match tElem P t with
  |some e=>match tSize P e,tZero P e,elems parts.toList with
   |some sz,some z,some ps=>if n*sz≤65536∧0<sz∧z.cells.length=sz then(if mutSlot esc dst=true then some (.mslice sz e n z ps)else some (.bslice (match dst with|some d=>esc.contains d|none=>false) sz e n z ps))else none
   |_,_,_=>none
  |none=>none
 |.load t x=>match tLay P t,ofOpd x with
  |some (agg,n),some x=>some (.load agg n x)
  |_,_=>none
 |.store t x v=>match tSize P t,ofOpd x,ofOpd v with
  |some n,some x,some v=>some (.store n x v)
  |_,_,_=>none
 |.nilCheck x=>match ofOpd x with
  |some x=>some (.nilCheck x)
  |none=>none
 |.binOp op t x y _=>match ofOpd x,ofOpd y with
  |some x,some y=>some (.bin op (tEqK P t) x y)
  |_,_=>none
 |.unOp .not _ x=>match ofOpd x with
  |some x=>some (.not x)
  |none=>none
 |.unOp .neg t x=>match ofOpd x,P.underlying t with
  |some x,some (.int _)=>some (.neg x)
  |_,_=>none
 |.typeAssert x _ t true=>match ofOpd x,P.underlying t,tZero P t with
  |some x,some (.pointer _),some .nilP=>some (.tassert t x)
  |_,_,_=>none
 |.makeMap _ none=>some .mmap
 |.lookup t x i ok=>match P.underlying t with
  |some (.map kt et)=>match tKeyK P kt,tZero P et,ofOpd x,ofOpd i with
   |some kk,some z,some x,some i=>some (.mget kk z ok x i)
   |_,_,_,_=>none
  |_=>none
 |.mapUpdate t m i v|.insert t m i v=>match P.underlying t with
  |some (.map kt _)=>match tKeyK P kt,ofOpd m,ofOpd i,ofOpd v with
   |some kk,some m,some i,some v=>some (.mset kk m i v)
   |_,_,_,_=>none
  |_=>none
 |.range t x=>match P.underlying t,ofOpd x with
  |some (.map _ _),some x=>some (.range x)
  |_,_=>none
 |.next x false=>match ofOpd x with
  |some x=>some (.next x)
  |none=>none
 |.entry x=>match ofOpd x with
  |some x=>some (.entry x)
  |none=>none
 |.convert src dst x=>if src=dst then match ofOpd x,P.underlying dst with
   |some x,some (.slice e)=>match P.underlying e with
    |some (.int .u8)=>some (.mark x)
    |_=>none
   |some x,some .string=>some (.same x)
   |some x,some (.int k)=>some (.convInt k x)
   |_,_=>none
  else match ofOpd x,P.underlying src,P.underlying dst with
  |some x,some (.int _),some (.int k)=>some (.convInt k x)
  |some x,some .string,some .string=>some (.same x)
  |some x,some (.slice e),some .string=>match P.underlying e with
   |some (.int .u8)=>some (.bytesStr x)
   |_=>none
  |some x,some .string,some (.slice e)=>match P.underlying e,P.info? e with
   |some (.int .u8),some _=>some (.strBytes e x)
   |_,_=>none
  |_,_,_=>none
 |.makeInterface t x=>match ofOpd x,P.underlying t with
  |some _,some (.interface _)=>none
  |some x,some _=>some (.iface t x)
  |_,_=>none
 |.makeFunc fn f c=>match ofOpds f.toList,ofOpds c.toList with
  |some f,some c=>some (.mkFunc fn f c)
  |_,_=>none
 |.slice t x lo hi mx=>match tArr P t,lo,hi,mx with
  |some (n,e),none,none,none=>match ofOpd x,tSize P e with
   |some x,some _=>some (.arr n x)
   |_,_=>none
  |_,_,_,_=>match ofOpd x,ofOpdO lo,ofOpdO hi,ofOpdO mx,P.underlying t with
   |some x,some lo,some hi,some none,some (.slice e)=>match tSize P e with
    |some sz=>some (.cut sz x lo hi)
    |none=>none
   |some x,some lo,some (some hi),some (some mx),some (.slice e)=>match tSize P e with
    |some sz=>some (.cut3 sz x lo hi mx)
    |none=>none
   |some x,some lo,some hi,some none,some .string=>some (.cutStr x lo hi)
   |_,_,_,_,_=>none
 |.fieldAddr s x f=>match tField P s f,ofOpd x with
  |some fd,some x=>match tSize P fd.type with
   |some (_+1)=>some (.foff fd.offset x)
   |_=>none
  |_,_=>none
 |.field s x f=>match tField P s f,ofOpd x with
  |some fd,some x=>match tLay P fd.type with
   |some (agg,n)=>some (.field fd.offset n agg x)
   |none=>none
  |_,_=>none
 |.indexAddr t x i=>match tArr P t with
  |some (n,e)=>match i,ofOpd x,tSize P e with
   |.const (.int _ j),some x,some sz=>if 0≤j∧j<n then some (.foff (j.toNat*sz) x)else none
   |.tmp i,some x,some sz=>some (.aidx n sz x (.tmp i))
   |_,_,_=>none
  |none=>match tElem P t,ofOpd x,ofOpd i with
   |some e,some x,some i=>match tSize P e with
    |some sz=>some (.iaddr sz x i)
    |none=>none
   |_,_,_=>none
 |.index t x i=>match P.underlying t,ofOpd x,ofOpd i with
  |some .string,some x,some i=>some (.istr x i)
  |some (.array m e),some x,some i=>match tLay P e,tSize P e with
   |some (agg,n),some s=>if n=s then some (.aget m n agg x i)else none
   |_,_=>none
  |_,_,_=>none
 |.extract x i=>match ofOpd x with
  |some x=>some (.extract x i)
  |none=>none
 |.call c=>match ofCall P esc c with
  |some o=>some (if mutSlot esc dst=true then o.onto else o)
  |none=>none
 |_=>none
def dstOk (n:Nat):Option Nat→Bool
 |some d=>decide (d<n)
 |none=>true
def ofOper (esc:List Nat) (n:Nat) (all:Array Oper) (o:Oper):Option AOper:=
 match(ofOp P esc o.dst o.op).getD .dead with
 |op=>
  if dstOk n o.dst=true then
   match o.guard with
   |none=>some ⟨o.dst,none,op⟩
   |some (j,want)=>match all[j]? with
    |some oj=>match oj.dst with
     |some s=>if s<n then some ⟨o.dst,some (s,want),op⟩else none
     |none=>none
    |none=>none
  else none
def ofOpers (esc:List Nat) (n:Nat) (all:Array Oper):List Oper→Option (List AOper)
 | []=>some []
 |o::r=>match ofOper P esc n all o,ofOpers esc n all r with
  |some a,some as=>some (a::as)
  |_,_=>none
end
def maskOf (acc:List Nat) (o:Oper):Nat:=o.after.toList.foldl (fun s e=>if Region.binds .any e then s|||2^e.on|||acc.getD e.on 0 else s) 0
def masks:List Oper→List Nat→List Nat
 | [],acc=>acc
 |o::r,acc=>masks r (acc++[maskOf acc o])
def readyB (m:List Nat) (done i:Nat):Bool:=(m.getD i 0)&&&done==m.getD i 0
def canon (m:List Nat) (kinds:List Nat):Nat→Nat→List Nat→List Nat
 |0,_,left=>left
 |fuel+1,done,left=>
  let rs:=left.filter (readyB m done)
  match rs.find? (fun i=>kinds.getD i 0==3),rs.find? (fun i=>kinds.getD i 0==0),rs.find? (fun i=>qk (kinds.getD i 0)),rs with
  |some i,_,_,_=>i::canon m kinds fuel (done|||2^i) (left.filter (· !=i))
  |none,some i,_,_=>i::canon m kinds fuel (done|||2^i) (left.filter (· !=i))
  |none,none,some i,_=>i::canon m kinds fuel (done|||2^i) (left.filter (· !=i))
  |none,none,none,i::_=>i::canon m kinds fuel (done|||2^i) (left.filter (· !=i))
  |none,none,none,[]=>left
def isLoud (esc:List Nat) (o:AOper):Bool:=o.op.isCall&&(match o.dst with
 |some d=>esc.contains (d+3000000)
 |none=>false)
def loose (m:List Nat) (i j:Nat):Bool:= !(j==i)&& !(m.getD i 0).testBit j&& !(m.getD j 0).testBit i
def rootOf (l:List AOper):Nat→Nat→Nat
 |0,t=>t
 |f+1,t=>match l.find? (fun o=>o.dst==some t)with
  |some o=>match o.op with
   |.foff _ (.tmp s)|.mv (.tmp s)|.aidx _ _ (.tmp s) _|.nilCheck (.tmp s)=>rootOf l f s
   |_=>t
  |none=>t
def storeRoots (l:List AOper):List Nat:=l.filterMap fun o=>match o.op with
 |.store _ (.tmp t) _=>some (rootOf l l.length t)
 |_=>none
def ldRoot (l:List AOper) (o:AOp):Bool:=match o with
 |.load _ _ (.tmp t)=>(storeRoots l).contains (rootOf l l.length t)
 |_=>false
def alone (m:List Nat) (l:List AOper) (i:Nat):Bool:=(List.range l.length).all fun j=> !loose m i j||(match l[j]? with
 |some q=>q.op.kind==0||q.op.kind==3||(q.op.kind==1&& !ldRoot l q.op)
 |none=>true)
def kindIn (esc:List Nat) (m:List Nat) (l:List AOper) (i:Nat):Nat:=
 match l[i]? with
 |some o=>match o.op with
  |.call _ _|.callv _ _|.inv _ _ _=>if isLoud esc o||(List.range l.length).all (fun j=> !loose m i j||(match l[j]? with|some q=>q.op.kind==0||q.op.kind==3|none=>true))then 2 else 1
  |.store _ _ _=>if o.guard.isNone&&(List.range l.length).any (fun j=>loose m i j&&(match l[j]? with|some q=>q.op.kind==1|none=>false))then 4 else 2
  |.load _ _ _=>if(List.range l.length).any (fun j=>loose m i j&&(match l[j]? with|some q=>isLoud esc q|none=>false))then(if ldRoot l o.op then 6 else 5)else(if ldRoot l o.op&&alone m l i then 2 else 1)
  |op=>op.kind
 |none=>0
def pairsOk (m:List Nat):List (Nat × Nat × AOper)→Bool
 | []=>true
 |(j,kj,oj)::r=>(r.all fun(i,ki,oi)=>(m.getD i 0).testBit j||AOper.free kj oj ki oi)&&pairsOk m r
def backEdges:Nat→List Oper→Bool
 |_,[]=>true
 |i,o::r=>(o.after.toList.all fun e=> !Region.binds .any e||decide (e.on<i))&&backEdges (i+1) r
def AOp.mayTurn:AOp→Bool
 |.load .. |.store .. |.obj .. |.objv .. |.append .. |.appendZ .. |.appendM .. |.mslice .. |.cap .. |.dead|.mark .. |.callv .. |.call .. |.inv .. |.clearS .. |.clearM .. |.bslice true .. |.mmap|.mget .. |.mset .. |.mdel .. |.mlen .. |.range .. |.next .. |.entry .. =>true
 |_=>false
def kindOk (x:Nat × AOper):Bool:=
 (x.1==0&&x.2.op.kind==0)||(x.1==1&&x.2.op.kind==1)||(x.1==2&&x.2.op.mayTurn)||(x.1==3&&x.2.op.isBox&&x.2.guard.isNone&&x.2.dst.isSome)||
 (x.1==4&&x.2.op.isStore&&x.2.guard.isNone&&x.2.dst.isNone)||(x.1==5&&x.2.op.isLoad)||(x.1==6&&x.2.op.isLoad)
def boxesOk:List (Nat × AOper)→Bool
 | []=>true
 |x::r=>(r.all fun y=> !(y.1==3)||(match y.2.dst with
  |some d=> !x.2.slots.contains d&&x.2.dst !=some d
  |none=>true))&&boxesOk r
def drawnOf (esc:List Nat) (ops:List Oper) (l:List AOper):Option (List Nat × List (Nat × AOper)):=
 let m:=masks ops []
 let kinds:=(List.range l.length).map (kindIn esc m l)
 let ord:=canon m kinds l.length 0 (List.range l.length)
 let all:=ord.filterMap fun i=>match l[i]? with
  |some o=>some (i,kinds.getD i 0,o)
  |none=>none
 if all.length≤l.length∧(all.map (·.1)).Nodup∧(List.range l.length).all (fun i=>all.any fun x=>x.1==i)=true∧pairsOk m all=true∧all.all (fun x=>kindOk x.2)=true∧backEdges 0 ops=true∧boxesOk (all.map (·.2))=true∧
   (all.all fun x=>match x.2.2.dst with|some d=>(cutW (all.filterMap (fun x=>x.2.2.dst)++((bif kinds.contains 6 then [888888]else [])++storeRoots l))).contains d|none=>true)=true then
  some (all.filterMap (fun x=>x.2.2.dst)++((bif kinds.contains 6 then [888888]else [])++storeRoots l),all.map (·.2))
 else none
section
variable (P:Program) (esc:List Nat) (n:Nat)
def ofCode:Code→Option ACode
 |.skip=>some .skip
 |.label _=>some .skip
 |.region _ ops draw=>match ofOpers P esc n ops ops.toList with
  |some l=>if draw then(match drawnOf esc ops.toList l with
   |some (W,l)=>some (.drawn W l)
   |none=>none)else some (.region l)
  |none=>none
 |.seq a b=>match ofCode a,ofCode b with
  |some a,some b=>some (.seq a b)
  |_,_=>none
 |.cond c a b=>match ofOpd c,ofCode a,ofCode b with
  |some c,some a,some b=>some (.cond c a b)
  |_,_,_=>none
 |.block id b=>match ofCode b with
  |some b=>some (.block id b)
  |none=>none
 |.loop b=>match ofCode b with
  |some b=>some (.loop b)
  |none=>none
 |.exit id=>some (.exit id)
 |.ret=>some .ret
 |_=>none
end
inductive ARes where
 |tmp (t:Nat)
 |cell (agg:Bool) (n:Nat) (t:Nat)
def ofRes (P:Program):List ResultVar→Option (List ARes)
 | []=>some []
 |.tmp t::r=>match ofRes P r with
  |some l=>some (.tmp t::l)
  |none=>none
 |.cell a t::r=>match tLay P t,ofRes P r with
  |some (agg,n),some l=>some (.cell agg n a::l)
  |_,_=>none
structure AFun where
 n:Nat
 res:List ARes
 body:ACode
def ofFunc (P:Program) (esc:List Nat) (fn:Func):Option AFun:=
 match fn.body with
 |none=>none
 |some c=>match ofRes P fn.results.toList,ofCode P esc fn.ntmps c with
  |some r,some b=>some ⟨fn.ntmps,r,b⟩
  |_,_=>none
def evalOpd (env:Env):Opd→Ent
 |.tmp t=>match env t with
  |.box _=>.lptr t 0
  |e=>e
 |.const a=>.val a
def mkv (agg:Bool) (cs:List AVal):AVal:=bif agg then .agg cs else cs.headD .top
def splice (cs:List AVal) (o:Nat) (vs:List AVal):List AVal:=cs.take o++vs++cs.drop (o+vs.length)
def vals:List Ent→Option (List AVal)
 | []=>some []
 |.val a::r=>match vals r with
  |some as=>some (a::as)
  |none=>none
 |_::_=>none
def intCmpV:BinOp→Int→Int→Option Bool
 |.eql,a,b=>some (a==b)
 |.neq,a,b=>some (a !=b)
 |.lss,a,b=>some (decide (a<b))
 |.leq,a,b=>some (decide (a≤b))
 |.gtr,a,b=>some (decide (a>b))
 |.geq,a,b=>some (decide (a≥b))
 |_,_,_=>none
def intV (op:BinOp) (k:IntKind) (a b:Int):Option AVal:=
 match op with
 |.add=>some (.int k (k.wrap (a+b)))
 |.sub=>some (.int k (k.wrap (a-b)))
 |.mul=>some (.int k (k.wrap (a*b)))
 |.quo=>if b=0 then none else some (.int k (k.wrap (a.tdiv b)))
 |.rem=>if b=0 then none else some (.int k (a.tmod b))
 |.and=>some (.int k (k.wrap (BitVec.ofInt k.bits a&&&BitVec.ofInt k.bits b).toNat))
 |.or=>some (.int k (k.wrap (BitVec.ofInt k.bits a|||BitVec.ofInt k.bits b).toNat))
 |.xor=>some (.int k (k.wrap (BitVec.ofInt k.bits a^^^BitVec.ofInt k.bits b).toNat))
 |.shl=>if b<0 then none else some (.int k (k.wrap (a*2^min b.toNat k.bits)))
 |.shr=>if b<0 then none else some (.int k (a.fdiv (2^min b.toNat k.bits)))
 |op=>match intCmpV op a b with
  |some t=>some (.bool t)
  |none=>none
def strV (op:BinOp) (a b:List UInt8):Option AVal:=
 match op with
 |.eql=>some (.bool (a==b))
 |.neq=>some (.bool (!(a==b)))
 |.lss=>some (.bool (Op.bytesLess a b))
 |.leq=>some (.bool (Op.bytesLess a b||a==b))
 |.gtr=>some (.bool (!(Op.bytesLess a b||a==b)))
 |.geq=>some (.bool (!Op.bytesLess a b))
 |_=>none
def eqV:EqK→AVal→AVal→Option Bool
 |.bool,.bool a,.bool b=>some (a==b)
 |.pointer,.nilP,.nilP=>some true
 |.pointer,.nilP,.ptr _ _=>some false
 |.pointer,.nilP,.sptr _=>some false
 |.pointer,.ptr _ _,.nilP=>some false
 |.pointer,.sptr _,.nilP=>some false
 |.slice,.slice _ nl _,.slice [] true none=>some nl
 |.slice,.ref _ _ _ _,.slice [] true none=>some false
 |.iface,.iface _ _,.nilI=>some false
 |.func,.func _ _ _,.nilF=>some false
 |.func,.nilF,.nilF=>some true
 |.flat ss,.agg a,.agg b=>if rowIs ss a=true∧rowIs ss b=true then some (cellsEq a b)else none
 |.map,.map none,.map none=>some true
 |.map,.map (some _),.map none=>some false
 |_,_,_=>none
def nilConst:Opd→Bool
 |.const .nilI=>true
 |_=>false
def sameK (op:BinOp) (k k':IntKind):Bool:=match op with
 |.shl=>true
 |.shr=>true
 |_=>decide (k=k')
def binV (op:BinOp) (q:EqK) (lit:Bool):Ent→Ent→Option AVal
 |.val (.int k a),.val (.int k' b)=>if sameK op k k'=true then intV op k a b else none
 |.val (.str a),.val (.str b)=>strV op a b
 |.val .nilI,.val .nilI=>if lit then(match op,q with
  |.eql,.iface=>some (.bool true)
  |.neq,.iface=>some (.bool false)
  |_,_=>none)else none
 |.val x,.val y=>match op,eqV q x y with
  |.eql,some t=>some (.bool t)
  |.neq,some t=>some (.bool (!t))
  |_,_=>none
 |.lptr _ _,.val .nilP=>match op,q with
  |.eql,.pointer=>some (.bool false)
  |.neq,.pointer=>some (.bool true)
  |_,_=>none
 |_,_=>none
def fillV (cells:List AVal):List (Nat × Nat × AVal)→Option (List AVal)
 | []=>some cells
 |(off,n,v)::r=>if v.cells.length=n∧v.cells.all AVal.one=true∧off+n≤cells.length then fillV (splice cells off v.cells) r else none
def partV (ev:Opd→Ent):List (Nat × Nat × Opd)→Option (List (Nat × Nat × AVal))
 | []=>some []
 |(o,n,x)::r=>match ev x,partV ev r with
  |.val a,some as=>some ((o,n,a)::as)
  |_,_=>none
def setAll (sz:Nat) (xs:List AVal) (ev:Opd→Ent):List (Nat × Opd)→Option (List AVal)
 | []=>some xs
 |(i,x)::r=>match ev x with
  |.val a=>if i<xs.length∧a.cells.length=sz∧a.cells.all AVal.one=true then setAll sz (xs.set i a) ev r else none
  |_=>none
def pureV (env:Env):AOp→Option Ent
 |.mv x=>some (evalOpd env x)
 |.nilCheck x=>match evalOpd env x with
  |.val (.ptr b o)=>some (.val (.ptr b o))
  |.val (.sptr cs)=>some (.val (.sptr cs))
  |.lptr s o=>some (.lptr s o)
  |_=>none
 |.bin op q x y=>match binV op q (nilConst x||nilConst y) (evalOpd env x) (evalOpd env y)with
  |some a=>some (.val a)
  |none=>none
 |.not x=>match evalOpd env x with
  |.val (.bool b)=>some (.val (.bool (!b)))
  |_=>none
 |.convInt k x=>match evalOpd env x with
  |.val (.int _ n)=>some (.val (.int k (k.wrap n)))
  |_=>none
 |.same x=>match evalOpd env x with
  |.val (.str s)=>some (.val (.str s))
  |_=>none
 |.iface t x=>match evalOpd env x with
  |.val a=>some (.val (.iface t a))
  |_=>none
 |.mkFunc fn f c=>match vals (f.map (evalOpd env)),vals (c.map (evalOpd env))with
  |some f,some c=>some (.val (.func fn f c))
  |_,_=>none
 |.foff off x=>match evalOpd env x with
  |.val (.ptr b o)=>some (.val (.ptr b (o+off)))
  |.val (.sptr cs)=>some (.val (.sptr (cs.drop off)))
  |.lptr s o=>some (.lptr s (o+off))
  |_=>none
 |.aidx n sz x i=>match evalOpd env i with
  |.val (.int _ j)=>if 0≤j∧j<n then(match evalOpd env x with
   |.val (.ptr b o)=>some (.val (.ptr b (o+j.toNat*sz)))
   |.val (.sptr cs)=>some (.val (.sptr (cs.drop (j.toNat*sz))))
   |.lptr s o=>some (.lptr s (o+j.toNat*sz))
   |_=>none)else none
  |_=>none
 |.arr n x=>match evalOpd env x with
  |.val (.ptr b o)=>if n≤maxLen then some (.val (.ref b o n n))else none
  |_=>none
 |.neg x=>match evalOpd env x with
  |.val (.int k n)=>some (.val (.int k (k.wrap (0-n))))
  |_=>none
 |.tassert t x=>match evalOpd env x with
  |.val (.iface u v)=>some (.val (.tuple (if u=t then [v,.bool true]else [.nilP,.bool false])))
  |.val .nilI=>some (.val (.tuple [.nilP,.bool false]))
  |_=>none
 |.aget m n agg x i=>match evalOpd env x,evalOpd env i with
  |.val (.agg cs),.val (.int _ j)=>if 0≤j∧j<(m:Int)∧j.toNat*n+n≤cs.length then some (.val (mkv agg ((cs.drop (j.toNat*n)).take n)))else none
  |_,_=>none
 |.extract x i=>match evalOpd env x with
  |.val (.tuple vs)=>match vs[i]? with
   |some a=>some (.val a)
   |none=>none
  |_=>none
 |.field off n agg x=>match evalOpd env x with
  |.val (.agg cs)=>if off+n≤cs.length then some (.val (mkv agg ((cs.drop off).take n)))else none
  |_=>none
 |.build z ps=>match partV (evalOpd env) ps with
  |some ps=>match fillV z ps with
   |some cs=>some (.val (.agg cs))
   |none=>none
  |none=>none
 |.len x=>match evalOpd env x with
  |.val (.slice xs _ _)=>some (.val (.int .i64 xs.length))
  |.val (.ref _ _ n _)=>some (.val (.int .i64 n))
  |_=>none
 |.lenStr x=>match evalOpd env x with
  |.val (.str s)=>some (.val (.int .i64 s.length))
  |_=>none
 |.min x y=>match evalOpd env x,evalOpd env y with
  |.val (.int k a),.val (.int _ b)=>some (.val (.int k (if b<a then b else a)))
  |_,_=>none
 |.max3 x y z=>match evalOpd env x,evalOpd env y,evalOpd env z with
  |.val (.int k a),.val (.int _ b),.val (.int _ c)=>some (.val (.int k (if c>(if b>a then b else a)then c else(if b>a then b else a))))
  |_,_,_=>none
 |.max x y=>match evalOpd env x,evalOpd env y with
  |.val (.int k a),.val (.int _ b)=>some (.val (.int k (if b>a then b else a)))
  |_,_=>none
 |_=>none
def bound (env:Env) (d:Nat):Option Opd→(Nat→Prop)→Prop
 |none,k=>k d
 |some x,k=>match evalOpd env x with
  |.val (.int _ n)=>0≤n∧k n.toNat
  |_=>False
def AppRes (σ:Store) (xs:List AVal) (nl:Bool) (tok:Option Nat) (ys:List AVal) (sz e:Nat) (a:AVal) (σ':Store):Prop:=
 (ys=[]∧a=.slice xs nl tok∧σ'=σ)∨
 (ys≠[]∧∃g,a=.slice (xs++ys) false (some g)∧σ'=(σ.dropOpn tok).setOpn g (xs.length+ys.length,sz,e)∧(tok=some g∨σ.fresh g))
def DimA (k:AVal→Store→Prop) (a:AVal) (σ:Store):Prop:=∃b τ,a.Le b∧τ.Sub σ∧τ.obj=σ.obj∧k b τ
theorem DimA.of {k:AVal→Store→Prop} {a:AVal} {σ:Store} (h:k a σ):DimA k a σ:=⟨a,σ,.refl a,.refl σ,rfl,h⟩
theorem DimA.mono {k k':AVal→Store→Prop} {a:AVal} {σ:Store} (h:DimA k a σ) (hk:∀b τ,τ.obj=σ.obj→k b τ→k' b τ):DimA k' a σ:=
 let⟨b,τ,h1,h2,h3,h4⟩:=h
 ⟨b,τ,h1,h2,h3,hk b τ h3 h4⟩
def grows (σ:Store) (xs:List AVal) (nl:Bool) (tok:Option Nat) (sz e:Nat):Prop:=
 (xs=[]∧nl=true∧tok=none)∨(∃g,tok=some g∧σ.opn g=some (xs.length,sz,e))
def ElemsOk (sz:Nat) (ys:List AVal):Prop:=∀y∈ys,y.cells.length=sz∧y.cells.all AVal.one=true
def bytesA (l:List UInt8):List AVal:=l.map fun c=>.int .u8 c.toNat
def vcPure (d:Option Nat) (k:Env→Store→Prop) (env:Env) (σ:Store):Option Ent→Prop
 |some e=>k (env.set d e) σ
 |none=>False
def SrcM (σ:Store) (sz:Nat) (e:Ent) (m:Nat) (L:List AVal):Prop:=
 match e with
 |.val (.slice ys _ _)=>ElemsOk sz ys∧m=ys.length∧L=ys.flatMap AVal.cells
 |.val (.ref b o n _)=>∃cs,σ.obj b=some cs∧o+n*sz≤cs.length∧m=n∧L=(cs.drop o).take (n*sz)∧L.all AVal.one=true
 |_=>False
def cutRef (b o c sz h l:Nat):AVal:=if l=0 then .ref b o h c else if h=l then .slice [] false none else .ref b (o+l*sz) (h-l) (c-l)
def tblGet:List (Nat × Nat)→Nat→Option Nat
 | [],_=>none
 |(t,f)::r,u=>if t=u then some f else tblGet r u
def vcOp (P:Program) (o:AOp) (d:Option Nat) (k:Env→Store→Prop) (env:Env) (σ:Store):Prop:=
 match o with
 |.pick c a b=>match evalOpd env c with
  |.val (.bool t)=>(t=true→k (env.set d (evalOpd env a)) σ)∧(t=false→k (env.set d (evalOpd env b)) σ)
  |_=>False
 |.box cs=>match d with
  |some d=>k (env.newBox d cs) σ
  |none=>False
 |.boxv x=>match d,evalOpd env x with
  |some d,.val a=>a.cells.all AVal.one=true∧k (env.newBox d a.cells) σ
  |_,_=>False
 |.obj cs=>∀b,σ.fresh b→k (env.set d (.val (.ptr b 0))) (σ.setObj b cs)
 |.objv x=>match evalOpd env x with
  |.val a=>a.cells.all AVal.one=true∧∀b,σ.fresh b→k (env.set d (.val (.ptr b 0))) (σ.setObj b a.cells)
  |_=>False
 |.bslice own sz e n z ps=>match setAll sz (List.replicate n z) (evalOpd env) ps with
  |some xs=>if own=true then∀g,σ.fresh g→k (env.set d (.val (.slice xs false (some g)))) (σ.setOpn g (n,sz,e))else k (env.set d (.val (.slice xs false none))) σ
  |none=>False
 |.load agg n x=>match evalOpd env x with
  |.val (.ptr b o)=>∃cs,σ.obj b=some cs∧o+n≤cs.length∧k (env.set d (.val (mkv agg ((cs.drop o).take n)))) σ
  |.val (.sptr cs)=>n≤cs.length∧k (env.set d (.val (mkv agg (cs.take n)))) σ
  |.lptr s o=>match env s with
   |.box cs=>o+n≤cs.length∧k (env.set d (.val (mkv agg ((cs.drop o).take n)))) σ
   |_=>False
  |_=>False
 |.store n x v=>match evalOpd env v with
  |.val a=>a.cells.length=n∧a.cells.all AVal.one=true∧match evalOpd env x with
   |.val (.ptr b o)=>∃cs,σ.obj b=some cs∧o+n≤cs.length∧k (env.set d (.val .top)) (σ.setObj b (splice cs o a.cells))
   |.lptr s o=>match env s with
    |.box cs=>o+n≤cs.length∧k ((env.setBox s (splice cs o a.cells)).set d (.val .top)) σ
    |_=>False
   |_=>False
  |_=>False
 |.bytesStr x=>match evalOpd env x with
  |.val (.slice xs _ _)=>∃l,xs=bytesA l∧k (env.set d (.val (.str l))) σ
  |_=>False
 |.strBytes _ x=>match evalOpd env x with
  |.val (.str l)=>l.length≤maxLen∧k (env.set d (.val (.slice (bytesA l) false none))) σ
  |_=>False
 |.mark x=>match evalOpd env x with
  |.val (.slice xs false (some g))=>(∃r,σ.opn g=some r)∧k (env.set d (.val (.slice xs false none))) (σ.dropOpn (some g))
  |_=>False
 |.cut sz x lo hi=>match evalOpd env x with
  |.val (.slice xs nl tok)=>(∀x,xs[0]? =some x→x.cells.length=sz)∧bound env xs.length hi fun h=>h≤xs.length∧bound env 0 lo fun l=>l≤h∧
    k (env.set d (.val (.slice ((xs.take h).drop l) nl (bif l==0&&h==xs.length then tok else none)))) σ
  |.val (.ref b o n c)=>bound env n hi fun h=>h≤n∧bound env 0 lo fun l=>l≤h∧k (env.set d (.val (cutRef b o c sz h l))) σ
  |.val (.raw g _)=>bound env 1 hi fun h=>h=0∧bound env 0 lo fun l=>l=0∧k (env.set d (.val (.slice [] false (some g)))) σ
  |_=>False
 |.cut3 sz x lo hi mx=>match evalOpd env x with
  |.val (.slice xs nl _)=>(∀x,xs[0]? =some x→x.cells.length=sz)∧bound env 0 (some mx) fun m=>m≤xs.length∧bound env 0 (some hi) fun h=>h≤m∧bound env 0 lo fun l=>l≤h∧
    k (env.set d (.val (.slice ((xs.take h).drop l) nl none))) σ
  |_=>False
 |.cutStr x lo hi=>match evalOpd env x with
  |.val (.str s)=>bound env s.length hi fun h=>h≤s.length∧bound env 0 lo fun l=>l≤h∧k (env.set d (.val (.str ((s.take h).drop l)))) σ
  |_=>False
 |.iaddr sz x i=>match evalOpd env i with
  |.val (.int _ n)=>match evalOpd env x with
   |.val (.slice xs _ _)=>0≤n∧∃a,xs[n.toNat]? =some a∧a.cells.length=sz∧k (env.set d (.val (.sptr a.cells))) σ
   |.val (.ref b o m _)=>0≤n∧n<m∧k (env.set d (.val (.ptr b (o+n.toNat*sz)))) σ
   |_=>False
  |_=>False
 |.istr x i=>match evalOpd env x,evalOpd env i with
  |.val (.str s),.val (.int _ n)=>0≤n∧∃c,s[n.toNat]? =some c∧k (env.set d (.val (.int .u8 c.toNat))) σ
  |_,_=>False
 |.call f args=>match vals (args.map (evalOpd env))with
  |some as=>ACall P f as σ fun a σ'=>k (env.set d (.val a)) σ'
  |none=>False
 |.callv f args=>match evalOpd env f,vals (args.map (evalOpd env))with
  |.val (.func (.func f) fs cs),some as=>(∃fn,P.funcs[f]? =some fn∧(fn.body.isSome&&fn.name != "runtime.NumGoroutine")=true)∧ACall P f (fs++as++cs) σ fun a σ'=>k (env.set d (.val a)) σ'
  |_,_=>False
 |.append sz e bytes x y=>match evalOpd env x with
  |.val (.slice xs nl tok)=>match evalOpd env y with
   |.val (.slice ys _ _)=>grows σ xs nl tok sz e∧ElemsOk sz ys∧
    xs.length+ys.length≤maxLen∧(xs.length+ys.length)*bytes≤140737488355328∧
    ∀a σ',AppRes σ xs nl tok ys sz e a σ'→DimA (fun a σ'=>k (env.set d (.val a)) σ') a σ'
   |.val (.ref b o n _)=>sz=1∧∃cs,σ.obj b=some cs∧o+n≤cs.length∧grows σ xs nl tok sz e∧(∀y∈(cs.drop o).take n,y.one=true)∧
    xs.length+n≤maxLen∧(xs.length+n)*bytes≤140737488355328∧
    ∀a σ',AppRes σ xs nl tok ((cs.drop o).take n) sz e a σ'→DimA (fun a σ'=>k (env.set d (.val a)) σ') a σ'
   |_=>False
  |_=>False
 |.appendM sz _ bytes x y=>∃m L,SrcM σ sz (evalOpd env y) m L∧match evalOpd env x with
  |.val (.ref b 0 n c)=>∃cs,σ.obj b=some cs∧cs.length=c*sz∧n+m≤maxLen∧(n+m)*bytes≤140737488355328∧
    (m=0→k (env.set d (.val (.ref b 0 n c))) σ)∧
    (0<m→c<n+m→∀g c',σ.fresh g→n+m≤c'→c'≤maxLen→
     k (env.set d (.val (.ref g 0 (n+m) c'))) (σ.setObj g (cs.take (n*sz)++L++List.replicate ((c'-(n+m))*sz) .top)))∧
    (0<m→n+m≤c→k (env.set d (.val (.ref b 0 (n+m) c))) (σ.setObj b (splice cs (n*sz) L)))
  |.val (.slice [] true none)=>m≤maxLen∧m*bytes≤140737488355328∧(m=0→k (env.set d (.val (.slice [] true none))) σ)∧
    (0<m→∀g c',σ.fresh g→m≤c'→c'≤maxLen→k (env.set d (.val (.ref g 0 m c'))) (σ.setObj g (L++List.replicate ((c'-m)*sz) .top)))
  |_=>False
 |.mslice sz _ n z ps=>match setAll sz (List.replicate n z) (evalOpd env) ps with
  |some xs=>∀b,σ.fresh b→k (env.set d (.val (.ref b 0 n n))) (σ.setObj b (xs.flatMap AVal.cells))
  |none=>False
 |.appendZ sz e bytes x y=>match evalOpd env x,evalOpd env y with
  |.val (.slice [] true none),.val (.int .i64 m)=>0≤m∧m≤9223372036854775807∧m*bytes≤140737488355328∧(m=0→k (env.set d (.val (.slice [] true none))) σ)∧
    (0<m→∀g,σ.fresh g→k (env.set d (.val (.raw g m.toNat))) (σ.setOpn g (0,sz,e)))
  |_,_=>False
 |.cap x=>match evalOpd env x with
  |.val (.slice xs nl _)=>∀c:Nat,xs.length≤c→c≤maxLen→(nl=true→c=0)→k (env.set d (.val (.int .i64 c))) σ
  |_=>False
 |.inv tbl x args=>match evalOpd env x,vals (args.map (evalOpd env))with
  |.val (.iface t v),some as=>∃f,tblGet tbl t=some f∧ACall P f (v::as) σ fun a σ'=>k (env.set d (.val a)) σ'
  |_,_=>False
 |.clearS sz z x=>match evalOpd env x with
  |.val (.slice [] _ _)=>k (env.set d (.val (.tuple []))) σ
  |.val (.ref b o n _)=>∃cs,σ.obj b=some cs∧o+n*sz≤cs.length∧k (env.set d (.val (.tuple []))) (σ.setObj b (splice cs o ((List.range (n*sz)).map fun q=>z.cells.getD (q%sz) .top)))
  |_=>False
 |.clearM x=>match evalOpd env x with
  |.val (.map none)=>k (env.set d (.val (.tuple []))) σ
  |.val (.map (some r))=>∃es,σ.mp r=some (.map es)∧k (env.set d (.val (.tuple []))) (σ.setMap r (.map []))
  |_=>False
 |.mmap=>∀b,σ.fresh b→k (env.set d (.val (.map (some b)))) (σ.setMap b (.map []))
 |.mget kk zero ok x i=>match evalOpd env x,evalOpd env i with
  |.val (.map none),.val key=>kk.is key=true∧k (env.set d (.val (if ok then .tuple [zero,.bool false]else zero))) σ
  |.val (.map (some r)),.val key=>∃es,σ.mp r=some (.map es)∧KeysOk kk key es∧
    k (env.set d (.val (if ok then .tuple [(mfind key es).getD zero,.bool (mfind key es).isSome]else(mfind key es).getD zero))) σ
  |_,_=>False
 |.mset kk x i v=>match evalOpd env x,evalOpd env i,evalOpd env v with
  |.val (.map (some r)),.val key,.val a=>∃es,σ.mp r=some (.map es)∧KeysOk kk key es∧k (env.set d (.val .top)) (σ.setMap r (.map (mput key a es)))
  |_,_,_=>False
 |.mdel kk x i=>match evalOpd env x,evalOpd env i with
  |.val (.map (some r)),.val key=>∃es,σ.mp r=some (.map es)∧KeysOk kk key es∧k (env.set d (.val (.tuple []))) (σ.setMap r (.map (Go.AL.mdel key es)))
  |_,_=>False
 |.mlen x=>match evalOpd env x with
  |.val (.map none)=>k (env.set d (.val (.int .i64 0))) σ
  |.val (.map (some r))=>∃es,σ.mp r=some (.map es)∧k (env.set d (.val (.int .i64 es.length))) σ
  |_=>False
 |.range x=>match evalOpd env x with
  |.val (.map none)=>∀b,σ.fresh b→k (env.set d (.val (.ptr b 0))) (σ.setMap b (.iter none [] [] none))
  |.val (.map (some r))=>∃es,σ.mp r=some (.map es)∧∀b,σ.fresh b→k (env.set d (.val (.ptr b 0))) ((σ.setMap r .lent).setMap b (.iter (some r) es es none))
  |_=>False
 |.next x=>match evalOpd env x with
  |.val (.ptr b 0)=>∃m es left cur,σ.mp b=some (.iter m es left cur)∧(∀r,m=some r→σ.mp r=some .lent)∧
    (left=[]→k (env.set d (.val (.tuple [.bool false]))) (match m with
     |some r=>(σ.setMap b .lent).setMap r (.map es)
     |none=>σ.setMap b .lent))∧
    ∀j e,left[j]? =some e→k (env.set d (.val (.tuple [.bool true,e.1,e.2]))) (σ.setMap b (.iter m es (left.eraseIdx j) (some e)))
  |_=>False
 |.entry x=>match evalOpd env x with
  |.val (.ptr b 0)=>∃r es left e,σ.mp b=some (.iter (some r) es left (some e))∧k (env.set d (.val (.tuple [e.1,e.2]))) σ
  |_=>False
 |.dead=>False
 |o=>vcPure d k env σ (pureV env o)
def AOp.isPure:AOp→Bool
 |.pick .. |.box .. |.boxv .. |.obj .. |.objv .. |.bslice .. |.load .. |.store .. |.bytesStr .. |.strBytes .. |.mark .. |.cut .. |.cut3 .. |.cutStr .. |.iaddr .. |.istr .. |.call .. |.callv .. |.inv .. |.clearS .. |.clearM .. |.append .. |.appendZ .. |.appendM .. |.mslice .. |.cap .. |.mmap|.mget .. |.mset .. |.mdel .. |.mlen .. |.range .. |.next .. |.entry .. |.dead=>false
 |_=>true
theorem vcOp_pure (P:Program) (o:AOp) (d:Option Nat) (k:Env→Store→Prop) (env:Env) (σ:Store) (h:o.isPure=true):vcOp P o d k env σ=vcPure d k env σ (pureV env o):=by
 cases o<;>first|rfl|exact absurd h (by simp[AOp.isPure])
def undone:Ent:=.val (.tuple [])
def vcOper (P:Program) (o:AOper) (k:Env→Store→Prop) (env:Env) (σ:Store):Prop:=
 match o.guard with
 |none=>vcOp P o.op o.dst k env σ
 |some (j,want)=>match env j with
  |.val (.bool t)=>(t=want→vcOp P o.op o.dst k (env.set (some j) (.val (.bool want))) σ)∧
    (t= !want→k ((env.set (some j) (.val (.bool !want))).set o.dst undone) σ)
  |.val (.tuple [])=>k (env.set o.dst undone) σ
  |_=>False
def vcOps (P:Program):List AOper→(Env→Store→Prop)→Env→Store→Prop
 | [],k,env,σ=>k env σ
 |o::os,k,env,σ=>vcOper P o (vcOps P os k) env σ
def rel (P:Program) (W:List Nat) (o:AOp) (env:Env) (σ:Store) (e:Ent):Prop:=
 match o with
 |.pick c a b=>match evalOpd env c with
  |.val (.bool t)=>e=bif t then evalOpd env a else evalOpd env b
  |_=>False
 |.bslice own sz _ n z ps=>match setAll sz (List.replicate n z) (evalOpd env) ps with
  |some xs=>own=false∧e=.val (.slice xs false none)
  |none=>False
 |.load agg n x=>match evalOpd env x with
  |.val (.ptr b o)=>∃cs,σ.obj b=some cs∧o+n≤cs.length∧e=.val (mkv agg ((cs.drop o).take n))
  |.val (.sptr cs)=>n≤cs.length∧e=.val (mkv agg (cs.take n))
  |.lptr s o=>W.contains s=false∧match env s with
   |.box cs=>o+n≤cs.length∧e=.val (mkv agg ((cs.drop o).take n))
   |_=>False
  |_=>False
 |.bytesStr x=>match evalOpd env x with
  |.val (.slice xs _ _)=>∃l,xs=bytesA l∧e=.val (.str l)
  |_=>False
 |.strBytes _ x=>match evalOpd env x with
  |.val (.str l)=>l.length≤maxLen∧e=.val (.slice (bytesA l) false none)
  |_=>False
 |.cut sz x lo hi=>match evalOpd env x with
  |.val (.slice xs nl tok)=>(∀x,xs[0]? =some x→x.cells.length=sz)∧bound env xs.length hi fun h=>h≤xs.length∧bound env 0 lo fun l=>l≤h∧
    e=.val (.slice ((xs.take h).drop l) nl (bif l==0&&h==xs.length then tok else none))
  |.val (.ref b o n c)=>bound env n hi fun h=>h≤n∧bound env 0 lo fun l=>l≤h∧e=.val (cutRef b o c sz h l)
  |_=>False
 |.cut3 sz x lo hi mx=>match evalOpd env x with
  |.val (.slice xs nl _)=>(∀x,xs[0]? =some x→x.cells.length=sz)∧bound env 0 (some mx) fun m=>m≤xs.length∧bound env 0 (some hi) fun h=>h≤m∧bound env 0 lo fun l=>l≤h∧
    e=.val (.slice ((xs.take h).drop l) nl none)
  |_=>False
 |.cutStr x lo hi=>match evalOpd env x with
  |.val (.str s)=>bound env s.length hi fun h=>h≤s.length∧bound env 0 lo fun l=>l≤h∧e=.val (.str ((s.take h).drop l))
  |_=>False
 |.iaddr sz x i=>match evalOpd env i with
  |.val (.int _ n)=>match evalOpd env x with
   |.val (.slice xs _ _)=>0≤n∧∃a,xs[n.toNat]? =some a∧a.cells.length=sz∧e=.val (.sptr a.cells)
   |.val (.ref b o m _)=>0≤n∧n<m∧e=.val (.ptr b (o+n.toNat*sz))
   |_=>False
  |_=>False
 |.istr x i=>match evalOpd env x,evalOpd env i with
  |.val (.str s),.val (.int _ n)=>0≤n∧∃c,s[n.toNat]? =some c∧e=.val (.int .u8 c.toNat)
  |_,_=>False
 |.call f args=>match vals (args.map (evalOpd env))with
  |some as=>∃c,ACall P f as σ (fun a σ'=>a=c∧σ'=σ)∧e=.val c
  |none=>False
 |.callv f args=>match evalOpd env f,vals (args.map (evalOpd env))with
  |.val (.func (.func f) fs cs),some as=>(∃fn,P.funcs[f]? =some fn∧(fn.body.isSome&&fn.name != "runtime.NumGoroutine")=true)∧∃c,ACall P f (fs++as++cs) σ (fun a σ'=>a=c∧σ'=σ)∧e=.val c
  |_,_=>False
 |.inv tbl x args=>match evalOpd env x,vals (args.map (evalOpd env))with
  |.val (.iface t v),some as=>∃f,tblGet tbl t=some f∧∃c,ACall P f (v::as) σ (fun a σ'=>a=c∧σ'=σ)∧e=.val c
  |_,_=>False
 |.mget kk zero ok x i=>match evalOpd env x,evalOpd env i with
  |.val (.map none),.val key=>kk.is key=true∧e=.val (if ok then .tuple [zero,.bool false]else zero)
  |.val (.map (some r)),.val key=>∃es,σ.mp r=some (.map es)∧KeysOk kk key es∧
    e=.val (if ok then .tuple [(mfind key es).getD zero,.bool (mfind key es).isSome]else(mfind key es).getD zero)
  |_,_=>False
 |.mlen x=>match evalOpd env x with
  |.val (.map none)=>e=.val (.int .i64 0)
  |.val (.map (some r))=>∃es,σ.mp r=some (.map es)∧e=.val (.int .i64 es.length)
  |_=>False
 |.box _|.boxv _|.obj _|.objv _|.store .. |.append .. |.appendZ .. |.appendM .. |.mslice .. |.cap .. |.mark .. |.mmap|.mset .. |.mdel .. |.range .. |.next .. |.entry .. |.clearS .. |.clearM .. |.dead=>False
 |o=>pureV env o=some e
def relG (P:Program) (W:List Nat) (o:AOper) (env:Env) (σ:Store) (e:Ent):Prop:=
 match o.guard with
 |none=>rel P W o.op env σ e
 |some (j,want)=>match env j with
  |.val (.bool t)=>(t=want→rel P W o.op env σ e)∧(t= !want→e=undone)
  |.val (.tuple [])=>e=undone
  |_=>False
def vcOpD (P:Program) (W:List Nat) (o:AOp) (d:Option Nat) (k:Env→Store→Prop) (env:Env) (σ:Store):Prop:=
 match o with
 |.load agg n x=>match evalOpd env x with
  |.val (.ptr b o)=>∃cs,σ.obj b=some cs∧o+n≤cs.length∧k (env.set d (.val (mkv agg ((cs.drop o).take n)))) σ
  |.val (.sptr cs)=>n≤cs.length∧k (env.set d (.val (mkv agg (cs.take n)))) σ
  |.lptr s o=>W.contains s=false∧match env s with
   |.box cs=>o+n≤cs.length∧k (env.set d (.val (mkv agg ((cs.drop o).take n)))) σ
   |_=>False
  |_=>False
 |.call f args=>match vals (args.map (evalOpd env))with
  |some as=>∃c,ACall P f as σ (fun a σ'=>a=c∧σ'=σ)∧k (env.set d (.val c)) σ
  |none=>False
 |.callv f args=>match evalOpd env f,vals (args.map (evalOpd env))with
  |.val (.func (.func f) fs cs),some as=>(∃fn,P.funcs[f]? =some fn∧(fn.body.isSome&&fn.name != "runtime.NumGoroutine")=true)∧∃c,ACall P f (fs++as++cs) σ (fun a σ'=>a=c∧σ'=σ)∧k (env.set d (.val c)) σ
  |_,_=>False
 |.inv tbl x args=>match evalOpd env x,vals (args.map (evalOpd env))with
  |.val (.iface t v),some as=>∃f,tblGet tbl t=some f∧∃c,ACall P f (v::as) σ (fun a σ'=>a=c∧σ'=σ)∧k (env.set d (.val c)) σ
  |_,_=>False
 |.cut sz x lo hi=>match evalOpd env x with
  |.val (.slice xs nl tok)=>(∀x,xs[0]? =some x→x.cells.length=sz)∧bound env xs.length hi fun h=>h≤xs.length∧bound env 0 lo fun l=>l≤h∧
    k (env.set d (.val (.slice ((xs.take h).drop l) nl (bif l==0&&h==xs.length then tok else none)))) σ
  |.val (.ref b o n c)=>bound env n hi fun h=>h≤n∧bound env 0 lo fun l=>l≤h∧k (env.set d (.val (cutRef b o c sz h l))) σ
  |_=>False
 |o=>vcOp P o d k env σ
def vcOperD (P:Program) (W:List Nat) (o:AOper) (k:Env→Store→Prop) (env:Env) (σ:Store):Prop:=
 match o.guard with
 |none=>vcOpD P W o.op o.dst k env σ
 |some (j,want)=>match env j with
  |.val (.bool t)=>(t=want→vcOpD P W o.op o.dst k (env.set (some j) (.val (.bool want))) σ)∧
    (t= !want→k ((env.set (some j) (.val (.bool !want))).set o.dst undone) σ)
  |.val (.tuple [])=>k (env.set o.dst undone) σ
  |_=>False
def stOk (W:List Nat) (env:Env) (o:AOp):Prop:=
 match o with
 |.store _ x _=>∀s q,evalOpd env x=.lptr s q→W.contains s=true
 |_=>True
def stBox (env:Env) (o:AOp):Prop:=
 match o with
 |.store _ x _=>∃s q,evalOpd env x=.lptr s q
 |_=>False
def ldBox (env:Env) (o:AOp):Prop:=
 match o with
 |.load _ _ x=>∃s q,evalOpd env x=.lptr s q
 |_=>False
def ldBoxG (env:Env) (o:AOper):Prop:=
 match o.guard with
 |none=>ldBox env o.op
 |some (j,want)=>env j=.val (.bool want)→ldBox env o.op
def vcD (P:Program) (W:List Nat):List (Nat × AOper)→(Env→Store→Prop)→Env→Store→Prop
 | [],k,env,σ=>k env σ
 |(κ,o)::os,k,env,σ=>
  if κ=2 then stOk W env o.op∧vcOper P o (vcD P W os k) env σ
  else if κ=3 then vcOper P o (vcD P W os k) env σ
  else if κ=4 then stOk W env o.op∧stBox env o.op∧vcOper P o (vcD P W os k) env σ
  else if κ=5 then ldBoxG env o∧vcOperD P W o (vcD P W os k) env σ
  else if κ=6 then ldBoxG env o∧vcOperD P (cutW W) o (vcD P W os k) env σ
  else vcOperD P W o (vcD P W os k) env σ
def newBoxes (l:List (Nat × AOper)):List Nat:=l.filterMap fun x=>if x.1=3 then x.2.dst else none
def Env.killAll (B:List Nat) (env:Env):Env:=fun t=>match env t with
 |.lptr s o=>bif B.contains s then .val .top else .lptr s o
 |e=>e
def Env.forget (l:List (Nat × AOper)) (env:Env):Env:=match newBoxes l with
 | []=>env
 |B=>env.killAll B
inductive Ex where
 |normal
 |exit (id:Nat)
 |ret
def Ex.inBlock (id:Nat) (K:Ex→Env→Store→Prop):Ex→Env→Store→Prop
 |.exit id'=>bif id'==id then K .normal else K (.exit id')
 |e=>K e
def Ex.then (next:Env→Store→Prop) (K:Ex→Env→Store→Prop):Ex→Env→Store→Prop
 |.normal=>next
 |e=>K e
def Ent.Le (e f:Ent):Prop:=f=.val .top∨e=f∨∃a b,e=.val a∧f=.val b∧a.Le b
def Env.Le (env env':Env):Prop:=∀s,(env s).Le (env' s)
def Dim (K:Env→Store→Prop) (env:Env) (σ:Store):Prop:=∃env' σ',env.Le env'∧σ'.Sub σ∧K env' σ'
def vc (P:Program):ACode→(Ex→Env→Store→Prop)→Env→Store→Prop
 |.skip,K,env,σ=>K .normal env σ
 |.region ops,K,env,σ=>vcOps P ops (K .normal) env σ
 |.drawn W ops,K,env,σ=>vcD P W ops (K .normal) (env.forget ops) σ
 |.seq a b,K,env,σ=>vc P a (Ex.then (vc P b K) K) env σ
 |.cond c a b,K,env,σ=>match evalOpd env c with
  |.val (.bool t)=>(t=true→vc P a K env σ)∧(t=false→vc P b K env σ)
  |_=>False
 |.block id body,K,env,σ=>vc P body (Ex.inBlock id K) env σ
 |.loop body,K,env,σ=>∃Inv:Nat→Env→Store→Prop,(∃n,Dim (Inv n) env σ)∧
   ∀n env σ,Inv n env σ→vc P body (Ex.then (Dim fun env' σ'=>∃m,m<n∧Inv m env' σ') K) env σ
 |.exit id,K,env,σ=>K (.exit id) env σ
 |.ret,K,env,σ=>K .ret env σ
def resV (env:Env) (σ:Store):ARes→(AVal→Prop)→Prop
 |.tmp t,k=>match evalOpd env (.tmp t)with
  |.val a=>k a
  |_=>False
 |.cell agg n t,k=>match evalOpd env (.tmp t)with
  |.lptr s o=>match env s with
   |.box cs=>o+n≤cs.length∧k (mkv agg ((cs.drop o).take n))
   |_=>False
  |.val (.ptr b o)=>∃cs,σ.obj b=some cs∧o+n≤cs.length∧k (mkv agg ((cs.drop o).take n))
  |_=>False
def resVs (env:Env) (σ:Store):List ARes→(List AVal→Prop)→Prop
 | [],k=>k []
 |r::rs,k=>resV env σ r fun a=>resVs env σ rs fun as=>k (a::as)
def resAll (env:Env) (σ:Store) (rs:List ARes) (k:AVal→Prop):Prop:=
 resVs env σ rs fun as=>match as with
  | [a]=>k a
  |as=>k (.tuple as)
def retPost (rs:List ARes) (Q:AVal→Store→Prop):Ex→Env→Store→Prop
 |.exit _,_,_=>False
 |_,env,σ=>resAll env σ rs fun a=>Q a σ
def Env.args (as:List AVal):Env:=fun t=>match as[t]? with
 |some a=>.val a
 |none=>.val .top
end Go.AL
