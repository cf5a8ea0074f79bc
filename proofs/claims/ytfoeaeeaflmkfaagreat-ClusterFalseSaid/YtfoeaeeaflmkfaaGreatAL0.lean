/-
  AN ABSTRACT LOGIC OVER THE MODEL, part 0: values as trees, what a machine's value has to do with a tree, the store of what may change, the frame of one function.
  Slices that are only read are plain lists; nothing of the heap is told of them. What may change lies in a store by its block's number.
-/
import Derived.WalkKit
namespace Go.AL
open Go.RowKit
inductive AVal where
 |top
 |bool (b:Bool)
 |int (k:IntKind) (n:Int)
 |str (s:List UInt8)
 |nilP
 |ptr (b off:Nat)
 |sptr (cs:List AVal)
 |slice (xs:List AVal) (nl:Bool) (tok:Option Nat)
 |raw (g n:Nat)
 |ref (b off n c:Nat)
 |agg (cs:List AVal)
 |tuple (vs:List AVal)
 |iface (t:TypeId) (v:AVal)
 |nilI
 |func (fn:Fn) (first captured:List AVal)
 |nilF
 |map (r:Option Nat)
instance:Inhabited AVal:=⟨.top⟩
def AVal.cells:AVal→List AVal
 |.agg cs=>cs
 |v=>[v]
structure Sealed where
 cell:Nat→Nat→Option Value
 cap:Nat→Option (Nat × Nat)
structure Sealed.Le (I J:Sealed):Prop where
 cell:∀b o v,I.cell b o=some v→J.cell b o=some v
 cap:∀b n,I.cap b=some n→J.cap b=some n
theorem Sealed.Le.refl (I:Sealed):I.Le I:=⟨fun _ _ _ h=>h,fun _ _ h=>h⟩
theorem Sealed.Le.trans {I J K:Sealed} (h:I.Le J) (k:J.Le K):I.Le K:=
 ⟨fun b o v e=>k.cell b o v (h.cell b o v e),fun b n e=>k.cap b n (h.cap b n e)⟩
inductive RepC (I:Sealed):Value→AVal→Prop
 |top (v:Value):RepC I v .top
 |bool (b:Bool):RepC I (.bool b) (.bool b)
 |int (k:IntKind) (n:Int):RepC I (.int k n) (.int k n)
 |str (s:ByteArray) (l:List UInt8) (h:s.data.toList=l):RepC I (.string s) (.str l)
 |nilP:RepC I (.pointer none) .nilP
 |ptr (b o:Nat):RepC I (.pointer (some ⟨b,o,none⟩)) (.ptr b o)
 |sptr (b o:Nat) (cs:List AVal) (vs:Nat→Value) (h:∀j,j<cs.length→I.cell b (o+j)=some (vs j))
   (hr:∀j,RepC I (vs j) (cs.getD j .top)):RepC I (.pointer (some ⟨b,o,none⟩)) (.sptr cs)
 |nilS:RepC I (.slice none 0 0) (.slice [] true none)
 |slice (b o n cap sz:Nat) (xs:List AVal) (tok:Option Nat) (vs:Nat→Nat→Value) (hl:xs.length=n) (hc:n≤cap) (hm:cap≤maxLen)
   (hs:∀i,i<n→(xs.getD i .top).cells.length=sz)
   (h:∀i j,i<n→j<sz→I.cell b (o+(i*sz+j))=some (vs i j))
   (hr:∀i j,RepC I (vs i j) ((xs.getD i .top).cells.getD j .top))
   (ht:∀g,tok=some g→g=b∧o=0∧I.cap g=some (cap,sz)):RepC I (.slice (some ⟨b,o,none⟩) n cap) (.slice xs false tok)
 |sliceZ (a:Addr):RepC I (.slice (some a) 0 0) (.slice [] false none)
 |raw (g n cap sz:Nat) (hc:n≤cap) (hm:cap≤maxLen) (ht:I.cap g=some (cap,sz)):RepC I (.slice (some ⟨g,0,none⟩) n cap) (.raw g n)
 |ref (b o n c:Nat) (hc:n≤c) (hm:c≤maxLen):RepC I (.slice (some ⟨b,o,none⟩) n c) (.ref b o n c)
 |agg (cs:Array Value) (as:List AVal) (hl:cs.size=as.length) (hr:∀j,RepC I (cs.getD j undef) (as.getD j .top)):RepC I (.agg cs) (.agg as)
 |tuple (vs:Array Value) (as:List AVal) (hl:vs.size=as.length) (hr:∀j,RepC I (vs.getD j undef) (as.getD j .top)):RepC I (.tuple vs) (.tuple as)
 |iface (t:TypeId) (v:Value) (a:AVal) (h:RepC I v a):RepC I (.iface t v) (.iface t a)
 |nilI:RepC I .nilIface .nilI
 |func (fn:Fn) (f c:Array Value) (as bs:List AVal) (h1:f.size=as.length) (h2:c.size=bs.length) (hr1:∀j,RepC I (f.getD j undef) (as.getD j .top))
   (hr2:∀j,RepC I (c.getD j undef) (bs.getD j .top)):RepC I (.func fn f c) (.func fn as bs)
 |nilF:RepC I .nilFunc .nilF
 |map (r:Option Nat):RepC I (.map r) (.map r)
theorem RepC.mono {I J:Sealed} (hle:I.Le J) {v:Value} {a:AVal} (h:RepC I v a):RepC J v a:=by
 induction h with
 |top v=>exact .top v
 |bool b=>exact .bool b
 |int k n=>exact .int k n
 |str s l h=>exact .str s l h
 |nilP=>exact .nilP
 |ptr b o=>exact .ptr b o
 |sptr b o cs vs h _ ih=>exact .sptr b o cs vs (fun j hj=>hle.cell _ _ _ (h j hj)) ih
 |nilS=>exact .nilS
 |slice b o n cap sz xs tok vs hl hc hm hs h _ ht ih=>
  exact .slice b o n cap sz xs tok vs hl hc hm hs (fun i j hi hj=>hle.cell _ _ _ (h i j hi hj)) ih
   (fun g hg=>let⟨h1,h2,h3⟩:=ht g hg;⟨h1,h2,hle.cap _ _ h3⟩)
 |sliceZ a=>exact .sliceZ a
 |raw g n cap sz hc hm ht=>exact .raw g n cap sz hc hm (hle.cap _ _ ht)
 |ref b o n c hc hm=>exact .ref b o n c hc hm
 |agg cs as hl _ ih=>exact .agg cs as hl ih
 |tuple vs as hl _ ih=>exact .tuple vs as hl ih
 |iface t v a _ ih=>exact .iface t v a ih
 |nilI=>exact .nilI
 |func fn f c as bs h1 h2 _ _ ih1 ih2=>exact .func fn f c as bs h1 h2 ih1 ih2
 |nilF=>exact .nilF
 |map r=>exact .map r
inductive MObj where
 |map (es:List (AVal × AVal))
 |iter (m:Option Nat) (es left:List (AVal × AVal)) (cur:Option (AVal × AVal))
 |lent
structure Store where
 obj:Nat→Option (List AVal)
 opn:Nat→Option (Nat × Nat × Nat)
 mp:Nat→Option MObj
def Store.empty:Store:=⟨fun _=>none,fun _=>none,fun _=>none⟩
def Store.fresh (σ:Store) (b:Nat):Prop:=σ.obj b=none∧σ.opn b=none∧σ.mp b=none
def Store.setObj (σ:Store) (b:Nat) (cs:List AVal):Store:= {σ with obj:=fun x=>bif x==b then some cs else σ.obj x}
def Store.setOpn (σ:Store) (b:Nat) (r:Nat × Nat × Nat):Store:= {σ with opn:=fun x=>bif x==b then some r else σ.opn x}
def Store.dropOpn (σ:Store) (t:Option Nat):Store:= {σ with opn:=fun x=>bif some x==t then none else σ.opn x}
def Store.setMap (σ:Store) (b:Nat) (es:MObj):Store:= {σ with mp:=fun x=>bif x==b then some es else σ.mp x}
structure Store.Sub (τ σ:Store):Prop where
 obj:∀b cs,τ.obj b=some cs→σ.obj b=some cs
 opn:∀b r,τ.opn b=some r→σ.opn b=some r
 mp:∀b es,τ.mp b=some es→σ.mp b=some es
theorem Store.Sub.refl (σ:Store):σ.Sub σ:=⟨fun _ _ h=>h,fun _ _ h=>h,fun _ _ h=>h⟩
theorem Store.Sub.trans {a b c:Store} (h:a.Sub b) (k:b.Sub c):a.Sub c:=
 ⟨fun x y e=>k.obj x y (h.obj x y e),fun x y e=>k.opn x y (h.opn x y e),fun x y e=>k.mp x y (h.mp x y e)⟩
theorem Store.Sub.fresh {τ σ:Store} (h:τ.Sub σ) {b:Nat} (hf:σ.fresh b):τ.fresh b:=by
 refine⟨?_,?_,?_⟩
 ·cases e:τ.obj b with
  |none=>rfl
  |some c=>have:=h.obj b c e;rw[hf.1]at this;cases this
 ·cases e:τ.opn b with
  |none=>rfl
  |some c=>have:=h.opn b c e;rw[hf.2.1]at this;cases this
 ·cases e:τ.mp b with
  |none=>rfl
  |some c=>have:=h.mp b c e;rw[hf.2.2]at this;cases this
def MapRep (I:Sealed) (ms:List MapEntry) (es:List (AVal × AVal)):Prop:=
 ms.length=es.length∧∀(j:Nat) (m:MapEntry) (e:AVal × AVal),ms[j]? =some m→es[j]? =some e→RepC I m.key e.1∧RepC I m.val e.2
theorem MapRep.mono {I J:Sealed} (hle:I.Le J) {ms:List MapEntry} {es:List (AVal × AVal)} (h:MapRep I ms es):MapRep J ms es:=
 ⟨h.1,fun j m e h1 h2=>let⟨a,b⟩:=h.2 j m e h1 h2;⟨a.mono hle,b.mono hle⟩⟩
def MapOk (ms:List MapEntry) (clock:Nat):Prop:=(ms.map MapEntry.born).Pairwise (· < ·)∧∀m∈ms,m.born<clock
def MRep (I:Sealed) (mp:Nat→Option MObj) (w:World) (b:Nat):MObj→Prop
 |.map es=>∃ms clock,w.heap[b]? =some (.map ms clock)∧MapOk ms.toList clock∧MapRep I ms.toList es
 |.iter none _ left _=>left=[]∧∃since seen last,w.heap[b]? =some (.mapIter none since seen last)
 |.iter (some r) es left cur=>∃(ms:Array MapEntry) (clock:Nat) (seen:Array Nat),w.heap[b]? =some (.mapIter (some r) clock seen clock)∧w.heap[r]? =some (.map ms clock)∧
   MapOk ms.toList clock∧MapRep I ms.toList es∧MapRep I (ms.toList.filter fun e=> !seen.contains e.born) left∧
   (∀e,cur=some e→∃st x,seen.back? =some st∧ms.find? (·.born==st)=some x∧RepC I x.key e.1∧RepC I x.val e.2)∧
   (∀es',mp r≠some (.map es'))∧∀b' es' left' cur',mp b'=some (.iter (some r) es' left' cur')→b'=b
 |.lent=>b<w.heap.size
structure Models (I:Sealed) (σ:Store) (w:World):Prop where
 cell:∀b o v,I.cell b o=some v→∃cs T fz,w.heap[b]? =some (.cells cs T fz)∧cs[o]? =some v
 cap:∀b n,I.cap b=some n→b<w.heap.size
 obj:∀b as,σ.obj b=some as→∃cs T,w.heap[b]? =some (.cells cs T (0,0))∧cs.size=as.length∧(∀j,RepC I (cs.getD j undef) (as.getD j .top))∧
  (∀o,I.cell b o=none)∧I.cap b=none
 opn:∀b n sz e,σ.opn b=some (n,sz,e)→σ.obj b=none∧∃cs cap,w.heap[b]? =some (.cells cs e (0,0))∧I.cap b=some (cap,sz)∧cs.size=cap*sz∧n≤cap∧
  cap≤maxLen∧∀o,n*sz≤o→I.cell b o=none
 mp:∀b mo,σ.mp b=some mo→σ.obj b=none∧σ.opn b=none∧(∀cs T fz,w.heap[b]?≠some (.cells cs T fz))∧MRep I σ.mp w b mo
theorem lt_of_heap {w:World} {b:Nat} {o:Obj} (h:w.heap[b]? =some o):b<w.heap.size:=by
 rcases Nat.lt_or_ge b w.heap.size with hlt|hge
 ·exact hlt
 ·rw[Array.getElem?_eq_none hge]at h;cases h
theorem MRep.lt {I:Sealed} {mp:Nat→Option MObj} {w:World} {b:Nat} {mo:MObj} (h:MRep I mp w b mo):b<w.heap.size:=by
 match mo,h with
 |.map _,⟨_,_,h,_⟩=>exact lt_of_heap h
 |.iter none _ _ _,⟨_,_,_,_,h⟩=>exact lt_of_heap h
 |.iter (some _) _ _ _,⟨_,_,_,h,_⟩=>exact lt_of_heap h
 |.lent,h=>exact h
theorem MRep.keep {I J:Sealed} {mp:Nat→Option MObj} {w w':World} {b:Nat} {mo:MObj} (h:MRep I mp w b mo) (hle:I.Le J) (hs:w.heap.size≤w'.heap.size)
  (hh:∀(x:Nat) (o:Obj),w.heap[x]? =some o→(∀cs T fz,o≠Obj.cells cs T fz)→w'.heap[x]? =some o):MRep J mp w' b mo:=by
 match mo,h with
 |.map _,⟨ms,c,h1,h2,h3⟩=>exact⟨ms,c,hh _ _ h1 (fun _ _ _ h=>by cases h),h2,h3.mono hle⟩
 |.iter none _ _ _,⟨h0,s,n,l,h⟩=>exact⟨h0,s,n,l,hh _ _ h (fun _ _ _ h=>by cases h)⟩
 |.iter (some _) _ _ _,⟨ms,c,s,h1,h2,h3,h4,h5,h6,h7⟩=>
  exact⟨ms,c,s,hh _ _ h1 (fun _ _ _ h=>by cases h),hh _ _ h2 (fun _ _ _ h=>by cases h),h3,h4.mono hle,h5.mono hle,
   fun e he=>let⟨st,x,k1,k2,k3,k4⟩:=h6 e he;⟨st,x,k1,k2,k3.mono hle,k4.mono hle⟩,h7⟩
 |.lent,h=>exact Nat.lt_of_lt_of_le h hs
theorem MRep.less {I:Sealed} {mp mp':Nat→Option MObj} {w:World} {b:Nat} {mo:MObj} (h:MRep I mp w b mo) (hs:∀x o,mp' x=some o→mp x=some o):MRep I mp' w b mo:=by
 match mo,h with
 |.map _,h=>exact h
 |.iter none _ _ _,h=>exact h
 |.iter (some _) _ _ _,⟨ms,c,s,h1,h2,h3,h4,h5,h6,h7,h8⟩=>
  exact⟨ms,c,s,h1,h2,h3,h4,h5,h6,fun es' h=>h7 es' (hs _ _ h),fun b' es' left' cur' h=>h8 b' es' left' cur' (hs _ _ h)⟩
 |.lent,h=>exact h
theorem Models.cell_lt {I:Sealed} {σ:Store} {w:World} (m:Models I σ w) {b o:Nat} {v:Value} (h:I.cell b o=some v):b<w.heap.size:=by
 obtain⟨_,_,_,hh,_⟩:=m.cell b o v h
 exact lt_of_heap hh
theorem Models.fresh_of_ge {I:Sealed} {σ:Store} {w:World} (m:Models I σ w) {b:Nat} (h:w.heap.size≤b):σ.fresh b:=by
 refine⟨?_,?_,?_⟩
 ·cases e:σ.obj b with
  |none=>rfl
  |some c=>obtain⟨_,_,hh,_⟩:=m.obj b c e;have:=lt_of_heap hh;omega
 ·cases e:σ.opn b with
  |none=>rfl
  |some c=>obtain⟨_,_,_,hh,_⟩:=m.opn b c.1 c.2.1 c.2.2 e;have:=lt_of_heap hh;omega
 ·cases e:σ.mp b with
  |none=>rfl
  |some c=>have:=(m.mp b c e).2.2.2.lt;omega
theorem Models.none_of_ge {I:Sealed} {σ:Store} {w:World} (m:Models I σ w) {b:Nat} (h:w.heap.size≤b) (o:Nat):I.cell b o=none:=by
 cases e:I.cell b o with
 |none=>rfl
 |some v=>have:=m.cell_lt e;omega
theorem Models.capnone_of_ge {I:Sealed} {σ:Store} {w:World} (m:Models I σ w) {b:Nat} (h:w.heap.size≤b):I.cap b=none:=by
 cases e:I.cap b with
 |none=>rfl
 |some v=>have:=m.cap b v e;omega
theorem Models.sub {I:Sealed} {σ τ:Store} {w:World} (m:Models I σ w) (h:τ.Sub σ):Models I τ w where
 cell:=m.cell
 cap:=m.cap
 obj b as e:=m.obj b as (h.obj b as e)
 opn b n sz t e:=by
  obtain⟨h1,h2⟩:=m.opn b n sz t (h.opn b _ e)
  refine⟨?_,h2⟩
  cases e':τ.obj b with
  |none=>rfl
  |some c=>rw[h.obj b c e']at h1;cases h1
 mp b es e:=by
  obtain⟨h1,h2,h3,h4⟩:=m.mp b es (h.mp b es e)
  refine⟨?_,?_,h3,h4.less h.mp⟩
  ·cases e':τ.obj b with
   |none=>rfl
   |some c=>rw[h.obj b c e']at h1;cases h1
  ·cases e':τ.opn b with
   |none=>rfl
   |some c=>rw[h.opn b c e']at h2;cases h2
structure Evo (I:Sealed) (σ:Store) (w:World) (I':Sealed) (σ':Store) (w':World):Prop where
 le:I.Le I'
 size:w.heap.size≤w'.heap.size
 os:w'.os=w.os
 tape:w'.tape=w.tape
 output:w'.output=w.output
 keep:∀b,b<w.heap.size→σ.fresh b→w'.heap[b]? =w.heap[b]?∧σ'.fresh b∧(∀o,I'.cell b o=I.cell b o)∧I'.cap b=I.cap b
theorem Evo.refl (I:Sealed) (σ:Store) (w:World):Evo I σ w I σ w:=
 ⟨.refl I,Nat.le_refl _,rfl,rfl,rfl,fun _ _ h=>⟨rfl,h,fun _=>rfl,rfl⟩⟩
theorem Evo.trans {I J K:Sealed} {σ τ υ:Store} {w x y:World} (h:Evo I σ w J τ x) (k:Evo J τ x K υ y):Evo I σ w K υ y where
 le:=h.le.trans k.le
 size:=Nat.le_trans h.size k.size
 os:=k.os.trans h.os
 tape:=k.tape.trans h.tape
 output:=k.output.trans h.output
 keep b hb hf:=by
  obtain⟨h1,h2,h3,h4⟩:=h.keep b hb hf
  obtain⟨k1,k2,k3,k4⟩:=k.keep b (Nat.lt_of_lt_of_le hb h.size) h2
  exact⟨k1.trans h1,k2,fun o=>(k3 o).trans (h3 o),k4.trans h4⟩
theorem Evo.sub {I J:Sealed} {σ τ υ:Store} {w x:World} (h:Evo I σ w J τ x) (k:υ.Sub τ):Evo I σ w J υ x where
 le:=h.le
 size:=h.size
 os:=h.os
 tape:=h.tape
 output:=h.output
 keep b hb hf:=let⟨h1,h2,h3,h4⟩:=h.keep b hb hf;⟨h1,k.fresh h2,h3,h4⟩
inductive Ent where
 |val (a:AVal)
 |box (cs:List AVal)
 |lptr (s off:Nat)
abbrev Env:=Nat→Ent
def Env.set (env:Env) (d:Option Nat) (e:Ent):Env:=
 match d with
 |some d=>fun t=>bif t==d then e else env t
 |none=>env
def Ent.kill (s:Nat):Ent→Ent
 |.lptr s' off=>bif s'==s then .val .top else .lptr s' off
 |e=>e
def Env.setBox (env:Env) (s:Nat) (cs:List AVal):Env:=fun t=>bif t==s then .box cs else env t
def Env.newBox (env:Env) (s:Nat) (cs:List AVal):Env:=fun t=>bif t==s then .box cs else(env t).kill s
def EntRep (I:Sealed) (σ:Store) (bx:Nat→Nat) (w:World) (s:Nat) (v:Value):Ent→Prop
 |.val a=>RepC I v a
 |.lptr s' off=>v=.pointer (some ⟨bx s',off,none⟩)
 |.box cs=>v=.pointer (some ⟨bx s,0,none⟩)∧∃vs T,w.heap[bx s]? =some (.cells vs T (0,0))∧vs.size=cs.length∧(∀j,RepC I (vs.getD j undef) (cs.getD j .top))∧
   σ.fresh (bx s)∧(∀o,I.cell (bx s) o=none)∧I.cap (bx s)=none
def Ent.isBox:Ent→Prop
 |.box _=>True
 |_=>False
structure Entry where
 I:Sealed
 σ:Store
 w:World
 n:Nat
structure St (E:Entry) (I:Sealed) (σ:Store) (env:Env) (bx:Nat→Nat) (a:Act) (w:World):Prop where
 models:Models I σ w
 ents:∀s,EntRep I σ bx w s (a.tmps.getD s undef) (env s)
 inj:∀s s',(env s).isBox→(env s').isBox→bx s=bx s'→s=s'
 low:∀s,(env s).isBox→E.w.heap.size≤bx s
 evo:Evo E.I E.σ E.w I σ w
 size:a.tmps.size=E.n
 defers:a.defers=[]
def Up (E:Entry) (K:Env→Store→Prop) (a:Act) (w:World):Prop:=∃I σ env bx,St E I σ env bx a w∧K env σ
theorem Up.mono {E:Entry} {K K':Env→Store→Prop} (h:∀env σ,K env σ→K' env σ) {a:Act} {w:World} (u:Up E K a w):Up E K' a w:=
 let⟨I,σ,env,bx,s,k⟩:=u;⟨I,σ,env,bx,s,h _ _ k⟩
def ACall (P:Program) (f:FuncId) (as:List AVal) (σ:Store) (Q:AVal→Store→Prop):Prop:=
 ∀(I:Sealed) (w:World) (vs:Array Value),Models I σ w→vs.size=as.length→(∀j,RepC I (vs.getD j undef) (as.getD j .top))→
  Calls P f vs w fun e w'=>∃v a I' σ',e=.returned v∧RepC I' v a∧Models I' σ' w'∧Evo I σ w I' σ' w'∧Q a σ'
theorem ACall.mono {P:Program} {f:FuncId} {as:List AVal} {σ:Store} {Q Q':AVal→Store→Prop} (h:ACall P f as σ Q) (hq:∀a σ',Q a σ'→Q' a σ'):ACall P f as σ Q':=
 fun I w vs m hs hr=>(h I w vs m hs hr).mono fun _ _ ⟨v,a,I',σ',he,hr',m',ev,q⟩=>⟨v,a,I',σ',he,hr',m',ev,hq _ _ q⟩
def AVal.Le (a b:AVal):Prop:=∀(I:Sealed) (v:Value),RepC I v a→RepC I v b
theorem AVal.Le.refl (a:AVal):a.Le a:=fun _ _ h=>h
theorem AVal.Le.trans {a b c:AVal} (h:a.Le b) (k:b.Le c):a.Le c:=fun I v r=>k I v (h I v r)
theorem AVal.le_top (a:AVal):a.Le .top:=fun _ v _=>.top v
theorem ACall.weak {P:Program} {f:FuncId} {as:List AVal} {σ:Store} {Q Q':AVal→Store→Prop} (h:ACall P f as σ Q)
  (hq:∀a σ',Q a σ'→∃b τ,a.Le b∧τ.Sub σ'∧Q' b τ):ACall P f as σ Q':=
 fun I w vs m hs hr=>(h I w vs m hs hr).mono fun _ _ ⟨v,_,I',_,he,hr',m',ev,q⟩=>
  let⟨b,τ,hb,hτ,q'⟩:=hq _ _ q
  ⟨v,b,I',τ,he,hb _ _ hr',m'.sub hτ,ev.sub hτ,q'⟩
end Go.AL
