/-
  AN ABSTRACT LOGIC OVER THE MODEL, part 14: maps: made, asked, written, gone over.
-/
import Derived.Test.YtfoeaeeaflmkfaaGreatAL6
import Derived.Maps.RangeRun
namespace Go.AL
open Go.RowKit Go.MapKept
section
variable {P:Program} {E:Entry} {I:Sealed} {σ:Store} {env:Env} {bx:Nat→Nat} {a:Act} {w:World} {o:Oper} {k:Env→Store→Prop} {Q:Exit→Act→World→Prop}
theorem tKeyK_cases {t:TypeId} {kk:KeyK} (h:tKeyK P t=some kk):(∃s,kk=.one s∧tSK P t=some s)∨∃ss,kk=.row ss∧tFlat P t=some ss:=by
 unfold tKeyK at h
 split at h
 ·simp only[Option.some.injEq]at h;exact .inl ⟨_,h.symm,‹_›⟩
 ·split at h
  ·simp only[Option.some.injEq]at h;exact .inr ⟨_,h.symm,‹_›⟩
  ·cases h
theorem keyIs_row {ss:List SK} {a:AVal} (h:(KeyK.row ss).is a=true):∃cs,a=.agg cs∧rowIs ss cs=true:=by
 cases a<;>simp only[KeyK.is,Bool.false_eq_true]at h
 exact⟨_,rfl,h⟩
theorem findIdx_shift {α:Type} (p:α→Bool) (x:α) (l:List α):(x::l).findIdx? p=if p x then some 0 else(l.findIdx? p).map (· +1):=by
 rw[List.findIdx?_cons]
theorem findNow_rep {s:SK} {u:Value} {key:AVal} (hk:s.is key=true) (hu:RepC I u key):∀(ms:List MapEntry) (es:List (AVal × AVal)) (i:Nat),MapRep I ms es→(∀e∈es,s.is e.1=true)→
  Instr.findNow s.desc u ms i=some ((es.findIdx? fun e=>keyEq key e.1).bind fun j=>(ms[j]?).map fun m=>(i+j,m.val))
 | [],[],_,_,_=>rfl
 | [],_::_,_,h,_=>by simp[MapRep]at h
 |_::_,[],_,h,_=>by simp[MapRep]at h
 |m::ms,e::es,i,h,hes=>by
  obtain⟨h1,h2⟩:=sameNow_sk hk (hes e (.head _)) hu (h.2 0 m e rfl rfl).1
  have ht:MapRep I ms es:=⟨by have:=h.1;simpa using this,fun j m' e' a b=>h.2 (j+1) m' e' (by simpa using a) (by simpa using b)⟩
  have ih:=findNow_rep hk hu ms es (i+1) ht (fun e' he=>hes e' (.tail _ he))
  rw[findIdx_shift]
  simp only[Instr.findNow,h1]
  cases hq:keyEq key e.1 with
  |true=>simp
  |false=>
   simp only[ih,Bool.false_eq_true,if_false]
   congr 1
   cases es.findIdx? (fun e=>keyEq key e.1)with
   |none=>rfl
   |some j=>
    simp only[Option.map_some,Option.bind_some,List.getElem?_cons_succ]
    cases ms[j]? with
    |none=>rfl
    |some m'=>simp only[Option.map_some];congr 2;omega
theorem findAsking_rep {t:TypeId} {ss:List SK} (ht:tFlat P t=some ss) {u:Value} {key:AVal} (hk:(KeyK.row ss).is key=true) (hu:RepC I u key) (W:World):∀(ms:List MapEntry) (es:List (AVal × AVal)) (i:Nat),MapRep I ms es→(∀e∈es,(KeyK.row ss).is e.1=true)→
  (Instr.findAsking t u ms i).run P W=.ok ((es.findIdx? fun e=>keyEq key e.1).bind fun j=>(ms[j]?).map fun m=>(i+j,m.val)) W
 | [],[],_,_,_=>rfl
 | [],_::_,_,h,_=>by simp[MapRep]at h
 |_::_,[],_,h,_=>by simp[MapRep]at h
 |m::ms,e::es,i,h,hes=>by
  obtain⟨as,rfl,h3⟩:=keyIs_row hk
  obtain⟨bs,hb,h4⟩:=keyIs_row (hes e (.head _))
  have hr:=(h.2 0 m e rfl rfl).1
  rw[hb]at hr
  have h1:(Op.equal t u m.key).run P W=.ok (cellsEq as bs) W:=equal_flat ht h3 h4 hu hr 9998 W
  have htl:MapRep I ms es:=⟨by have:=h.1;simpa using this,fun j m' e' a b=>h.2 (j+1) m' e' (by simpa using a) (by simpa using b)⟩
  have ih:=findAsking_rep ht hk hu W ms es (i+1) htl (fun e' he=>hes e' (.tail _ he))
  have hke:keyEq (.agg as) e.1=cellsEq as bs:=by rw[hb];rfl
  rw[findIdx_shift,hke]
  simp only[Instr.findAsking,Sem.run_bind,h1,Result.andThen_ok]
  cases hq:cellsEq as bs with
  |true=>simp
  |false=>
   simp only[Bool.false_eq_true,if_false]
   rw[ih]
   congr 1
   cases es.findIdx? (fun e=>keyEq (.agg as) e.1)with
   |none=>rfl
   |some j=>
    simp only[Option.map_some,Option.bind_some,List.getElem?_cons_succ]
    cases ms[j]? with
    |none=>rfl
    |some m'=>simp only[Option.map_some];congr 2;omega
theorem run_find {t:TypeId} {kk:KeyK} (ht:tKeyK P t=some kk) {u:Value} {key:AVal} {es:List (AVal × AVal)} (hk:KeysOk kk key es) (hu:RepC I u key) {ms:List MapEntry} (hm:MapRep I ms es) (W:World):
  (Instr.findKey t u ms).run P W=.ok ((es.findIdx? fun e=>keyEq key e.1).bind fun j=>(ms[j]?).map fun m=>(j,m.val)) W:=by
 rcases tKeyK_cases ht with⟨s,rfl,hs⟩|⟨ss,rfl,hs⟩
 ·have:=findNow_rep (s:=s) hk.1 hu ms es 0 hm hk.2
  simp only[Nat.zero_add]at this
  exact run_findKey (tSK_under hs) this
 ·obtain⟨fs,hus,_⟩:=tFlat_some hs
  have:=findAsking_rep hs hk.1 hu W ms es 0 hm hk.2
  simp only[Nat.zero_add]at this
  rw[run_findKey_eq (w:=W) (by rw[hus])]
  exact this
theorem run_checkFields {xs:Array Value} {as:List AVal} (em:Bool) (n:Nat) (hx:∀j,RepC I (xs.getD j undef) (as.getD j .top)) (hxl:xs.size=as.length) (W:World):
  ∀(fs:List Field) (off:Nat) (ss:List SK) (as':List AVal),fieldsSK P fs off=some ss→as.drop off=as'→rowIs ss as'=true→
  (forIn (m:=Sem) fs () fun f (_:Unit)=>
   if f.name≠ "_" then do
    Instr.checkKey em (n+1) f.type (←part f.type xs f.offset)
    pure (ForInStep.yield ())
   else pure (ForInStep.yield ())).run P W=.ok () W
 | [],off,ss,as',h,h1,h3=>rfl
 |f::r,off,ss,as',h,h1,h3=>by
  obtain⟨s,ss',rfl,e1,e2,e3,e4⟩:=fieldsSK_cons h
  cases as' with
  |nil=>simp[rowIs]at h3
  |cons x as'=>
   simp only[rowIs,Bool.and_eq_true]at h3
   obtain⟨u,u1,u2⟩:=rep_at hx hxl h1
   have p1:=run_part_plain W (tSK_plain e1) u1
   have p2:(Instr.checkKey em (n+1) f.type u).run P W=.ok () W:=run_checkKey (tSK_under e1) (sameNow_sk h3.1 h3.1 u2 u2).2.1 em n
   have ih:=run_checkFields em n hx hxl W r (off+1) ss' as' e2 (by rw[←List.drop_drop,h1];rfl) h3.2
   rw[List.forIn_cons,Sem.run_bind,if_pos e4]
   simp only[Sem.run_bind,e3,p1,p2,Result.andThen_ok,Sem.run_pure,ih]
theorem run_check {t:TypeId} {kk:KeyK} (ht:tKeyK P t=some kk) {u:Value} {key:AVal} (hk:kk.is key=true) (hu:RepC I u key) (em:Bool) (W:World):(Instr.checkKey em 10000 t u).run P W=.ok () W:=by
 rcases tKeyK_cases ht with⟨s,rfl,hs⟩|⟨ss,rfl,hs⟩
 ·exact run_checkKey (tSK_under hs) (sameNow_sk hk hk hu hu).2.1 em 9999
 ·obtain⟨fs,hus,hf,_⟩:=tFlat_some hs
  obtain⟨as,rfl,h3⟩:=keyIs_row hk
  cases hu with
  |agg xs _ hl hr=>
   have:=run_checkFields em 9998 hr hl W fs.toList 0 ss as hf rfl h3
   unfold Instr.checkKey
   simp only[Sem.run_bind,run_underlying hus,Result.andThen_ok]
   rw[←Array.forIn_toList]
   exact(congrArg (fun r=>r.andThen fun _ w'=>(pure ():Sem Unit).run P w') this).trans rfl
theorem models_mp {σ':Store} {w':World} (m:Models I σ w) (ch:Nat→Prop) (hh:∀x,¬ch x→x<w.heap.size→w'.heap[x]? =w.heap[x]?) (hs:w.heap.size≤w'.heap.size) (hc:∀x,ch x→x<w.heap.size→∃mo,σ.mp x=some mo)
  (hobj:σ'.obj=σ.obj) (hopn:σ'.opn=σ.opn) (hmp:∀x mo,σ'.mp x=some mo→(∀cs T fz,w'.heap[x]?≠some (.cells cs T fz))∧MRep I σ'.mp w' x mo∧((∃mo',σ.mp x=some mo')∨w.heap.size≤x)):Models I σ' w':=by
 have hcell:∀(x:Nat) cs T fz,w.heap[x]? =some (Obj.cells cs T fz)→w'.heap[x]? =some (Obj.cells cs T fz):=fun x cs T fz h=>by
  by_cases hx:ch x
  ·obtain⟨mo,h1⟩:=hc x hx (lt_of_heap h)
   exact absurd h ((m.mp x mo h1).2.2.1 _ _ _)
  ·exact(hh x hx (lt_of_heap h)).trans h
 refine⟨fun b o v h=> ?_,fun b n h=>Nat.lt_of_lt_of_le (m.cap b n h) hs,fun b as h=> ?_,fun b n sz e h=> ?_,fun b mo h=> ?_⟩
 ·obtain⟨cs,T,fz,h1,h2⟩:=m.cell b o v h
  exact⟨cs,T,fz,hcell _ _ _ _ h1,h2⟩
 ·rw[hobj]at h
  obtain⟨cs,T,h1,h2⟩:=m.obj b as h
  exact⟨cs,T,hcell _ _ _ _ h1,h2⟩
 ·rw[hopn]at h
  obtain⟨h0,cs,cap,h1,h2⟩:=m.opn b n sz e h
  exact⟨by rw[hobj];exact h0,cs,cap,hcell _ _ _ _ h1,h2⟩
 ·obtain⟨h1,h2,h3⟩:=hmp b mo h
  refine⟨?_,?_,h1,h2⟩
  ·rw[hobj]
   rcases h3 with⟨mo',h3⟩|h3
   ·exact(m.mp b mo' h3).1
   ·exact(m.fresh_of_ge h3).1
  ·rw[hopn]
   rcases h3 with⟨mo',h3⟩|h3
   ·exact(m.mp b mo' h3).2.1
   ·exact(m.fresh_of_ge h3).2.1
theorem evo_mp {σ':Store} {w':World} (ch:Nat→Prop) (hh:∀x,¬ch x→x<w.heap.size→w'.heap[x]? =w.heap[x]?) (hs:w.heap.size≤w'.heap.size) (hc:∀x,ch x→x<w.heap.size→∃mo,σ.mp x=some mo)
  (hobj:σ'.obj=σ.obj) (hopn:σ'.opn=σ.opn) (hmp:∀x,¬ch x→x<w.heap.size→σ'.mp x=σ.mp x) (hos:w'.os=w.os) (htape:w'.tape=w.tape) (hout:w'.output=w.output):Evo I σ w I σ' w':=
 ⟨.refl I,hs,hos,htape,hout,fun b hb hf=>by
  have hn:¬ch b:=fun h=>by obtain⟨mo,h1⟩:=hc b h hb;rw[hf.2.2]at h1;cases h1
  exact⟨hh b hn hb,⟨by rw[hobj];exact hf.1,by rw[hopn];exact hf.2.1,by rw[hmp b hn hb];exact hf.2.2⟩,fun _=>rfl,rfl⟩⟩
theorem MRep.upd {mp mp':Nat→Option MObj} {w':World} {x:Nat} {mo:MObj} (h:MRep I mp w x mo) (hx:w'.heap[x]? =w.heap[x]?) (hs:w.heap.size≤w'.heap.size)
  (hr:∀r es left cur,mo=.iter (some r) es left cur→w'.heap[r]? =w.heap[r]?∧(∀es',mp' r≠some (.map es'))∧∀b' es' l' c',mp' b'=some (.iter (some r) es' l' c')→b'=x):MRep I mp' w' x mo:=by
 match mo,h with
 |.map _,⟨ms,c,h1,h2⟩=>exact⟨ms,c,hx.trans h1,h2⟩
 |.iter none _ _ _,⟨h0,s,n,l,h⟩=>exact⟨h0,s,n,l,hx.trans h⟩
 |.iter (some r) es left cur,⟨ms,c,s,h1,h2,h3,h4,h5,h6,_⟩=>
  obtain⟨g1,g2,g3⟩:=hr r es left cur rfl
  exact⟨ms,c,s,hx.trans h1,g1.trans h2,h3,h4,h5,h6,g2,g3⟩
 |.lent,h=>exact Nat.lt_of_lt_of_le h hs
def Obj.row:Obj→Bool
 |.cells _ _ _=>true
 |_=>false
theorem getO {r:Nat} {ob:Obj} {W:World} (h:W.heap[r]? =some ob) (hn:Obj.row ob=false:=by rfl):(getObj r).run P W=.ok ob W:=by
 simp only[getObj,Sem.run,h]
 cases ob<;>first|rfl|cases hn
theorem setO {r:Nat} {ob:Obj} {W:World} (h:W.heap[r]? =some ob) (o':Obj) (hn:Obj.row ob=false:=by rfl):(setObj r o').run P W=.ok () {W with heap:=W.heap.setIfInBounds r o'}:=by
 simp only[setObj,Sem.run,h]
 cases ob<;>first|rfl|cases hn
theorem heap_at {r:Nat} {ob:Obj} {W:World} (h:W.heap[r]? =some ob) (o':Obj) (x:Nat):({W with heap:=W.heap.setIfInBounds r o'}:World).heap[x]? =if x=r then some o' else W.heap[x]? :=by
 have hlt:=lt_of_heap h
 by_cases e:x=r
 ·subst e;simp[hlt]
 ·simp[e,Ne.symm e]
theorem mapRep_nil (I:Sealed):MapRep I [] []:=⟨rfl,fun j m e h=>by simp at h⟩
theorem mapOk_nil (n:Nat):MapOk [] n:=⟨List.Pairwise.nil,fun _ h=>by cases h⟩
theorem sound_mmap (st:St E I σ env bx a w) (hd:∀x,o.dst=some x→x<E.n) {t:TypeId} (ho:o.op=.makeMap t none) (h:vcOp P .mmap o.dst k env σ):o.wp P a w (Up E k) Q:=by
 have hf:=st.models.fresh_of_ge (Nat.le_refl w.heap.size)
 have hh:∀x,¬(x=w.heap.size)→x<w.heap.size→(w.alloc (.map #[] 0)).heap[x]? =w.heap[x]? :=fun x _ hlt=>heap_new_old w _ hlt
 refine wp_step st hd (v:=.map (some w.heap.size)) (w':=w.alloc (.map #[] 0)) (by simp[execOp,ho,Instr.makeMap]) (I':=I) (σ':=σ.setMap w.heap.size (.map []))
  (models_mp st.models (fun x=>x=w.heap.size) hh (by simp) (fun x hx hlt=>by omega) rfl rfl fun x mo hx=> ?_)
  (evo_mp (fun x=>x=w.heap.size) hh (by simp) (fun x hx hlt=>by omega) rfl rfl (fun x hx hlt=> ?_) rfl rfl rfl) (e:=.val (.map (some w.heap.size))) (RepC.map _) (h _ hf)
 ·by_cases e:x=w.heap.size
  ·subst e
   simp only[Store.setMap,beq_self_eq_true,cond_true,Option.some.injEq]at hx
   subst hx
   have hn:(w.alloc (.map #[] 0)).heap[w.heap.size]? =some (.map #[] 0):=by rw[heap_new,if_pos rfl]
   exact⟨fun cs T fz hc=>(by rw[hn]at hc;cases hc),⟨#[],0,hn,mapOk_nil 0,mapRep_nil I⟩,.inr (Nat.le_refl _)⟩
  ·have hb:(x==w.heap.size)=false:=by simpa using e
   simp only[Store.setMap,hb,cond_false]at hx
   obtain⟨_,_,g3,g4⟩:=st.models.mp x mo hx
   have hlt:=g4.lt
   refine⟨fun cs T fz hc=>g3 cs T fz ((heap_new_old w _ hlt).symm.trans hc),g4.upd (heap_new_old w _ hlt) (by simp) (fun r es left cur hmo=> ?_),.inl ⟨mo,hx⟩⟩
   subst hmo
   obtain⟨ms,c,s,_,h2,_,_,_,_,h7,h8⟩:=g4
   have hr:=lt_of_heap h2
   have hrb:(r==w.heap.size)=false:=by simp;omega
   refine⟨heap_new_old w _ hr,fun es'=>by simp only[Store.setMap,hrb,cond_false];exact h7 es',fun b' es' l' c' hb'=> ?_⟩
   by_cases e2:b'=w.heap.size
   ·subst e2;simp[Store.setMap]at hb'
   ·have hb2:(b'==w.heap.size)=false:=by simpa using e2
    simp only[Store.setMap,hb2,cond_false]at hb'
    exact h8 b' es' l' c' hb'
 ·have hb:(x==w.heap.size)=false:=by simpa using hx
  simp only[Store.setMap,hb,cond_false]
theorem sound_mlen (st:St E I σ env bx a w) (hd:∀x,o.dst=some x→x<E.n) {x:Operand} {y:Opd} {t kt et:TypeId} (ho:o.op=.call {callee:=.builtin .len,args:=⟨[x]⟩,argTypes:=⟨[t]⟩}) (hx:ofOpd x=some y) (ht:P.underlying t=some (.map kt et))
  (h:vcOp P (.mlen y) o.dst k env σ):o.wp P a w (Up E k) Q:=by
 have hv:=st.opd hx
 simp only[vcOp]at h
 generalize evalOpd env y=ey at hv h
 split at h
 ·have he:a.eval x=.map none:=by simp only[EntVal]at hv;generalize a.eval x=z at hv;cases hv;rfl
  exact wp_step st hd (v:=.int .i64 0) (by simp[execOp,ho,resolve,invoke,builtin,he,Builtin.len_,run_underlying ht,goInt]) st.models (.refl _ _ _) (e:=.val (.int .i64 0)) (RepC.int _ _) h
 ·rename_i r
  obtain⟨es,hm,h⟩:=h
  have he:a.eval x=.map (some r):=by simp only[EntVal]at hv;generalize a.eval x=z at hv;cases hv;rfl
  obtain⟨_,_,_,ms,c,h1,h2,h3⟩:=st.models.mp r _ hm
  have hl:(ms.size:Int)=es.length:=by have:=h3.1;simp at this;omega
  exact wp_step st hd (v:=.int .i64 es.length) (by simp[execOp,ho,resolve,invoke,builtin,he,Builtin.len_,run_underlying ht,getO h1,goInt,hl]) st.models (.refl _ _ _) (e:=.val (.int .i64 es.length)) (RepC.int _ _) h
 ·exact h.elim
theorem map_inv {v:Value} {r:Option Nat} (h:RepC I v (.map r)):v=.map r:=by cases h;rfl
theorem found {es:List (AVal × AVal)} {ms:List MapEntry} (hm:MapRep I ms es) (p:AVal × AVal→Bool):
  (∃j m e,es.findIdx? p=some j∧ms[j]? =some m∧es[j]? =some e∧p e=true∧es.find? p=some e∧RepC I m.key e.1∧RepC I m.val e.2)∨(es.findIdx? p=none∧es.find? p=none):=by
 cases hq:es.findIdx? p with
 |none=>
  right
  refine⟨rfl,?_⟩
  rw[List.findIdx?_eq_none_iff]at hq
  rw[List.find?_eq_none]
  intro e he;simp[hq e he]
 |some j=>
  left
  obtain⟨hj,h1,h2⟩:=List.findIdx?_eq_some_iff_getElem.1 hq
  have hjm:j<ms.length:=by rw[hm.1];exact hj
  obtain⟨g1,g2⟩:=hm.2 j ms[j] es[j] (List.getElem?_eq_getElem hjm) (List.getElem?_eq_getElem hj)
  refine⟨j,ms[j],es[j],rfl,List.getElem?_eq_getElem hjm,List.getElem?_eq_getElem hj,h1,?_,g1,g2⟩
  rw[List.find?_eq_some_iff_getElem]
  exact⟨h1,j,hj,rfl,fun i hi=>by simpa using h2 i hi⟩
theorem sound_mget (st:St E I σ env bx a w) (hd:∀x,o.dst=some x→x<E.n) {x i:Operand} {y u:Opd} {t kt et:TypeId} {kk:KeyK} {z:AVal} {ok:Bool} (ho:o.op=.lookup t x i ok) (hx:ofOpd x=some y) (hi:ofOpd i=some u) (ht:P.underlying t=some (.map kt et))
  (hk:tKeyK P kt=some kk) (hz:tZero P et=some z) (h:vcOp P (.mget kk z ok y u) o.dst k env σ):o.wp P a w (Up E k) Q:=by
 have hv:=st.opd hx
 have hu:=st.opd hi
 obtain⟨ti,zv,hti,hzv,hof⟩:=zero_of hz
 have hzr:(zeroValue et).run P w=.ok zv w:=by simp[zeroValue,typeInfo,hti,hzv]
 have hzrep:RepC I zv z:=ofV_sound zv z hof
 have fin:∀(v:Value) (av:AVal) (is:Bool),RepC I v av→(execOp a.eval o).run P w=.ok (.value (if ok then .tuple #[v,.bool is]else v)) w→k (env.set o.dst (.val (if ok then .tuple [av,.bool is]else av))) σ→o.wp P a w (Up E k) Q:=by
  intro v av is hrep hrun hk
  refine wp_step st hd hrun st.models (.refl _ _ _) (e:=.val (if ok then .tuple [av,.bool is]else av)) ?_ hk
  cases ok with
  |false=>exact hrep
  |true=>
   refine RepC.tuple _ _ rfl fun j=> ?_
   match j with
   |0=>exact hrep
   |1=>exact RepC.bool _
   |_+2=>exact RepC.top _
 simp only[vcOp]at h
 generalize evalOpd env y=ey at hv h
 generalize evalOpd env u=eu at hu h
 split at h
 ·rename_i key
  obtain⟨hkey,h⟩:=h
  have he:a.eval x=.map none:=map_inv hv
  refine fin zv z false hzrep ?_ h
  have hfind:(Instr.findKey kt (a.eval i) []).run P w=.ok none w:=run_find hk (es:=[]) ⟨hkey,fun _ h=>by cases h⟩ hu (mapRep_nil I) w
  simp[execOp,ho,he,Instr.lookup,run_underlying ht,run_check hk hkey hu,hfind,hzr]
 ·rename_i r key
  obtain⟨es,hm,hok,h⟩:=h
  have he:a.eval x=.map (some r):=map_inv hv
  obtain⟨_,_,_,ms,c,h1,h2,h3⟩:=st.models.mp r _ hm
  have hfind:=run_find hk hok hu h3 w
  rcases found h3 (fun e=>keyEq key e.1)with⟨j,m,e,f1,f2,f3,f4,f5,f6,f7⟩|⟨f1,f2⟩
  ·rw[f1]at hfind
   simp only[Option.bind_some,f2,Option.map_some]at hfind
   have hmf:mfind key es=some e.2:=by simp[mfind,f5]
   rw[hmf]at h
   refine fin m.val e.2 true f7 ?_ h
   simp[execOp,ho,he,Instr.lookup,run_underlying ht,getO h1,run_check hk hok.1 hu,hfind]
  ·rw[f1]at hfind
   simp only[Option.bind_none]at hfind
   have hmf:mfind key es=none:=by simp[mfind,f2]
   rw[hmf]at h
   refine fin zv z false hzrep ?_ h
   simp[execOp,ho,he,Instr.lookup,run_underlying ht,getO h1,run_check hk hok.1 hu,hfind,hzr]
 ·exact h.elim
theorem turn_map (m:Models I σ w) {r:Nat} {es es':List (AVal × AVal)} (hm:σ.mp r=some (.map es)) (ms':Array MapEntry) (c':Nat) (ho:MapOk ms'.toList c') (hr:MapRep I ms'.toList es'):
  Models I (σ.setMap r (.map es')) {w with heap:=w.heap.setIfInBounds r (.map ms' c')}∧Evo I σ w I (σ.setMap r (.map es')) {w with heap:=w.heap.setIfInBounds r (.map ms' c')}:=by
 obtain⟨_,_,_,ms,c,h1,h2,h3⟩:=m.mp r _ hm
 have hhp:=heap_at h1 (.map ms' c')
 have hh:∀x,¬(x=r)→x<w.heap.size→({w with heap:=w.heap.setIfInBounds r (.map ms' c')}:World).heap[x]? =w.heap[x]? :=fun x hx _=>by rw[hhp,if_neg hx]
 refine⟨models_mp m (fun x=>x=r) hh (by simp) (fun x hx _=>by subst hx;exact⟨_,hm⟩) rfl rfl fun x mo hx=> ?_,
  evo_mp (fun x=>x=r) hh (by simp) (fun x hx _=>by subst hx;exact⟨_,hm⟩) rfl rfl (fun x hx hlt=> ?_) rfl rfl rfl⟩
 ·by_cases e:x=r
  ·subst e
   simp only[Store.setMap,beq_self_eq_true,cond_true,Option.some.injEq]at hx
   subst hx
   have hn:=hhp x
   rw[if_pos rfl]at hn
   exact⟨fun cs T fz hc=>(by rw[hn]at hc;cases hc),⟨ms',c',hn,ho,hr⟩,.inl ⟨_,hm⟩⟩
  ·have hb:(x==r)=false:=by simpa using e
   simp only[Store.setMap,hb,cond_false]at hx
   obtain⟨_,_,g3,g4⟩:=m.mp x mo hx
   have hlt:=g4.lt
   refine⟨fun cs T fz hc=>g3 cs T fz ((hh x e hlt).symm.trans hc),g4.upd (hh x e hlt) (by simp) (fun r' es1 left cur hmo=> ?_),.inl ⟨mo,hx⟩⟩
   subst hmo
   obtain⟨ms1,c1,s1,_,q2,_,_,_,_,h7,h8⟩:=g4
   have hne:r'≠r:=by rintro rfl;exact h7 es hm
   have hrb:(r'==r)=false:=by simpa using hne
   refine⟨hh r' hne (lt_of_heap q2),fun es2=>by simp only[Store.setMap,hrb,cond_false];exact h7 es2,fun b' es2 l' c2 hb'=> ?_⟩
   by_cases e2:b'=r
   ·subst e2;simp[Store.setMap]at hb'
   ·have hb2:(b'==r)=false:=by simpa using e2
    simp only[Store.setMap,hb2,cond_false]at hb'
    exact h8 b' es2 l' c2 hb'
 ·have hb:(x==r)=false:=by simpa using hx
  simp only[Store.setMap,hb,cond_false]
theorem same_cell {s:SK} {x y:AVal} {u v:Value} (hx:s.is x=true) (hy:s.is y=true) (hu:RepC I u x) (hv:RepC I v y) (he:cellEq x y=true) (n:Nat):Instr.sameBits n v u=true:=by
 rcases SK.cases hx with⟨rfl,b,rfl⟩|⟨q,i,rfl,rfl⟩|⟨rfl,l,rfl⟩
 ·rcases SK.cases hy with⟨_,c,rfl⟩|⟨_,_,h,_⟩|⟨h,_⟩<;>first|cases h|skip
  cases hu;cases hv
  have hb:b=c:=by simpa[cellEq]using he
  subst hb;simp[Instr.sameBits]
 ·rcases SK.cases hy with⟨h,_⟩|⟨_,m,h,rfl⟩|⟨h,_⟩<;>first|(cases h;done)|skip
  cases h
  cases hu;cases hv
  have hb:i=m:=by simpa[cellEq]using he
  subst hb;simp[Instr.sameBits]
 ·rcases SK.cases hy with⟨h,_⟩|⟨_,_,h,_⟩|⟨_,m,rfl⟩<;>first|(cases h;done)|skip
  obtain⟨a1,rfl,h1⟩:=RepC.str_inv hu
  obtain⟨a2,rfl,h2⟩:=RepC.str_inv hv
  have hb:l=m:=by simpa[cellEq]using he
  simp only[Instr.sameBits,bytes_same,h1,h2,hb,beq_self_eq_true]
theorem same_cells (n:Nat):∀(ss:List SK) (as bs:List AVal) (us vs:List Value),rowIs ss as=true→rowIs ss bs=true→us.length=as.length→vs.length=bs.length→(∀(j:Nat) (u:Value) (x:AVal),us[j]? =some u→as[j]? =some x→RepC I u x)→
  (∀(j:Nat) (u:Value) (x:AVal),vs[j]? =some u→bs[j]? =some x→RepC I u x)→cellsEq as bs=true→((vs.zip us).all fun(x,y)=>Instr.sameBits n x y)=true
 | [],[],[],[],[],_,_,_,_,_,_,_=>rfl
 |s::ss,x::as,y::bs,u::us,v::vs,h1,h2,h3,h4,h5,h6,h7=>by
  simp only[rowIs,Bool.and_eq_true]at h1 h2
  simp only[cellsEq,Bool.and_eq_true]at h7
  have ih:=same_cells n ss as bs us vs h1.2 h2.2 (by simpa using h3) (by simpa using h4) (fun j u x a b=>h5 (j+1) u x (by simpa using a) (by simpa using b)) (fun j u x a b=>h6 (j+1) u x (by simpa using a) (by simpa using b)) h7.2
  have hc:=same_cell h1.1 h2.1 (h5 0 u x rfl rfl) (h6 0 v y rfl rfl) h7.1 n
  simp only[List.zip_cons_cons,List.all_cons,hc,ih,Bool.and_self]
 | [],_::_,_,_,_,h1,_,_,_,_,_,_=>by simp[rowIs]at h1
 |_::_,[],_,_,_,h1,_,_,_,_,_,_=>by simp[rowIs]at h1
 | [],_,_::_,_,_,_,h2,_,_,_,_,_=>by simp[rowIs]at h2
 |_::_,_,[],_,_,_,h2,_,_,_,_,_=>by simp[rowIs]at h2
 |_,[],_,_::_,_,_,_,h3,_,_,_,_=>by simp at h3
 |_,_::_,_,[],_,_,_,h3,_,_,_,_=>by simp at h3
 |_,_,[],_,_::_,_,_,_,h4,_,_,_=>by simp at h4
 |_,_,_::_,_,[],_,_,_,h4,_,_,_=>by simp at h4
theorem rep_list {cs:Array Value} {as:List AVal} (hr:∀j,RepC I (cs.getD j undef) (as.getD j .top)) (j:Nat) (u:Value) (x:AVal) (h1:cs.toList[j]? =some u) (h2:as[j]? =some x):RepC I u x:=by
 have:=hr j
 rw[List.getD_eq_getElem?_getD,h2,Array.getD_eq_getD_getElem?]at this
 rw[Array.getElem?_toList]at h1
 rw[h1]at this
 exact this
theorem key_stays {kk:KeyK} {x y:AVal} {u v:Value} (hx:kk.is x=true) (hy:kk.is y=true) (hu:RepC I u x) (hv:RepC I v y) (he:keyEq x y=true) (W:World):(Instr.keyThatStays v u).run P W=.ok u W:=by
 have:Instr.sameBits 10000 v u=true:=by
  cases kk with
  |one s=>
   refine same_cell (s:=s) hx hy hu hv ?_ 10000
   rcases SK.cases hx with⟨_,b,rfl⟩|⟨q,i,_,rfl⟩|⟨_,l,rfl⟩<;>exact he
  |row ss=>
   obtain⟨as,rfl,h1⟩:=keyIs_row hx
   obtain⟨bs,rfl,h2⟩:=keyIs_row hy
   cases hu with
   |agg cs _ hl hr=>
    cases hv with
    |agg ds _ hl2 hr2=>
     have hz:=same_cells (I:=I) 9999 ss as bs cs.toList ds.toList h1 h2 (by simpa using hl) (by simpa using hl2) (rep_list hr) (rep_list hr2) he
     have hlen:ds.size=cs.size:=by
      have:∀(ss:List SK) (as:List AVal),rowIs ss as=true→as.length=ss.length:=by
       intro ss
       induction ss with
       |nil=>intro as h;cases as<;>simp_all [rowIs]
       |cons s ss ih=>intro as h;cases as with
        |nil=>simp[rowIs]at h
        |cons a as=>simp only[rowIs,Bool.and_eq_true]at h;simp[ih as h.2]
      have e1:=this ss as h1;have e2:=this ss bs h2;omega
     show(ds.size==cs.size&&_)=true
     rw[hlen,beq_self_eq_true,Bool.true_and]
     exact hz
 unfold Instr.keyThatStays
 rw[if_pos this]
 rfl
theorem mapOk_modify {ms:Array MapEntry} {c:Nat} (h:MapOk ms.toList c) (j:Nat) (f:MapEntry→MapEntry) (hf:∀e,(f e).born=e.born):MapOk (ms.modify j f).toList c:=by
 have hb:(ms.modify j f).toList.map MapEntry.born=ms.toList.map MapEntry.born:=by
  apply List.ext_getElem?
  intro i
  simp only[List.getElem?_map,Array.getElem?_toList,Array.getElem?_modify]
  by_cases e:j=i
  ·subst e;simp only[if_true]
   cases ms[j]? <;>simp[hf]
  ·simp[e]
 refine⟨by rw[hb];exact h.1,fun m hm=> ?_⟩
 have:m.born∈(ms.modify j f).toList.map MapEntry.born:=List.mem_map_of_mem hm
 rw[hb,List.mem_map]at this
 obtain⟨m',h1,h2⟩:=this
 rw[←h2];exact h.2 m' h1
theorem mapOk_push {ms:Array MapEntry} {c:Nat} (h:MapOk ms.toList c) (m:MapEntry) (hm:m.born=c):MapOk (ms.push m).toList (c+1):=by
 rw[Array.toList_push]
 refine⟨?_,fun x hx=> ?_⟩
 ·rw[List.map_append,List.pairwise_append]
  refine⟨h.1,by simp,fun x hx y hy=> ?_⟩
  obtain⟨m',h1,rfl⟩:=List.mem_map.1 hx
  simp only[List.map_cons,List.map_nil,List.mem_singleton]at hy
  rw[hy,hm];exact h.2 m' h1
 ·rcases List.mem_append.1 hx with hx|hx
  ·have:=h.2 x hx;omega
  ·simp only[List.mem_singleton]at hx;subst hx;omega
theorem sound_mset (st:St E I σ env bx a w) (hd:∀x,o.dst=some x→x<E.n) {x i v:Operand} {y u z:Opd} {t kt et:TypeId} {kk:KeyK} (ho:o.op=.mapUpdate t x i v∨o.op=.insert t x i v) (hx:ofOpd x=some y) (hi:ofOpd i=some u) (hv:ofOpd v=some z) (ht:P.underlying t=some (.map kt et))
  (hk:tKeyK P kt=some kk) (h:vcOp P (.mset kk y u z) o.dst k env σ):o.wp P a w (Up E k) Q:=by
 have hxv:=st.opd hx
 have hiv:=st.opd hi
 have hvv:=st.opd hv
 simp only[vcOp]at h
 generalize evalOpd env y=ey at hxv h
 generalize evalOpd env u=eu at hiv h
 generalize evalOpd env z=ez at hvv h
 split at h
 case h_2=>exact h.elim
 rename_i r key av
 obtain⟨es,hm,hok,h⟩:=h
 have he:a.eval x=.map (some r):=map_inv hxv
 obtain⟨_,_,_,ms,c,h1,h2,h3⟩:=st.models.mp r _ hm
 have hfind:=run_find hk hok hiv h3 w
 have fin:∀(ms':Array MapEntry) (c':Nat),MapOk ms'.toList c'→MapRep I ms'.toList (mput key av es)→(Instr.mapUpdate t (a.eval x) (a.eval i) (a.eval v)).run P w=.ok () {w with heap:=w.heap.setIfInBounds r (.map ms' c')}→o.wp P a w (Up E k) Q:=by
  intro ms' c' g1 g2 hrun
  obtain⟨m',ev⟩:=turn_map st.models hm ms' c' g1 g2
  refine wp_of_skip (w':= {w with heap:=w.heap.setIfInBounds r (.map ms' c')}) ?_ ⟨I,_,_,bx,st.step ev m' hd (v:=undef) (e:=.val .top) (RepC.top _),h⟩
  rcases ho with ho|ho<;>simp[execOp,ho,hrun]
 rcases found h3 (fun e=>keyEq key e.1)with⟨j,m,e,f1,f2,f3,f4,f5,f6,f7⟩|⟨f1,f2⟩
 ·rw[f1]at hfind
  simp only[Option.bind_some,f2,Option.map_some]at hfind
  have hst:=key_stays (P:=P) hok.1 (hok.2 e (List.mem_of_getElem? f3)) hiv f6 f4 w
  have hj:j<es.length:=(List.getElem?_eq_some_iff.1 f3).1
  have hmj:ms[j]? =some m:=by rw[←Array.getElem?_toList];exact f2
  refine fin (ms.modify j fun e=> {e with key:=a.eval i,val:=a.eval v}) c (mapOk_modify h2 _ _ fun _=>rfl) ?_ ?_
  ·have hput:mput key av es=es.set j (key,av):=by simp[mput,f1]
   rw[hput]
   refine⟨by simp;have:=h3.1;simpa using this,fun q m' e' a1 a2=> ?_⟩
   rw[Array.getElem?_toList,Array.getElem?_modify]at a1
   rw[List.getElem?_set]at a2
   by_cases e0:j=q
   ·subst e0
    rw[if_pos rfl,hmj]at a1
    rw[if_pos rfl,if_pos hj]at a2
    cases a1;cases a2
    exact⟨hiv,hvv⟩
   ·rw[if_neg e0]at a1 a2
    exact h3.2 q m' e' (by rw[Array.getElem?_toList];exact a1) a2
  ·simp[Instr.mapUpdate,he,run_underlying ht,getO h1,run_check hk hok.1 hiv,hfind,hmj,hst,setO h1]
 ·rw[f1]at hfind
  simp only[Option.bind_none]at hfind
  refine fin (ms.push {key:=a.eval i,val:=a.eval v,born:=c}) (c+1) (mapOk_push h2 _ rfl) ?_ ?_
  ·have hput:mput key av es=es++[(key,av)]:=by simp[mput,f1]
   rw[hput,Array.toList_push]
   refine⟨by have:=h3.1;simp at this⊢;omega,fun q m' e' a1 a2=> ?_⟩
   rw[List.getElem?_append]at a1 a2
   have hl:=h3.1
   by_cases e0:q<ms.toList.length
   ·rw[if_pos e0]at a1
    rw[if_pos (by omega)]at a2
    exact h3.2 q m' e' a1 a2
   ·rw[if_neg e0]at a1
    rw[if_neg (by omega)]at a2
    rw[hl]at a1
    generalize q-es.length=q' at a1 a2
    match q',a1,a2 with
    |0,a1,a2=>cases a1;cases a2;exact⟨hiv,hvv⟩
    |_+1,a1,_=>simp at a1
  ·simp[Instr.mapUpdate,he,run_underlying ht,getO h1,run_check hk hok.1 hiv,hfind,setO h1]
theorem erase_at {α:Type} (p:α→Bool):∀(l:List α) (j:Nat),l.findIdx? p=some j→l.eraseP p=l.eraseIdx j
 | [],_,h=>by simp at h
 |x::l,j,h=>by
  rw[findIdx_shift]at h
  cases hp:p x with
  |true=>rw[hp]at h;simp at h;subst h;simp[hp]
  |false=>
   rw[hp]at h
   simp only[Bool.false_eq_true,if_false,Option.map_eq_some_iff]at h
   obtain⟨i,hi,rfl⟩:=h
   simp[hp,erase_at p l i hi]
theorem mapRep_erase {ms:List MapEntry} {es:List (AVal × AVal)} (h:MapRep I ms es) (j:Nat):MapRep I (ms.eraseIdx j) (es.eraseIdx j):=by
 refine⟨by rw[List.length_eraseIdx,List.length_eraseIdx,h.1],fun q m e h1 h2=> ?_⟩
 rw[List.getElem?_eraseIdx]at h1 h2
 split at h1
 ·rw[if_pos ‹_›]at h2;exact h.2 q m e h1 h2
 ·rw[if_neg ‹_›]at h2;exact h.2 (q+1) m e h1 h2
theorem mapOk_erase {ms:List MapEntry} {c:Nat} (h:MapOk ms c) (j:Nat):MapOk (ms.eraseIdx j) c:=
 ⟨h.1.sublist ((List.eraseIdx_sublist ms j).map _),fun m hm=>h.2 m ((List.eraseIdx_sublist ms j).subset hm)⟩
theorem sound_mdel (st:St E I σ env bx a w) (hd:∀x,o.dst=some x→x<E.n) {x i:Operand} {y u:Opd} {t t2 kt et:TypeId} {kk:KeyK} (ho:o.op=.call {callee:=.builtin .delete,args:=⟨[x,i]⟩,argTypes:=⟨[t,t2]⟩}) (hx:ofOpd x=some y) (hi:ofOpd i=some u) (ht:P.underlying t=some (.map kt et))
  (hk:tKeyK P kt=some kk) (h:vcOp P (.mdel kk y u) o.dst k env σ):o.wp P a w (Up E k) Q:=by
 have hxv:=st.opd hx
 have hiv:=st.opd hi
 simp only[vcOp]at h
 generalize evalOpd env y=ey at hxv h
 generalize evalOpd env u=eu at hiv h
 split at h
 case h_2=>exact h.elim
 rename_i r key
 obtain⟨es,hm,hok,h⟩:=h
 have he:a.eval x=.map (some r):=map_inv hxv
 obtain⟨_,_,_,ms,c,h1,h2,h3⟩:=st.models.mp r _ hm
 have hfind:=run_find hk hok hiv h3 w
 have fin:∀(ms':Array MapEntry),MapOk ms'.toList c→MapRep I ms'.toList (Go.AL.mdel key es)→(Builtin.delete_ #[t,t2] o.type #[a.eval x,a.eval i]).run P w=.ok (.tuple #[]) {w with heap:=w.heap.setIfInBounds r (.map ms' c)}→o.wp P a w (Up E k) Q:=by
  intro ms' g1 g2 hrun
  obtain⟨m',ev⟩:=turn_map st.models hm ms' c g1 g2
  refine wp_step st hd (v:=.tuple #[]) ?_ m' ev (e:=.val (.tuple [])) (RepC.tuple _ _ rfl fun j=> ?_) h
  ·simp[execOp,ho,resolve,invoke,builtin,hrun]
  ·cases j<;>exact RepC.top _
 rcases found h3 (fun e=>keyEq key e.1)with⟨j,m,e,f1,f2,f3,f4,f5,f6,f7⟩|⟨f1,f2⟩
 ·rw[f1]at hfind
  simp only[Option.bind_some,f2,Option.map_some]at hfind
  have hj:j<ms.size:=by have:=(List.getElem?_eq_some_iff.1 f2).1;simpa using this
  have hel:(ms.eraseIdxIfInBounds j).toList=ms.toList.eraseIdx j:=by
   unfold Array.eraseIdxIfInBounds;rw[dif_pos hj];simp
  refine fin (ms.eraseIdxIfInBounds j) (by rw[hel];exact mapOk_erase h2 j) ?_ ?_
  ·rw[hel]
   have:Go.AL.mdel key es=es.eraseIdx j:=erase_at _ _ _ f1
   rw[this];exact mapRep_erase h3 j
  ·simp[Builtin.delete_,he,run_underlying ht,getO h1,run_check hk hok.1 hiv,hfind,setO h1]
 ·rw[f1]at hfind
  simp only[Option.bind_none]at hfind
  have hdel:Go.AL.mdel key es=es:=by
   unfold Go.AL.mdel
   rw[List.eraseP_of_forall_not]
   intro e he
   rw[List.find?_eq_none]at f2
   exact f2 e he
  refine fin ms h2 (by rw[hdel];exact h3) ?_
  simp[Builtin.delete_,he,run_underlying ht,getO h1,run_check hk hok.1 hiv,hfind,setO h1]
theorem sound_clearM (st:St E I σ env bx a w) (hd:∀x,o.dst=some x→x<E.n) {x:Operand} {y:Opd} {t kt et:TypeId} (ho:o.op=.call {callee:=.builtin .clear,args:=⟨[x]⟩,argTypes:=⟨[t]⟩}) (hx:ofOpd x=some y) (ht:P.underlying t=some (.map kt et))
  (h:vcOp P (.clearM y) o.dst k env σ):o.wp P a w (Up E k) Q:=by
 have hxv:=st.opd hx
 have hred:∀w',(Builtin.clear_ #[t] o.type #[a.eval x]).run P w=.ok (.tuple #[]) w'→(execOp a.eval o).run P w=.ok (.value (.tuple #[])) w':=by
  intro w' hr
  simp[execOp,ho,resolve,invoke,builtin,hr]
 have hrep:∀J,EntVal J bx (.tuple #[]) (.val (.tuple [])):=fun J=>RepC.tuple _ _ rfl fun j=>by cases j<;>exact RepC.top _
 simp only[vcOp]at h
 generalize evalOpd env y=ey at hxv h
 split at h
 case h_3=>exact h.elim
 ·have he:a.eval x=.map none:=map_inv hxv
  refine wp_step st hd (hred _ ?_) st.models (.refl _ _ _) (hrep _) h
  simp[Builtin.clear_,he,run_underlying ht]
 ·rename_i r
  obtain⟨es,hm,h⟩:=h
  have he:a.eval x=.map (some r):=map_inv hxv
  obtain⟨_,_,_,ms,c,h1,h2,h3⟩:=st.models.mp r _ hm
  obtain⟨m',ev⟩:=turn_map st.models hm (es':=[]) #[] c (mapOk_nil c) (mapRep_nil I)
  refine wp_step st hd (hred _ ?_) m' ev (hrep _) h
  simp[Builtin.clear_,he,run_underlying ht,getO h1,setO h1]
theorem sound_entry (st:St E I σ env bx a w) (hd:∀x,o.dst=some x→x<E.n) {x:Operand} {y:Opd} (ho:o.op=.entry x) (hx:ofOpd x=some y) (h:vcOp P (.entry y) o.dst k env σ):o.wp P a w (Up E k) Q:=by
 have hv:=st.opd hx
 simp only[vcOp]at h
 generalize evalOpd env y=ey at hv h
 split at h
 case h_2=>exact h.elim
 rename_i b
 obtain⟨r,es,left,e,hm,h⟩:=h
 have he:=RepC.ptr_inv hv
 obtain⟨_,_,_,ms,c,s,h1,h2,h3,h4,h5,h6,_⟩:=st.models.mp b _ hm
 obtain⟨stamp,q,g1,g2,g3,g4⟩:=h6 e rfl
 refine wp_step st hd (v:=.tuple #[q.key,q.val]) ?_ st.models (.refl _ _ _) (e:=.val (.tuple [e.1,e.2])) (RepC.tuple _ _ rfl fun j=> ?_) h
 ·simp[execOp,ho,he,Instr.entry,getO h1,getO h2,g1,g2]
 ·match j with
  |0=>exact g3
  |1=>exact g4
  |_+2=>exact RepC.top _
theorem sound_range (st:St E I σ env bx a w) (hd:∀x,o.dst=some x→x<E.n) {x:Operand} {y:Opd} {t kt et:TypeId} (ho:o.op=.range t x) (hx:ofOpd x=some y) (ht:P.underlying t=some (.map kt et)) (h:vcOp P (.range y) o.dst k env σ):o.wp P a w (Up E k) Q:=by
 have hv:=st.opd hx
 have hf:=st.models.fresh_of_ge (Nat.le_refl w.heap.size)
 simp only[vcOp]at h
 generalize evalOpd env y=ey at hv h
 split at h
 ·have he:a.eval x=.map none:=map_inv hv
  have hh:∀x,¬(x=w.heap.size)→x<w.heap.size→(w.alloc (.mapIter none 0 #[] 0)).heap[x]? =w.heap[x]? :=fun x _ hlt=>heap_new_old w _ hlt
  refine wp_step st hd (v:=.pointer (some ⟨w.heap.size,0,none⟩)) (w':=w.alloc (.mapIter none 0 #[] 0)) (by simp[execOp,ho,he,Instr.range,run_underlying ht]) (I':=I) (σ':=σ.setMap w.heap.size (.iter none [] [] none))
   (models_mp st.models (fun x=>x=w.heap.size) hh (by simp) (fun x hx hlt=>by omega) rfl rfl fun x mo hx=> ?_)
   (evo_mp (fun x=>x=w.heap.size) hh (by simp) (fun x hx hlt=>by omega) rfl rfl (fun x hx hlt=> ?_) rfl rfl rfl) (e:=.val (.ptr w.heap.size 0)) (RepC.ptr _ _) (h _ hf)
  ·by_cases e:x=w.heap.size
   ·subst e
    simp only[Store.setMap,beq_self_eq_true,cond_true,Option.some.injEq]at hx
    subst hx
    have hn:(w.alloc (.mapIter none 0 #[] 0)).heap[w.heap.size]? =some (.mapIter none 0 #[] 0):=by rw[heap_new,if_pos rfl]
    exact⟨fun cs T fz hc=>(by rw[hn]at hc;cases hc),⟨rfl,_,_,_,hn⟩,.inr (Nat.le_refl _)⟩
   ·have hb:(x==w.heap.size)=false:=by simpa using e
    simp only[Store.setMap,hb,cond_false]at hx
    obtain⟨_,_,g3,g4⟩:=st.models.mp x mo hx
    have hlt:=g4.lt
    refine⟨fun cs T fz hc=>g3 cs T fz ((heap_new_old w _ hlt).symm.trans hc),g4.upd (heap_new_old w _ hlt) (by simp) (fun r es left cur hmo=> ?_),.inl ⟨mo,hx⟩⟩
    subst hmo
    obtain⟨ms,c,s,_,h2,_,_,_,_,h7,h8⟩:=g4
    have hr:=lt_of_heap h2
    have hrb:(r==w.heap.size)=false:=by simp;omega
    refine⟨heap_new_old w _ hr,fun es'=>by simp only[Store.setMap,hrb,cond_false];exact h7 es',fun b' es' l' c' hb'=> ?_⟩
    by_cases e2:b'=w.heap.size
    ·subst e2;simp[Store.setMap]at hb'
    ·have hb2:(b'==w.heap.size)=false:=by simpa using e2
     simp only[Store.setMap,hb2,cond_false]at hb'
     exact h8 b' es' l' c' hb'
  ·have hb:(x==w.heap.size)=false:=by simpa using hx
   simp only[Store.setMap,hb,cond_false]
 ·rename_i r
  obtain⟨es,hm,h⟩:=h
  have he:a.eval x=.map (some r):=map_inv hv
  obtain⟨_,_,_,ms,c,h1,h2,h3⟩:=st.models.mp r _ hm
  have hrlt:=lt_of_heap h1
  have hrn:r≠w.heap.size:=by omega
  have hrb:(r==w.heap.size)=false:=by simpa using hrn
  have hh:∀x,¬(x=w.heap.size∨x=r)→x<w.heap.size→(w.alloc (.mapIter (some r) c #[] c)).heap[x]? =w.heap[x]? :=fun x _ hlt=>heap_new_old w _ hlt
  have hc:∀x,(x=w.heap.size∨x=r)→x<w.heap.size→∃mo,σ.mp x=some mo:=fun x hx hlt=>by
   rcases hx with hx|hx
   ·omega
   ·subst hx;exact⟨_,hm⟩
  have hmpx:∀x,x≠w.heap.size→x≠r→((σ.setMap r .lent).setMap w.heap.size (.iter (some r) es es none)).mp x=σ.mp x:=fun x e1 e2=>by
   have b1:(x==w.heap.size)=false:=by simpa using e1
   have b2:(x==r)=false:=by simpa using e2
   simp only[Store.setMap,b1,b2,cond_false]
  have hmpr:((σ.setMap r .lent).setMap w.heap.size (.iter (some r) es es none)).mp r=some .lent:=by simp only[Store.setMap,hrb,cond_false,beq_self_eq_true,cond_true]
  have hmpb:((σ.setMap r .lent).setMap w.heap.size (.iter (some r) es es none)).mp w.heap.size=some (.iter (some r) es es none):=by simp only[Store.setMap,beq_self_eq_true,cond_true]
  have hnb:(w.alloc (.mapIter (some r) c #[] c)).heap[w.heap.size]? =some (.mapIter (some r) c #[] c):=by rw[heap_new,if_pos rfl]
  have hnr:(w.alloc (.mapIter (some r) c #[] c)).heap[r]? =some (.map ms c):=(heap_new_old w _ hrlt).trans h1
  generalize hσ:(σ.setMap r .lent).setMap w.heap.size (.iter (some r) es es none)=σ' at hmpx hmpr hmpb
  have ho1:σ'.obj=σ.obj:=by rw[←hσ];rfl
  have ho2:σ'.opn=σ.opn:=by rw[←hσ];rfl
  have hun:∀b' es' l' c',σ'.mp b'=some (.iter (some r) es' l' c')→b'=w.heap.size:=fun b' es' l' c' hb'=>by
   by_cases e1:b'=w.heap.size
   ·exact e1
   ·by_cases e2:b'=r
    ·subst e2;rw[hmpr]at hb';cases hb'
    ·rw[hmpx b' e1 e2]at hb'
     obtain⟨_,_,_,_,_,_,_,_,_,_,_,_,h7,_⟩:=st.models.mp b' _ hb'
     exact absurd hm (h7 es)
  refine wp_step st hd (v:=.pointer (some ⟨w.heap.size,0,none⟩)) (w':=w.alloc (.mapIter (some r) c #[] c)) (by simp[execOp,ho,he,Instr.range,run_underlying ht,getO h1]) (I':=I) (σ':=σ')
   (models_mp st.models (fun x=>x=w.heap.size∨x=r) hh (by simp) hc ho1 ho2 fun x mo hx=> ?_)
   (evo_mp (fun x=>x=w.heap.size∨x=r) hh (by simp) hc ho1 ho2 (fun x hx hlt=>hmpx x (fun e=>hx (.inl e)) (fun e=>hx (.inr e))) rfl rfl rfl) (e:=.val (.ptr w.heap.size 0)) (RepC.ptr _ _) (by rw[←hσ];exact h _ hf)
  by_cases e1:x=w.heap.size
  ·subst e1
   rw[hmpb]at hx
   simp only[Option.some.injEq]at hx
   subst hx
   refine⟨fun cs T fz hc=>(by rw[hnb]at hc;cases hc),⟨ms,c,#[],hnb,hnr,h2,h3,?_,(fun e he=>by cases he),(fun es'=>by rw[hmpr];simp),hun⟩,.inr (Nat.le_refl _)⟩
   have:(ms.toList.filter fun e=> !(#[]:Array Nat).contains e.born)=ms.toList:=by simp
   rw[this];exact h3
  ·by_cases e2:x=r
   ·subst e2
    rw[hmpr]at hx
    simp only[Option.some.injEq]at hx
    subst hx
    exact⟨fun cs T fz hc=>(by rw[hnr]at hc;cases hc),lt_of_heap hnr,.inl ⟨_,hm⟩⟩
   ·rw[hmpx x e1 e2]at hx
    obtain⟨_,_,g3,g4⟩:=st.models.mp x mo hx
    have hlt:=g4.lt
    refine⟨fun cs T fz hc=>g3 cs T fz ((heap_new_old w _ hlt).symm.trans hc),g4.upd (heap_new_old w _ hlt) (by simp) (fun r' es1 left cur hmo=> ?_),.inl ⟨mo,hx⟩⟩
    subst hmo
    obtain⟨ms1,c1,s1,_,q2,_,_,_,_,h7,h8⟩:=g4
    have hr':=lt_of_heap q2
    have hne:r'≠r:=by rintro rfl;exact h7 es hm
    refine⟨heap_new_old w _ hr',fun es2=>by rw[hmpx r' (by omega) hne];exact h7 es2,fun b' es2 l' c2 hb'=> ?_⟩
    by_cases e3:b'=w.heap.size
    ·subst e3;rw[hmpb]at hb';cases hb';exact absurd rfl hne
    ·by_cases e4:b'=r
     ·subst e4;rw[hmpr]at hb';cases hb'
     ·rw[hmpx b' e3 e4]at hb';exact h8 b' es2 l' c2 hb'
 ·exact h.elim
theorem filter_born:∀(l:List MapEntry) (j:Nat) (e:MapEntry),(l.map MapEntry.born).Pairwise (· < ·)→l[j]? =some e→(l.filter fun x=> !(x.born==e.born))=l.eraseIdx j
 | [],j,e,_,h=>by simp at h
 |x::l,0,e,hp,h=>by
  simp only[List.getElem?_cons_zero,Option.some.injEq]at h
  subst h
  have hp':=List.pairwise_cons.1 hp
  rw[List.filter_cons_of_neg (by simp),List.eraseIdx_cons_zero]
  rw[List.filter_eq_self]
  intro y hy
  have:=hp'.1 y.born (List.mem_map_of_mem hy)
  simp;omega
 |x::l,j+1,e,hp,h=>by
  have hp':=List.pairwise_cons.1 hp
  have h':l[j]? =some e:=by simpa using h
  have hlt:=hp'.1 e.born (List.mem_map_of_mem (List.mem_of_getElem? h'))
  rw[List.filter_cons_of_pos (by simp;omega),List.eraseIdx_cons_succ,filter_born l j e hp'.2 h']
theorem filter_push {ms:List MapEntry} {c:Nat} (h:MapOk ms c) (seen:Array Nat) {j:Nat} {e:MapEntry} (hj:(ms.filter fun x=> !seen.contains x.born)[j]? =some e):
  (ms.filter fun x=> !(seen.push e.born).contains x.born)=(ms.filter fun x=> !seen.contains x.born).eraseIdx j:=by
 rw[←filter_born _ j e (h.1.sublist (List.filter_sublist.map _)) hj,List.filter_filter]
 congr 1
 funext x
 simp only[Array.contains_push,Bool.not_or,Bool.and_comm]
theorem sound_next (st:St E I σ env bx a w) (hd:∀x,o.dst=some x→x<E.n) {x:Operand} {y:Opd} (ho:o.op=.next x false) (hx:ofOpd x=some y) (h:vcOp P (.next y) o.dst k env σ):o.wp P a w (Up E k) Q:=by
 have hv:=st.opd hx
 simp only[vcOp]at h
 generalize evalOpd env y=ey at hv h
 split at h
 case h_2=>exact h.elim
 rename_i b
 obtain⟨mr,es,left,cur,hm,hlent,hover,hstep⟩:=h
 have he:=RepC.ptr_inv hv
 have hmm:=st.models.mp b _ hm
 have hblt:=hmm.2.2.2.lt
 cases mr with
 |none=>
  obtain⟨_,_,g3,hleft,s,n,l,h1⟩:=hmm
  have h:=hover hleft
  have hh:∀x,¬(x=b)→x<w.heap.size→w.heap[x]? =w.heap[x]? :=fun _ _ _=>rfl
  refine wp_step st hd (v:=.tuple #[.bool false]) (w':=w) (by simp[execOp,ho,he,Instr.next,getO h1]) (I':=I) (σ':=σ.setMap b .lent)
   (models_mp st.models (fun x=>x=b) hh (Nat.le_refl _) (fun x hx _=>by subst hx;exact⟨_,hm⟩) rfl rfl fun x mo hx=> ?_)
   (evo_mp (fun x=>x=b) hh (Nat.le_refl _) (fun x hx _=>by subst hx;exact⟨_,hm⟩) rfl rfl (fun x hx hlt=> ?_) rfl rfl rfl) (e:=.val (.tuple [.bool false])) (RepC.tuple _ _ rfl fun j=> ?_) h
  ·by_cases e:x=b
   ·subst e
    simp only[Store.setMap,beq_self_eq_true,cond_true,Option.some.injEq]at hx
    subst hx
    exact⟨g3,hblt,.inl ⟨_,hm⟩⟩
   ·have hb:(x==b)=false:=by simpa using e
    simp only[Store.setMap,hb,cond_false]at hx
    obtain⟨_,_,q3,q4⟩:=st.models.mp x mo hx
    refine⟨q3,q4.upd rfl (Nat.le_refl _) (fun r es left cur hmo=> ?_),.inl ⟨mo,hx⟩⟩
    subst hmo
    obtain⟨ms,c,s,_,h2,_,_,_,_,h7,h8⟩:=q4
    refine⟨rfl,fun es' hc=> ?_,fun b' es' l' c' hb'=> ?_⟩
    ·by_cases e3:r=b
     ·subst e3;simp[Store.setMap]at hc
     ·have hb3:(r==b)=false:=by simpa using e3
      simp only[Store.setMap,hb3,cond_false]at hc;exact h7 es' hc
    ·by_cases e2:b'=b
     ·subst e2;simp[Store.setMap]at hb'
     ·have hb2:(b'==b)=false:=by simpa using e2
      simp only[Store.setMap,hb2,cond_false]at hb'
      exact h8 b' es' l' c' hb'
  ·have hb:(x==b)=false:=by simpa using hx
   simp only[Store.setMap,hb,cond_false]
  ·match j with
   |0=>exact RepC.bool _
   |_+1=>exact RepC.top _
 |some r=>
  obtain⟨_,_,g3,ms,c,s,h1,h2,h3,h4,h5,h6,h7,h8⟩:=hmm
  have hbr:b≠r:=by rintro rfl;rw[h1]at h2;cases h2
  have hbrb:(b==r)=false:=by simpa using hbr
  have hrbb:(r==b)=false:=by simpa using hbr.symm
  rcases run_next_at (P:=P) w o.type b r c c s ms c h1 h2 h3.2 (Nat.le_refl _)with⟨z0,hrun⟩|⟨e,hmem,w1,hw1,hrun⟩
  ·have hl0:left=[]:=by
    have:=h5.1
    have e0:(ms.toList.filter fun e=> !s.contains e.born).length=0:=by
     rw[leftOf,←Array.length_toList,Array.toList_filter]at z0;exact z0
    rw[e0]at this
    exact List.length_eq_zero_iff.1 this.symm
   have h:=hover hl0
   have hmr:=hlent r rfl
   have hmpx:∀x,x≠b→x≠r→((σ.setMap b .lent).setMap r (.map es)).mp x=σ.mp x:=fun x e1 e2=>by
    have b1:(x==b)=false:=by simpa using e1
    have b2:(x==r)=false:=by simpa using e2
    simp only[Store.setMap,b1,b2,cond_false]
   have hmpr:((σ.setMap b .lent).setMap r (.map es)).mp r=some (.map es):=by simp only[Store.setMap,beq_self_eq_true,cond_true]
   have hmpb:((σ.setMap b .lent).setMap r (.map es)).mp b=some .lent:=by simp only[Store.setMap,hbrb,cond_false,beq_self_eq_true,cond_true]
   have hc:∀x,(x=b∨x=r)→x<w.heap.size→∃mo,σ.mp x=some mo:=fun x hx _=>by
    rcases hx with hx|hx
    ·subst hx;exact⟨_,hm⟩
    ·subst hx;exact⟨_,hmr⟩
   have hh:∀x,¬(x=b∨x=r)→x<w.heap.size→w.heap[x]? =w.heap[x]? :=fun _ _ _=>rfl
   generalize hσ:(σ.setMap b .lent).setMap r (.map es)=σ' at hmpx hmpr hmpb
   have ho1:σ'.obj=σ.obj:=by rw[←hσ];rfl
   have ho2:σ'.opn=σ.opn:=by rw[←hσ];rfl
   refine wp_step st hd (v:=.tuple #[.bool false]) (w':=w) (by simp[execOp,ho,he,hrun]) (I':=I) (σ':=σ')
    (models_mp st.models (fun x=>x=b∨x=r) hh (Nat.le_refl _) hc ho1 ho2 fun x mo hx=> ?_)
    (evo_mp (fun x=>x=b∨x=r) hh (Nat.le_refl _) hc ho1 ho2 (fun x hx hlt=>hmpx x (fun e=>hx (.inl e)) (fun e=>hx (.inr e))) rfl rfl rfl) (e:=.val (.tuple [.bool false])) (RepC.tuple _ _ rfl fun j=> ?_) (by rw[←hσ];exact h)
   ·by_cases e1:x=b
    ·subst e1
     rw[hmpb]at hx
     simp only[Option.some.injEq]at hx
     subst hx
     exact⟨g3,hblt,.inl ⟨_,hm⟩⟩
    ·by_cases e2:x=r
     ·subst e2
      rw[hmpr]at hx
      simp only[Option.some.injEq]at hx
      subst hx
      exact⟨fun cs T fz hc=>(by rw[h2]at hc;cases hc),⟨ms,c,h2,h3,h4⟩,.inl ⟨_,hmr⟩⟩
     ·rw[hmpx x e1 e2]at hx
      obtain⟨_,_,q3,q4⟩:=st.models.mp x mo hx
      refine⟨q3,q4.upd rfl (Nat.le_refl _) (fun r' es1 left1 cur1 hmo=> ?_),.inl ⟨mo,hx⟩⟩
      subst hmo
      obtain⟨ms1,c1,s1,_,q2,_,_,_,_,p7,p8⟩:=q4
      have hne:r'≠r:=by rintro rfl;exact e1 (h8 x es1 left1 cur1 hx)
      have hnb:r'≠b:=by rintro rfl;rw[h1]at q2;cases q2
      refine⟨rfl,fun es2=>by rw[hmpx r' hnb hne];exact p7 es2,fun b' es2 l' c2 hb'=> ?_⟩
      by_cases e3:b'=b
      ·subst e3;rw[hmpb]at hb';cases hb'
      ·by_cases e4:b'=r
       ·subst e4;rw[hmpr]at hb';cases hb'
       ·rw[hmpx b' e3 e4]at hb';exact p8 b' es2 l' c2 hb'
   ·match j with
    |0=>exact RepC.bool _
    |_+1=>exact RepC.top _
  ·have hmem':e∈ms.toList.filter fun x=> !s.contains x.born:=by rw[leftOf,Array.toList_filter]at hmem;exact hmem
   obtain⟨j,hj⟩:=List.getElem?_of_mem hmem'
   have hjl:j<left.length:=by rw[←h5.1];exact(List.getElem?_eq_some_iff.1 hj).1
   have hlj:left[j]? =some left[j]:=List.getElem?_eq_getElem hjl
   obtain⟨r1,r2⟩:=h5.2 j e left[j] hj hlj
   have h:=hstep j left[j] hlj
   have hmpx:∀x,x≠b→(σ.setMap b (.iter (some r) es (left.eraseIdx j) (some left[j]))).mp x=σ.mp x:=fun x e1=>by
    have b1:(x==b)=false:=by simpa using e1
    simp only[Store.setMap,b1,cond_false]
   have hmpb:(σ.setMap b (.iter (some r) es (left.eraseIdx j) (some left[j]))).mp b=some (.iter (some r) es (left.eraseIdx j) (some left[j])):=by simp only[Store.setMap,beq_self_eq_true,cond_true]
   generalize hσ:σ.setMap b (.iter (some r) es (left.eraseIdx j) (some left[j]))=σ' at hmpx hmpb h
   have ho1:σ'.obj=σ.obj:=by rw[←hσ];rfl
   have ho2:σ'.opn=σ.opn:=by rw[←hσ];rfl
   have hw:w1.heap=w.heap∧w1.os=w.os∧w1.tape=w.tape∧w1.output=w.output:=by rcases hw1 with rfl|rfl<;>exact⟨rfl,rfl,rfl,rfl⟩
   have h1':w1.heap[b]? =some (.mapIter (some r) c s c):=by rw[hw.1];exact h1
   have hat:∀x,(Go.ChangeMaps.setBlock w1 b (.mapIter (some r) c (s.push e.born) c)).heap[x]? =if x=b then some (.mapIter (some r) c (s.push e.born) c)else w.heap[x]? :=fun x=>by
    have:=heap_at h1' (.mapIter (some r) c (s.push e.born) c) x
    rw[hw.1]at this
    simpa[Go.ChangeMaps.setBlock,hw.1]using this
   have hsz:(Go.ChangeMaps.setBlock w1 b (.mapIter (some r) c (s.push e.born) c)).heap.size=w.heap.size:=by simp[Go.ChangeMaps.setBlock,hw.1]
   have hh:∀x,¬(x=b)→x<w.heap.size→(Go.ChangeMaps.setBlock w1 b (.mapIter (some r) c (s.push e.born) c)).heap[x]? =w.heap[x]? :=fun x hx _=>by rw[hat,if_neg hx]
   refine wp_step st hd (v:=.tuple #[.bool true,e.key,e.val]) (w':=Go.ChangeMaps.setBlock w1 b (.mapIter (some r) c (s.push e.born) c)) (by simp[execOp,ho,he,hrun]) (I':=I) (σ':=σ')
    (models_mp st.models (fun x=>x=b) hh (by omega) (fun x hx _=>by subst hx;exact⟨_,hm⟩) ho1 ho2 fun x mo hx=> ?_)
    (evo_mp (fun x=>x=b) hh (by omega) (fun x hx _=>by subst hx;exact⟨_,hm⟩) ho1 ho2 (fun x hx hlt=>hmpx x hx) (by simp[Go.ChangeMaps.setBlock,hw.2.1]) (by simp[Go.ChangeMaps.setBlock,hw.2.2.1]) (by simp[Go.ChangeMaps.setBlock,hw.2.2.2]))
    (e:=.val (.tuple [.bool true,left[j].1,left[j].2])) (RepC.tuple _ _ rfl fun i=> ?_) h
   ·by_cases e1:x=b
    ·subst e1
     rw[hmpb]at hx
     simp only[Option.some.injEq]at hx
     subst hx
     have hn:=hat x
     rw[if_pos rfl]at hn
     have hnr:=hat r
     rw[if_neg hbr.symm]at hnr
     refine⟨fun cs T fz hc=>(by rw[hn]at hc;cases hc),⟨ms,c,s.push e.born,hn,hnr.trans h2,h3,h4,?_,fun e' he'=> ?_,fun es'=>by rw[hmpx r hbr.symm];exact h7 es',fun b' es' l' c' hb'=> ?_⟩,.inl ⟨_,hm⟩⟩
     ·rw[filter_push h3 s hj];exact mapRep_erase h5 j
     ·cases he'
      refine⟨e.born,e,by simp,?_,r1,r2⟩
      have hnd:(ms.toList.map (·.born)).Nodup:=h3.1.imp fun h=>Nat.ne_of_lt h
      rw[←Array.find?_toList]
      exact find_born e ms.toList hnd (List.mem_filter.1 hmem').1
     ·by_cases e3:b'=x
      ·exact e3
      ·rw[hmpx b' e3]at hb';exact h8 b' es' l' c' hb'
    ·rw[hmpx x e1]at hx
     obtain⟨_,_,q3,q4⟩:=st.models.mp x mo hx
     have hlt:=q4.lt
     refine⟨fun cs T fz hc=>q3 cs T fz ((hh x e1 hlt).symm.trans hc),q4.upd (hh x e1 hlt) (by omega) (fun r' es1 left1 cur1 hmo=> ?_),.inl ⟨mo,hx⟩⟩
     subst hmo
     obtain⟨ms1,c1,s1,_,q2,_,_,_,_,p7,p8⟩:=q4
     have hne:r'≠r:=by rintro rfl;exact e1 (h8 x es1 left1 cur1 hx)
     have hnb:r'≠b:=by rintro rfl;rw[h1]at q2;cases q2
     refine⟨hh r' hnb (lt_of_heap q2),fun es2=>by rw[hmpx r' hnb];exact p7 es2,fun b' es2 l' c2 hb'=> ?_⟩
     by_cases e3:b'=b
     ·subst e3;rw[hmpb]at hb';cases hb';exact absurd rfl hne
     ·rw[hmpx b' e3]at hb';exact p8 b' es2 l' c2 hb'
   ·match i with
    |0=>exact RepC.bool _
    |1=>exact r1
    |2=>exact r2
    |_+3=>exact RepC.top _
end
end Go.AL
