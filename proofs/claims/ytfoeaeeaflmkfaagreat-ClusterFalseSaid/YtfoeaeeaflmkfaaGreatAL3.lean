/-
  AN ABSTRACT LOGIC OVER THE MODEL, part 3: operations that hang on the slots alone, one by one.
-/
import Derived.Test.YtfoeaeeaflmkfaaGreatAL13
namespace Go.AL
open Go.RowKit
section
variable {P:Program} {E:Entry} {I:Sealed} {σ:Store} {env:Env} {bx:Nat→Nat} {a:Act} {w:World} {o:Oper}
def Gives (P:Program) (I:Sealed) (bx:Nat→Nat) (a:Act) (o:Oper) (e:Ent):Prop:=∃v,(∀W,(execOp a.eval o).run P W=.ok (.value v) W)∧EntVal I bx v e
theorem gives_move (st:St E I σ env bx a w) {x:Operand} {y:Opd} (ho:o.op=.move x∨o.op=.assign x) (hx:ofOpd x=some y):Gives P I bx a o (evalOpd env y):=by
 refine⟨a.eval x,fun W=> ?_,st.opd hx⟩
 rcases ho with ho|ho<;>simp[execOp,ho]
theorem gives_nilCheck (st:St E I σ env bx a w) {x:Operand} {y:Opd} (ho:o.op=.nilCheck x) (hx:ofOpd x=some y) {e:Ent} (hp:pureV env (.nilCheck y)=some e):Gives P I bx a o e:=by
 have hv:=st.opd hx
 have hrun:∀ad,a.eval x=.pointer (some ad)→∀W,(execOp a.eval o).run P W=.ok (.value (a.eval x)) W:=fun ad had W=>by simp[execOp,ho,had]
 simp only[pureV]at hp
 generalize evalOpd env y=ev at hp hv
 cases ev with
 |box c=>exact hv.elim
 |lptr s off=>
  simp only[Option.some.injEq]at hp
  subst hp
  exact⟨a.eval x,hrun _ hv,hv⟩
 |val t=>
  have:∃ad,a.eval x=.pointer (some ad)∧e=.val t:=by
   simp only[EntVal]at hv
   generalize a.eval x=z at hv
   cases hv<;>simp only[Option.some.injEq,reduceCtorEq]at hp<;>subst hp<;>exact⟨_,rfl,rfl⟩
  obtain⟨ad,had,rfl⟩:=this
  exact⟨a.eval x,hrun ad had,hv⟩
theorem gives_not (st:St E I σ env bx a w) {x:Operand} {y:Opd} {t:TypeId} (ho:o.op=.unOp .not t x) (hx:ofOpd x=some y) {e:Ent} (hp:pureV env (.not y)=some e):Gives P I bx a o e:=by
 have hv:=st.opd hx
 simp only[pureV]at hp
 generalize evalOpd env y=ev at hp hv
 cases ev with
 |box c=>exact hv.elim
 |lptr s off=>simp at hp
 |val t=>
  cases t<;>simp only[Option.some.injEq,reduceCtorEq]at hp
  subst hp
  have he:=RepC.bool_inv hv
  exact⟨_,fun W=>by simp[execOp,ho,he,Op.unary],RepC.bool _⟩
theorem gives_neg (st:St E I σ env bx a w) {x:Operand} {y:Opd} {t:TypeId} (ho:o.op=.unOp .neg t x) (hx:ofOpd x=some y) {e:Ent} (hp:pureV env (.neg y)=some e):Gives P I bx a o e:=by
 have hv:=st.opd hx
 simp only[pureV]at hp
 generalize evalOpd env y=ev at hp hv
 cases ev with
 |box c=>exact hv.elim
 |lptr s off=>simp at hp
 |val t=>
  cases t<;>simp only[Option.some.injEq,reduceCtorEq]at hp
  subst hp
  have he:=RepC.int_inv hv
  exact⟨_,fun W=>by simp[execOp,ho,he,Op.unary,Op.intArith],RepC.int _ _⟩
theorem gives_convInt (st:St E I σ env bx a w) {x:Operand} {y:Opd} {s d:TypeId} {k k':IntKind} (ho:o.op=.convert s d x) (hx:ofOpd x=some y) (hd:P.underlying d=some (.int k)) (hs:P.underlying s=some (.int k'))
  {e:Ent} (hp:pureV env (.convInt k y)=some e):Gives P I bx a o e:=by
 have hv:=st.opd hx
 simp only[pureV]at hp
 generalize evalOpd env y=ev at hp hv
 cases ev with
 |box c=>exact hv.elim
 |lptr s off=>simp at hp
 |val t=>
  cases t<;>simp only[Option.some.injEq,reduceCtorEq]at hp
  subst hp
  have he:=RepC.int_inv hv
  exact⟨_,fun W=>by simp[execOp,ho,he,convert,run_underlying hd,run_underlying hs,Conv.intToInt],RepC.int _ _⟩
theorem gives_same (st:St E I σ env bx a w) {x:Operand} {y:Opd} {s d:TypeId} (ho:o.op=.convert s d x) (hx:ofOpd x=some y) (hd:P.underlying d=some .string) (hs:P.underlying s=some .string)
  {e:Ent} (hp:pureV env (.same y)=some e):Gives P I bx a o e:=by
 have hv:=st.opd hx
 simp only[pureV]at hp
 generalize evalOpd env y=ev at hp hv
 cases ev with
 |box c=>exact hv.elim
 |lptr s off=>simp at hp
 |val t=>
  cases t<;>simp only[Option.some.injEq,reduceCtorEq]at hp
  subst hp
  obtain⟨b,he,hb⟩:=RepC.str_inv hv
  exact⟨_,fun W=>by simp[execOp,ho,he,convert,run_underlying hd,run_underlying hs],RepC.str _ _ hb⟩
theorem gives_iface (st:St E I σ env bx a w) {x:Operand} {y:Opd} {t:TypeId} {u:TypeDesc} (ho:o.op=.makeInterface t x) (hx:ofOpd x=some y) (ht:P.underlying t=some u) (hu:∀ms,u≠.interface ms)
  {e:Ent} (hp:pureV env (.iface t y)=some e):Gives P I bx a o e:=by
 have hv:=st.opd hx
 simp only[pureV]at hp
 generalize evalOpd env y=ev at hp hv
 cases ev with
 |box c=>exact hv.elim
 |lptr s off=>simp at hp
 |val z=>
  simp only[Option.some.injEq]at hp
  subst hp
  refine⟨.iface t (a.eval x),fun W=> ?_,RepC.iface _ _ _ hv⟩
  cases u<;>simp[execOp,ho,Instr.makeInterface,run_underlying ht]
  exact absurd rfl (hu _)
theorem gives_foff (st:St E I σ env bx a w) {x:Operand} {y:Opd} {s:TypeId} {f:Nat} {fd:Field} {n:Nat} (ho:o.op=.fieldAddr s x f) (hx:ofOpd x=some y) (hf:tField P s f=some fd) (hn:tSize P fd.type=some (n+1))
  {e:Ent} (hp:pureV env (.foff fd.offset y)=some e):Gives P I bx a o e:=by
 have hv:=st.opd hx
 simp only[pureV]at hp
 obtain⟨fs,hu,hfs⟩:∃fs,P.underlying s=some (.struct fs)∧fs[f]? =some fd:=by
  unfold tField at hf
  split at hf
  ·exact⟨_,‹_›,hf⟩
  ·cases hf
 obtain⟨i,hi,hin⟩:∃i,P.info? fd.type=some i∧i.size=n+1:=by
  unfold tSize at hn
  split at hn
  ·exact⟨_,‹_›,by simpa using hn⟩
  ·cases hn
 have hrun:∀ad W,a.eval x=.pointer (some ad)→(execOp a.eval o).run P W=.ok (.value (.pointer (some (ad.add fd.offset)))) W:=by
  intro ad W had
  simp[execOp,ho,had,Instr.fieldAt,run_underlying hu,hfs,Instr.sureAddr,fieldPlace,sizeOf,typeInfo,hi,hin]
 have hadd:∀(b k:Nat),(⟨b,k,none⟩:Addr).add fd.offset=⟨b,k+fd.offset,none⟩:=by
  intro b k;unfold Addr.add;split<;>simp_all
 generalize evalOpd env y=ev at hp hv
 cases ev with
 |box c=>exact hv.elim
 |lptr q off=>
  simp only[Option.some.injEq]at hp
  subst hp
  exact⟨_,fun W=>hrun _ W hv,by simp[EntVal,hadd]⟩
 |val t=>
  cases t<;>simp only[Option.some.injEq,reduceCtorEq]at hp
  ·subst hp
   have he:=RepC.ptr_inv hv
   exact⟨_,fun W=>hrun _ W he,by rw[hadd];exact RepC.ptr _ _⟩
  ·subst hp
   simp only[EntVal]at hv
   generalize hz:a.eval x=z at hv
   cases hv with
   |sptr b k cs vs h hr=>
    refine⟨_,fun W=>hrun _ W hz,?_⟩
    rw[hadd]
    refine RepC.sptr _ _ _ (fun j=>vs (fd.offset+j)) (fun j hj=> ?_) (fun j=> ?_)
    ·rw[Nat.add_assoc]
     exact h _ (by simp at hj;omega)
    ·have:=hr (fd.offset+j)
     simpa[List.getD_eq_getElem?_getD,List.getElem?_drop]using this
theorem gives_extract (st:St E I σ env bx a w) {x:Operand} {y:Opd} {i:Nat} (ho:o.op=.extract x i) (hx:ofOpd x=some y) {e:Ent} (hp:pureV env (.extract y i)=some e):Gives P I bx a o e:=by
 have hv:=st.opd hx
 simp only[pureV]at hp
 generalize evalOpd env y=ev at hp hv
 cases ev with
 |box c=>exact hv.elim
 |lptr q off=>simp at hp
 |val t=>
  cases t<;>simp only[reduceCtorEq]at hp
  rename_i vs
  cases hvs:vs[i]? with
  |none=>rw[hvs]at hp;cases hp
  |some z=>
   rw[hvs]at hp
   simp only[Option.some.injEq]at hp
   subst hp
   simp only[EntVal]at hv
   generalize hz:a.eval x=zz at hv
   cases hv with
   |tuple us as hl hr=>
    have hlt:i<us.size:=by rw[hl];exact(List.getElem?_eq_some_iff.1 hvs).1
    refine⟨us[i],fun W=> ?_,?_⟩
    ·simp[execOp,ho,hz,Instr.extract,hlt]
    ·have:=hr i
     simp only[Array.getD_eq_getD_getElem?,List.getD_eq_getElem?_getD,hvs,Array.getElem?_eq_getElem hlt,Option.getD_some]at this
     exact this
theorem underlying_of_tElem {t e:TypeId} (h:tElem P t=some e):P.underlying t=some (.slice e):=by
 unfold tElem at h
 split at h
 ·rename_i q hq;rw[hq];simp only[Option.some.injEq]at h;rw[h]
 ·cases h
theorem info_of_tSize {t:TypeId} {n:Nat} (h:tSize P t=some n):∃i,P.info? t=some i∧i.size=n:=by
 unfold tSize at h
 split at h
 ·exact⟨_,‹_›,by simpa using h⟩
 ·cases h
theorem struct_of_tField {s:TypeId} {f:Nat} {fd:Field} (h:tField P s f=some fd):∃fs,P.underlying s=some (.struct fs)∧fs[f]? =some fd:=by
 unfold tField at h
 split at h
 ·exact⟨_,‹_›,h⟩
 ·cases h
theorem lay_of {t:TypeId} {agg:Bool} {n:Nat} (h:tLay P t=some (agg,n)):
  (agg=true∧(∃i,P.info? t=some i∧i.size=n)∧((∃fs,P.underlying t=some (.struct fs))∨∃k e,P.underlying t=some (.array k e)))∨
  (agg=false∧n=1∧(∃i,P.info? t=some i)∧∃d,P.underlying t=some d∧(∀fs,d≠.struct fs)∧∀k e,d≠.array k e):=by
 unfold tLay at h
 split at h
 ·rename_i k ha hs
  simp only[Option.some.injEq,Prod.mk.injEq]at h
  obtain⟨rfl,rfl⟩:=h
  refine .inl ⟨rfl,info_of_tSize hs,?_⟩
  unfold tAgg at ha
  split at ha
  ·exact .inl ⟨_,‹_›⟩
  ·exact .inr ⟨_,_,‹_›⟩
  ·cases ha
  ·cases ha
 ·rename_i k ha hs
  simp only[Option.some.injEq,Prod.mk.injEq]at h
  obtain⟨rfl,rfl⟩:=h
  obtain⟨i,hi,_⟩:=info_of_tSize hs
  refine .inr ⟨rfl,rfl,⟨i,hi⟩,?_⟩
  unfold tAgg at ha
  split at ha
  ·cases ha
  ·cases ha
  ·rename_i d h1 h2 hd
   exact⟨d,hd,fun fs e=>h1 fs e,fun k q e=>h2 k q e⟩
  ·cases ha
 ·cases h
theorem rep_drop_take {cs:Array Value} {as:List AVal} (hr:∀j,RepC I (cs.getD j undef) (as.getD j .top)) (hl:cs.size=as.length) {off n:Nat} (hle:off+n≤as.length):
  RepC I (.agg (cs.extract off (off+n))) (.agg ((as.drop off).take n)):=by
 refine .agg _ _ (by simp;omega) (fun j=> ?_)
 by_cases h:j<n
 ·have:=hr (off+j)
  simp only[Array.getD_eq_getD_getElem?,List.getD_eq_getElem?_getD]at this⊢
  rw[Array.getElem?_extract,List.getElem?_take,List.getElem?_drop]
  simp only[h,if_true]
  have h1:j<min (off+n) cs.size-off:=by omega
  simpa[h1]using this
 ·have:((as.drop off).take n).getD j .top=.top:=by
   rw[List.getD_eq_getElem?_getD,List.getElem?_take]
   simp[h]
  rw[this]
  exact .top _
theorem gives_field (st:St E I σ env bx a w) {x:Operand} {y:Opd} {s:TypeId} {f:Nat} {fd:Field} {n:Nat} {agg:Bool} (ho:o.op=.field s x f) (hx:ofOpd x=some y) (hf:tField P s f=some fd) (hn:tLay P fd.type=some (agg,n))
  {e:Ent} (hp:pureV env (.field fd.offset n agg y)=some e):Gives P I bx a o e:=by
 have hv:=st.opd hx
 obtain⟨fs,hu,hfs⟩:=struct_of_tField hf
 simp only[pureV]at hp
 generalize evalOpd env y=ev at hp hv
 cases ev with
 |box c=>exact hv.elim
 |lptr q off=>simp at hp
 |val t=>
  cases t<;>simp only[reduceCtorEq]at hp
  rename_i as
  split at hp
  case isFalse=>cases hp
  rename_i hle
  simp only[Option.some.injEq]at hp
  subst hp
  simp only[EntVal]at hv
  generalize hz:a.eval x=zz at hv
  cases hv with
  |agg cs as' hl hr=>
   rcases lay_of hn with⟨rfl,⟨i,hi,hsz⟩,hk⟩|⟨rfl,rfl,⟨i,hi⟩,d,hd,h1,h2⟩
   ·refine⟨.agg (cs.extract fd.offset (fd.offset+n)),fun W=> ?_,rep_drop_take hr hl hle⟩
    rcases hk with⟨gs,hk⟩|⟨k,q,hk⟩<;>
     simp[execOp,ho,hz,Instr.field,run_underlying hu,hfs,asAgg,part,isAgg,run_underlying hk,sizeOf,typeInfo,hi,hsz]
   ·have hlt:fd.offset<cs.size:=by omega
    have hc:cs[fd.offset]? =some cs[fd.offset]:=Array.getElem?_eq_getElem hlt
    refine⟨cs[fd.offset],fun W=> ?_,?_⟩
    ·have ha:(isAgg fd.type).run P W=.ok false W:=by
      simp only[isAgg,Sem.run_bind,run_underlying hd,Result.andThen_ok]
      cases d<;>simp_all
     simp[execOp,ho,hz,Instr.field,run_underlying hu,hfs,asAgg,part,ha,hc]
    ·have:=hr fd.offset
     have hla:fd.offset<as.length:=by omega
     simp only[Array.getD_eq_getD_getElem?,List.getD_eq_getElem?_getD,hc,List.getElem?_eq_getElem hla,Option.getD_some]at this
     show RepC I _ _
     have hd1:mkv false ((as.drop fd.offset).take 1)=as[fd.offset]:=by
      rw[List.drop_eq_getElem_cons hla];rfl
     rw[hd1]
     exact this
theorem RepC.slice_inv {v:Value} {xs:List AVal} {nl:Bool} {tok:Option Nat} (h:RepC I v (.slice xs nl tok)):
  (v=.slice none 0 0∧xs=[]∧nl=true∧tok=none)∨
  (∃(b o cap sz:Nat) (vs:Nat→Nat→Value),v=.slice (some ⟨b,o,none⟩) xs.length cap∧nl=false∧xs.length≤cap∧cap≤maxLen∧(∀i,i<xs.length→(xs.getD i .top).cells.length=sz)∧
   (∀i j,i<xs.length→j<sz→I.cell b (o+(i*sz+j))=some (vs i j))∧(∀i j,RepC I (vs i j) ((xs.getD i .top).cells.getD j .top))∧
   (∀g,tok=some g→g=b∧o=0∧I.cap g=some (cap,sz)))∨
  ∃a:Addr,v=.slice (some a) 0 0∧xs=[]∧nl=false∧tok=none:=by
 cases h with
 |nilS=>exact .inl ⟨rfl,rfl,rfl,rfl⟩
 |sliceZ a=>exact .inr (.inr ⟨a,rfl,rfl,rfl,rfl⟩)
 |slice b o n cap sz xs tok vs hl hc hm hs h hr ht=>
  subst hl
  exact .inr (.inl ⟨b,o,cap,sz,vs,rfl,rfl,hc,hm,hs,h,hr,ht⟩)
theorem gives_len (st:St E I σ env bx a w) {x:Operand} {y:Opd} {t q:TypeId} (ho:o.op=.call {callee:=.builtin .len,args:=⟨[x]⟩,argTypes:=⟨[t]⟩}) (hx:ofOpd x=some y)
  (ht:P.underlying t=some (.slice q)) {e:Ent} (hp:pureV env (.len y)=some e):Gives P I bx a o e:=by
 have hv:=st.opd hx
 simp only[pureV]at hp
 generalize evalOpd env y=ev at hp hv
 cases ev with
 |box c=>exact hv.elim
 |lptr q off=>simp at hp
 |val z=>
  cases z<;>simp only[Option.some.injEq,reduceCtorEq]at hp
  rotate_left
  ·subst hp
   cases hv':a.eval x<;>rw[hv']at hv<;>cases hv
   exact⟨_,fun W=>by simp[execOp,ho,resolve,invoke,builtin,hv',Builtin.len_,run_underlying ht,goInt],RepC.int _ _⟩
  subst hp
  rename_i xs nl tok
  obtain⟨A,c,hA⟩:∃A c,a.eval x=.slice A xs.length c:=by
   rcases RepC.slice_inv hv with⟨h1,h2,_⟩|⟨b,off,cap,_,_,h1,_⟩|⟨az,h1,h2,_⟩
   ·exact⟨none,0,by rw[h1,h2];rfl⟩
   ·exact⟨_,_,h1⟩
   ·exact⟨some az,0,by rw[h1,h2];rfl⟩
  exact⟨_,fun W=>by simp[execOp,ho,resolve,invoke,builtin,hA,Builtin.len_,run_underlying ht,goInt],RepC.int _ _⟩
theorem gives_lenStr (st:St E I σ env bx a w) {x:Operand} {y:Opd} {t:TypeId} (ho:o.op=.call {callee:=.builtin .len,args:=⟨[x]⟩,argTypes:=⟨[t]⟩}) (hx:ofOpd x=some y)
  (ht:P.underlying t=some .string) {e:Ent} (hp:pureV env (.lenStr y)=some e):Gives P I bx a o e:=by
 have hv:=st.opd hx
 simp only[pureV]at hp
 generalize evalOpd env y=ev at hp hv
 cases ev with
 |box c=>exact hv.elim
 |lptr q off=>simp at hp
 |val z=>
  cases z<;>simp only[Option.some.injEq,reduceCtorEq]at hp
  subst hp
  obtain⟨s,he,hs⟩:=RepC.str_inv hv
  have:s.size=s.data.toList.length:=by simp
  rw[hs]at this
  exact⟨_,fun W=>by simp[execOp,ho,resolve,invoke,builtin,he,Builtin.len_,run_underlying ht,goInt,this],RepC.int _ _⟩
theorem gives_min (st:St E I σ env bx a w) {x z:Operand} {y u:Opd} {ts:Array TypeId} (ho:o.op=.call {callee:=.builtin .min,args:=⟨[x,z]⟩,argTypes:=ts}) (hx:ofOpd x=some y) (hz:ofOpd z=some u)
  {e:Ent} (hp:pureV env (.min y u)=some e):Gives P I bx a o e:=by
 have hv:=st.opd hx
 have hu:=st.opd hz
 simp only[pureV]at hp
 generalize evalOpd env y=ev at hp hv
 generalize evalOpd env u=eu at hp hu
 split at hp
 ·simp only[Option.some.injEq]at hp
  subst hp
  have e1:=RepC.int_inv hv
  have e2:=RepC.int_inv hu
  exact⟨_,fun W=>by simp[execOp,ho,resolve,invoke,builtin,e1,e2,Builtin.min_,Builtin.min2],RepC.int _ _⟩
 ·cases hp
theorem gives_max (st:St E I σ env bx a w) {x z:Operand} {y u:Opd} {ts:Array TypeId} (ho:o.op=.call {callee:=.builtin .max,args:=⟨[x,z]⟩,argTypes:=ts}) (hx:ofOpd x=some y) (hz:ofOpd z=some u)
  {e:Ent} (hp:pureV env (.max y u)=some e):Gives P I bx a o e:=by
 have hv:=st.opd hx
 have hu:=st.opd hz
 simp only[pureV]at hp
 generalize evalOpd env y=ev at hp hv
 generalize evalOpd env u=eu at hp hu
 split at hp
 ·simp only[Option.some.injEq]at hp
  subst hp
  have e1:=RepC.int_inv hv
  have e2:=RepC.int_inv hu
  exact⟨_,fun W=>by simp[execOp,ho,resolve,invoke,builtin,e1,e2,Builtin.max_,Builtin.max2],RepC.int _ _⟩
 ·cases hp
theorem gives_max3 (st:St E I σ env bx a w) {x z q:Operand} {y u r:Opd} {ts:Array TypeId} (ho:o.op=.call {callee:=.builtin .max,args:=⟨[x,z,q]⟩,argTypes:=ts}) (hx:ofOpd x=some y) (hz:ofOpd z=some u) (hq:ofOpd q=some r)
  {e:Ent} (hp:pureV env (.max3 y u r)=some e):Gives P I bx a o e:=by
 have hv:=st.opd hx
 have hu:=st.opd hz
 have hr:=st.opd hq
 simp only[pureV]at hp
 generalize evalOpd env y=ev at hp hv
 generalize evalOpd env u=eu at hp hu
 generalize evalOpd env r=er at hp hr
 split at hp
 ·simp only[Option.some.injEq]at hp
  subst hp
  have e1:=RepC.int_inv hv
  have e2:=RepC.int_inv hu
  have e3:=RepC.int_inv hr
  exact⟨_,fun W=>by simp[execOp,ho,resolve,invoke,builtin,e1,e2,e3,Builtin.max_,Builtin.max2],RepC.int _ _⟩
 ·cases hp
theorem St.opds (st:St E I σ env bx a w):∀{xs:List Operand} {ys:List Opd} {as:List AVal},ofOpds xs=some ys→vals (ys.map (evalOpd env))=some as→
  (xs.map a.eval).length=as.length∧∀j,RepC I ((xs.map a.eval).getD j undef) (as.getD j .top)
 | [],ys,as,h,hv=>by
  simp only[ofOpds,Option.some.injEq]at h
  subst h
  simp only[List.map_nil,vals,Option.some.injEq]at hv
  subst hv
  exact⟨rfl,fun j=>by simpa using RepC.top _⟩
 |x::r,ys,as,h,hv=>by
  simp only[ofOpds]at h
  cases hx:ofOpd x with
  |none=>rw[hx]at h;cases h
  |some y=>
   cases hr:ofOpds r with
   |none=>rw[hx,hr]at h;cases h
   |some ys'=>
    rw[hx,hr]at h
    simp only[Option.some.injEq]at h
    subst h
    have h1:=st.opd hx
    simp only[List.map_cons]at hv
    generalize evalOpd env y=ev at hv h1
    cases ev with
    |box c=>exact h1.elim
    |lptr q off=>simp[vals]at hv
    |val z=>
     simp only[vals]at hv
     cases hrest:vals (ys'.map (evalOpd env))with
     |none=>rw[hrest]at hv;cases hv
     |some as'=>
      rw[hrest]at hv
      simp only[Option.some.injEq]at hv
      subst hv
      obtain⟨k1,k2⟩:=st.opds hr hrest
      refine⟨by simpa using k1,fun j=> ?_⟩
      cases j with
      |zero=>exact h1
      |succ j=>have:=k2 j;simpa using this
theorem St.opdsA (st:St E I σ env bx a w) {xs:Array Operand} {ys:List Opd} {as:List AVal} (h:ofOpds xs.toList=some ys) (hv:vals (ys.map (evalOpd env))=some as):
  (xs.map a.eval).size=as.length∧∀j,RepC I ((xs.map a.eval).getD j undef) (as.getD j .top):=by
 obtain⟨h1,h2⟩:=st.opds h hv
 refine⟨by simpa using h1,fun j=> ?_⟩
 have:=h2 j
 simpa[Array.getD_eq_getD_getElem?,List.getD_eq_getElem?_getD]using this
theorem gives_mkFunc (st:St E I σ env bx a w) {fn:Fn} {f c:Array Operand} {f' c':List Opd} (ho:o.op=.makeFunc fn f c) (hf:ofOpds f.toList=some f') (hc:ofOpds c.toList=some c')
  {e:Ent} (hp:pureV env (.mkFunc fn f' c')=some e):Gives P I bx a o e:=by
 simp only[pureV]at hp
 split at hp
 ·rename_i fs cs h1 h2
  simp only[Option.some.injEq]at hp
  subst hp
  obtain⟨k1,k2⟩:=st.opdsA hf h1
  obtain⟨l1,l2⟩:=st.opdsA hc h2
  exact⟨_,fun W=>by simp[execOp,ho,Instr.makeFunc],RepC.func _ _ _ _ _ k1 l1 k2 l2⟩
 ·cases hp
theorem tEqK_bool {t:TypeId} (h:tEqK P t=.bool):P.underlying t=some .bool:=by
 unfold tEqK at h;split at h<;>first|assumption|cases h|(split at h<;>cases h)
theorem tEqK_pointer {t:TypeId} (h:tEqK P t=.pointer):∃e,P.underlying t=some (.pointer e):=by
 unfold tEqK at h;split at h<;>first|exact⟨_,‹_›⟩|cases h|(split at h<;>cases h)
theorem tEqK_slice {t:TypeId} (h:tEqK P t=.slice):∃e,P.underlying t=some (.slice e):=by
 unfold tEqK at h;split at h<;>first|exact⟨_,‹_›⟩|cases h|(split at h<;>cases h)
theorem tEqK_iface {t:TypeId} (h:tEqK P t=.iface):∃e,P.underlying t=some (.interface e):=by
 unfold tEqK at h;split at h<;>first|exact⟨_,‹_›⟩|cases h|(split at h<;>cases h)
theorem tEqK_func {t:TypeId} (h:tEqK P t=.func):∃x y z,P.underlying t=some (.func x y z):=by
 unfold tEqK at h;split at h<;>first|exact⟨_,_,_,‹_›⟩|cases h|(split at h<;>cases h)
theorem tEqK_map {t:TypeId} (h:tEqK P t=.map):∃x y,P.underlying t=some (.map x y):=by
 unfold tEqK at h;split at h<;>first|exact⟨_,_,‹_›⟩|cases h|(split at h<;>cases h)
theorem equal_step (t:TypeId) (u v:Value) (b:Bool) (W:World) (h:∀d,(Op.equalIn (d+1) t u v).run P W=.ok b W):(Op.equal t u v).run P W=.ok b W:=h 9999
theorem eqGuard_ok {t:TypeId} {u v:Value} (h:u≠.nilIface∨v≠.nilIface) (h2:∀c,u≠.agg c) (op:BinOp) (p q:Operand) (W:World):(eqGuard op t p q u v).run P W=.ok () W:=by
 have h0:eqGuard op t p q u v=pure ():=by
  cases u with
  |agg c=>exact absurd rfl (h2 c)
  |nilIface=>cases v with
   |nilIface=>simp at h
   |_=>cases op<;>rfl
  |_=>cases op<;>rfl
 rw[h0]
 rfl
theorem tEqK_flat {t:TypeId} {ss:List SK} (h:tEqK P t=.flat ss):tFlat P t=some ss:=by
 unfold tEqK at h
 split at h<;>first|cases h;done|skip
 split at h
 ·simp only[EqK.flat.injEq]at h;subst h;assumption
 ·cases h
theorem eqGuard_flat {t:TypeId} {ss:List SK} (ht:tFlat P t=some ss) (xs ys:Array Value) (op:BinOp) (p q:Operand) (W:World):(eqGuard op t p q (.agg xs) (.agg ys)).run P W=.ok () W:=by
 obtain⟨_,_,_,_,hg⟩:=tFlat_some ht
 cases op<;>simp[eqGuard,hg]
theorem eqV_sound {t:TypeId} {x y:AVal} {u v:Value} {b:Bool} (h:eqV (tEqK P t) x y=some b) (hu:RepC I u x) (hv:RepC I v y):
  (∀W,(Op.equal t u v).run P W=.ok b W)∧(∀(op:BinOp) (p q:Operand) (W:World),(eqGuard op t p q u v).run P W=.ok () W)∧(∀k n,u≠.int k n)∧(∀s,u≠.string s)∧(∀k n,u≠.float k n)∧(∀k n m,u≠.complex k n m):=by
 generalize hq:tEqK P t=q at h
 unfold eqV at h
 split at h<;>(try simp only[Option.some.injEq,reduceCtorEq]at h)
 ·subst h
  have ht:=tEqK_bool hq
  cases hu;cases hv
  refine⟨fun W=>equal_step _ _ _ _ _ fun d=> ?_,fun op p q W=>eqGuard_ok (by simp) (by simp) op p q W,by simp,by simp,by simp,by simp⟩
  simp[Op.equalIn,run_underlying ht]
 case h_12 ss as bs=>
  split at h
  ·rename_i hc
   simp only[Option.some.injEq]at h
   subst h
   have ht:=tEqK_flat hq
   refine⟨fun W=>equal_flat ht hc.1 hc.2 hu hv 9998 W,?_,?_⟩
   ·cases hu;cases hv;exact eqGuard_flat ht _ _
   ·cases hu;simp
  ·cases h
 all_goals
  first
   |obtain⟨e,ht⟩:=tEqK_pointer hq
   |obtain⟨e,ht⟩:=tEqK_slice hq
   |obtain⟨e,ht⟩:=tEqK_iface hq
   |obtain⟨e,e2,e3,ht⟩:=tEqK_func hq
   |obtain⟨e,e2,ht⟩:=tEqK_map hq
  subst h
  cases hu<;>cases hv<;>
  refine⟨fun W=>equal_step _ _ _ _ _ fun d=> ?_,fun op p q W=>eqGuard_ok (by simp) (by simp) op p q W,by simp,by simp,by simp,by simp⟩<;>
  simp[Op.equalIn,run_underlying ht]
theorem intV_sound {op:BinOp} {k:IntKind} {x y:Int} {r:AVal} (t:TypeId) (h:intV op k x y=some r):
  ∃v,(∀W,(binOp op t (.int k x) (.int k y):Sem Value).run P W=.ok v W)∧RepC I v r:=by
 cases op
 case quo=>
  simp only[intV]at h
  split at h
  ·cases h
  ·rename_i hb;simp only[Option.some.injEq]at h;subst h;exact⟨_,fun W=>by simp[binOp,Op.intDiv,hb],RepC.int _ _⟩
 case rem=>
  simp only[intV]at h
  split at h
  ·cases h
  ·rename_i hb;simp only[Option.some.injEq]at h;subst h;exact⟨_,fun W=>by simp[binOp,Op.intDiv,hb],RepC.int _ _⟩
 case shl=>
  simp only[intV]at h
  split at h
  ·cases h
  ·rename_i hb;simp only[Option.some.injEq]at h;subst h;exact⟨_,fun W=>by simp[binOp,Op.shift,hb],RepC.int _ _⟩
 case shr=>
  simp only[intV]at h
  split at h
  ·cases h
  ·rename_i hb;simp only[Option.some.injEq]at h;subst h;exact⟨_,fun W=>by simp[binOp,Op.shift,hb],RepC.int _ _⟩
 case and=>simp only[intV,Option.some.injEq]at h;subst h;exact⟨_,fun W=>by simp only[binOp,ne_eq,not_true_eq_false,if_false];rfl,RepC.int _ _⟩
 case or=>simp only[intV,Option.some.injEq]at h;subst h;exact⟨_,fun W=>by simp only[binOp,ne_eq,not_true_eq_false,if_false];rfl,RepC.int _ _⟩
 case xor=>simp only[intV,Option.some.injEq]at h;subst h;exact⟨_,fun W=>by simp only[binOp,ne_eq,not_true_eq_false,if_false];rfl,RepC.int _ _⟩
 all_goals simp[intV,intCmpV]at h<;>subst h<;>
  first
   |exact⟨_,fun W=>by simp[binOp,Op.intArith],RepC.int _ _⟩
   |exact⟨_,fun W=>by simp[binOp,Op.intCmp];rfl,RepC.bool _⟩
   |exact⟨_,fun W=>by simp[binOp,Op.intCmp],RepC.bool _⟩
theorem strV_sound {op:BinOp} {s u:ByteArray} {r:AVal} (t:TypeId) (h:strV op s.data.toList u.data.toList=some r):
  ∃v,(∀W,(binOp op t (.string s) (.string u):Sem Value).run P W=.ok v W)∧RepC I v r:=by
 have e1:=ByteArray.toList_eq s
 have e2:=ByteArray.toList_eq u
 cases op<;>simp only[strV,Option.some.injEq,reduceCtorEq]at h<;>subst h<;>
  exact⟨_,fun W=>by simp only[binOp,Op.stringOp,e1,e2];rfl,RepC.bool _⟩
theorem gives_bin (st:St E I σ env bx a w) {op:BinOp} {x z:Operand} {y u:Opd} {t t2:TypeId} (ho:o.op=.binOp op t x z t2) (hx:ofOpd x=some y) (hz:ofOpd z=some u)
  {e:Ent} (hp:pureV env (.bin op (tEqK P t) y u)=some e):Gives P I bx a o e:=by
 have hv:=st.opd hx
 have hu:=st.opd hz
 have hlit:(nilConst y||nilConst u)=true→(∃c,x=.const c)∨∃c,z=.const c:=by
  intro h
  simp only[Bool.or_eq_true]at h
  rcases h with h|h
  ·cases x<;>simp[ofOpd]at hx<;>first|exact .inl ⟨_,rfl⟩|(subst hx;simp[nilConst]at h)
  ·cases z<;>simp[ofOpd]at hz<;>first|exact .inr ⟨_,rfl⟩|(subst hz;simp[nilConst]at h)
 generalize hl:(nilConst y||nilConst u)=lit at hlit
 simp only[pureV,hl]at hp
 have hred:∀v,(∀W,(eqGuard op t x z (a.eval x) (a.eval z)).run P W=.ok () W)→(∀W,(binOp op t (a.eval x) (a.eval z)).run P W=.ok v W)→∀W,(execOp a.eval o).run P W=.ok (.value v) W:=by
  intro v h1 h2 W
  simp[execOp,ho,h1 W,h2 W]
 generalize a.eval x=v1 at hv hred
 generalize a.eval z=v2 at hu hred
 generalize evalOpd env y=e1 at hv hp
 generalize evalOpd env u=e2 at hu hp
 cases hb:binV op (tEqK P t) lit e1 e2 with
 |none=>rw[hb]at hp;cases hp
 |some r=>
  rw[hb]at hp
  simp only[Option.some.injEq]at hp
  subst hp
  unfold binV at hb
  split at hb
  ·
   split at hb
   case isFalse=>cases hb
   rename_i k a' k' b' hk
   have e1:=RepC.int_inv hv
   have e2:=RepC.int_inv hu
   subst e1;subst e2
   obtain⟨v,h1,h2⟩:=intV_sound (P:=P) (I:=I) t hb
   have hsame:∀W,(binOp op t (.int k a') (.int k' b'):Sem Value).run P W=(binOp op t (.int k a') (.int k b'):Sem Value).run P W:=by
    intro W
    cases op<;>first|(simp only[sameK,decide_eq_true_eq]at hk;subst hk;rfl)|rfl
   exact⟨v,hred v (eqGuard_ok (by simp) (by simp) _ _ _) (fun W=>by rw[hsame];exact h1 W),h2⟩
  ·obtain⟨s1,rfl,hs1⟩:=RepC.str_inv hv
   obtain⟨s2,rfl,hs2⟩:=RepC.str_inv hu
   rw[←hs1,←hs2]at hb
   obtain⟨v,h1,h2⟩:=strV_sound (P:=P) (I:=I) t hb
   exact⟨v,hred v (eqGuard_ok (by simp) (by simp) _ _ _) h1,h2⟩
  ·
   split at hb
   case isFalse=>cases hb
   rename_i hl1
   have c1:v1=.nilIface:=by cases hv;rfl
   have c2:v2=.nilIface:=by cases hu;rfl
   subst c1;subst c2
   have hg:∀W,(eqGuard op t x z .nilIface .nilIface).run P W=.ok () W:=by
    intro W
    rcases hlit hl1 with⟨c,rfl⟩|⟨c,rfl⟩<;>cases op<;>simp[eqGuard]
   split at hb
   ·rename_i hq
    simp only[Option.some.injEq]at hb
    subst hb
    obtain⟨ms,ht⟩:=tEqK_iface hq
    refine⟨.bool true,hred _ hg fun W=> ?_,RepC.bool _⟩
    have:=equal_step (P:=P) t .nilIface .nilIface true W fun d=>by simp[Op.equalIn,run_underlying ht]
    simp[binOp,this]
   ·rename_i hq
    simp only[Option.some.injEq]at hb
    subst hb
    obtain⟨ms,ht⟩:=tEqK_iface hq
    refine⟨.bool false,hred _ hg fun W=> ?_,RepC.bool _⟩
    have:=equal_step (P:=P) t .nilIface .nilIface true W fun d=>by simp[Op.equalIn,run_underlying ht]
    simp[binOp,this]
   ·cases hb
  ·
   rename_i x' y' _ _ _
   cases he:eqV (tEqK P t) x' y' with
   |none=>rw[he]at hb;cases op<;>simp at hb
   |some b=>
    rw[he]at hb
    obtain⟨g1,g2,g4,g5,g6,g7⟩:=eqV_sound he hv hu
    have hg:=fun W=>g2 op x z W
    cases op<;>simp only[Option.some.injEq,reduceCtorEq]at hb
    ·subst hb
     refine⟨.bool b,hred _ hg fun W=> ?_,RepC.bool _⟩
     have hb2:binOp .eql t v1 v2=(do pure (.bool (←Op.equal t v1 v2))):=by
      cases v1<;>first|rfl|exact absurd rfl (g4 _ _)|exact absurd rfl (g5 _)|exact absurd rfl (g6 _ _)|exact absurd rfl (g7 _ _ _)
     rw[hb2]
     simp[g1 W]
    ·subst hb
     refine⟨.bool (!b),hred _ hg fun W=> ?_,RepC.bool _⟩
     have hb2:binOp .neq t v1 v2=(do pure (.bool (!(←Op.equal t v1 v2)))):=by
      cases v1<;>first|rfl|exact absurd rfl (g4 _ _)|exact absurd rfl (g5 _)|exact absurd rfl (g6 _ _)|exact absurd rfl (g7 _ _ _)
     rw[hb2]
     simp[g1 W]
  ·
   rename_i s0 off0
   have c2:v2=.pointer none:=by cases hu;rfl
   subst c2
   simp only[EntVal]at hv
   subst hv
   have hg:=fun W=>eqGuard_ok (P:=P) (t:=t) (u:=.pointer (some ⟨bx s0,off0,none⟩)) (v:=.pointer none) (.inl (by simp)) (by simp) op x z W
   split at hb
   ·rename_i hq
    simp only[Option.some.injEq]at hb
    subst hb
    obtain⟨ms,ht⟩:=tEqK_pointer hq
    refine⟨.bool false,hred _ hg fun W=> ?_,RepC.bool _⟩
    have:=equal_step (P:=P) t (.pointer (some ⟨bx s0,off0,none⟩)) (.pointer none) false W fun d=>by simp[Op.equalIn,run_underlying ht]
    simp[binOp,this]
   ·rename_i hq
    simp only[Option.some.injEq]at hb
    subst hb
    obtain⟨ms,ht⟩:=tEqK_pointer hq
    refine⟨.bool true,hred _ hg fun W=> ?_,RepC.bool _⟩
    have:=equal_step (P:=P) t (.pointer (some ⟨bx s0,off0,none⟩)) (.pointer none) false W fun d=>by simp[Op.equalIn,run_underlying ht]
    simp[binOp,this]
   ·cases hb
  ·cases hb
theorem AVal.one_cells {x:AVal} (h:x.one=true):x.cells=[x]:=by cases x<;>simp_all [AVal.one,AVal.cells]
theorem RepC.one_cell {v:Value} {x:AVal} (h:RepC I v x) (h1:x.one=true):v.oneCell'=true∧v.cells= #[v]:=by
 cases h<;>simp_all [AVal.one,Value.oneCell',Value.cells]
theorem RepC.cells_of {v:Value} {x:AVal} (h:RepC I v x) (h1:x.cells.all AVal.one=true):
  v.cells.size=x.cells.length∧(∀j,RepC I (v.cells.getD j undef) (x.cells.getD j .top))∧∀u∈v.cells.toList,u.oneCell'=true:=by
 by_cases hx:∃cs,x=.agg cs
 ·obtain⟨as,rfl⟩:=hx
  cases h with
  |agg cs _ hl hr=>
   refine⟨hl,hr,fun u hu=> ?_⟩
   obtain⟨j,hj,rfl⟩:=List.getElem_of_mem hu
   have hj0:j<cs.size:=by simpa[Value.cells]using hj
   have hj':j<as.length:=by omega
   have:=hr j
   simp only[Array.getD_eq_getD_getElem?,List.getD_eq_getElem?_getD,List.getElem?_eq_getElem hj',Option.getD_some]at this
   have hja:j<cs.size:=hj0
   simp only[Array.getElem?_eq_getElem hja,Option.getD_some]at this
   have ho:(as[j]).one=true:=List.all_eq_true.1 h1 _ (List.getElem_mem hj')
   exact(this.one_cell ho).1
 ·have hc:x.cells=[x]:=by cases x<;>first|rfl|exact absurd ⟨_,rfl⟩ hx
  have ho:x.one=true:=by rw[hc]at h1;simpa using h1
  obtain⟨k1,k2⟩:=h.one_cell ho
  rw[hc,k2]
  refine⟨rfl,fun j=> ?_,fun u hu=>by simp at hu;subst hu;exact k1⟩
  cases j with
  |zero=>exact h
  |succ j=>simpa using RepC.top _
theorem foldl_set (off:Nat):∀(vs:List Value) (i:Nat) (cs:Array Value),
  ((vs.zipIdx i).foldl (fun(cs:Array Value) (p:Value × Nat)=>cs.setIfInBounds (off+p.2) p.1) cs).size=cs.size∧
  ∀j,((vs.zipIdx i).foldl (fun(cs:Array Value) (p:Value × Nat)=>cs.setIfInBounds (off+p.2) p.1) cs)[j]? =
   if off+i≤j∧j<off+i+vs.length∧j<cs.size then vs[j-(off+i)]? else cs[j]? :=by
 intro vs
 induction vs with
 |nil=>intro i cs;refine⟨rfl,fun j=> ?_⟩;rw[if_neg (by simp;omega)];rfl
 |cons v r ih=>
  intro i cs
  obtain⟨h1,h2⟩:=ih (i+1) (cs.setIfInBounds (off+i) v)
  simp only[List.zipIdx_cons,List.foldl_cons]
  refine⟨by rw[h1];simp,fun j=> ?_⟩
  rw[h2 j]
  simp only[Array.size_setIfInBounds,List.length_cons]
  by_cases c:off+(i+1)≤j∧j<off+(i+1)+r.length∧j<cs.size
  ·rw[if_pos c,if_pos (by omega)]
   have:j-(off+i)=(j-(off+(i+1)))+1:=by omega
   rw[this,List.getElem?_cons_succ]
  ·rw[if_neg c,Array.getElem?_setIfInBounds]
   by_cases e:off+i=j
   ·subst e
    by_cases hl:off+i<cs.size
    ·rw[if_pos rfl,if_pos hl,if_pos (by omega)];simp
    ·rw[if_pos rfl,if_neg hl,if_neg (by omega)];simp;omega
   ·rw[if_neg e,if_neg (by omega)]
theorem splice_length (cs:List AVal) (o:Nat) (vs:List AVal) (h:o+vs.length≤cs.length):(splice cs o vs).length=cs.length:=by
 simp[splice];omega
theorem splice_get (cs:List AVal) (o:Nat) (vs:List AVal) (h:o+vs.length≤cs.length) (j:Nat):
  (splice cs o vs)[j]? =if o≤j∧j<o+vs.length then vs[j-o]? else cs[j]? :=by
 unfold splice
 by_cases h1:j<o
 ·rw[if_neg (by omega),List.append_assoc,List.getElem?_append_left (by simp;omega),List.getElem?_take,if_pos h1]
 ·by_cases h2:j<o+vs.length
  ·rw[if_pos (by omega),List.append_assoc,List.getElem?_append_right (by simp;omega),List.getElem?_append_left (by simp;omega)]
   simp[Nat.min_eq_left (by omega:o≤cs.length)]
  ·rw[if_neg (by omega),List.getElem?_append_right (by simp;omega),List.getElem?_drop]
   congr 1
   simp
   omega
theorem rep_splice {cs vs:Array Value} {as bs:List AVal} {off:Nat} {ds:Array Value} (hr:∀j,RepC I (cs.getD j undef) (as.getD j .top)) (hl:cs.size=as.length)
  (hv:∀j,RepC I (vs.getD j undef) (bs.getD j .top)) (hvl:vs.size=bs.length) (hle:off+bs.length≤as.length)
  (hd:ds.size=cs.size∧∀j,ds[j]? =if off≤j∧j<off+vs.size∧j<cs.size then vs[j-off]? else cs[j]?):
  ds.size=(splice as off bs).length∧∀j,RepC I (ds.getD j undef) ((splice as off bs).getD j .top):=by
 refine⟨by rw[splice_length _ _ _ hle,hd.1,hl],fun j=> ?_⟩
 simp only[Array.getD_eq_getD_getElem?,List.getD_eq_getElem?_getD]at*
 rw[hd.2 j,splice_get _ _ _ hle]
 by_cases h:off≤j∧j<off+bs.length
 ·rw[if_pos (by omega),if_pos h]
  exact hv (j-off)
 ·rw[if_neg (by omega),if_neg h]
  exact hr j
theorem run_places (w:World):∀(fs:List Field) (pl:List (Nat × Nat)),allPlaces P fs=some pl→
  (fs.mapM (fun f=>do pure (f.offset,←sizeOf f.type):Field→Sem (Nat × Nat))).run P w=.ok pl w
 | [],pl,h=>by simp only[allPlaces,Option.some.injEq]at h;subst h;simp
 |f::r,pl,h=>by
  simp only[allPlaces]at h
  cases hs:tSize P f.type with
  |none=>rw[hs]at h;cases h
  |some n=>
   cases hp:allPlaces P r with
   |none=>rw[hs,hp]at h;cases h
   |some l=>
    rw[hs,hp]at h
    simp only[Option.some.injEq]at h
    subst h
    obtain⟨i,hi,hin⟩:=info_of_tSize hs
    have ih:=run_places w r l hp
    have h1:(do pure (f.offset,←sizeOf f.type):Sem (Nat × Nat)).run P w=.ok (f.offset,n) w:=by
     simp[sizeOf,typeInfo,hi,hin]
    rw[List.mapM_cons,Sem.run_bind,h1,Result.andThen_ok,Sem.run_bind,ih,Result.andThen_ok]
    rfl
theorem fill_sound {ev:Opd→Ent} {rv:Operand→Value} (hev:∀{x:Operand} {y:Opd},ofOpd x=some y→EntVal I bx (rv x) (ev y)) (pl:List (Nat × Nat)):
  ∀(parts:List (Nat × Operand)) (ps:List (Nat × Nat × Opd)) (qs:List (Nat × Nat × AVal)) (cells:Array Value) (as:List AVal) (cs:List AVal),
   places pl parts=some ps→partV ev ps=some qs→fillV as qs=some cs→cells.size=as.length→(∀j,RepC I (cells.getD j undef) (as.getD j .top))→
   ∃ds,Instr.fill (pl[·]?) cells (parts.map fun(i,x)=>(i,rv x))=some ds∧ds.size=cs.length∧∀j,RepC I (ds.getD j undef) (cs.getD j .top)
 | [],ps,qs,cells,as,cs,h1,h2,h3,hl,hr=>by
  simp only[places,Option.some.injEq]at h1
  subst h1
  simp only[partV,Option.some.injEq]at h2
  subst h2
  simp only[fillV,Option.some.injEq]at h3
  subst h3
  exact⟨cells,rfl,hl,hr⟩
 |(i,x)::r,ps,qs,cells,as,cs,h1,h2,h3,hl,hr=>by
  simp only[places]at h1
  cases hi:pl[i]? with
  |none=>rw[hi]at h1;cases h1
  |some p=>
   obtain⟨off,n⟩:=p
   cases hx:ofOpd x with
   |none=>rw[hi,hx]at h1;cases h1
   |some y=>
    cases hrest:places pl r with
    |none=>rw[hi,hx,hrest]at h1;cases h1
    |some ps'=>
     rw[hi,hx,hrest]at h1
     simp only[Option.some.injEq]at h1
     subst h1
     have hv:=hev hx
     simp only[partV]at h2
     generalize ev y=e at hv h2
     cases e with
     |box c=>exact hv.elim
     |lptr s o=>simp at h2
     |val b=>
      cases hq:partV ev ps' with
      |none=>rw[hq]at h2;simp at h2
      |some qs'=>
       rw[hq]at h2
       simp only[Option.some.injEq]at h2
       subst h2
       simp only[fillV]at h3
       split at h3
       case isFalse=>cases h3
       rename_i hc
       obtain⟨c1,c2,c3⟩:=hc
       obtain⟨k1,k2,k3⟩:=RepC.cells_of hv c2
       have hf:=foldl_set off (rv x).cells.toList 0 cells
       obtain⟨f1,f2⟩:=hf
       have hfold:((rv x).cells.zipIdx.foldl (fun(cs:Array Value) (p:Value × Nat)=>cs.setIfInBounds (off+p.2) p.1) cells)=
         (((rv x).cells.toList.zipIdx 0).foldl (fun(cs:Array Value) (p:Value × Nat)=>cs.setIfInBounds (off+p.2) p.1) cells):=by
        rw[←Array.foldl_toList,Array.toList_zipIdx]
       generalize hds:(((rv x).cells.toList.zipIdx 0).foldl (fun(cs:Array Value) (p:Value × Nat)=>cs.setIfInBounds (off+p.2) p.1) cells)=ds at hfold f1 f2
       obtain⟨g1,g2⟩:=rep_splice (ds:=ds) (off:=off) hr hl k2 k1 (by omega) ⟨f1,fun j=>by
        rw[f2 j];simp⟩
       obtain⟨es,he,hes,her⟩:=fill_sound hev pl r ps' qs' ds (splice as off b.cells) cs hrest hq h3 g1 g2
       refine⟨es,?_,hes,her⟩
       simp only[List.map_cons,Instr.fill,hi]
       have hcond:¬((rv x).cells.size≠n∨off+(rv x).cells.size>cells.size):=by
        rw[k1,hl];omega
       simp only[ne_eq,decide_not,Bool.or_eq_true,Bool.not_eq_eq_eq_not,Bool.not_true,decide_eq_false_iff_not,gt_iff_lt,decide_eq_true_eq]
       rw[if_neg (by simpa using hcond),hfold]
       exact he
theorem gives_build (st:St E I σ env bx a w) {t:TypeId} {parts:Array (Nat × Operand)} {fs:Array Field} {z:AVal} {pl:List (Nat × Nat)} {ps:List (Nat × Nat × Opd)}
  (ho:o.op=.build t parts) (hu:P.underlying t=some (.struct fs)) (hz:tZero P t=some z) (hpl:allPlaces P fs.toList=some pl) (hps:places pl parts.toList=some ps)
  {e:Ent} (hp:pureV env (.build z.cells ps)=some e):Gives P I bx a o e:=by
 obtain⟨i,zv,hi,hzv,hof⟩:∃i zv,P.info? t=some i∧i.zero=some zv∧ofV zv=some z:=by
  unfold tZero at hz
  split at hz
  ·rename_i i hi
   split at hz
   ·rename_i zv hzv
    exact⟨i,zv,hi,hzv,hz⟩
   ·cases hz
  ·cases hz
 have hrep:=ofV_sound (I:=I) zv z hof
 have hzc:zv.cells.size=z.cells.length∧∀j,RepC I (zv.cells.getD j undef) (z.cells.getD j .top):=by
  by_cases hx:∃cs,z=.agg cs
  ·obtain⟨as,rfl⟩:=hx
   cases hrep with
   |agg cs _ hl hr=>exact⟨hl,hr⟩
  ·have hc:z.cells=[z]:=by cases z<;>first|rfl|exact absurd ⟨_,rfl⟩ hx
   have hvc:zv.cells= #[zv]:=by
    cases zv<;>first|rfl|skip
    rename_i cs
    obtain⟨cs⟩:=cs
    simp only[ofV]at hof
    split at hof
    ·simp only[Option.some.injEq]at hof;exact absurd ⟨_,hof.symm⟩ hx
    ·cases hof
   rw[hc,hvc]
   refine⟨rfl,fun j=> ?_⟩
   cases j with
   |zero=>exact hrep
   |succ j=>simpa using RepC.top _
 simp only[pureV]at hp
 cases hq:partV (evalOpd env) ps with
 |none=>rw[hq]at hp;cases hp
 |some qs=>
  rw[hq]at hp
  dsimp only at hp
  cases hf:fillV z.cells qs with
  |none=>rw[hf]at hp;cases hp
  |some cs=>
   rw[hf]at hp
   simp only[Option.some.injEq]at hp
   subst hp
   obtain⟨ds,h1,h2,h3⟩:=fill_sound (rv:=a.eval) (fun hx=>st.opd hx) pl parts.toList ps qs zv.cells z.cells cs hps hq hf hzc.1 hzc.2
   refine⟨.agg ds,fun W=> ?_,RepC.agg _ _ h2 h3⟩
   have hpr:(fs.mapM (fun f=>do pure (f.offset,←sizeOf f.type):Field→Sem (Nat × Nat))).run P W=.ok pl.toArray W:=by
    rw[Array.mapM_eq_mapM_toList]
    have:=run_places (P:=P) W fs.toList pl hpl
    rw[map_eq_pure_bind,Sem.run_bind,this]
    rfl
   have hzr:(zeroValue t).run P W=.ok zv W:=by simp[zeroValue,typeInfo,hi,hzv]
   have hfill:Instr.fill (fun x=>pl.toArray[x]?) zv.cells (parts.map fun(i,x)=>(i,a.eval x)).toList=some ds:=by
    have:(parts.map fun(i,x)=>(i,a.eval x)).toList=parts.toList.map fun(i,x)=>(i,a.eval x):=by simp
    rw[this]
    simpa using h1
   have hb:(Instr.build t (parts.map fun(i,x)=>(i,a.eval x))).run P W=.ok (.agg ds) W:=by
    unfold Instr.build
    simp only[Sem.run_bind,hzr,Result.andThen_ok,run_underlying hu,hpr,hfill]
    rfl
   simp only[execOp,ho,Sem.run_bind,hb,Result.andThen_ok]
   rfl
theorem fill_congr {f g:Nat→Option (Nat × Nat)}:∀(l:List (Nat × Value)) (cells:Array Value),(∀p∈l,f p.1=g p.1)→Instr.fill f cells l=Instr.fill g cells l
 | [],_,_=>rfl
 |(i,v)::r,cells,h=>by
  unfold Instr.fill
  rw[h (i,v) (List.mem_cons_self ..)]
  cases g i with
  |none=>rfl
  |some x=>
   obtain⟨off,size⟩:=x
   dsimp only
   split
   ·rfl
   ·exact fill_congr r _ fun p hp=>h p (List.mem_cons_of_mem _ hp)
theorem aplaces_places {sz:Nat} (N:Nat):∀(l:List (Nat × Operand)) (ps:List (Nat × Nat × Opd)),aplaces (some sz) l=some ps→(∀p∈l,p.1<N)→places ((List.range N).map fun i=>(i*sz,sz)) l=some ps
 | [],ps,h,_=>by simpa[aplaces,places]using h
 |(i,x)::r,ps,h,hN=>by
  unfold aplaces at h
  have hi:i<N:=hN (i,x) (List.mem_cons_self ..)
  split at h
  case h_2=>cases h
  rename_i sz' y as h1 h2 h3
  cases h1
  simp only[Option.some.injEq]at h
  subst h
  have:=aplaces_places N r as h3 fun p hp=>hN p (List.mem_cons_of_mem _ hp)
  unfold places
  rw[h2,this]
  simp[hi]
theorem gives_abuild (st:St E I σ env bx a w) {t e':TypeId} {parts:Array (Nat × Operand)} {n sz:Nat} {z:AVal} {ps:List (Nat × Nat × Opd)}
  (ho:o.op=.build t parts) (hu:P.underlying t=some (.array n e')) (hz:tZero P t=some z) (hs:tSize P e'=some sz) (hps:aplaces (some sz) parts.toList=some ps)
  {e:Ent} (hp:pureV env (.build z.cells ps)=some e):Gives P I bx a o e:=by
 obtain⟨i,zv,hi,hzv,hof⟩:∃i zv,P.info? t=some i∧i.zero=some zv∧ofV zv=some z:=by
  unfold tZero at hz
  split at hz
  ·rename_i i hi
   split at hz
   ·rename_i zv hzv
    exact⟨i,zv,hi,hzv,hz⟩
   ·cases hz
  ·cases hz
 have hrep:=ofV_sound (I:=I) zv z hof
 have hzc:zv.cells.size=z.cells.length∧∀j,RepC I (zv.cells.getD j undef) (z.cells.getD j .top):=by
  by_cases hx:∃cs,z=.agg cs
  ·obtain⟨as,rfl⟩:=hx
   cases hrep with
   |agg cs _ hl hr=>exact⟨hl,hr⟩
  ·have hc:z.cells=[z]:=by cases z<;>first|rfl|exact absurd ⟨_,rfl⟩ hx
   have hvc:zv.cells= #[zv]:=by
    cases zv<;>first|rfl|skip
    rename_i cs
    obtain⟨cs⟩:=cs
    simp only[ofV]at hof
    split at hof
    ·simp only[Option.some.injEq]at hof;exact absurd ⟨_,hof.symm⟩ hx
    ·cases hof
   rw[hc,hvc]
   refine⟨rfl,fun j=> ?_⟩
   cases j with
   |zero=>exact hrep
   |succ j=>simpa using RepC.top _
 obtain⟨is,his,hisz⟩:=info_of_tSize hs
 simp only[pureV]at hp
 cases hq:partV (evalOpd env) ps with
 |none=>rw[hq]at hp;cases hp
 |some qs=>
  rw[hq]at hp
  dsimp only at hp
  cases hf:fillV z.cells qs with
  |none=>rw[hf]at hp;cases hp
  |some cs=>
   rw[hf]at hp
   simp only[Option.some.injEq]at hp
   subst hp
   let N:=(parts.toList.map (·.1)).foldr max 0+1
   have hN:∀p∈parts.toList,p.1<N:=by
    intro p hp
    have:∀(l:List Nat) (x:Nat),x∈l→x≤l.foldr max 0:=by
     intro l
     induction l with
     |nil=>intro x hx;cases hx
     |cons y l ih=>
      intro x hx
      rcases List.mem_cons.1 hx with rfl|hx
      ·exact Nat.le_max_left _ _
      ·exact Nat.le_trans (ih x hx) (Nat.le_max_right _ _)
    exact Nat.lt_succ_of_le (this _ _ (List.mem_map_of_mem hp))
   obtain⟨ds,h1,h2,h3⟩:=fill_sound (rv:=a.eval) (fun hx=>st.opd hx) _ parts.toList ps qs zv.cells z.cells cs (aplaces_places N _ _ hps hN) hq hf hzc.1 hzc.2
   refine⟨.agg ds,fun W=> ?_,RepC.agg _ _ h2 h3⟩
   have hzr:(zeroValue t).run P W=.ok zv W:=by simp[zeroValue,typeInfo,hi,hzv]
   have hsr:(sizeOf e').run P W=.ok sz W:=by simp[sizeOf,typeInfo,his,hisz]
   have hfill:Instr.fill (fun x=>some (x*sz,sz)) zv.cells (parts.map fun(i,x)=>(i,a.eval x)).toList=some ds:=by
    have:(parts.map fun(i,x)=>(i,a.eval x)).toList=parts.toList.map fun(i,x)=>(i,a.eval x):=by simp
    rw[this,←h1]
    refine fill_congr _ _ fun p hp=> ?_
    obtain⟨q,hq,rfl⟩:=List.mem_map.1 hp
    have:=hN q hq
    simp[this]
   have hb:(Instr.build t (parts.map fun(i,x)=>(i,a.eval x))).run P W=.ok (.agg ds) W:=by
    unfold Instr.build
    simp only[Sem.run_bind,hzr,Result.andThen_ok,run_underlying hu,hsr,hfill]
    rfl
   simp only[execOp,ho,Sem.run_bind,hb,Result.andThen_ok]
   rfl
theorem arr_of_tArr {t e:TypeId} {n:Nat} (h:tArr P t=some (n,e)):P.underlying t=some (.array n e):=by
 unfold tArr at h
 split at h
 ·simp only[Option.some.injEq,Prod.mk.injEq]at h
  obtain⟨rfl,rfl⟩:=h
  assumption
 ·cases h
theorem gives_aelem (st:St E I σ env bx a w) {x:Operand} {y:Opd} {t e:TypeId} {n sz:Nat} {kk:IntKind} {j:Int} (ho:o.op=.indexAddr t x (.const (.int kk j))) (hx:ofOpd x=some y) (ht:tArr P t=some (n,e)) (hs:tSize P e=some sz)
  (hj:0≤j∧j<n) {q:Ent} (hp:pureV env (.foff (j.toNat*sz) y)=some q):Gives P I bx a o q:=by
 have hv:=st.opd hx
 simp only[pureV]at hp
 have hu:=arr_of_tArr ht
 obtain⟨i,hi,hin⟩:=info_of_tSize hs
 have hrun:∀ad W,a.eval x=.pointer (some ad)→(execOp a.eval o).run P W=.ok (.value (.pointer (some (ad.add (j.toNat*sz))))) W:=by
  intro ad W had
  have h1:a.eval (.const (.int kk j))=.int kk j:=rfl
  simp only[execOp,ho,had,h1,Instr.indexAt,asIntOf,Sem.run_bind,Sem.run_pure,Result.andThen_ok,run_underlying hu,Instr.sureAddr]
  rw[if_pos hj]
  simp[sizeOf,typeInfo,hi,hin]
 have hadd:∀(b k:Nat),(⟨b,k,none⟩:Addr).add (j.toNat*sz)=⟨b,k+j.toNat*sz,none⟩:=by
  intro b k;unfold Addr.add;split<;>simp_all
 generalize j.toNat*sz=off at hp hrun hadd
 generalize evalOpd env y=ev at hp hv
 cases ev with
 |box c=>exact hv.elim
 |lptr s0 off0=>
  simp only[Option.some.injEq]at hp
  subst hp
  exact⟨_,fun W=>hrun _ W hv,by simp[EntVal,hadd]⟩
 |val t=>
  cases t<;>simp only[Option.some.injEq,reduceCtorEq]at hp
  ·subst hp
   have he:=RepC.ptr_inv hv
   exact⟨_,fun W=>hrun _ W he,by rw[hadd];exact RepC.ptr _ _⟩
  ·subst hp
   simp only[EntVal]at hv
   generalize hz:a.eval x=z at hv
   cases hv with
   |sptr b k cs vs h hr=>
    refine⟨_,fun W=>hrun _ W hz,?_⟩
    rw[hadd]
    refine RepC.sptr _ _ _ (fun j=>vs (off+j)) (fun j hj=> ?_) (fun j=> ?_)
    ·rw[Nat.add_assoc]
     exact h _ (by simp at hj;omega)
    ·have:=hr (off+j)
     simpa[List.getD_eq_getElem?_getD,List.getElem?_drop]using this
theorem gives_aidx (st:St E I σ env bx a w) {x z:Operand} {y u:Opd} {t e:TypeId} {n sz:Nat} (ho:o.op=.indexAddr t x z) (hx:ofOpd x=some y) (hi':ofOpd z=some u) (ht:tArr P t=some (n,e)) (hs:tSize P e=some sz)
  {q:Ent} (hp:pureV env (.aidx n sz y u)=some q):Gives P I bx a o q:=by
 have hv:=st.opd hx
 have hiv:=st.opd hi'
 simp only[pureV]at hp
 have hu:=arr_of_tArr ht
 obtain⟨i,hi,hin⟩:=info_of_tSize hs
 generalize evalOpd env u=eu at hp hiv
 split at hp
 case h_2=>cases hp
 rename_i kk j
 split at hp
 case isFalse=>cases hp
 rename_i hj
 have hz0:a.eval z=.int kk j:=RepC.int_inv hiv
 have hrun:∀ad W,a.eval x=.pointer (some ad)→(execOp a.eval o).run P W=.ok (.value (.pointer (some (ad.add (j.toNat*sz))))) W:=by
  intro ad W had
  simp only[execOp,ho,had,hz0,Instr.indexAt,asIntOf,Sem.run_bind,Sem.run_pure,Result.andThen_ok,run_underlying hu,Instr.sureAddr]
  rw[if_pos hj]
  simp[sizeOf,typeInfo,hi,hin]
 have hadd:∀(b k:Nat),(⟨b,k,none⟩:Addr).add (j.toNat*sz)=⟨b,k+j.toNat*sz,none⟩:=by
  intro b k;unfold Addr.add;split<;>simp_all
 generalize j.toNat*sz=off at hp hrun hadd
 generalize evalOpd env y=ev at hp hv
 cases ev with
 |box c=>exact hv.elim
 |lptr s0 off0=>
  simp only[Option.some.injEq]at hp
  subst hp
  exact⟨_,fun W=>hrun _ W hv,by simp[EntVal,hadd]⟩
 |val t=>
  cases t<;>simp only[Option.some.injEq,reduceCtorEq]at hp
  ·subst hp
   have he:=RepC.ptr_inv hv
   exact⟨_,fun W=>hrun _ W he,by rw[hadd];exact RepC.ptr _ _⟩
  ·subst hp
   simp only[EntVal]at hv
   generalize hz:a.eval x=z at hv
   cases hv with
   |sptr b k cs vs h hr=>
    refine⟨_,fun W=>hrun _ W hz,?_⟩
    rw[hadd]
    refine RepC.sptr _ _ _ (fun j=>vs (off+j)) (fun j hj=> ?_) (fun j=> ?_)
    ·rw[Nat.add_assoc]
     exact h _ (by simp at hj;omega)
    ·have:=hr (off+j)
     simpa[List.getD_eq_getElem?_getD,List.getElem?_drop]using this
theorem gives_arr (st:St E I σ env bx a w) {x:Operand} {y:Opd} {t e:TypeId} {n:Nat} {sz:Nat} (ho:o.op=.slice t x none none none) (hx:ofOpd x=some y) (ht:tArr P t=some (n,e)) (hs:tSize P e=some sz)
  {q:Ent} (hp:pureV env (.arr n y)=some q):Gives P I bx a o q:=by
 have hv:=st.opd hx
 simp only[pureV]at hp
 have hu:=arr_of_tArr ht
 generalize evalOpd env y=ev at hp hv
 split at hp
 ·rename_i b off
  split at hp
  ·rename_i hn
   simp only[Option.some.injEq]at hp
   subst hp
   have he:=RepC.ptr_inv hv
   refine⟨.slice (some ⟨b,off,none⟩) n n,fun W=> ?_,RepC.ref _ _ _ _ (Nat.le_refl _) hn⟩
   have hadd:(⟨b,off,none⟩:Addr).add 0=⟨b,off,none⟩:=by unfold Addr.add;split<;>simp_all
   obtain⟨i,hi,hin⟩:=info_of_tSize hs
   have hsz:(sizeOf e).run P W=.ok i.size W:=by simp[sizeOf,typeInfo,hi]
   simp[execOp,ho,he,Instr.sliceAt,run_underlying hu,Instr.sureAddr,Instr.sliceBounds,hsz,hadd]
  ·cases hp
 ·cases hp
theorem gives_aget (st:St E I σ env bx a w) {x i:Operand} {y z:Opd} {t e':TypeId} {m n:Nat} {agg:Bool} (ho:o.op=.index t x i) (hx:ofOpd x=some y) (hi:ofOpd i=some z) (hu:P.underlying t=some (.array m e')) (hn:tLay P e'=some (agg,n)) (hsn:tSize P e'=some n)
  {e:Ent} (hp:pureV env (.aget m n agg y z)=some e):Gives P I bx a o e:=by
 have hv:=st.opd hx
 have hw:=st.opd hi
 simp only[pureV]at hp
 generalize evalOpd env y=ev at hp hv
 generalize evalOpd env z=ew at hp hw
 cases ev with
 |box c=>exact hv.elim
 |lptr q off=>simp at hp
 |val s=>
  cases ew with
  |box c=>exact hw.elim
  |lptr q off=>cases s<;>simp at hp
  |val r=>
   cases s<;>cases r<;>simp only[reduceCtorEq]at hp
   rename_i as k j
   split at hp
   case isFalse=>cases hp
   rename_i hc
   obtain⟨h0,h1,hle⟩:=hc
   simp only[Option.some.injEq]at hp
   subst hp
   simp only[EntVal]at hv
   have he:=RepC.int_inv hw
   generalize hz:a.eval x=zz at hv
   cases hv with
   |agg cs as' hl hr=>
    rcases lay_of hn with⟨rfl,⟨q,hq,hsz⟩,hk⟩|⟨rfl,rfl,⟨q,hq⟩,d,hd,h3,h4⟩
    ·refine⟨.agg (cs.extract (j.toNat*n) (j.toNat*n+n)),fun W=> ?_,rep_drop_take hr hl hle⟩
     rcases hk with⟨gs,hk⟩|⟨k',q',hk⟩<;>
      simp[execOp,ho,hz,he,Instr.index,asIntOf,run_underlying hu,h0,h1,part,isAgg,run_underlying hk,sizeOf,typeInfo,hq,hsz]
    ·have hlt:j.toNat<cs.size:=by omega
     have hc:cs[j.toNat]? =some cs[j.toNat]:=Array.getElem?_eq_getElem hlt
     have hs1:q.size=1:=by
      unfold tSize at hsn
      rw[hq]at hsn
      simpa using hsn
     refine⟨cs[j.toNat],fun W=> ?_,?_⟩
     ·have ha:(isAgg e').run P W=.ok false W:=by
       simp only[isAgg,Sem.run_bind,run_underlying hd,Result.andThen_ok]
       cases d<;>simp_all
      simp[execOp,ho,hz,he,Instr.index,asIntOf,run_underlying hu,h0,h1,part,ha,sizeOf,typeInfo,hq,hs1,hc]
     ·have:=hr j.toNat
      have hla:j.toNat<as.length:=by omega
      simp only[Array.getD_eq_getD_getElem?,List.getD_eq_getElem?_getD,hc,List.getElem?_eq_getElem hla,Option.getD_some]at this
      show RepC I _ _
      have hd1:mkv false ((as.drop (j.toNat*1)).take 1)=as[j.toNat]:=by
       rw[Nat.mul_one,List.drop_eq_getElem_cons hla];rfl
      rw[hd1]
      exact this
theorem gives_tassert (st:St E I σ env bx a w) {x:Operand} {y:Opd} {xt t:TypeId} {u:TypeId} (ho:o.op=.typeAssert x xt t true) (hx:ofOpd x=some y) (hu:P.underlying t=some (.pointer u)) (hz:tZero P t=some .nilP)
  {e:Ent} (hp:pureV env (.tassert t y)=some e):Gives P I bx a o e:=by
 have hv:=st.opd hx
 obtain⟨i,zv,hi,hzv,hof⟩:∃i zv,P.info? t=some i∧i.zero=some zv∧ofV zv=some .nilP:=by
  unfold tZero at hz
  split at hz
  ·rename_i i hi
   split at hz
   ·rename_i z hzz
    exact⟨i,z,hi,hzz,hz⟩
   ·cases hz
  ·cases hz
 have hzp:zv=.pointer none:=by
  unfold ofV at hof
  split at hof
  case h_4=>rfl
  case h_9=>split at hof<;>cases hof
  all_goals cases hof
 subst hzp
 have hzr:∀W,(zeroValue t).run P W=.ok (.pointer none) W:=fun W=>by simp[zeroValue,typeInfo,hi,hzv]
 simp only[pureV]at hp
 generalize evalOpd env y=ev at hp hv
 cases ev with
 |box c=>exact hv.elim
 |lptr q off=>simp at hp
 |val s=>
  cases s<;>simp only[reduceCtorEq]at hp
  ·rename_i k v
   simp only[Option.some.injEq]at hp
   subst hp
   simp only[EntVal]at hv
   generalize hzz:a.eval x=zz at hv
   cases hv with
   |iface _ vv _ hr=>
    by_cases hk:k=t
    ·rw[if_pos hk]
     refine⟨.tuple #[vv,.bool true],fun W=> ?_,RepC.tuple _ _ rfl fun j=> ?_⟩
     ·simp[execOp,ho,hzz,Instr.typeAssert,run_underlying hu,hk]
     ·match j with
      |0=>exact hr
      |1=>exact RepC.bool _
      |j+2=>exact RepC.top _
    ·rw[if_neg hk]
     refine⟨.tuple #[.pointer none,.bool false],fun W=> ?_,RepC.tuple _ _ rfl fun j=> ?_⟩
     ·simp[execOp,ho,hzz,Instr.typeAssert,run_underlying hu,hk,hzr]
     ·match j with
      |0=>exact RepC.nilP
      |1=>exact RepC.bool _
      |j+2=>exact RepC.top _
  ·simp only[Option.some.injEq]at hp
   subst hp
   simp only[EntVal]at hv
   generalize hzz:a.eval x=zz at hv
   cases hv with
   |nilI=>
    refine⟨.tuple #[.pointer none,.bool false],fun W=> ?_,RepC.tuple _ _ rfl fun j=> ?_⟩
    ·simp[execOp,ho,hzz,Instr.typeAssert,run_underlying hu,hzr]
    ·match j with
     |0=>exact RepC.nilP
     |1=>exact RepC.bool _
     |j+2=>exact RepC.top _
theorem gives_pure (st:St E I σ env bx a w) {esc:List Nat} {ao:AOp} (hc:ofOp P esc o.dst o.op=some ao) {e:Ent} (hp:pureV env ao=some e):Gives P I bx a o e:=by
 cases ho:o.op
 all_goals simp only[ho,ofOp]at hc
 case move x=>
  split at hc
  ·simp only[Option.some.injEq]at hc;subst hc;simp only[pureV,Option.some.injEq]at hp;subst hp;exact gives_move st (.inl ho) ‹_›
  ·cases hc
 case assign x=>
  split at hc
  ·simp only[Option.some.injEq]at hc;subst hc;simp only[pureV,Option.some.injEq]at hp;subst hp;exact gives_move st (.inr ho) ‹_›
  ·cases hc
 case nilCheck x=>
  split at hc
  ·simp only[Option.some.injEq]at hc;subst hc;exact gives_nilCheck st ho ‹_› hp
  ·cases hc
 case binOp op t x y t2=>
  split at hc
  ·simp only[Option.some.injEq]at hc;subst hc;exact gives_bin st ho ‹_› ‹_› hp
  ·cases hc
 case unOp op t x=>
  cases op<;>simp only[reduceCtorEq]at hc
  ·split at hc
   ·simp only[Option.some.injEq]at hc;subst hc;exact gives_neg st ho ‹_› hp
   ·cases hc
  ·split at hc
   ·simp only[Option.some.injEq]at hc;subst hc;exact gives_not st ho ‹_› hp
   ·cases hc
 case convert s d x=>
  split at hc
  ·rename_i hsd
   subst hsd
   split at hc
   ·split at hc
    ·simp only[Option.some.injEq]at hc;subst hc;simp[pureV]at hp
    ·cases hc
   ·simp only[Option.some.injEq]at hc;subst hc;exact gives_same st ho ‹_› ‹_› ‹_› hp
   ·simp only[Option.some.injEq]at hc;subst hc;exact gives_convInt st ho ‹_› ‹_› ‹_› hp
   ·cases hc
  split at hc
  ·simp only[Option.some.injEq]at hc;subst hc;exact gives_convInt st ho ‹_› ‹_› ‹_› hp
  ·simp only[Option.some.injEq]at hc;subst hc;exact gives_same st ho ‹_› ‹_› ‹_› hp
  ·split at hc
   ·simp only[Option.some.injEq]at hc;subst hc;simp[pureV]at hp
   ·cases hc
  ·split at hc
   ·simp only[Option.some.injEq]at hc;subst hc;simp[pureV]at hp
   ·cases hc
  ·cases hc
 case makeMap t r=>
  cases r with
  |none=>simp only[Option.some.injEq]at hc;subst hc;simp[pureV]at hp
  |some r=>cases hc
 case next x b=>
  cases b with
  |true=>cases hc
  |false=>
   dsimp only at hc
   split at hc
   ·simp only[Option.some.injEq]at hc;subst hc;simp[pureV]at hp
   ·cases hc
 case indexAddr t x i=>
  split at hc
  ·split at hc
   ·split at hc
    ·simp only[Option.some.injEq]at hc;subst hc;exact gives_aelem st ho ‹_› ‹_› ‹_› ‹_› hp
    ·cases hc
   ·simp only[Option.some.injEq]at hc;subst hc;exact gives_aidx st ho ‹_› rfl ‹_› ‹_› hp
   ·cases hc
  ·repeat' (split at hc)
   all_goals first
    |cases hc;done
    |(simp only[Option.some.injEq]at hc;subst hc;simp[pureV]at hp;done)
 case slice t x lo hi mx=>
  split at hc
  ·split at hc
   ·simp only[Option.some.injEq]at hc;subst hc;exact gives_arr st ho ‹_› ‹_› ‹_› hp
   ·cases hc
  ·repeat' (split at hc)
   all_goals first
    |cases hc;done
    |(simp only[Option.some.injEq]at hc;subst hc;simp[pureV]at hp;done)
 case makeInterface t x=>
  split at hc
  ·cases hc
  ·rename_i u h1 h2 h3
   simp only[Option.some.injEq]at hc;subst hc
   exact gives_iface st ho h2 h3 (fun ms he=>h1 ms he) hp
  ·cases hc
 case makeFunc fn f c=>
  split at hc
  ·simp only[Option.some.injEq]at hc;subst hc;exact gives_mkFunc st ho ‹_› ‹_› hp
  ·cases hc
 case fieldAddr s x f=>
  split at hc
  ·split at hc
   ·simp only[Option.some.injEq]at hc;subst hc;exact gives_foff st ho ‹_› ‹_› ‹_› hp
   ·cases hc
  ·cases hc
 case field s x f=>
  split at hc
  ·split at hc
   ·simp only[Option.some.injEq]at hc;subst hc;exact gives_field st ho ‹_› ‹_› ‹_› hp
   ·cases hc
  ·cases hc
 case extract x i=>
  split at hc
  ·simp only[Option.some.injEq]at hc;subst hc;exact gives_extract st ho ‹_› hp
  ·cases hc
 case index t x i=>
  split at hc
  ·simp only[Option.some.injEq]at hc;subst hc;simp[pureV]at hp
  ·split at hc
   ·split at hc
    ·rename_i hs hns
     subst hns
     simp only[Option.some.injEq]at hc;subst hc;exact gives_aget st ho ‹_› ‹_› ‹_› ‹_› hs hp
    ·cases hc
   ·cases hc
  ·cases hc
 case typeAssert x xt t ok=>
  cases ok with
  |false=>cases hc
  |true=>
   dsimp only at hc
   split at hc
   ·simp only[Option.some.injEq]at hc;subst hc;exact gives_tassert st ho ‹_› ‹_› ‹_› hp
   ·cases hc
 case build t parts=>
  split at hc
  ·split at hc
   ·split at hc
    ·simp only[Option.some.injEq]at hc;subst hc;exact gives_build st ho ‹_› ‹_› ‹_› ‹_› hp
    ·cases hc
   ·cases hc
  ·split at hc
   ·rename_i hs hps
    simp only[Option.some.injEq]at hc;subst hc
    rw[hs]at hps
    exact gives_abuild st ho ‹_› ‹_› hs hps hp
   ·cases hc
  ·cases hc
 case call c=>
  obtain⟨callee,⟨args⟩,⟨argTypes⟩⟩:=c
  split at hc
  case h_2=>cases hc
  rename_i o' hc'
  simp only[Option.some.injEq]at hc
  have hoo:ao=o':=by
   subst hc
   split at hp
   ·rename_i hm
    rw[if_pos hm]
    cases o'<;>first|rfl|(simp only[AOp.onto,pureV,reduceCtorEq]at hp)
   ·rename_i hm;rw[if_neg hm]
  subst hoo
  replace hc:=hc'
  clear hc'
  simp only[ofCall]at hc
  split at hc
  ·split at hc
   ·split at hc
    ·split at hc
     ·simp only[Option.some.injEq]at hc;subst hc;simp[pureV]at hp
     ·cases hc
    ·cases hc
   ·split at hc
    ·simp only[Option.some.injEq]at hc;subst hc;simp[pureV]at hp
    ·cases hc
  ·rename_i b
   cases b<;>simp only[ofBuiltin,reduceCtorEq]at hc
   case append=>
    repeat' (split at hc)
    all_goals first
     |cases hc;done
     |(simp only[Option.some.injEq]at hc;subst hc;simp[pureV]at hp;done)
   case cap=>
    repeat' (split at hc)
    all_goals first
     |cases hc;done
     |(simp only[Option.some.injEq]at hc;subst hc;simp[pureV]at hp;done)
   case delete=>
    repeat' (split at hc)
    all_goals first
     |cases hc;done
     |(simp only[Option.some.injEq]at hc;subst hc;simp[pureV]at hp;done)
   case clear=>
    repeat' (split at hc)
    all_goals first
     |cases hc;done
     |(simp only[Option.some.injEq]at hc;subst hc;simp[pureV]at hp;done)
   case len=>
    split at hc
    ·split at hc
     ·simp only[Option.some.injEq]at hc;subst hc;exact gives_len st ho ‹_› ‹_› hp
     ·simp only[Option.some.injEq]at hc;subst hc;exact gives_lenStr st ho ‹_› ‹_› hp
     ·simp only[Option.some.injEq]at hc;subst hc;simp[pureV]at hp
     ·cases hc
    ·cases hc
   case min=>
    split at hc
    ·split at hc
     ·simp only[Option.some.injEq]at hc;subst hc;exact gives_min st ho ‹_› ‹_› hp
     ·cases hc
    ·cases hc
   case max=>
    split at hc
    ·split at hc
     ·simp only[Option.some.injEq]at hc;subst hc;exact gives_max st ho ‹_› ‹_› hp
     ·cases hc
    ·split at hc
     ·simp only[Option.some.injEq]at hc;subst hc;exact gives_max3 st ho ‹_› ‹_› ‹_› hp
     ·cases hc
    ·cases hc
  ·split at hc
   ·simp only[Option.some.injEq]at hc;subst hc;simp[pureV]at hp
   ·cases hc
 all_goals
  repeat' (split at hc)
  all_goals first
   |cases hc;done
   |(simp only[Option.some.injEq]at hc;subst hc;simp[pureV]at hp;done)
end
end Go.AL
