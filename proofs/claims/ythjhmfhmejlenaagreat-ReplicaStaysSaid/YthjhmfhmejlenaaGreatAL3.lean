/-
  AN ABSTRACT LOGIC OVER THE MODEL, part 3: operations that hang on the slots alone, one by one.
-/
import Derived.Test.YthjhmfhmejlenaaGreatAL0
set_option linter.unusedSectionVars false
set_option linter.unusedVariables false
set_option linter.unusedSimpArgs false
section
namespace Go.bO
open Go.RowKit
section
variable {P:Program} {E:Entry} {I:cf} {ag:a8} {env:bt} {bK:Nat→Nat} {a:Act} {w:World} {o:Oper}
def hf (P:Program) (I:cf) (bK:Nat→Nat) (a:Act) (o:Oper) (e:aJ):Prop:=∃v,(∀W,(execOp a.eval o).run P W=.ok (.value v) W)∧gR I bK v e
theorem Yv (st:cx E I ag env bK a w) {x:Operand} {y:aG} (ay:o.op=.move x∨o.op=.assign x) (ad:b8 x=some y):hf P I bK a o (a_ env y):=by
 refine⟨a.eval x,fun W=> ?_,st.dB ad⟩;rcases ay with ay|ay<;>simp[execOp,ay]
theorem al3 (st:cx E I ag env bK a w) {x:Operand} {y:aG} (ay:o.op=.nilCheck x) (ad:b8 x=some y) {e:aJ} (ae:bX env (.nilCheck y)=some e):hf P I bK a o e:=by
 have ar:=st.dB ad;have b6:∀l6,a.eval x=.pointer (some l6)→∀W,(execOp a.eval o).run P W=.ok (.value (a.eval x)) W:=fun l6 uY W=>by simp[execOp,ay,uY]
 simp only[bX]at ae;generalize a_ env y=ai at ae ar;cases ai with
 |box c=>exact ar.elim
 |b7 s off=>
  simp only[bk]at ae;subst ae;exact⟨a.eval x,b6 _ ar,ar⟩
 |val t=>
  have:∃l6,a.eval x=.pointer (some l6)∧e=.val t:=by
   simp only[gR]at ar;generalize a.eval x=z at ar;cases ar<;>simp only[bk,reduceCtorEq]at ae<;>subst ae<;>exact⟨_,rfl,rfl⟩
  obtain⟨l6,uY,rfl⟩:=this;exact⟨a.eval x,b6 l6 uY,ar⟩
theorem al4 (st:cx E I ag env bK a w) {x:Operand} {y:aG} {t:TypeId} (ay:o.op=.unOp .not t x) (ad:b8 x=some y) {e:aJ} (ae:bX env (.not y)=some e):hf P I bK a o e:=by
 have ar:=st.dB ad;simp only[bX]at ae;generalize a_ env y=ai at ae ar;cases ai with
 |box c=>exact ar.elim
 |b7 s off=>simp at ae
 |val t=>
  cases t<;>simp only[bk,reduceCtorEq]at ae;subst ae;have he:=aZ.Ey ar;exact⟨_,fun W=>by simp[execOp,ay,he,Op.unary],aZ.bool _⟩
theorem al2 (st:cx E I ag env bK a w) {x:Operand} {y:aG} {t:TypeId} (ay:o.op=.unOp .neg t x) (ad:b8 x=some y) {e:aJ} (ae:bX env (.neg y)=some e):hf P I bK a o e:=by
 have ar:=st.dB ad;simp only[bX]at ae;generalize a_ env y=ai at ae ar;cases ai with
 |box c=>exact ar.elim
 |b7 s off=>simp at ae
 |val t=>
  cases t<;>simp only[bk,reduceCtorEq]at ae;subst ae;have he:=aZ.mu ar;exact⟨_,fun W=>by simp[execOp,ay,he,Op.unary,Op.intArith],aZ.int _ _⟩
theorem Yu (st:cx E I ag env bK a w) {x:Operand} {y:aG} {s d:TypeId} {k k':IntKind} (ay:o.op=.convert s d x) (ad:b8 x=some y) (aQ:P.underlying d=some (.int k)) (hs:P.underlying s=some (.int k'))
  {e:aJ} (ae:bX env (.rR k y)=some e):hf P I bK a o e:=by
 have ar:=st.dB ad;simp only[bX]at ae;generalize a_ env y=ai at ae ar;cases ai with
 |box c=>exact ar.elim
 |b7 s off=>simp at ae
 |val t=>
  cases t<;>simp only[bk,reduceCtorEq]at ae;subst ae;have he:=aZ.mu ar;exact⟨_,fun W=>by simp[execOp,ay,he,convert,run_underlying aQ,run_underlying hs,Conv.intToInt],aZ.int _ _⟩
theorem Yw (st:cx E I ag env bK a w) {x:Operand} {y:aG} {s d:TypeId} (ay:o.op=.convert s d x) (ad:b8 x=some y) (aQ:P.underlying d=some .string) (hs:P.underlying s=some .string)
  {e:aJ} (ae:bX env (.same y)=some e):hf P I bK a o e:=by
 have ar:=st.dB ad;simp only[bX]at ae;generalize a_ env y=ai at ae ar;cases ai with
 |box c=>exact ar.elim
 |b7 s off=>simp at ae
 |val t=>
  cases t<;>simp only[bk,reduceCtorEq]at ae;subst ae;obtain⟨b,he,aj⟩:=aZ.qm ar;exact⟨_,fun W=>by simp[execOp,ay,he,convert,run_underlying aQ,run_underlying hs],aZ.str _ _ aj⟩
theorem alV (st:cx E I ag env bK a w) {x:Operand} {y:aG} {t:TypeId} {u:TypeDesc} (ay:o.op=.makeInterface t x) (ad:b8 x=some y) (aw:P.underlying t=some u) (hu:∀ms,u≠.interface ms)
  {e:aJ} (ae:bX env (.iface t y)=some e):hf P I bK a o e:=by
 have ar:=st.dB ad;simp only[bX]at ae;generalize a_ env y=ai at ae ar;cases ai with
 |box c=>exact ar.elim
 |b7 s off=>simp at ae
 |val z=>
  simp only[bk]at ae;subst ae;refine⟨.iface t (a.eval x),fun W=> ?_,aZ.iface _ _ _ ar⟩;cases u<;>simp[execOp,ay,Instr.makeInterface,run_underlying aw];exact absurd rfl (hu _)
theorem alU (st:cx E I ag env bK a w) {x:Operand} {y:aG} {s:TypeId} {f:Nat} {fd:Field} {n:Nat} (ay:o.op=.fieldAddr s x f) (ad:b8 x=some y) (ax:AB P s f=some fd) (aK:gC P fd.type=some (n+1))
  {e:aJ} (ae:bX env (.foff fd.offset y)=some e):hf P I bK a o e:=by
 have ar:=st.dB ad;simp only[bX]at ae;obtain⟨fs,hu,B2⟩:∃fs,P.underlying s=some (.struct fs)∧fs[f]? =some fd:=by
  unfold AB at ax;split at ax
  ·exact⟨_,‹_›,ax⟩
  ·cases ax
 obtain⟨i,hi,iH⟩:∃i,P.info? fd.type=some i∧i.size=n+1:=by
  unfold gC at aK;split at aK
  ·exact⟨_,‹_›,by simpa using aK⟩
  ·cases aK
 have b6:∀l6 W,a.eval x=.pointer (some l6)→(execOp a.eval o).run P W=.ok (.value (.pointer (some (l6.add fd.offset)))) W:=by
  intro l6 W uY;simp[execOp,ay,uY,Instr.fieldAt,run_underlying hu,B2,Instr.sureAddr,fieldPlace,sizeOf,typeInfo,hi,iH]
 have jY:∀(b k:Nat),(⟨b,k,none⟩:Addr).add fd.offset=⟨b,k+fd.offset,none⟩:=by
  intro b k;unfold Addr.add;split<;>simp_all
 generalize a_ env y=ai at ae ar;cases ai with
 |box c=>exact ar.elim
 |b7 q off=>
  simp only[bk]at ae;subst ae;exact⟨_,fun W=>b6 _ W ar,by simp[gR,jY]⟩
 |val t=>
  cases t<;>simp only[bk,reduceCtorEq]at ae
  ·subst ae;have he:=aZ.vG ar;exact⟨_,fun W=>b6 _ W he,by rw[jY];exact aZ.ptr _ _⟩
  ·subst ae;simp only[gR]at ar;generalize a':a.eval x=z at ar;cases ar with
   |dK b k cs vs h ah=>
    refine⟨_,fun W=>b6 _ W a',?_⟩;rw[jY];refine aZ.dK _ _ _ (fun j=>vs (fd.offset+j)) (fun j aU=> ?_) (fun j=> ?_)
    ·rw[ux];exact h _ (by simp at aU;omega)
    ·have:=ah (fd.offset+j);simpa[cM,k4]using this
theorem alS (st:cx E I ag env bK a w) {x:Operand} {y:aG} {i:Nat} (ay:o.op=.extract x i) (ad:b8 x=some y) {e:aJ} (ae:bX env (.extract y i)=some e):hf P I bK a o e:=by
 have ar:=st.dB ad;simp only[bX]at ae;generalize a_ env y=ai at ae ar;cases ai with
 |box c=>exact ar.elim
 |b7 q off=>simp at ae
 |val t=>
  cases t<;>simp only[reduceCtorEq]at ae;rename_i vs;cases q3:vs[i]? with
  |none=>rw[q3]at ae;cases ae
  |some z=>
   rw[q3]at ae;simp only[bk]at ae;subst ae;simp only[gR]at ar;generalize a':a.eval x=D2 at ar;cases ar with
   |tuple us as ak ah=>
    have bw:i<us.size:=by rw[ak];exact(hn.1 q3).1
    refine⟨us[i],fun W=> ?_,?_⟩
    ·simp[execOp,ay,a',Instr.extract,bw]
    ·have:=ah i;simp only[gl,cM,q3,ni bw,lL]at this;exact this
theorem HN {t e:TypeId} (h:qs P t=some e):P.underlying t=some (.slice e):=by
 unfold qs at h;split at h
 ·rename_i q aB;rw[aB];simp only[bk]at h;rw[h]
 ·cases h
theorem ov {t:TypeId} {n:Nat} (h:gC P t=some n):∃i,P.info? t=some i∧i.size=n:=by
 unfold gC at h;split at h
 ·exact⟨_,‹_›,by simpa using h⟩
 ·cases h
theorem auA {s:TypeId} {f:Nat} {fd:Field} (h:AB P s f=some fd):∃fs,P.underlying s=some (.struct fs)∧fs[f]? =some fd:=by
 unfold AB at h;split at h
 ·exact⟨_,‹_›,h⟩
 ·cases h
theorem Kv {t:TypeId} {agg:Bool} {n:Nat} (h:sP P t=some (agg,n)):
  (agg=true∧(∃i,P.info? t=some i∧i.size=n)∧((∃fs,P.underlying t=some (.struct fs))∨∃k e,P.underlying t=some (.array k e)))∨
  (agg=false∧n=1∧(∃i,P.info? t=some i)∧∃d,P.underlying t=some d∧(∀fs,d≠.struct fs)∧∀k e,d≠.array k e):=by
 unfold sP at h;split at h
 ·rename_i k aA hs;simp only[bk,Prod.mk.injEq]at h;obtain⟨rfl,rfl⟩:=h;refine .inl ⟨rfl,ov hs,?_⟩;unfold UJ at aA;split at aA
  ·exact .inl ⟨_,‹_›⟩
  ·exact .inr ⟨_,_,‹_›⟩
  ·cases aA
  ·cases aA
 ·rename_i k aA hs;simp only[bk,Prod.mk.injEq]at h;obtain⟨rfl,rfl⟩:=h;obtain⟨i,hi,_⟩:=ov hs;refine .inr ⟨rfl,rfl,⟨i,hi⟩,?_⟩;unfold UJ at aA;split at aA
  ·cases aA
  ·cases aA
  ·rename_i d U aa aQ;exact⟨d,aQ,fun fs e=>U fs e,fun k q e=>aa k q e⟩
  ·cases aA
 ·cases h
theorem aeR {cs:Array Value} {as:List ab} (ah:∀j,aZ I (cs.getD j undef) (as.getD j .top)) (ak:cs.size=as.length) {off n:Nat} (bz:off+n≤as.length):
  aZ I (.agg (cs.extract off (off+n))) (.agg ((as.drop off).take n)):=by
 refine .agg _ _ (by simp;omega) (fun j=> ?_)
 by_cases h:j<n
 ·have:=ah (off+j);simp only[gl,cM]at this⊢;rw[Array.getElem?_extract,l9,k4];simp only[h,if_true];have U:j<min (off+n) cs.size-off:=by omega
  simpa[U]using this
 ·have:((as.drop off).take n).getD j .top=.top:=by
   rw[cM,l9];simp[h]
  rw[this];exact .top _
theorem alT (st:cx E I ag env bK a w) {x:Operand} {y:aG} {s:TypeId} {f:Nat} {fd:Field} {n:Nat} {agg:Bool} (ay:o.op=.field s x f) (ad:b8 x=some y) (ax:AB P s f=some fd) (aK:sP P fd.type=some (agg,n))
  {e:aJ} (ae:bX env (.field fd.offset n agg y)=some e):hf P I bK a o e:=by
 have ar:=st.dB ad;obtain⟨fs,hu,B2⟩:=auA ax;simp only[bX]at ae;generalize a_ env y=ai at ae ar;cases ai with
 |box c=>exact ar.elim
 |b7 q off=>simp at ae
 |val t=>
  cases t<;>simp only[reduceCtorEq]at ae;rename_i as;split at ae
  case isFalse=>cases ae
  rename_i bz;simp only[bk]at ae;subst ae;simp only[gR]at ar;generalize a':a.eval x=D2 at ar;cases ar with
  |agg cs hC ak ah=>
   rcases Kv aK with⟨rfl,⟨i,hi,dj⟩,aq⟩|⟨rfl,rfl,⟨i,hi⟩,d,aQ,U,aa⟩
   ·refine⟨.agg (cs.extract fd.offset (fd.offset+n)),fun W=> ?_,aeR ah ak bz⟩;rcases aq with⟨gs,aq⟩|⟨k,q,aq⟩<;>
     simp[execOp,ay,a',Instr.field,run_underlying hu,B2,asAgg,part,isAgg,run_underlying aq,sizeOf,typeInfo,hi,dj]
   ·have bw:fd.offset<cs.size:=by omega
    have af:cs[fd.offset]? =some cs[fd.offset]:=ni bw;refine⟨cs[fd.offset],fun W=> ?_,?_⟩
    ·have aA:(isAgg fd.type).run P W=.ok false W:=by
      simp only[isAgg,Sem.run_bind,run_underlying aQ,Result.andThen_ok];cases d<;>simp_all
     simp[execOp,ay,a',Instr.field,run_underlying hu,B2,asAgg,part,aA,af]
    ·have:=ah fd.offset;have qX:fd.offset<as.length:=by omega
     simp only[gl,cM,af,eU qX,lL]at this;show aZ I _ _;have o9:gh false ((as.drop fd.offset).take 1)=as[fd.offset]:=by
      rw[OW qX];rfl
     rw[o9];exact this
theorem aZ.jb {v:Value} {xs:List ab} {nl:Bool} {tok:Option Nat} (h:aZ I v (.slice xs nl tok)):
  (v=.slice none 0 0∧xs=[]∧nl=true∧tok=none)∨
  (∃(b o cap sz:Nat) (vs:Nat→Nat→Value),v=.slice (some ⟨b,o,none⟩) xs.length cap∧nl=false∧xs.length≤cap∧cap≤maxLen∧(∀i,i<xs.length→(xs.getD i .top).cells.length=sz)∧
   (∀i j,i<xs.length→j<sz→I.cell b (o+(i*sz+j))=some (vs i j))∧(∀i j,aZ I (vs i j) ((xs.getD i .top).cells.getD j .top))∧
   (∀g,tok=some g→g=b∧o=0∧I.cap g=some (cap,sz)))∨
  ∃a:Addr,v=.slice (some a) 0 0∧xs=[]∧nl=false∧tok=none:=by
 cases h with
 |qg=>exact .inl ⟨rfl,rfl,rfl,rfl⟩
 |tZ a=>exact .inr (.inr ⟨a,rfl,rfl,rfl,rfl⟩)
 |slice b o n cap sz xs tok vs ak af hm hs h ah aw=>
  subst ak;exact .inr (.inl ⟨b,o,cap,sz,vs,rfl,rfl,af,hm,hs,h,ah,aw⟩)
theorem alW (st:cx E I ag env bK a w) {x:Operand} {y:aG} {t q:TypeId} (ay:o.op=.call {callee:=.builtin .len,args:=⟨[x]⟩,argTypes:=⟨[t]⟩}) (ad:b8 x=some y)
  (aw:P.underlying t=some (.slice q)) {e:aJ} (ae:bX env (.len y)=some e):hf P I bK a o e:=by
 have ar:=st.dB ad;simp only[bX]at ae;generalize a_ env y=ai at ae ar;cases ai with
 |box c=>exact ar.elim
 |b7 q off=>simp at ae
 |val z=>
  cases z<;>simp only[bk,reduceCtorEq]at ae
  rotate_left
  ·subst ae;cases xl:a.eval x<;>rw[xl]at ar<;>cases ar;exact⟨_,fun W=>by simp[execOp,ay,resolve,invoke,builtin,xl,Builtin.len_,run_underlying aw,goInt],aZ.int _ _⟩
  subst ae;rename_i xs nl tok;obtain⟨A,c,hq⟩:∃A c,a.eval x=.slice A xs.length c:=by
   rcases aZ.jb ar with⟨U,aa,_⟩|⟨b,off,cap,_,_,U,_⟩|⟨qF,U,aa,_⟩
   ·exact⟨none,0,by rw[U,aa];rfl⟩
   ·exact⟨_,_,U⟩
   ·exact⟨some qF,0,by rw[U,aa];rfl⟩
  exact⟨_,fun W=>by simp[execOp,ay,resolve,invoke,builtin,hq,Builtin.len_,run_underlying aw,goInt],aZ.int _ _⟩
theorem alX (st:cx E I ag env bK a w) {x:Operand} {y:aG} {t:TypeId} (ay:o.op=.call {callee:=.builtin .len,args:=⟨[x]⟩,argTypes:=⟨[t]⟩}) (ad:b8 x=some y)
  (aw:P.underlying t=some .string) {e:aJ} (ae:bX env (.tI y)=some e):hf P I bK a o e:=by
 have ar:=st.dB ad;simp only[bX]at ae;generalize a_ env y=ai at ae ar;cases ai with
 |box c=>exact ar.elim
 |b7 q off=>simp at ae
 |val z=>
  cases z<;>simp only[bk,reduceCtorEq]at ae;subst ae;obtain⟨s,he,hs⟩:=aZ.qm ar;have:s.size=s.data.toList.length:=by simp
  rw[hs]at this;exact⟨_,fun W=>by simp[execOp,ay,resolve,invoke,builtin,he,Builtin.len_,run_underlying aw,goInt,this],aZ.int _ _⟩
theorem al0 (st:cx E I ag env bK a w) {x z:Operand} {y u:aG} {ts:Array TypeId} (ay:o.op=.call {callee:=.builtin .min,args:=⟨[x,z]⟩,argTypes:=ts}) (ad:b8 x=some y) (a':b8 z=some u)
  {e:aJ} (ae:bX env (.min y u)=some e):hf P I bK a o e:=by
 have ar:=st.dB ad;have hu:=st.dB a';simp only[bX]at ae;generalize a_ env y=ai at ae ar;generalize a_ env u=BI at ae hu;split at ae
 ·simp only[bk]at ae;subst ae;have e1:=aZ.mu ar;have aN:=aZ.mu hu;exact⟨_,fun W=>by simp[execOp,ay,resolve,invoke,builtin,e1,aN,Builtin.min_,Builtin.min2],aZ.int _ _⟩
 ·cases ae
theorem alY (st:cx E I ag env bK a w) {x z:Operand} {y u:aG} {ts:Array TypeId} (ay:o.op=.call {callee:=.builtin .max,args:=⟨[x,z]⟩,argTypes:=ts}) (ad:b8 x=some y) (a':b8 z=some u)
  {e:aJ} (ae:bX env (.max y u)=some e):hf P I bK a o e:=by
 have ar:=st.dB ad;have hu:=st.dB a';simp only[bX]at ae;generalize a_ env y=ai at ae ar;generalize a_ env u=BI at ae hu;split at ae
 ·simp only[bk]at ae;subst ae;have e1:=aZ.mu ar;have aN:=aZ.mu hu;exact⟨_,fun W=>by simp[execOp,ay,resolve,invoke,builtin,e1,aN,Builtin.max_,Builtin.max2],aZ.int _ _⟩
 ·cases ae
theorem alZ (st:cx E I ag env bK a w) {x z q:Operand} {y u r:aG} {ts:Array TypeId} (ay:o.op=.call {callee:=.builtin .max,args:=⟨[x,z,q]⟩,argTypes:=ts}) (ad:b8 x=some y) (a':b8 z=some u) (aB:b8 q=some r)
  {e:aJ} (ae:bX env (.tM y u r)=some e):hf P I bK a o e:=by
 have ar:=st.dB ad;have hu:=st.dB a';have ah:=st.dB aB;simp only[bX]at ae;generalize a_ env y=ai at ae ar;generalize a_ env u=BI at ae hu;generalize a_ env r=rU at ae ah;split at ae
 ·simp only[bk]at ae;subst ae;have e1:=aZ.mu ar;have aN:=aZ.mu hu;have bL:=aZ.mu ah;exact⟨_,fun W=>by simp[execOp,ay,resolve,invoke,builtin,e1,aN,bL,Builtin.max_,Builtin.max2],aZ.int _ _⟩
 ·cases ae
theorem cx.bq (st:cx E I ag env bK a w):∀{xs:List Operand} {ys:List aG} {as:List ab},nL xs=some ys→iQ (ys.map (a_ env))=some as→
  (xs.map a.eval).length=as.length∧∀j,aZ I ((xs.map a.eval).getD j undef) (as.getD j .top)
 | [],ys,as,h,ar=>by
  simp only[nL,bk]at h;subst h;simp only[pK,iQ,bk]at ar;subst ar;exact⟨rfl,fun j=>by simpa using aZ.top _⟩
 |x::r,ys,as,h,ar=>by
  simp only[nL]at h;cases ad:b8 x with
  |none=>rw[ad]at h;cases h
  |some y=>
   cases ah:nL r with
   |none=>rw[ad,ah]at h;cases h
   |some en=>
    rw[ad,ah]at h;simp only[bk]at h;subst h;have U:=st.dB ad;simp only[gM]at ar;generalize a_ env y=ai at ar U;cases ai with
    |box c=>exact U.elim
    |b7 q off=>simp[iQ]at ar
    |val z=>
     simp only[iQ]at ar;cases sk:iQ (en.map (a_ env))with
     |none=>rw[sk]at ar;cases ar
     |some hC=>
      rw[sk]at ar;simp only[bk]at ar;subst ar;obtain⟨az,ao⟩:=st.bq ah sk;refine⟨by simpa using az,fun j=> ?_⟩
      cases j with
      |zero=>exact U
      |succ j=>have:=ao j;simpa using this
theorem cx.GP (st:cx E I ag env bK a w) {xs:Array Operand} {ys:List aG} {as:List ab} (h:nL xs.toList=some ys) (ar:iQ (ys.map (a_ env))=some as):
  (xs.map a.eval).size=as.length∧∀j,aZ I ((xs.map a.eval).getD j undef) (as.getD j .top):=by
 obtain⟨U,aa⟩:=st.bq h ar;refine⟨by simpa using U,fun j=> ?_⟩
 have:=aa j;simpa[gl,cM]using this
theorem al1 (st:cx E I ag env bK a w) {fn:Fn} {f c:Array Operand} {n_ bF:List aG} (ay:o.op=.makeFunc fn f c) (ax:nL f.toList=some n_) (af:nL c.toList=some bF)
  {e:aJ} (ae:bX env (.tN fn n_ bF)=some e):hf P I bK a o e:=by
 simp only[bX]at ae;split at ae
 ·rename_i fs cs U aa;simp only[bk]at ae;subst ae;obtain⟨az,ao⟩:=st.GP ax U;obtain⟨ep,dV⟩:=st.GP af aa;exact⟨_,fun W=>by simp[execOp,ay,Instr.makeFunc],aZ.func _ _ _ _ _ az ep ao dV⟩
 ·cases ae
theorem auD {t:TypeId} (h:lF P t=.bool):P.underlying t=some .bool:=by
 unfold lF at h;split at h<;>first|assumption|cases h|(split at h<;>cases h)
theorem UM {t:TypeId} (h:lF P t=.pointer):∃e,P.underlying t=some (.pointer e):=by
 unfold lF at h;split at h<;>first|exact⟨_,‹_›⟩|cases h|(split at h<;>cases h)
theorem auH {t:TypeId} (h:lF P t=.slice):∃e,P.underlying t=some (.slice e):=by
 unfold lF at h;split at h<;>first|exact⟨_,‹_›⟩|cases h|(split at h<;>cases h)
theorem UL {t:TypeId} (h:lF P t=.iface):∃e,P.underlying t=some (.interface e):=by
 unfold lF at h;split at h<;>first|exact⟨_,‹_›⟩|cases h|(split at h<;>cases h)
theorem auF {t:TypeId} (h:lF P t=.func):∃x y z,P.underlying t=some (.func x y z):=by
 unfold lF at h;split at h<;>first|exact⟨_,_,_,‹_›⟩|cases h|(split at h<;>cases h)
theorem auG {t:TypeId} (h:lF P t=.map):∃x y,P.underlying t=some (.map x y):=by
 unfold lF at h;split at h<;>first|exact⟨_,_,‹_›⟩|cases h|(split at h<;>cases h)
theorem BH (t:TypeId) (u v:Value) (b:Bool) (W:World) (h:∀d,(Op.equalIn (d+1) t u v).run P W=.ok b W):(Op.equal t u v).run P W=.ok b W:=h 9999
theorem E6 {t:TypeId} {u v:Value} (h:u≠.nilIface∨v≠.nilIface) (aa:∀c,u≠.agg c) (op:BinOp) (p q:Operand) (W:World):(eqGuard op t p q u v).run P W=.ok () W:=by
 have aV:eqGuard op t p q u v=pure ():=by
  cases u with
  |agg c=>exact absurd rfl (aa c)
  |nilIface=>cases v with
   |nilIface=>simp at h
   |_=>cases op<;>rfl
  |_=>cases op<;>rfl
 rw[aV];rfl
theorem auE {t:TypeId} {ss:List dH} (h:lF P t=.flat ss):vT P t=some ss:=by
 unfold lF at h;split at h<;>first|cases h;done|skip
 split at h
 ·simp only[cG.flat.injEq]at h;subst h;assumption
 ·cases h
theorem ak8 {t:TypeId} {ss:List dH} (aw:vT P t=some ss) (xs ys:Array Value) (op:BinOp) (p q:Operand) (W:World):(eqGuard op t p q (.agg xs) (.agg ys)).run P W=.ok () W:=by
 obtain⟨_,_,_,_,av⟩:=Ms aw;cases op<;>simp[eqGuard,av]
theorem ale {t:TypeId} {x y:ab} {u v:Value} {b:Bool} (h:yV (lF P t) x y=some b) (hu:aZ I u x) (ar:aZ I v y):
  (∀W,(Op.equal t u v).run P W=.ok b W)∧(∀(op:BinOp) (p q:Operand) (W:World),(eqGuard op t p q u v).run P W=.ok () W)∧(∀k n,u≠.int k n)∧(∀s,u≠.string s)∧(∀k n,u≠.float k n)∧(∀k n m,u≠.complex k n m):=by
 generalize aB:lF P t=q at h;unfold yV at h;split at h<;>(try simp only[bk,reduceCtorEq]at h)
 ·subst h;have aw:=auD aB;cases hu;cases ar;refine⟨fun W=>BH _ _ _ _ _ fun d=> ?_,fun op p q W=>E6 (by simp) (by simp) op p q W,by simp,by simp,by simp,by simp⟩
  simp[Op.equalIn,run_underlying aw]
 case h_12 ss as bs=>
  split at h
  ·rename_i af;simp only[bk]at h;subst h;have aw:=auE aB;refine⟨fun W=>XQ aw af.1 af.2 hu ar 9998 W,?_,?_⟩
   ·cases hu;cases ar;exact ak8 aw _ _
   ·cases hu;simp
  ·cases h
 all_goals
  first
   |obtain⟨e,aw⟩:=UM aB
   |obtain⟨e,aw⟩:=auH aB
   |obtain⟨e,aw⟩:=UL aB
   |obtain⟨e,aN,bL,aw⟩:=auF aB
   |obtain⟨e,aN,aw⟩:=auG aB
  subst h;cases hu<;>cases ar<;>
  refine⟨fun W=>BH _ _ _ _ _ fun d=> ?_,fun op p q W=>E6 (by simp) (by simp) op p q W,by simp,by simp,by simp,by simp⟩<;>
  simp[Op.equalIn,run_underlying aw]
theorem aoT {op:BinOp} {k:IntKind} {x y:Int} {r:ab} (t:TypeId) (h:iZ op k x y=some r):
  ∃v,(∀W,(binOp op t (.int k x) (.int k y):Sem Value).run P W=.ok v W)∧aZ I v r:=by
 cases op
 case quo=>
  simp only[iZ]at h;split at h
  ·cases h
  ·rename_i aj;simp only[bk]at h;subst h;exact⟨_,fun W=>by simp[binOp,Op.intDiv,aj],aZ.int _ _⟩
 case rem=>
  simp only[iZ]at h;split at h
  ·cases h
  ·rename_i aj;simp only[bk]at h;subst h;exact⟨_,fun W=>by simp[binOp,Op.intDiv,aj],aZ.int _ _⟩
 case shl=>
  simp only[iZ]at h;split at h
  ·cases h
  ·rename_i aj;simp only[bk]at h;subst h;exact⟨_,fun W=>by simp[binOp,Op.shift,aj],aZ.int _ _⟩
 case shr=>
  simp only[iZ]at h;split at h
  ·cases h
  ·rename_i aj;simp only[bk]at h;subst h;exact⟨_,fun W=>by simp[binOp,Op.shift,aj],aZ.int _ _⟩
 case and=>simp only[iZ,bk]at h;subst h;exact⟨_,fun W=>by simp only[binOp,ne_eq,not_true_eq_false,if_false];rfl,aZ.int _ _⟩
 case or=>simp only[iZ,bk]at h;subst h;exact⟨_,fun W=>by simp only[binOp,ne_eq,not_true_eq_false,if_false];rfl,aZ.int _ _⟩
 case xor=>simp only[iZ,bk]at h;subst h;exact⟨_,fun W=>by simp only[binOp,ne_eq,not_true_eq_false,if_false];rfl,aZ.int _ _⟩
 all_goals simp[iZ,F_]at h<;>subst h<;>
  first
   |exact⟨_,fun W=>by simp[binOp,Op.intArith],aZ.int _ _⟩
   |exact⟨_,fun W=>by simp[binOp,Op.intCmp];rfl,aZ.bool _⟩
   |exact⟨_,fun W=>by simp[binOp,Op.intCmp],aZ.bool _⟩
theorem auy {op:BinOp} {s u:ByteArray} {r:ab} (t:TypeId) (h:vR op s.data.toList u.data.toList=some r):
  ∃v,(∀W,(binOp op t (.string s) (.string u):Sem Value).run P W=.ok v W)∧aZ I v r:=by
 have e1:=ByteArray.toList_eq s;have aN:=ByteArray.toList_eq u;cases op<;>simp only[vR,bk,reduceCtorEq]at h<;>subst h<;>
  exact⟨_,fun W=>by simp only[binOp,Op.stringOp,e1,aN];rfl,aZ.bool _⟩
theorem alQ (st:cx E I ag env bK a w) {op:BinOp} {x z:Operand} {y u:aG} {t t2:TypeId} (ay:o.op=.binOp op t x z t2) (ad:b8 x=some y) (a':b8 z=some u)
  {e:aJ} (ae:bX env (.bin op (lF P t) y u)=some e):hf P I bK a o e:=by
 have ar:=st.dB ad;have hu:=st.dB a';have Y':(qe y||qe u)=true→(∃c,x=.const c)∨∃c,z=.const c:=by
  intro h;simp only[g1]at h;rcases h with h|h
  ·cases x<;>simp[b8]at ad<;>first|exact .inl ⟨_,rfl⟩|(subst ad;simp[qe]at h)
  ·cases z<;>simp[b8]at a'<;>first|exact .inr ⟨_,rfl⟩|(subst a';simp[qe]at h)
 generalize ak:(qe y||qe u)=lit at Y';simp only[bX,ak]at ae;have hR:∀v,(∀W,(eqGuard op t x z (a.eval x) (a.eval z)).run P W=.ok () W)→(∀W,(binOp op t (a.eval x) (a.eval z)).run P W=.ok v W)→∀W,(execOp a.eval o).run P W=.ok (.value v) W:=by
  intro v U aa W;simp[execOp,ay,U W,aa W]
 generalize a.eval x=v1 at ar hR;generalize a.eval z=v2 at hu hR;generalize a_ env y=e1 at ar ae;generalize a_ env u=aN at hu ae;cases aj:rK op (lF P t) lit e1 aN with
 |none=>rw[aj]at ae;cases ae
 |some r=>
  rw[aj]at ae;simp only[bk]at ae;subst ae;unfold rK at aj;split at aj
  ·
   split at aj
   case isFalse=>cases aj
   rename_i k gX k' ea aq;have e1:=aZ.mu ar;have aN:=aZ.mu hu;subst e1;subst aN;obtain⟨v,U,aa⟩:=aoT (P:=P) (I:=I) t aj;have vb:∀W,(binOp op t (.int k gX) (.int k' ea):Sem Value).run P W=(binOp op t (.int k gX) (.int k ea):Sem Value).run P W:=by
    intro W;cases op<;>first|(simp only[sI,decide_eq_true_eq]at aq;subst aq;rfl)|rfl
   exact⟨v,hR v (E6 (by simp) (by simp) _ _ _) (fun W=>by rw[vb];exact U W),aa⟩
  ·obtain⟨s1,rfl,il⟩:=aZ.qm ar;obtain⟨s2,rfl,J4⟩:=aZ.qm hu;rw[←il,←J4]at aj;obtain⟨v,U,aa⟩:=auy (P:=P) (I:=I) t aj;exact⟨v,hR v (E6 (by simp) (by simp) _ _ _) U,aa⟩
  ·
   split at aj
   case isFalse=>cases aj
   rename_i FL;have bf:v1=.nilIface:=by cases ar;rfl
   have c2:v2=.nilIface:=by cases hu;rfl
   subst bf;subst c2;have av:∀W,(eqGuard op t x z .nilIface .nilIface).run P W=.ok () W:=by
    intro W;rcases Y' FL with⟨c,rfl⟩|⟨c,rfl⟩<;>cases op<;>simp[eqGuard]
   split at aj
   ·rename_i aB;simp only[bk]at aj;subst aj;obtain⟨ms,aw⟩:=UL aB;refine⟨.bool true,hR _ av fun W=> ?_,aZ.bool _⟩;have:=BH (P:=P) t .nilIface .nilIface true W fun d=>by simp[Op.equalIn,run_underlying aw]
    simp[binOp,this]
   ·rename_i aB;simp only[bk]at aj;subst aj;obtain⟨ms,aw⟩:=UL aB;refine⟨.bool false,hR _ av fun W=> ?_,aZ.bool _⟩;have:=BH (P:=P) t .nilIface .nilIface true W fun d=>by simp[Op.equalIn,run_underlying aw]
    simp[binOp,this]
   ·cases aj
  ·
   rename_i c3 kE _ _ _;cases he:yV (lF P t) c3 kE with
   |none=>rw[he]at aj;cases op<;>simp at aj
   |some b=>
    rw[he]at aj;obtain⟨bu,bC,eb,iX,k8,lR⟩:=ale he ar hu;have av:=fun W=>bC op x z W;cases op<;>simp only[bk,reduceCtorEq]at aj
    ·subst aj;refine⟨.bool b,hR _ av fun W=> ?_,aZ.bool _⟩;have h6:binOp .eql t v1 v2=(do pure (.bool (←Op.equal t v1 v2))):=by
      cases v1<;>first|rfl|exact absurd rfl (eb _ _)|exact absurd rfl (iX _)|exact absurd rfl (k8 _ _)|exact absurd rfl (lR _ _ _)
     rw[h6];simp[bu W]
    ·subst aj;refine⟨.bool (!b),hR _ av fun W=> ?_,aZ.bool _⟩;have h6:binOp .neq t v1 v2=(do pure (.bool (!(←Op.equal t v1 v2)))):=by
      cases v1<;>first|rfl|exact absurd rfl (eb _ _)|exact absurd rfl (iX _)|exact absurd rfl (k8 _ _)|exact absurd rfl (lR _ _ _)
     rw[h6];simp[bu W]
  ·
   rename_i fa GG;have c2:v2=.pointer none:=by cases hu;rfl
   subst c2;simp only[gR]at ar;subst ar;have av:=fun W=>E6 (P:=P) (t:=t) (u:=.pointer (some ⟨bK fa,GG,none⟩)) (v:=.pointer none) (.inl (by simp)) (by simp) op x z W
   split at aj
   ·rename_i aB;simp only[bk]at aj;subst aj;obtain⟨ms,aw⟩:=UM aB;refine⟨.bool false,hR _ av fun W=> ?_,aZ.bool _⟩;have:=BH (P:=P) t (.pointer (some ⟨bK fa,GG,none⟩)) (.pointer none) false W fun d=>by simp[Op.equalIn,run_underlying aw]
    simp[binOp,this]
   ·rename_i aB;simp only[bk]at aj;subst aj;obtain⟨ms,aw⟩:=UM aB;refine⟨.bool true,hR _ av fun W=> ?_,aZ.bool _⟩;have:=BH (P:=P) t (.pointer (some ⟨bK fa,GG,none⟩)) (.pointer none) false W fun d=>by simp[Op.equalIn,run_underlying aw]
    simp[binOp,this]
   ·cases aj
  ·cases aj
theorem ab.S_ {x:ab} (h:x.one=true):x.cells=[x]:=by cases x<;>simp_all [ab.one,ab.cells]
theorem aZ.one_cell {v:Value} {x:ab} (h:aZ I v x) (U:x.one=true):v.oneCell'=true∧v.cells= #[v]:=by
 cases h<;>simp_all [ab.one,Value.oneCell',Value.cells]
theorem aZ.EM {v:Value} {x:ab} (h:aZ I v x) (U:x.cells.all ab.one=true):
  v.cells.size=x.cells.length∧(∀j,aZ I (v.cells.getD j undef) (x.cells.getD j .top))∧∀u∈v.cells.toList,u.oneCell'=true:=by
 by_cases ad:∃cs,x=.agg cs
 ·obtain⟨as,rfl⟩:=ad;cases h with
  |agg cs _ ak ah=>
   refine⟨ak,ah,fun u hu=> ?_⟩;obtain⟨j,aU,rfl⟩:=List.getElem_of_mem hu;have r':j<cs.size:=by simpa[Value.cells]using aU
   have xd:j<as.length:=by omega
   have:=ah j;simp only[gl,cM,eU xd,lL]at this;have tw:j<cs.size:=r';simp only[ni tw,lL]at this;have ay:(as[j]).one=true:=dI.1 U _ (l' xd);exact(this.one_cell ay).1
 ·have af:x.cells=[x]:=by cases x<;>first|rfl|exact absurd ⟨_,rfl⟩ ad
  have ay:x.one=true:=by rw[af]at U;simpa using U
  obtain⟨az,ao⟩:=h.one_cell ay;rw[af,ao];refine⟨rfl,fun j=> ?_,fun u hu=>by simp at hu;subst hu;exact az⟩
  cases j with
  |zero=>exact h
  |succ j=>simpa using aZ.top _
theorem Yh (off:Nat):∀(vs:List Value) (i:Nat) (cs:Array Value),
  ((vs.zipIdx i).foldl (fun(cs:Array Value) (p:Value × Nat)=>cs.setIfInBounds (off+p.2) p.1) cs).size=cs.size∧
  ∀j,((vs.zipIdx i).foldl (fun(cs:Array Value) (p:Value × Nat)=>cs.setIfInBounds (off+p.2) p.1) cs)[j]? =
   if off+i≤j∧j<off+i+vs.length∧j<cs.size then vs[j-(off+i)]? else cs[j]? :=by
 intro vs
 induction vs with
 |nil=>intro i cs;refine⟨rfl,fun j=> ?_⟩;rw[if_neg (by simp;omega)];rfl
 |cons v r bm=>
  intro i cs;obtain⟨U,aa⟩:=bm (i+1) (cs.setIfInBounds (off+i) v);simp only[List.zipIdx_cons,OX];refine⟨by rw[U];simp,fun j=> ?_⟩
  rw[aa j];simp only[Array.size_setIfInBounds,mb];by_cases c:off+(i+1)≤j∧j<off+(i+1)+r.length∧j<cs.size
  ·rw[if_pos c,if_pos (by omega)]
   have:j-(off+i)=(j-(off+(i+1)))+1:=by omega
   rw[this,nV]
  ·rw[if_neg c,ON];by_cases e:off+i=j
   ·subst e;by_cases ak:off+i<cs.size
    ·rw[if_pos rfl,if_pos ak,if_pos (by omega)];simp
    ·rw[if_pos rfl,if_neg ak,if_neg (by omega)];simp;omega
   ·rw[if_neg e,if_neg (by omega)]
theorem auh (cs:List ab) (o:Nat) (vs:List ab) (h:o+vs.length≤cs.length):(ft cs o vs).length=cs.length:=by
 simp[ft];omega
theorem aug (cs:List ab) (o:Nat) (vs:List ab) (h:o+vs.length≤cs.length) (j:Nat):
  (ft cs o vs)[j]? =if o≤j∧j<o+vs.length then vs[j-o]? else cs[j]? :=by
 unfold ft;by_cases U:j<o
 ·rw[if_neg (by omega),pL,kl (by simp;omega),l9,if_pos U]
 ·by_cases aa:j<o+vs.length
  ·rw[if_pos (by omega),pL,km (by simp;omega),kl (by simp;omega)]
   simp[IH (by omega:o≤cs.length)]
  ·rw[if_neg (by omega),km (by simp;omega),k4]
   congr 1
   simp;omega
theorem Hd {cs vs:Array Value} {as bs:List ab} {off:Nat} {ds:Array Value} (ah:∀j,aZ I (cs.getD j undef) (as.getD j .top)) (ak:cs.size=as.length)
  (ar:∀j,aZ I (vs.getD j undef) (bs.getD j .top)) (avW:vs.size=bs.length) (bz:off+bs.length≤as.length)
  (aQ:ds.size=cs.size∧∀j,ds[j]? =if off≤j∧j<off+vs.size∧j<cs.size then vs[j-off]? else cs[j]?):
  ds.size=(ft as off bs).length∧∀j,aZ I (ds.getD j undef) ((ft as off bs).getD j .top):=by
 refine⟨by rw[auh _ _ _ bz,aQ.1,ak],fun j=> ?_⟩
 simp only[gl,cM]at*;rw[aQ.2 j,aug _ _ _ bz];by_cases h:off≤j∧j<off+bs.length
 ·rw[if_pos (by omega),if_pos h]
  exact ar (j-off)
 ·rw[if_neg (by omega),if_neg h]
  exact ah j
theorem run_places (w:World):∀(fs:List Field) (pl:List (Nat × Nat)),yv P fs=some pl→
  (fs.mapM (fun f=>do pure (f.offset,←sizeOf f.type):Field→Sem (Nat × Nat))).run P w=.ok pl w
 | [],pl,h=>by simp only[yv,bk]at h;subst h;simp
 |f::r,pl,h=>by
  simp only[yv]at h;cases hs:gC P f.type with
  |none=>rw[hs]at h;cases h
  |some n=>
   cases ae:yv P r with
   |none=>rw[hs,ae]at h;cases h
   |some l=>
    rw[hs,ae]at h;simp only[bk]at h;subst h;obtain⟨i,hi,iH⟩:=ov hs;have bm:=run_places w r l ae;have U:(do pure (f.offset,←sizeOf f.type):Sem (Nat × Nat)).run P w=.ok (f.offset,n) w:=by
     simp[sizeOf,typeInfo,hi,iH]
    rw[List.mapM_cons,Sem.run_bind,U,Result.andThen_ok,Sem.run_bind,bm,Result.andThen_ok];rfl
theorem Pq {ai:aG→aJ} {rv:Operand→Value} (fA:∀{x:Operand} {y:aG},b8 x=some y→gR I bK (rv x) (ai y)) (pl:List (Nat × Nat)):
  ∀(eM:List (Nat × Operand)) (br:List (Nat × Nat × aG)) (jt:List (Nat × Nat × ab)) (cells:Array Value) (as:List ab) (cs:List ab),
   tS pl eM=some br→pt ai br=some jt→tn as jt=some cs→cells.size=as.length→(∀j,aZ I (cells.getD j undef) (as.getD j .top))→
   ∃ds,Instr.fill (pl[·]?) cells (eM.map fun(i,x)=>(i,rv x))=some ds∧ds.size=cs.length∧∀j,aZ I (ds.getD j undef) (cs.getD j .top)
 | [],br,jt,cells,as,cs,U,aa,au,ak,ah=>by
  simp only[tS,bk]at U;subst U;simp only[pt,bk]at aa;subst aa;simp only[tn,bk]at au;subst au;exact⟨cells,rfl,ak,ah⟩
 |(i,x)::r,br,jt,cells,as,cs,U,aa,au,ak,ah=>by
  simp only[tS]at U;cases hi:pl[i]? with
  |none=>rw[hi]at U;cases U
  |some p=>
   obtain⟨off,n⟩:=p;cases ad:b8 x with
   |none=>rw[hi,ad]at U;cases U
   |some y=>
    cases sk:tS pl r with
    |none=>rw[hi,ad,sk]at U;cases U
    |some LJ=>
     rw[hi,ad,sk]at U;simp only[bk]at U;subst U;have ar:=fA ad;simp only[pt]at aa;generalize ai y=e at ar aa;cases e with
     |box c=>exact ar.elim
     |b7 s o=>simp at aa
     |val b=>
      cases aB:pt ai LJ with
      |none=>rw[aB]at aa;simp at aa
      |some asy=>
       rw[aB]at aa;simp only[bk]at aa;subst aa;simp only[tn]at au;split at au
       case isFalse=>cases au
       rename_i af;obtain⟨bf,c2,fU⟩:=af;obtain⟨az,ao,aX⟩:=aZ.EM ar c2;have ax:=Yh off (rv x).cells.toList 0 cells;obtain⟨f1,f2⟩:=ax;have FE:((rv x).cells.zipIdx.foldl (fun(cs:Array Value) (p:Value × Nat)=>cs.setIfInBounds (off+p.2) p.1) cells)=
         (((rv x).cells.toList.zipIdx 0).foldl (fun(cs:Array Value) (p:Value × Nat)=>cs.setIfInBounds (off+p.2) p.1) cells):=by
        rw[←Array.foldl_toList,Array.toList_zipIdx]
       generalize Qj:(((rv x).cells.toList.zipIdx 0).foldl (fun(cs:Array Value) (p:Value × Nat)=>cs.setIfInBounds (off+p.2) p.1) cells)=ds at FE f1 f2;obtain⟨bu,bC⟩:=Hd (ds:=ds) (off:=off) ah ak ao az (by omega) ⟨f1,fun j=>by
        rw[f2 j];simp⟩
       obtain⟨es,he,hr,am2⟩:=Pq fA pl r LJ asy ds (ft as off b.cells) cs sk aB au bu bC;refine⟨es,?_,hr,am2⟩;simp only[gM,Instr.fill,hi];have lT:¬((rv x).cells.size≠n∨off+(rv x).cells.size>cells.size):=by
        rw[az,ak];omega
       simp only[ne_eq,decide_not,g1,Bool.not_eq_eq_eq_not,Bu,decide_eq_false_iff_not,gt_iff_lt,decide_eq_true_eq];rw[if_neg (by simpa using lT),FE]
       exact he
theorem alR (st:cx E I ag env bK a w) {t:TypeId} {eM:Array (Nat × Operand)} {fs:Array Field} {z:ab} {pl:List (Nat × Nat)} {br:List (Nat × Nat × aG)}
  (ay:o.op=.build t eM) (hu:P.underlying t=some (.struct fs)) (a':jc P t=some z) (hG:yv P fs.toList=some pl) (lY:tS pl eM.toList=some br)
  {e:aJ} (ae:bX env (.build z.cells br)=some e):hf P I bK a o e:=by
 obtain⟨i,cw,hi,hv,fP⟩:∃i cw,P.info? t=some i∧i.zero=some cw∧dx cw=some z:=by
  unfold jc at a';split at a'
  ·rename_i i hi;split at a'
   ·rename_i cw hv;exact⟨i,cw,hi,hv,a'⟩
   ·cases a'
  ·cases a'
 have h8:=CS (I:=I) cw z fP;have hX:cw.cells.size=z.cells.length∧∀j,aZ I (cw.cells.getD j undef) (z.cells.getD j .top):=by
  by_cases ad:∃cs,z=.agg cs
  ·obtain⟨as,rfl⟩:=ad;cases h8 with
   |agg cs _ ak ah=>exact⟨ak,ah⟩
  ·have af:z.cells=[z]:=by cases z<;>first|rfl|exact absurd ⟨_,rfl⟩ ad
   have q2:cw.cells= #[cw]:=by
    cases cw<;>first|rfl|skip
    rename_i cs;obtain⟨cs⟩:=cs;simp only[dx]at fP;split at fP
    ·simp only[bk]at fP;exact absurd ⟨_,fP.symm⟩ ad
    ·cases fP
   rw[af,q2];refine⟨rfl,fun j=> ?_⟩;cases j with
   |zero=>exact h8
   |succ j=>simpa using aZ.top _
 simp only[bX]at ae;cases aB:pt (a_ env) br with
 |none=>rw[aB]at ae;cases ae
 |some jt=>
  rw[aB]at ae;dsimp only at ae;cases ax:tn z.cells jt with
  |none=>rw[ax]at ae;cases ae
  |some cs=>
   rw[ax]at ae;simp only[bk]at ae;subst ae;obtain⟨ds,U,aa,au⟩:=Pq (rv:=a.eval) (fun ad=>st.dB ad) pl eM.toList br jt cw.cells z.cells cs lY aB ax hX.1 hX.2;refine⟨.agg ds,fun W=> ?_,aZ.agg _ _ aa au⟩;have sh:(fs.mapM (fun f=>do pure (f.offset,←sizeOf f.type):Field→Sem (Nat × Nat))).run P W=.ok pl.toArray W:=by
    rw[Array.mapM_eq_mapM_toList];have:=run_places (P:=P) W fs.toList pl hG;rw[map_eq_pure_bind,Sem.run_bind,this];rfl
   have kS:(zeroValue t).run P W=.ok cw W:=by simp[zeroValue,typeInfo,hi,hv]
   have Qp:Instr.fill (fun x=>pl.toArray[x]?) cw.cells (eM.map fun(i,x)=>(i,a.eval x)).toList=some ds:=by
    have:(eM.map fun(i,x)=>(i,a.eval x)).toList=eM.toList.map fun(i,x)=>(i,a.eval x):=by simp
    rw[this];simpa using U
   have aj:(Instr.build t (eM.map fun(i,x)=>(i,a.eval x))).run P W=.ok (.agg ds) W:=by
    unfold Instr.build;simp only[Sem.run_bind,kS,Result.andThen_ok,run_underlying hu,sh,Qp];rfl
   simp only[execOp,ay,Sem.run_bind,aj,Result.andThen_ok];rfl
theorem X4 {f g:Nat→Option (Nat × Nat)}:∀(l:List (Nat × Value)) (cells:Array Value),(∀p∈l,f p.1=g p.1)→Instr.fill f cells l=Instr.fill g cells l
 | [],_,_=>rfl
 |(i,v)::r,cells,h=>by
  unfold Instr.fill;rw[h (i,v) (cz ..)];cases g i with
  |none=>rfl
  |some x=>
   obtain⟨off,size⟩:=x;dsimp only;split
   ·rfl
   ·exact X4 r _ fun p ae=>h p (cv _ ae)
theorem VV {sz:Nat} (N:Nat):∀(l:List (Nat × Operand)) (br:List (Nat × Nat × aG)),A4 (some sz) l=some br→(∀p∈l,p.1<N)→tS ((List.range N).map fun i=>(i*sz,sz)) l=some br
 | [],br,h,_=>by simpa[A4,tS]using h
 |(i,x)::r,br,h,w5=>by
  unfold A4 at h;have hi:i<N:=w5 (i,x) (cz ..);split at h
  case h_2=>cases h
  rename_i gu y as U aa au;cases U;simp only[bk]at h;subst h;have:=VV N r as au fun p ae=>w5 p (cv _ ae);unfold tS;rw[aa,this];simp[hi]
theorem alL (st:cx E I ag env bK a w) {t aR:TypeId} {eM:Array (Nat × Operand)} {n sz:Nat} {z:ab} {br:List (Nat × Nat × aG)}
  (ay:o.op=.build t eM) (hu:P.underlying t=some (.array n aR)) (a':jc P t=some z) (hs:gC P aR=some sz) (lY:A4 (some sz) eM.toList=some br)
  {e:aJ} (ae:bX env (.build z.cells br)=some e):hf P I bK a o e:=by
 obtain⟨i,cw,hi,hv,fP⟩:∃i cw,P.info? t=some i∧i.zero=some cw∧dx cw=some z:=by
  unfold jc at a';split at a'
  ·rename_i i hi;split at a'
   ·rename_i cw hv;exact⟨i,cw,hi,hv,a'⟩
   ·cases a'
  ·cases a'
 have h8:=CS (I:=I) cw z fP;have hX:cw.cells.size=z.cells.length∧∀j,aZ I (cw.cells.getD j undef) (z.cells.getD j .top):=by
  by_cases ad:∃cs,z=.agg cs
  ·obtain⟨as,rfl⟩:=ad;cases h8 with
   |agg cs _ ak ah=>exact⟨ak,ah⟩
  ·have af:z.cells=[z]:=by cases z<;>first|rfl|exact absurd ⟨_,rfl⟩ ad
   have q2:cw.cells= #[cw]:=by
    cases cw<;>first|rfl|skip
    rename_i cs;obtain⟨cs⟩:=cs;simp only[dx]at fP;split at fP
    ·simp only[bk]at fP;exact absurd ⟨_,fP.symm⟩ ad
    ·cases fP
   rw[af,q2];refine⟨rfl,fun j=> ?_⟩;cases j with
   |zero=>exact h8
   |succ j=>simpa using aZ.top _
 obtain⟨is,anj,anl⟩:=ov hs;simp only[bX]at ae;cases aB:pt (a_ env) br with
 |none=>rw[aB]at ae;cases ae
 |some jt=>
  rw[aB]at ae;dsimp only at ae;cases ax:tn z.cells jt with
  |none=>rw[ax]at ae;cases ae
  |some cs=>
   rw[ax]at ae;simp only[bk]at ae;subst ae
   let N:=(eM.toList.map (·.1)).foldr max 0+1
   have w5:∀p∈eM.toList,p.1<N:=by
    intro p ae;have:∀(l:List Nat) (x:Nat),x∈l→x≤l.foldr max 0:=by
     intro l
     induction l with
     |nil=>intro x ad;cases ad
     |cons y l bm=>
      intro x ad;rcases cu.1 ad with rfl|ad
      ·exact Nat.le_max_left _ _
      ·exact fp (bm x ad) (Nat.le_max_right _ _)
    exact Nat.lt_succ_of_le (this _ _ (Bx ae))
   obtain⟨ds,U,aa,au⟩:=Pq (rv:=a.eval) (fun ad=>st.dB ad) _ eM.toList br jt cw.cells z.cells cs (VV N _ _ lY w5) aB ax hX.1 hX.2;refine⟨.agg ds,fun W=> ?_,aZ.agg _ _ aa au⟩;have kS:(zeroValue t).run P W=.ok cw W:=by simp[zeroValue,typeInfo,hi,hv]
   have aoo:(sizeOf aR).run P W=.ok sz W:=by simp[sizeOf,typeInfo,anj,anl]
   have Qp:Instr.fill (fun x=>some (x*sz,sz)) cw.cells (eM.map fun(i,x)=>(i,a.eval x)).toList=some ds:=by
    have:(eM.map fun(i,x)=>(i,a.eval x)).toList=eM.toList.map fun(i,x)=>(i,a.eval x):=by simp
    rw[this,←U];refine X4 _ _ fun p ae=> ?_;obtain⟨q,aB,rfl⟩:=eO.1 ae;have:=w5 q aB;simp[this]
   have aj:(Instr.build t (eM.map fun(i,x)=>(i,a.eval x))).run P W=.ok (.agg ds) W:=by
    unfold Instr.build;simp only[Sem.run_bind,kS,Result.andThen_ok,run_underlying hu,aoo,Qp];rfl
   simp only[execOp,ay,Sem.run_bind,aj,Result.andThen_ok];rfl
theorem Nu {t e:TypeId} {n:Nat} (h:AA P t=some (n,e)):P.underlying t=some (.array n e):=by
 unfold AA at h;split at h
 ·simp only[bk,Prod.mk.injEq]at h;obtain⟨rfl,rfl⟩:=h
  assumption
 ·cases h
theorem alM (st:cx E I ag env bK a w) {x:Operand} {y:aG} {t e:TypeId} {n sz:Nat} {a7:IntKind} {j:Int} (ay:o.op=.indexAddr t x (.const (.int a7 j))) (ad:b8 x=some y) (aw:AA P t=some (n,e)) (hs:gC P e=some sz)
  (aU:0≤j∧j<n) {q:aJ} (ae:bX env (.foff (j.toNat*sz) y)=some q):hf P I bK a o q:=by
 have ar:=st.dB ad;simp only[bX]at ae;have hu:=Nu aw;obtain⟨i,hi,iH⟩:=ov hs;have b6:∀l6 W,a.eval x=.pointer (some l6)→(execOp a.eval o).run P W=.ok (.value (.pointer (some (l6.add (j.toNat*sz))))) W:=by
  intro l6 W uY;have U:a.eval (.const (.int a7 j))=.int a7 j:=rfl;simp only[execOp,ay,uY,U,Instr.indexAt,asIntOf,Sem.run_bind,Sem.run_pure,Result.andThen_ok,run_underlying hu,Instr.sureAddr];rw[if_pos aU];simp[sizeOf,typeInfo,hi,iH]
 have jY:∀(b k:Nat),(⟨b,k,none⟩:Addr).add (j.toNat*sz)=⟨b,k+j.toNat*sz,none⟩:=by
  intro b k;unfold Addr.add;split<;>simp_all
 generalize j.toNat*sz=off at ae b6 jY;generalize a_ env y=ai at ae ar;cases ai with
 |box c=>exact ar.elim
 |b7 fa GG=>
  simp only[bk]at ae;subst ae;exact⟨_,fun W=>b6 _ W ar,by simp[gR,jY]⟩
 |val t=>
  cases t<;>simp only[bk,reduceCtorEq]at ae
  ·subst ae;have he:=aZ.vG ar;exact⟨_,fun W=>b6 _ W he,by rw[jY];exact aZ.ptr _ _⟩
  ·subst ae;simp only[gR]at ar;generalize a':a.eval x=z at ar;cases ar with
   |dK b k cs vs h ah=>
    refine⟨_,fun W=>b6 _ W a',?_⟩;rw[jY];refine aZ.dK _ _ _ (fun j=>vs (off+j)) (fun j aU=> ?_) (fun j=> ?_)
    ·rw[ux];exact h _ (by simp at aU;omega)
    ·have:=ah (off+j);simpa[cM,k4]using this
theorem alO (st:cx E I ag env bK a w) {x z:Operand} {y u:aG} {t e:TypeId} {n sz:Nat} (ay:o.op=.indexAddr t x z) (ad:b8 x=some y) (ei:b8 z=some u) (aw:AA P t=some (n,e)) (hs:gC P e=some sz)
  {q:aJ} (ae:bX env (.aidx n sz y u)=some q):hf P I bK a o q:=by
 have ar:=st.dB ad;have kO:=st.dB ei;simp only[bX]at ae;have hu:=Nu aw;obtain⟨i,hi,iH⟩:=ov hs;generalize a_ env u=BI at ae kO;split at ae
 case h_2=>cases ae
 rename_i a7 j;split at ae
 case isFalse=>cases ae
 rename_i aU;have Ka:a.eval z=.int a7 j:=aZ.mu kO;have b6:∀l6 W,a.eval x=.pointer (some l6)→(execOp a.eval o).run P W=.ok (.value (.pointer (some (l6.add (j.toNat*sz))))) W:=by
  intro l6 W uY;simp only[execOp,ay,uY,Ka,Instr.indexAt,asIntOf,Sem.run_bind,Sem.run_pure,Result.andThen_ok,run_underlying hu,Instr.sureAddr];rw[if_pos aU];simp[sizeOf,typeInfo,hi,iH]
 have jY:∀(b k:Nat),(⟨b,k,none⟩:Addr).add (j.toNat*sz)=⟨b,k+j.toNat*sz,none⟩:=by
  intro b k;unfold Addr.add;split<;>simp_all
 generalize j.toNat*sz=off at ae b6 jY;generalize a_ env y=ai at ae ar;cases ai with
 |box c=>exact ar.elim
 |b7 fa GG=>
  simp only[bk]at ae;subst ae;exact⟨_,fun W=>b6 _ W ar,by simp[gR,jY]⟩
 |val t=>
  cases t<;>simp only[bk,reduceCtorEq]at ae
  ·subst ae;have he:=aZ.vG ar;exact⟨_,fun W=>b6 _ W he,by rw[jY];exact aZ.ptr _ _⟩
  ·subst ae;simp only[gR]at ar;generalize a':a.eval x=z at ar;cases ar with
   |dK b k cs vs h ah=>
    refine⟨_,fun W=>b6 _ W a',?_⟩;rw[jY];refine aZ.dK _ _ _ (fun j=>vs (off+j)) (fun j aU=> ?_) (fun j=> ?_)
    ·rw[ux];exact h _ (by simp at aU;omega)
    ·have:=ah (off+j);simpa[cM,k4]using this
theorem alP (st:cx E I ag env bK a w) {x:Operand} {y:aG} {t e:TypeId} {n:Nat} {sz:Nat} (ay:o.op=.slice t x none none none) (ad:b8 x=some y) (aw:AA P t=some (n,e)) (hs:gC P e=some sz)
  {q:aJ} (ae:bX env (.arr n y)=some q):hf P I bK a o q:=by
 have ar:=st.dB ad;simp only[bX]at ae;have hu:=Nu aw;generalize a_ env y=ai at ae ar;split at ae
 ·rename_i b off;split at ae
  ·rename_i aK;simp only[bk]at ae;subst ae;have he:=aZ.vG ar;refine⟨.slice (some ⟨b,off,none⟩) n n,fun W=> ?_,aZ.ref _ _ _ _ (b1 _) aK⟩;have jY:(⟨b,off,none⟩:Addr).add 0=⟨b,off,none⟩:=by unfold Addr.add;split<;>simp_all
   obtain⟨i,hi,iH⟩:=ov hs;have dj:(sizeOf e).run P W=.ok i.size W:=by simp[sizeOf,typeInfo,hi]
   simp[execOp,ay,he,Instr.sliceAt,run_underlying hu,Instr.sureAddr,Instr.sliceBounds,dj,jY]
  ·cases ae
 ·cases ae
theorem alN (st:cx E I ag env bK a w) {x i:Operand} {y z:aG} {t aR:TypeId} {m n:Nat} {agg:Bool} (ay:o.op=.index t x i) (ad:b8 x=some y) (hi:b8 i=some z) (hu:P.underlying t=some (.array m aR)) (aK:sP P aR=some (agg,n)) (Rb:gC P aR=some n)
  {e:aJ} (ae:bX env (.wm m n agg y z)=some e):hf P I bK a o e:=by
 have ar:=st.dB ad;have hw:=st.dB hi;simp only[bX]at ae;generalize a_ env y=ai at ae ar;generalize a_ env z=alh at ae hw;cases ai with
 |box c=>exact ar.elim
 |b7 q off=>simp at ae
 |val s=>
  cases alh with
  |box c=>exact hw.elim
  |b7 q off=>cases s<;>simp at ae
  |val r=>
   cases s<;>cases r<;>simp only[reduceCtorEq]at ae;rename_i as k j;split at ae
   case isFalse=>cases ae
   rename_i af;obtain⟨aV,U,bz⟩:=af;simp only[bk]at ae;subst ae;simp only[gR]at ar;have he:=aZ.mu hw;generalize a':a.eval x=D2 at ar;cases ar with
   |agg cs hC ak ah=>
    rcases Kv aK with⟨rfl,⟨q,aB,dj⟩,aq⟩|⟨rfl,rfl,⟨q,aB⟩,d,aQ,au,ba⟩
    ·refine⟨.agg (cs.extract (j.toNat*n) (j.toNat*n+n)),fun W=> ?_,aeR ah ak bz⟩;rcases aq with⟨gs,aq⟩|⟨k',ka,aq⟩<;>
      simp[execOp,ay,a',he,Instr.index,asIntOf,run_underlying hu,aV,U,part,isAgg,run_underlying aq,sizeOf,typeInfo,aB,dj]
    ·have bw:j.toNat<cs.size:=by omega
     have af:cs[j.toNat]? =some cs[j.toNat]:=ni bw;have il:q.size=1:=by
      unfold gC at Rb;rw[aB]at Rb;simpa using Rb
     refine⟨cs[j.toNat],fun W=> ?_,?_⟩
     ·have aA:(isAgg aR).run P W=.ok false W:=by
       simp only[isAgg,Sem.run_bind,run_underlying aQ,Result.andThen_ok];cases d<;>simp_all
      simp[execOp,ay,a',he,Instr.index,asIntOf,run_underlying hu,aV,U,part,aA,sizeOf,typeInfo,aB,il,af]
     ·have:=ah j.toNat;have qX:j.toNat<as.length:=by omega
      simp only[gl,cM,af,eU qX,lL]at this;show aZ I _ _;have o9:gh false ((as.drop (j.toNat*1)).take 1)=as[j.toNat]:=by
       rw[IA,OW qX];rfl
      rw[o9];exact this
theorem al6 (st:cx E I ag env bK a w) {x:Operand} {y:aG} {Vr t:TypeId} {u:TypeId} (ay:o.op=.typeAssert x Vr t true) (ad:b8 x=some y) (hu:P.underlying t=some (.pointer u)) (a':jc P t=some .cX)
  {e:aJ} (ae:bX env (.ua t y)=some e):hf P I bK a o e:=by
 have ar:=st.dB ad;obtain⟨i,cw,hi,hv,fP⟩:∃i cw,P.info? t=some i∧i.zero=some cw∧dx cw=some .cX:=by
  unfold jc at a';split at a'
  ·rename_i i hi;split at a'
   ·rename_i z Ck;exact⟨i,z,hi,Ck,a'⟩
   ·cases a'
  ·cases a'
 have aoG:cw=.pointer none:=by
  unfold dx at fP;split at fP
  case h_4=>rfl
  case h_9=>split at fP<;>cases fP
  all_goals cases fP
 subst aoG;have kS:∀W,(zeroValue t).run P W=.ok (.pointer none) W:=fun W=>by simp[zeroValue,typeInfo,hi,hv]
 simp only[bX]at ae;generalize a_ env y=ai at ae ar;cases ai with
 |box c=>exact ar.elim
 |b7 q off=>simp at ae
 |val s=>
  cases s<;>simp only[reduceCtorEq]at ae
  ·rename_i k v;simp only[bk]at ae;subst ae;simp only[gR]at ar;generalize Ck:a.eval x=D2 at ar;cases ar with
   |iface _ avc _ ah=>
    by_cases aq:k=t
    ·rw[if_pos aq];refine⟨.tuple #[avc,.bool true],fun W=> ?_,aZ.tuple _ _ rfl fun j=> ?_⟩
     ·simp[execOp,ay,Ck,Instr.typeAssert,run_underlying hu,aq]
     ·match j with
      |0=>exact ah
      |1=>exact aZ.bool _
      |j+2=>exact aZ.top _
    ·rw[if_neg aq];refine⟨.tuple #[.pointer none,.bool false],fun W=> ?_,aZ.tuple _ _ rfl fun j=> ?_⟩
     ·simp[execOp,ay,Ck,Instr.typeAssert,run_underlying hu,aq,kS]
     ·match j with
      |0=>exact aZ.cX
      |1=>exact aZ.bool _
      |j+2=>exact aZ.top _
  ·simp only[bk]at ae;subst ae;simp only[gR]at ar;generalize Ck:a.eval x=D2 at ar;cases ar with
   |dC=>
    refine⟨.tuple #[.pointer none,.bool false],fun W=> ?_,aZ.tuple _ _ rfl fun j=> ?_⟩
    ·simp[execOp,ay,Ck,Instr.typeAssert,run_underlying hu,kS]
    ·match j with
     |0=>exact aZ.cX
     |1=>exact aZ.bool _
     |j+2=>exact aZ.top _
theorem al5 (st:cx E I ag env bK a w) {esc:List Nat} {g3:a2} (af:qh P esc o.dst o.op=some g3) {e:aJ} (ae:bX env g3=some e):hf P I bK a o e:=by
 cases ay:o.op
 all_goals simp only[ay,qh]at af
 case move x=>
  split at af
  ·simp only[bk]at af;subst af;simp only[bX,bk]at ae;subst ae;exact Yv st (.inl ay) ‹_›
  ·cases af
 case assign x=>
  split at af
  ·simp only[bk]at af;subst af;simp only[bX,bk]at ae;subst ae;exact Yv st (.inr ay) ‹_›
  ·cases af
 case nilCheck x=>
  split at af
  ·simp only[bk]at af;subst af;exact al3 st ay ‹_› ae
  ·cases af
 case binOp op t x y t2=>
  split at af
  ·simp only[bk]at af;subst af;exact alQ st ay ‹_› ‹_› ae
  ·cases af
 case unOp op t x=>
  cases op<;>simp only[reduceCtorEq]at af
  ·split at af
   ·simp only[bk]at af;subst af;exact al2 st ay ‹_› ae
   ·cases af
  ·split at af
   ·simp only[bk]at af;subst af;exact al4 st ay ‹_› ae
   ·cases af
 case convert s d x=>
  split at af
  ·rename_i Q_;subst Q_;split at af
   ·split at af
    ·simp only[bk]at af;subst af;simp[bX]at ae
    ·cases af
   ·simp only[bk]at af;subst af;exact Yw st ay ‹_› ‹_› ‹_› ae
   ·simp only[bk]at af;subst af;exact Yu st ay ‹_› ‹_› ‹_› ae
   ·cases af
  split at af
  ·simp only[bk]at af;subst af;exact Yu st ay ‹_› ‹_› ‹_› ae
  ·simp only[bk]at af;subst af;exact Yw st ay ‹_› ‹_› ‹_› ae
  ·split at af
   ·simp only[bk]at af;subst af;simp[bX]at ae
   ·cases af
  ·split at af
   ·simp only[bk]at af;subst af;simp[bX]at ae
   ·cases af
  ·cases af
 case makeMap t r=>
  cases r with
  |none=>simp only[bk]at af;subst af;simp[bX]at ae
  |some r=>cases af
 case next x b=>
  cases b with
  |true=>cases af
  |false=>
   dsimp only at af;split at af
   ·simp only[bk]at af;subst af;simp[bX]at ae
   ·cases af
 case indexAddr t x i=>
  split at af
  ·split at af
   ·split at af
    ·simp only[bk]at af;subst af;exact alM st ay ‹_› ‹_› ‹_› ‹_› ae
    ·cases af
   ·simp only[bk]at af;subst af;exact alO st ay ‹_› rfl ‹_› ‹_› ae
   ·cases af
  ·repeat' (split at af)
   all_goals first
    |cases af;done
    |(simp only[bk]at af;subst af;simp[bX]at ae;done)
 case slice t x lo hi mx=>
  split at af
  ·split at af
   ·simp only[bk]at af;subst af;exact alP st ay ‹_› ‹_› ‹_› ae
   ·cases af
  ·repeat' (split at af)
   all_goals first
    |cases af;done
    |(simp only[bk]at af;subst af;simp[bX]at ae;done)
 case makeInterface t x=>
  split at af
  ·cases af
  ·rename_i u U aa au;simp only[bk]at af;subst af;exact alV st ay aa au (fun ms he=>U ms he) ae
  ·cases af
 case makeFunc fn f c=>
  split at af
  ·simp only[bk]at af;subst af;exact al1 st ay ‹_› ‹_› ae
  ·cases af
 case fieldAddr s x f=>
  split at af
  ·split at af
   ·simp only[bk]at af;subst af;exact alU st ay ‹_› ‹_› ‹_› ae
   ·cases af
  ·cases af
 case field s x f=>
  split at af
  ·split at af
   ·simp only[bk]at af;subst af;exact alT st ay ‹_› ‹_› ‹_› ae
   ·cases af
  ·cases af
 case extract x i=>
  split at af
  ·simp only[bk]at af;subst af;exact alS st ay ‹_› ae
  ·cases af
 case index t x i=>
  split at af
  ·simp only[bk]at af;subst af;simp[bX]at ae
  ·split at af
   ·split at af
    ·rename_i hs mU;subst mU;simp only[bk]at af;subst af;exact alN st ay ‹_› ‹_› ‹_› ‹_› hs ae
    ·cases af
   ·cases af
  ·cases af
 case typeAssert x Vr t ok=>
  cases ok with
  |false=>cases af
  |true=>
   dsimp only at af;split at af
   ·simp only[bk]at af;subst af;exact al6 st ay ‹_› ‹_› ‹_› ae
   ·cases af
 case build t eM=>
  split at af
  ·split at af
   ·split at af
    ·simp only[bk]at af;subst af;exact alR st ay ‹_› ‹_› ‹_› ‹_› ae
    ·cases af
   ·cases af
  ·split at af
   ·rename_i hs lY;simp only[bk]at af;subst af;rw[hs]at lY;exact alL st ay ‹_› ‹_› hs lY ae
   ·cases af
  ·cases af
 case call c=>
  obtain⟨callee,⟨args⟩,⟨argTypes⟩⟩:=c;split at af
  case h_2=>cases af
  rename_i ey rZ;simp only[bk]at af;have QO:g3=ey:=by
   subst af;split at ae
   ·rename_i hm;rw[if_pos hm];cases ey<;>first|rfl|(simp only[a2.adf,bX,reduceCtorEq]at ae)
   ·rename_i hm;rw[if_neg hm]
  subst QO
  replace af:=rZ
  clear rZ;simp only[Li]at af;split at af
  ·split at af
   ·split at af
    ·split at af
     ·simp only[bk]at af;subst af;simp[bX]at ae
     ·cases af
    ·cases af
   ·split at af
    ·simp only[bk]at af;subst af;simp[bX]at ae
    ·cases af
  ·rename_i b;cases b<;>simp only[Lg,reduceCtorEq]at af
   case append=>
    repeat' (split at af)
    all_goals first
     |cases af;done
     |(simp only[bk]at af;subst af;simp[bX]at ae;done)
   case cap=>
    repeat' (split at af)
    all_goals first
     |cases af;done
     |(simp only[bk]at af;subst af;simp[bX]at ae;done)
   case delete=>
    repeat' (split at af)
    all_goals first
     |cases af;done
     |(simp only[bk]at af;subst af;simp[bX]at ae;done)
   case clear=>
    repeat' (split at af)
    all_goals first
     |cases af;done
     |(simp only[bk]at af;subst af;simp[bX]at ae;done)
   case len=>
    split at af
    ·split at af
     ·simp only[bk]at af;subst af;exact alW st ay ‹_› ‹_› ae
     ·simp only[bk]at af;subst af;exact alX st ay ‹_› ‹_› ae
     ·simp only[bk]at af;subst af;simp[bX]at ae
     ·cases af
    ·cases af
   case min=>
    split at af
    ·split at af
     ·simp only[bk]at af;subst af;exact al0 st ay ‹_› ‹_› ae
     ·cases af
    ·cases af
   case max=>
    split at af
    ·split at af
     ·simp only[bk]at af;subst af;exact alY st ay ‹_› ‹_› ae
     ·cases af
    ·split at af
     ·simp only[bk]at af;subst af;exact alZ st ay ‹_› ‹_› ‹_› ae
     ·cases af
    ·cases af
  ·split at af
   ·simp only[bk]at af;subst af;simp[bX]at ae
   ·cases af
 all_goals
  repeat' (split at af)
  all_goals first
   |cases af;done
   |(simp only[bk]at af;subst af;simp[bX]at ae;done)
end
end Go.bO
end
section
namespace Go.bO
open Go.RowKit
section
variable {P:Program} {E:Entry} {I:cf} {ag:a8} {env:bt} {bK:Nat→Nat} {a:Act} {w:World} {o:Oper}
theorem r3 (w:World) (x:Obj) (b:Nat):(w.alloc x).heap[b]? =if b=w.heap.size then some x else w.heap[b]? :=by
 simp only[World.alloc];by_cases h:b=w.heap.size
 ·subst h;simp
 ·rw[if_neg h,Array.getElem?_push,if_neg h]
theorem jn (w:World) (x:Obj) {b:Nat} (h:b<w.heap.size):(w.alloc x).heap[b]? =w.heap[b]? :=by
 rw[r3,if_neg (by omega)]
theorem e0.alloc (m:e0 I ag w) (x:Obj):e0 I ag (w.alloc x) where
 cell b o v h:=by
  obtain⟨cs,T,eo,U,aa⟩:=m.cell b o v h;exact⟨cs,T,eo,(jn w x (g8 U)).trans U,aa⟩
 cap b n h:=by have:=m.cap b n h;simp;omega
 obj b as h:=by
  obtain⟨cs,T,U,aa⟩:=m.obj b as h;exact⟨cs,T,(jn w x (g8 U)).trans U,aa⟩
 cF b n sz e h:=by
  obtain⟨aV,cs,cap,U,aa⟩:=m.cF b n sz e h;exact⟨aV,cs,cap,(jn w x (g8 U)).trans U,aa⟩
 mp b es h:=by
  obtain⟨U,aa,au,ba⟩:=m.mp b es h;exact⟨U,aa,fun cs T eo af=>au cs T eo ((jn w x ba.lt).symm.trans af),ba.iJ (.refl I) (by simp) fun y o aI _=>(jn w x (g8 aI)).trans aI⟩
theorem fC.alloc (x:Obj):fC I ag w I ag (w.alloc x):=
 ⟨.refl I,by simp,rfl,rfl,rfl,fun b aj h=>⟨jn w x aj,h,fun _=>rfl,rfl⟩⟩
theorem e0.drew (m:e0 I ag w):e0 I ag w.drew:=⟨m.cell,m.cap,m.obj,m.cF,m.mp⟩
theorem fC.drew:fC I ag w I ag w.drew:=⟨.refl I,b1 _,rfl,rfl,rfl,fun _ _ h=>⟨rfl,h,fun _=>rfl,rfl⟩⟩
theorem cx.world (st:cx E I ag env bK a w) {w':World} (ai:fC I ag w I ag w') (m:e0 I ag w'):cx E I ag env bK a w':=
 ⟨m,fun s=>(st.nu s).kN ai,st.inj,st.low,st.kN.trans ai,st.size,st.defers⟩
theorem e0.newObj (m:e0 I ag w) {cs:Array Value} {as:List ab} (T:TypeId) (ak:cs.size=as.length) (ah:∀j,aZ I (cs.getD j undef) (as.getD j .top)):
  e0 I (ag.setObj w.heap.size as) (w.alloc (.cells cs T)) where
 cell:=(m.alloc _).cell
 cap:=(m.alloc _).cap
 obj b bs h:=by
  by_cases e:b=w.heap.size
  ·subst e;simp only[a8.setObj,beq_self_eq_true,cond_true,bk]at h;subst h;exact⟨cs,T,by rw[r3,if_pos rfl],ak,ah,m.SZ (b1 _),m.NZ (b1 _)⟩
  ·have:(b==w.heap.size)=false:=by simpa using e
   simp only[a8.setObj,this,cond_false]at h;exact(m.alloc _).obj b bs h
 cF b n sz e h:=by
  obtain⟨aV,U⟩:=(m.alloc (.cells cs T)).cF b n sz e h;refine⟨?_,U⟩;obtain⟨_,_,aa,_⟩:=m.cF b n sz e h|>.2;have:(b==w.heap.size)=false:=by have:=g8 aa;simp;omega
  simpa[a8.setObj,this]using aV
 mp b ed h:=by
  obtain⟨U,aa,au,ba⟩:=(m.alloc (.cells cs T)).mp b ed h;have:(b==w.heap.size)=false:=by have:=(m.mp b ed h).2.2.2.lt;simp;omega
  exact⟨by simpa[a8.setObj,this]using U,aa,au,ba⟩
theorem fC.newObj (_m:e0 I ag w) (as:List ab) (x:Obj):fC I ag w I (ag.setObj w.heap.size as) (w.alloc x):=
 ⟨.refl I,by simp,rfl,rfl,rfl,fun b aj h=>⟨jn w x aj,by
  have:(b==w.heap.size)=false:=by simp;omega
  exact⟨by simpa[a8.setObj,this]using h.1,h.2.1,h.2.2⟩,fun _=>rfl,rfl⟩⟩
theorem e0.setObj (m:e0 I ag w) {b:Nat} {g':List ab} (ay:ag.obj b=some g') {ds:Array Value} {as:List ab} (hs:ds.size=as.length) (ah:∀j,aZ I (ds.getD j undef) (as.getD j .top)):
  e0 I (ag.setObj b as) (w.setRow b ds):=by
 obtain⟨cs,T,U,aa,au,ba,cb⟩:=m.obj b g' ay;have cm:∀x,x≠b→(w.setRow b ds).heap[x]? =w.heap[x]? :=fun x ad=>setRow_other w b x ds ad;refine⟨fun x o v h=> ?_,fun x n h=>by simpa using m.cap x n h,fun x bs h=> ?_,fun x n sz e h=> ?_,fun x es h=> ?_⟩
 ·have ad:x≠b:=by rintro rfl;rw[ba]at h;cases h
  obtain⟨c,kH,eo,az,ao⟩:=m.cell x o v h;exact⟨c,kH,eo,(cm x ad).trans az,ao⟩
 ·by_cases e:x=b
  ·subst e;simp only[a8.setObj,beq_self_eq_true,cond_true,bk]at h;subst h;exact⟨ds,T,setRow_heap w x cs ds T (0,0) U,hs,ah,ba,cb⟩
  ·have aj:(x==b)=false:=by simpa using e
   simp only[a8.setObj,aj,cond_false]at h;obtain⟨c,kH,az,ao⟩:=m.obj x bs h;exact⟨c,kH,(cm x e).trans az,ao⟩
 ·obtain⟨jo,c,cap,az,ao⟩:=m.cF x n sz e h;have ad:x≠b:=by rintro rfl;rw[ay]at jo;cases jo
  have aj:(x==b)=false:=by simpa using ad
  exact⟨by simpa[a8.setObj,aj]using jo,c,cap,(cm x ad).trans az,ao⟩
 ·obtain⟨az,ao,aX,bD⟩:=m.mp x es h;have ad:x≠b:=by rintro rfl;exact aX _ _ _ U
  have aj:(x==b)=false:=by simpa using ad
  exact⟨by simpa[a8.setObj,aj]using az,ao,fun cU kH pV af=>aX cU kH pV ((cm x ad).symm.trans af),bD.iJ (.refl I) (by simp) fun y o aI af=>by
   have:y≠b:=by rintro rfl;rw[U]at aI;cases aI;exact af _ _ _ rfl
   exact(cm y this).trans aI⟩
theorem fC.setObj {b:Nat} {g' as:List ab} (ay:ag.obj b=some g') (ds:Array Value):fC I ag w I (ag.setObj b as) (w.setRow b ds):=
 ⟨.refl I,by simp,rfl,rfl,rfl,fun x _ h=>by
  have ad:x≠b:=by rintro rfl;rw[h.1]at ay;cases ay
  have aj:(x==b)=false:=by simpa using ad
  exact⟨setRow_other w b x ds ad,⟨by simpa[a8.setObj,aj]using h.1,h.2⟩,fun _=>rfl,rfl⟩⟩
def cf.grow (I:cf) (b:Nat) (cap:Nat × Nat) (f:Nat→Option Value):cf:=
 {cell:=fun x o=>bif x==b then f o else I.cell x o,cap:=fun x=>bif x==b then some cap else I.cap x}
theorem cf.JA (I:cf) (b:Nat) (cap:Nat × Nat) (f:Nat→Option Value):(I.grow b cap f).cell b=f:=by funext o;simp[cf.grow]
theorem cf.PM (I:cf) (b:Nat) (cap:Nat × Nat) (f:Nat→Option Value):(I.grow b cap f).cap b=some cap:=by simp[cf.grow]
theorem Tl (m:e0 I ag w) {w':World} {b cap sz n:Nat} {e:TypeId} {cur:Array Value} {tok:Option Nat}
  (Ca:w.heap.size≤w'.heap.size) (zn:w'.os=w.os) (zv:w'.tape=w.tape) (oo:w'.output=w.output)
  (nD:∀x,x<w.heap.size→x≠b→w'.heap[x]? =w.heap[x]?)
  (aj:w'.heap[b]? =some (.cells cur e (0,0))) (Qg:cur.size=cap*sz) (aK:n≤cap) (mm:cap≤maxLen)
  (g6:w.heap.size≤b∨(tok=some b∧(∃r,ag.cF b=some r)∧I.cap b=some (cap,sz)∧∀o v,I.cell b o=some v→o<n*sz∧cur[o]? =some v)):
  e0 (I.grow b (cap,sz) fun o=>if o<n*sz then cur[o]? else none) ((ag.jF tok).m_ b (n,sz,e)) w'∧
  fC I ag w (I.grow b (cap,sz) fun o=>if o<n*sz then cur[o]? else none) ((ag.jF tok).m_ b (n,sz,e)) w':=by
 have p3:ag.obj b=none:=by
  rcases g6 with h|⟨_,⟨r,ah⟩,_⟩
  ·exact(m.nv h).1
  ·exact(m.cF b r.1 r.2.1 r.2.2 ah).1
 have tB:ag.mp b=none:=by
  rcases g6 with h|⟨_,⟨r,ah⟩,_⟩
  ·exact(m.nv h).2.2
  ·cases aB:ag.mp b with
   |none=>rfl
   |some es=>have:=(m.mp b es aB).2.1;rw[ah]at this;cases this
 have ik:∀o v,I.cell b o=some v→o<n*sz∧cur[o]? =some v:=by
  rcases g6 with h|⟨_,_,_,h⟩
  ·intro o v af;rw[m.SZ h]at af;cases af
  ·exact h
 have amM:I.cap b=none∨I.cap b=some (cap,sz):=by
  rcases g6 with h|⟨_,_,h,_⟩
  ·exact .inl (m.NZ h)
  ·exact .inr h
 have bz:I.dY (I.grow b (cap,sz) fun o=>if o<n*sz then cur[o]? else none):=by
  refine⟨fun x o v h=> ?_,fun x k h=> ?_⟩
  ·by_cases ad:x=b
   ·subst ad;obtain⟨U,aa⟩:=ik o v h;simp[cf.grow,U,aa]
   ·have:(x==b)=false:=by simpa using ad
    simpa[cf.grow,this]using h
  ·by_cases ad:x=b
   ·subst ad;rcases amM with af|af
    ·rw[af]at h;cases h
    ·rw[af]at h;simp[cf.grow,yI h]
   ·have:(x==b)=false:=by simpa using ad
    simpa[cf.grow,this]using h
 refine⟨⟨fun x o v h=> ?_,fun x k h=> ?_,fun x bs h=> ?_,fun x k s t h=> ?_,fun x es h=> ?_⟩,⟨bz,Ca,zn,zv,oo,fun x ad ax=> ?_⟩⟩
 ·by_cases ad:x=b
  ·subst ad;simp only[cf.grow,beq_self_eq_true,cond_true]at h;split at h
   ·exact⟨cur,e,(0,0),aj,h⟩
   ·cases h
  ·have ff:(x==b)=false:=by simpa using ad
   simp only[cf.grow,ff,cond_false]at h;obtain⟨c,T,eo,az,ao⟩:=m.cell x o v h;exact⟨c,T,eo,(nD x (g8 az) ad).trans az,ao⟩
 ·by_cases ad:x=b
  ·subst ad;exact g8 aj
  ·have ff:(x==b)=false:=by simpa using ad
   simp only[cf.grow,ff,cond_false]at h;have:=m.cap x k h;omega
 ·have b0:ag.obj x=some bs:=h;have ad:x≠b:=by rintro rfl;rw[p3]at b0;cases b0
  have ff:(x==b)=false:=by simpa using ad
  obtain⟨c,T,az,ao,aX,bD,c8⟩:=m.obj x bs b0;exact⟨c,T,(nD x (g8 az) ad).trans az,ao,fun j=>(aX j).mono bz,by simpa[cf.grow,ff]using bD,by simpa[cf.grow,ff]using c8⟩
 ·by_cases ad:x=b
  ·subst ad;simp only[a8.m_,beq_self_eq_true,cond_true,bk,Prod.mk.injEq]at h;obtain⟨rfl,rfl,rfl⟩:=h;refine⟨p3,cur,cap,aj,by simp[cf.grow],Qg,aK,mm,fun o ay=> ?_⟩
   simp only[cf.grow,beq_self_eq_true,cond_true];rw[if_neg (by omega)]
  ·have ff:(x==b)=false:=by simpa using ad
   have b0:ag.cF x=some (k,s,t):=by
    simp only[a8.m_,a8.jF,ff,cond_false]at h;cases aB:(some x==tok)with
    |true=>rw[aB]at h;cases h
    |false=>rw[aB]at h;exact h
   obtain⟨jo,c,E0,az,ao,aX,bD,c8,e'⟩:=m.cF x k s t b0;exact⟨jo,c,E0,(nD x (g8 az) ad).trans az,by simpa[cf.grow,ff]using ao,aX,bD,c8,by simpa[cf.grow,ff]using e'⟩
 ·have b0:ag.mp x=some es:=h;have ad:x≠b:=by rintro rfl;rw[tB]at b0;cases b0
  obtain⟨az,ao,aX,bD⟩:=m.mp x es b0;have ff:(x==b)=false:=by simpa using ad
  refine⟨az,?_,fun cU kH pV af=>aX cU kH pV ((nD x bD.lt ad).symm.trans af),bD.iJ bz Ca fun y o aI af=> ?_⟩
  ·simp only[a8.m_,a8.jF,ff,cond_false];cases aB:(some x==tok)with
   |true=>rfl
   |false=>exact ao
  ·by_cases ZA:y=b
   ·subst ZA;rcases g6 with h|⟨_,⟨r,ah⟩,_⟩
    ·have:=g8 aI;omega
    ·obtain⟨_,_,_,c8,_⟩:=m.cF y r.1 r.2.1 r.2.2 ah;rw[c8]at aI;cases aI;exact(af _ _ _ rfl).elim
   ·exact(nD y (g8 aI) ZA).trans aI
 ·have ff:x≠b:=by
   rintro rfl;rcases g6 with h|⟨_,⟨r,ah⟩,_⟩
   ·omega
   ·rw[ax.2.1]at ah;cases ah
  have dJ:(x==b)=false:=by simpa using ff
  refine⟨nD x ad ff,⟨ax.1,?_,ax.2.2⟩,by simp[cf.grow,dJ],by simp[cf.grow,dJ]⟩
  simp only[a8.m_,a8.jF,dJ,cond_false];cases aB:(some x==tok)with
  |true=>rfl
  |false=>exact ax.2.1
theorem adx {b cap sz n:Nat} {cur:Array Value} {xs:List ab} {vs:Nat→Nat→Value} {J:cf} (ak:xs.length=n) (aK:n≤cap) (mm:cap≤maxLen)
  (hs:∀i,i<n→(xs.getD i .top).cells.length=sz) (af:∀i j,i<n→j<sz→cur[i*sz+j]? =some (vs i j)) (ah:∀i j,aZ J (vs i j) ((xs.getD i .top).cells.getD j .top))
  (P2:J.cell b=fun o=>if o<n*sz then cur[o]? else none) (aml:J.cap b=some (cap,sz)):
  aZ J (.slice (some ⟨b,0,none⟩) n cap) (.slice xs false (some b)):=by
 refine aZ.slice b 0 n cap sz xs (some b) vs ak aK mm hs (fun i j hi aU=> ?_) ah (fun g av=> ?_)
 ·rw[P2];have:i*sz+j<n*sz:=by
   have:(i+1)*sz≤n*sz:=l_ _ hi;rw[pM]at this;omega
  simp only[fy];rw[if_pos this];exact af i j hi aU
 ·cases av;exact⟨rfl,rfl,aml⟩
theorem aJ.RS {s:Nat} {e:aJ} {J:cf} {dR:a8} {w':World} {lO:Nat→Nat} {t:Nat} {v:Value} (h:ug J dR lO w' t v e) (aw:t≠s) {Iy:Nat→Nat} (aj:∀x,x≠s→Iy x=lO x):
  ug J dR Iy w' t v (e.kill s):=by
 cases e with
 |val x=>exact h
 |box c=>unfold aJ.kill ug;rw[aj t aw];exact h
 |b7 q off=>
  show ug J dR Iy w' t v (bif q==s then .val .top else .b7 q off)
  by_cases aB:q=s
  ·subst aB;simp only[beq_self_eq_true,cond_true];exact aZ.top _
  ·have:(q==s)=false:=by simpa using aB
   have aV:v=.pointer (some ⟨lO q,off,none⟩):=h;rw[this];show v=.pointer (some ⟨Iy q,off,none⟩);rw[aj q aB];exact aV
theorem aJ.RR {s:Nat} {e:aJ}:(e.kill s).j8↔e.j8:=by
 cases e with
 |val x=>exact Iff.rfl
 |box c=>exact Iff.rfl
 |b7 q off=>
  show(bif q==s then aJ.val .top else .b7 q off).j8↔_
  cases(q==s)<;>exact Iff.rfl
theorem cx.nK (st:cx E I ag env bK a w) {d:Nat} (aQ:d<E.n) {cs:Array Value} {as:List ab} (T:TypeId) (ak:cs.size=as.length) (ah:∀j,aZ I (cs.getD j undef) (as.getD j .top)):
  cx E I ag (env.nK d as) (fun s=>if s=d then w.heap.size else bK s) (a.put (some d) (.pointer (some ⟨w.heap.size,0,none⟩))) (w.alloc (.cells cs T)) where
 cr:=st.cr.alloc _
 nu s:=by
  rw[Act.agE];by_cases h:s=d
  ·subst h;have hs:s<a.tmps.size:=by rw[st.size];exact aQ
   simp only[hs,and_self,if_true,bt.nK,beq_self_eq_true,cond_true];refine⟨by simp,cs,T,?_,ak,ah,?_,?_,?_⟩
   ·simp only[if_true];rw[r3,if_pos rfl]
   ·simp only[if_true];exact st.cr.nv (b1 _)
   ·simp only[if_true];exact st.cr.SZ (b1 _)
   ·simp only[if_true];exact st.cr.NZ (b1 _)
  ·have b0:¬(some d=some s∧s<a.tmps.size):=fun aa=>h (yI aa.1).symm;have aj:(s==d)=false:=by simpa using h
   rw[if_neg b0];simp only[bt.nK,aj,cond_false];exact aJ.RS ((st.nu s).kN (fC.alloc _)) h (fun x ad=>by simp[ad])
 inj s dy h b0 bQ:=by
  have g':∀t,t≠d→(env.nK d as t).j8→bK t<w.heap.size:=by
   intro t aw o7;have aj:(t==d)=false:=by simpa using aw
   simp only[bt.nK,aj,cond_false,aJ.RR]at o7;have:=st.nu t;cases he:env t with
   |val x=>rw[he]at o7;exact o7.elim
   |b7 q o=>rw[he]at o7;exact o7.elim
   |box c=>rw[he]at this;exact g8 this.2.choose_spec.choose_spec.1
  by_cases e1:s=d<;>by_cases aN:dy=d
  ·rw[e1,aN]
  ·have:=g' dy aN b0;simp only[e1,aN,if_true,if_false]at bQ;omega
  ·have:=g' s e1 h;simp only[e1,aN,if_true,if_false]at bQ;omega
  ·have cp:(s==d)=false:=by simpa using e1
   have b_:(dy==d)=false:=by simpa using aN
   simp only[bt.nK,cp,b_,cond_false,aJ.RR]at h b0;simp only[e1,aN,if_false]at bQ;exact st.inj s dy h b0 bQ
 low s h:=by
  by_cases e1:s=d
  ·simp only[e1,if_true];exact st.kN.size
  ·have cp:(s==d)=false:=by simpa using e1
   simp only[bt.nK,cp,cond_false,aJ.RR]at h;simp only[e1,if_false];exact st.low s h
 kN:=st.kN.trans (fC.alloc _)
 size:=by rw[Act.size_put];exact st.size
 defers:=by rw[Act.Xx];exact st.defers
theorem cx.m9 (st:cx E I ag env bK a w) {s:Nat} {cs:List ab} (hs:env s=.box cs) {ds:Array Value} {as:List ab} (ak:ds.size=as.length) (ah:∀j,aZ I (ds.getD j undef) (as.getD j .top)):
  cx E I ag (env.m9 s as) bK a (w.setRow (bK s) ds):=by
 have aj:=st.nu s;rw[hs]at aj;obtain⟨et,vs,T,eY,m7,z',C2,Lz,GX⟩:=aj;have cm:∀x,x≠bK s→(w.setRow (bK s) ds).heap[x]? =w.heap[x]? :=fun x ad=>setRow_other w (bK s) x ds ad;have zb:(env s).j8:=by rw[hs];trivial
 have aC:E.w.heap.size≤bK s:=st.low s zb;have Qz:∀t,(env.m9 s as t).j8↔(env t).j8:=by
  intro t;by_cases e:t=s
  ·subst e;simp only[bt.m9,beq_self_eq_true,cond_true];exact⟨fun _=>zb,fun _=>trivial⟩
  ·have:(t==s)=false:=by simpa using e
   simp only[bt.m9,this,cond_false]
 refine⟨⟨fun x o v h=> ?_,fun x n h=>by simpa using st.cr.cap x n h,fun x bs h=> ?_,fun x n sz e h=> ?_,fun x es h=> ?_⟩,fun t=> ?_,fun t cn h b0=>st.inj t cn ((Qz t).1 h) ((Qz cn).1 b0),
  fun t h=>st.low t ((Qz t).1 h),⟨st.kN.le,by simpa using st.kN.size,st.kN.os,st.kN.tape,st.kN.output,fun x ad ax=> ?_⟩,st.size,st.defers⟩
 ·have ad:x≠bK s:=by rintro rfl;rw[Lz]at h;cases h
  obtain⟨c,kH,eo,az,ao⟩:=st.cr.cell x o v h;exact⟨c,kH,eo,(cm x ad).trans az,ao⟩
 ·obtain⟨c,kH,az,ao⟩:=st.cr.obj x bs h;exact⟨c,kH,(cm x (by rintro rfl;rw[C2.1]at h;cases h)).trans az,ao⟩
 ·obtain⟨jo,c,cap,az,ao⟩:=st.cr.cF x n sz e h;exact⟨jo,c,cap,(cm x (by rintro rfl;rw[C2.2.1]at h;cases h)).trans az,ao⟩
 ·obtain⟨az,ao,aX,bD⟩:=st.cr.mp x es h;have ad:x≠bK s:=by rintro rfl;rw[C2.2.2]at h;cases h
  exact⟨az,ao,fun cU kH pV af=>aX cU kH pV ((cm x ad).symm.trans af),bD.iJ (.refl I) (by simp) fun y o aI af=>by
   have:y≠bK s:=by rintro rfl;rw[eY]at aI;cases aI;exact af _ _ _ rfl
   exact(cm y this).trans aI⟩
 ·by_cases e:t=s
  ·subst e;simp only[bt.m9,beq_self_eq_true,cond_true];exact⟨et,ds,T,setRow_heap w (bK t) vs ds T (0,0) eY,ak,ah,C2,Lz,GX⟩
  ·have q1:(t==s)=false:=by simpa using e
   simp only[bt.m9,q1,cond_false];have aw:=st.nu t;cases he:env t with
   |val x=>rw[he]at aw;exact aw
   |b7 q off=>rw[he]at aw;exact aw
   |box c=>
    rw[he]at aw;obtain⟨bg,us,ahw,bl,bS⟩:=aw;have amH:bK t≠bK s:=fun bQ=>e (st.inj t s (by rw[he];trivial) zb bQ)
    exact⟨bg,us,ahw,(cm _ amH).trans bl,bS⟩
 ·obtain⟨az,ao⟩:=st.kN.iJ x ad ax;exact⟨(cm x (by omega)).trans az,ao⟩
end
end Go.bO
end
