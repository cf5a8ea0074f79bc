/-
  AN ABSTRACT LOGIC OVER THE MODEL, part 0: values as trees, what a machine's value has to do with a tree, the store of what may change, the frame of one function.
  Slices that are only read are plain lists; nothing of the heap is told of them. What may change lies in a store by its block's number.
-/
import Derived.WalkKit
import Derived.MapKept
import Derived.WideKeyRuns
set_option linter.unusedSectionVars false
set_option linter.unusedVariables false
set_option linter.unusedSimpArgs false
section
namespace Go.bO
abbrev bk:=@Option.some.injEq
abbrev b1:=@Nat.le_refl
abbrev cu:=@List.mem_cons
abbrev cv:=@List.mem_cons_of_mem
abbrev cz:=@List.mem_cons_self
abbrev cM:=@List.getD_eq_getElem?_getD
abbrev dF:=@Bool.and_eq_true
abbrev dI:=@List.all_eq_true
abbrev eE:=@Nat.lt_of_lt_of_le
abbrev eO:=@List.mem_map
abbrev eU:=@List.getElem?_eq_getElem
abbrev fp:=@Nat.le_trans
abbrev fu:=@List.mem_append
abbrev fv:=@Nat.zero_le
abbrev fy:=@Nat.zero_add
abbrev gl:=@Array.getD_eq_getD_getElem?
abbrev gM:=@List.map_cons
abbrev gT:=@Nat.lt_succ_self
abbrev g0:=@Bool.false_ne_true
abbrev g1:=@Bool.or_eq_true
abbrev hn:=@List.getElem?_eq_some_iff
abbrev hA:=@Nat.le_succ
abbrev hU:=@Int.ofNat_eq_natCast
abbrev h4:=@List.any_eq_true
abbrev ic:=@List.getElem?_map
abbrev iz:=@List.length_append
abbrev iS:=@List.mem_singleton
abbrev kk:=@List.pairwise_cons
abbrev kl:=@List.getElem?_append_left
abbrev km:=@List.getElem?_append_right
abbrev kI:=@List.getElem?_eq_none
abbrev kJ:=@Nat.add_mul
abbrev k4:=@List.getElem?_drop
abbrev lJ:=@Nat.lt_or_ge
abbrev lK:=@Bool.false_eq_true
abbrev lL:=@Option.getD_some
abbrev lM:=@List.mem_of_getElem?
abbrev l5:=@List.getElem?_cons_zero
abbrev l9:=@List.getElem?_take
abbrev l_:=@Nat.mul_le_mul_right
abbrev l':=@List.getElem_mem
abbrev ma:=@List.mem_filter
abbrev mb:=@List.length_cons
abbrev mc:=@Bool.and_eq_true_iff
abbrev ng:=@List.length_map
abbrev nh:=@List.mem_append_right
abbrev ni:=@Array.getElem?_eq_getElem
abbrev nj:=@Option.map_some
abbrev nk:=@List.length_drop
abbrev nm:=@List.length_take
abbrev nn:=@List.length_nil
abbrev np:=@Int.le_trans
abbrev nV:=@List.getElem?_cons_succ
abbrev nW:=@Int.natCast_nonneg
abbrev nY:=@Int.ofNat_le
abbrev oS:=@List.mem_append_left
abbrev oT:=@Nat.eq_of_beq_eq_true
abbrev oU:=@List.size_toArray
abbrev pK:=@List.map_nil
abbrev pL:=@List.append_assoc
abbrev pM:=@Nat.succ_mul
abbrev pN:=@Nat.add_zero
abbrev pO:=@Nat.lt_succ_of_lt
abbrev qG:=@Array.getElem?_append_left
abbrev qH:=@Nat.mul_comm
abbrev rG:=@List.all_cons
abbrev rH:=@List.pairwise_append
abbrev rI:=@List.getElem?_toArray
abbrev rJ:=@List.eq_nil_of_length_eq_zero
abbrev s5:=@Array.size_append
abbrev s6:=@List.getElem?_of_mem
abbrev s7:=@Bool.true_and
abbrev s8:=@Bool.and_self
abbrev s9:=@List.map_append
abbrev s_:=@Nat.le_of_ble_eq_true
abbrev uv:=@Nat.eq_zero_or_pos
abbrev uw:=@Int.natCast_pow
abbrev ux:=@Nat.add_assoc
abbrev uy:=@Int.ofNat.inj
abbrev wA:=@List.cons.injEq
abbrev wB:=@List.append_nil
abbrev wv:=@List.length_eq_zero_iff
abbrev wx:=@List.flatMap_cons
abbrev wy:=@Int.negSucc_eq
abbrev wz:=@Nat.mod_lt
abbrev wE:=@Bool.and_true
abbrev wH:=@List.getElem?_take_of_lt
abbrev yD:=@Array.getElem?_toList
abbrev yF:=@Nat.beq_refl
abbrev yG:=@Nat.mod_eq_of_lt
abbrev yI:=@Option.some.inj
abbrev yM:=@List.length_replicate
abbrev yN:=@Option.isSome_iff_exists
abbrev Bs:=@List.mem_filterMap
abbrev Bt:=@List.drop_drop
abbrev Bu:=@Bool.not_true
abbrev Bw:=@List.ext_getElem?
abbrev Bx:=@List.mem_map_of_mem
abbrev By:=@Nat.add_sub_cancel
abbrev Bg:=@List.cons_append
abbrev Bh:=@Bool.not_eq_true'
abbrev Bi:=@Array.append_assoc
abbrev Bj:=@Array.getElem?_append_right
abbrev Bk:=@Int.le_refl
abbrev EB:=@List.nil_append
abbrev EC:=@Option.bind_some
abbrev ED:=@List.take_succ_cons
abbrev EE:=@List.getElem?_eq_none_iff
abbrev EF:=@List.nodup_append
abbrev EG:=@Nat.add_mul_mod_self_right
abbrev EH:=@List.Sublist.append
abbrev EI:=@List.sublist_cons_self
abbrev EJ:=@Int.tmod_lt_of_pos
abbrev EK:=@Nat.mul_zero
abbrev IB:=@List.pairwise_map
abbrev IC:=@List.mem_range
abbrev ID:=@Nat.sub_self
abbrev IE:=@List.drop_zero
abbrev IF:=@Nat.zero_mul
abbrev IG:=@Nat.pow_succ
abbrev IH:=@Nat.min_eq_left
abbrev II:=@Nat.le_succ_of_le
abbrev IJ:=@List.length_pos_iff
abbrev IA:=@Nat.mul_one
abbrev I1:=@Nat.div_add_mod
abbrev I2:=@List.drop_left'
abbrev OC:=@Array.getElem?_eq_none
abbrev OD:=@Nat.add_sub_cancel'
abbrev OF:=@Option.bind_eq_some_iff
abbrev OG:=@Array.getElem?_eq_some_iff
abbrev OH:=@Option.bind_none
abbrev OI:=@Array.getElem?_modify
abbrev OK:=@Array.length_toList
abbrev OL:=@Nat.ble_eq_true_of_le
abbrev OM:=@Int.fdiv_eq_ediv_of_nonneg
abbrev ON:=@Array.getElem?_setIfInBounds
abbrev OO:=@Bool.cond_decide
abbrev OT:=@List.length_set
abbrev OU:=@Bool.and_eq_false_iff
abbrev OV:=@List.take_append_of_le_length
abbrev OW:=@List.drop_eq_getElem_cons
abbrev OX:=@List.foldl_cons
abbrev OY:=@Option.map_none
abbrev OZ:=@Nat.div_lt_iff_lt_mul
abbrev Ot:=@Nat.div_eq_of_lt
abbrev Ou:=@Option.isNone_iff_eq_none
abbrev Ov:=@List.nodup_cons
abbrev Ow:=@List.mem_iff_getElem?
abbrev Ox:=@List.Perm.of_eq
abbrev Oy:=@List.map_replicate
abbrev Oz:=@List.contains_eq_any_beq
abbrev OA:=@Nat.not_lt_zero
abbrev OB:=@Int.ediv_nonneg
abbrev Xs:=@List.drop_append_of_le_length
abbrev Xt:=@Int.mul_le_mul_of_nonpos_left
open Go.RowKit
inductive ab where
 |top
 |bool (b:Bool)
 |int (k:IntKind) (n:Int)
 |str (s:List UInt8)
 |cX
 |ptr (b off:Nat)
 |dK (cs:List ab)
 |slice (xs:List ab) (nl:Bool) (tok:Option Nat)
 |raw (g n:Nat)
 |ref (b off n c:Nat)
 |agg (cs:List ab)
 |tuple (vs:List ab)
 |iface (t:TypeId) (v:ab)
 |dC
 |func (fn:Fn) (first aj5:List ab)
 |fj
 |map (r:Option Nat)
instance:Inhabited ab:=⟨.top⟩
def ab.cells:ab→List ab
 |.agg cs=>cs
 |v=>[v]
structure cf where
 cell:Nat→Nat→Option Value
 cap:Nat→Option (Nat × Nat)
structure cf.dY (I J:cf):Prop where
 cell:∀b o v,I.cell b o=some v→J.cell b o=some v
 cap:∀b n,I.cap b=some n→J.cap b=some n
theorem cf.dY.refl (I:cf):I.dY I:=⟨fun _ _ _ h=>h,fun _ _ h=>h⟩
theorem cf.dY.trans {I J K:cf} (h:I.dY J) (k:J.dY K):I.dY K:=
 ⟨fun b o v e=>k.cell b o v (h.cell b o v e),fun b n e=>k.cap b n (h.cap b n e)⟩
inductive aZ (I:cf):Value→ab→Prop
 |top (v:Value):aZ I v .top
 |bool (b:Bool):aZ I (.bool b) (.bool b)
 |int (k:IntKind) (n:Int):aZ I (.int k n) (.int k n)
 |str (s:ByteArray) (l:List UInt8) (h:s.data.toList=l):aZ I (.string s) (.str l)
 |cX:aZ I (.pointer none) .cX
 |ptr (b o:Nat):aZ I (.pointer (some ⟨b,o,none⟩)) (.ptr b o)
 |dK (b o:Nat) (cs:List ab) (vs:Nat→Value) (h:∀j,j<cs.length→I.cell b (o+j)=some (vs j))
   (ah:∀j,aZ I (vs j) (cs.getD j .top)):aZ I (.pointer (some ⟨b,o,none⟩)) (.dK cs)
 |qg:aZ I (.slice none 0 0) (.slice [] true none)
 |slice (b o n cap sz:Nat) (xs:List ab) (tok:Option Nat) (vs:Nat→Nat→Value) (ak:xs.length=n) (af:n≤cap) (hm:cap≤maxLen)
   (hs:∀i,i<n→(xs.getD i .top).cells.length=sz)
   (h:∀i j,i<n→j<sz→I.cell b (o+(i*sz+j))=some (vs i j))
   (ah:∀i j,aZ I (vs i j) ((xs.getD i .top).cells.getD j .top))
   (aw:∀g,tok=some g→g=b∧o=0∧I.cap g=some (cap,sz)):aZ I (.slice (some ⟨b,o,none⟩) n cap) (.slice xs false tok)
 |tZ (a:Addr):aZ I (.slice (some a) 0 0) (.slice [] false none)
 |raw (g n cap sz:Nat) (af:n≤cap) (hm:cap≤maxLen) (aw:I.cap g=some (cap,sz)):aZ I (.slice (some ⟨g,0,none⟩) n cap) (.raw g n)
 |ref (b o n c:Nat) (af:n≤c) (hm:c≤maxLen):aZ I (.slice (some ⟨b,o,none⟩) n c) (.ref b o n c)
 |agg (cs:Array Value) (as:List ab) (ak:cs.size=as.length) (ah:∀j,aZ I (cs.getD j undef) (as.getD j .top)):aZ I (.agg cs) (.agg as)
 |tuple (vs:Array Value) (as:List ab) (ak:vs.size=as.length) (ah:∀j,aZ I (vs.getD j undef) (as.getD j .top)):aZ I (.tuple vs) (.tuple as)
 |iface (t:TypeId) (v:Value) (a:ab) (h:aZ I v a):aZ I (.iface t v) (.iface t a)
 |dC:aZ I .nilIface .dC
 |func (fn:Fn) (f c:Array Value) (as bs:List ab) (U:f.size=as.length) (aa:c.size=bs.length) (zs:∀j,aZ I (f.getD j undef) (as.getD j .top))
   (si:∀j,aZ I (c.getD j undef) (bs.getD j .top)):aZ I (.func fn f c) (.func fn as bs)
 |fj:aZ I .nilFunc .fj
 |map (r:Option Nat):aZ I (.map r) (.map r)
theorem aZ.mono {I J:cf} (bz:I.dY J) {v:Value} {a:ab} (h:aZ I v a):aZ J v a:=by
 induction h with
 |top v=>exact .top v
 |bool b=>exact .bool b
 |int k n=>exact .int k n
 |str s l h=>exact .str s l h
 |cX=>exact .cX
 |ptr b o=>exact .ptr b o
 |dK b o cs vs h _ bm=>exact .dK b o cs vs (fun j aU=>bz.cell _ _ _ (h j aU)) bm
 |qg=>exact .qg
 |slice b o n cap sz xs tok vs ak af hm hs h _ aw bm=>
  exact .slice b o n cap sz xs tok vs ak af hm hs (fun i j hi aU=>bz.cell _ _ _ (h i j hi aU)) bm
   (fun g av=>let⟨U,aa,au⟩:=aw g av;⟨U,aa,bz.cap _ _ au⟩)
 |tZ a=>exact .tZ a
 |raw g n cap sz af hm aw=>exact .raw g n cap sz af hm (bz.cap _ _ aw)
 |ref b o n c af hm=>exact .ref b o n c af hm
 |agg cs as ak _ bm=>exact .agg cs as ak bm
 |tuple vs as ak _ bm=>exact .tuple vs as ak bm
 |iface t v a _ bm=>exact .iface t v a bm
 |dC=>exact .dC
 |func fn f c as bs U aa _ _ Ry Rz=>exact .func fn f c as bs U aa Ry Rz
 |fj=>exact .fj
 |map r=>exact .map r
inductive nd where
 |map (es:List (ab × ab))
 |iter (m:Option Nat) (es left:List (ab × ab)) (cur:Option (ab × ab))
 |eL
structure a8 where
 obj:Nat→Option (List ab)
 cF:Nat→Option (Nat × Nat × Nat)
 mp:Nat→Option nd
def a8.empty:a8:=⟨fun _=>none,fun _=>none,fun _=>none⟩
def a8.fresh (ag:a8) (b:Nat):Prop:=ag.obj b=none∧ag.cF b=none∧ag.mp b=none
def a8.setObj (ag:a8) (b:Nat) (cs:List ab):a8:= {ag with obj:=fun x=>bif x==b then some cs else ag.obj x}
def a8.m_ (ag:a8) (b:Nat) (r:Nat × Nat × Nat):a8:= {ag with cF:=fun x=>bif x==b then some r else ag.cF x}
def a8.jF (ag:a8) (t:Option Nat):a8:= {ag with cF:=fun x=>bif some x==t then none else ag.cF x}
def a8.c5 (ag:a8) (b:Nat) (es:nd):a8:= {ag with mp:=fun x=>bif x==b then some es else ag.mp x}
structure a8.Sub (dR ag:a8):Prop where
 obj:∀b cs,dR.obj b=some cs→ag.obj b=some cs
 cF:∀b r,dR.cF b=some r→ag.cF b=some r
 mp:∀b es,dR.mp b=some es→ag.mp b=some es
theorem a8.Sub.refl (ag:a8):ag.Sub ag:=⟨fun _ _ h=>h,fun _ _ h=>h,fun _ _ h=>h⟩
theorem a8.Sub.fresh {dR ag:a8} (h:dR.Sub ag) {b:Nat} (ax:ag.fresh b):dR.fresh b:=by
 refine⟨?_,?_,?_⟩
 ·cases e:dR.obj b with
  |none=>rfl
  |some c=>have:=h.obj b c e;rw[ax.1]at this;cases this
 ·cases e:dR.cF b with
  |none=>rfl
  |some c=>have:=h.cF b c e;rw[ax.2.1]at this;cases this
 ·cases e:dR.mp b with
  |none=>rfl
  |some c=>have:=h.mp b c e;rw[ax.2.2]at this;cases this
def jS (I:cf) (ms:List MapEntry) (es:List (ab × ab)):Prop:=
 ms.length=es.length∧∀(j:Nat) (m:MapEntry) (e:ab × ab),ms[j]? =some m→es[j]? =some e→aZ I m.key e.1∧aZ I m.val e.2
theorem jS.mono {I J:cf} (bz:I.dY J) {ms:List MapEntry} {es:List (ab × ab)} (h:jS I ms es):jS J ms es:=
 ⟨h.1,fun j m e U aa=>let⟨a,b⟩:=h.2 j m e U aa;⟨a.mono bz,b.mono bz⟩⟩
def oP (ms:List MapEntry) (oZ:Nat):Prop:=(ms.map MapEntry.born).Pairwise (· < ·)∧∀m∈ms,m.born<oZ
def pF (I:cf) (mp:Nat→Option nd) (w:World) (b:Nat):nd→Prop
 |.map es=>∃ms oZ,w.heap[b]? =some (.map ms oZ)∧oP ms.toList oZ∧jS I ms.toList es
 |.iter none _ left _=>left=[]∧∃atw seen aqc,w.heap[b]? =some (.mapIter none atw seen aqc)
 |.iter (some r) es left cur=>∃(ms:Array MapEntry) (oZ:Nat) (seen:Array Nat),w.heap[b]? =some (.mapIter (some r) oZ seen oZ)∧w.heap[r]? =some (.map ms oZ)∧
   oP ms.toList oZ∧jS I ms.toList es∧jS I (ms.toList.filter fun e=> !seen.contains e.born) left∧
   (∀e,cur=some e→∃st x,seen.back? =some st∧ms.find? (·.born==st)=some x∧aZ I x.key e.1∧aZ I x.val e.2)∧
   (∀es',mp r≠some (.map es'))∧∀ea es' iK jV,mp ea=some (.iter (some r) es' iK jV)→ea=b
 |.eL=>b<w.heap.size
structure e0 (I:cf) (ag:a8) (w:World):Prop where
 cell:∀b o v,I.cell b o=some v→∃cs T eo,w.heap[b]? =some (.cells cs T eo)∧cs[o]? =some v
 cap:∀b n,I.cap b=some n→b<w.heap.size
 obj:∀b as,ag.obj b=some as→∃cs T,w.heap[b]? =some (.cells cs T (0,0))∧cs.size=as.length∧(∀j,aZ I (cs.getD j undef) (as.getD j .top))∧
  (∀o,I.cell b o=none)∧I.cap b=none
 cF:∀b n sz e,ag.cF b=some (n,sz,e)→ag.obj b=none∧∃cs cap,w.heap[b]? =some (.cells cs e (0,0))∧I.cap b=some (cap,sz)∧cs.size=cap*sz∧n≤cap∧
  cap≤maxLen∧∀o,n*sz≤o→I.cell b o=none
 mp:∀b ed,ag.mp b=some ed→ag.obj b=none∧ag.cF b=none∧(∀cs T eo,w.heap[b]?≠some (.cells cs T eo))∧pF I ag.mp w b ed
theorem g8 {w:World} {b:Nat} {o:Obj} (h:w.heap[b]? =some o):b<w.heap.size:=by
 rcases lJ b w.heap.size with bw|d_
 ·exact bw
 ·rw[OC d_]at h;cases h
theorem pF.lt {I:cf} {mp:Nat→Option nd} {w:World} {b:Nat} {ed:nd} (h:pF I mp w b ed):b<w.heap.size:=by
 match ed,h with
 |.map _,⟨_,_,h,_⟩=>exact g8 h
 |.iter none _ _ _,⟨_,_,_,_,h⟩=>exact g8 h
 |.iter (some _) _ _ _,⟨_,_,_,h,_⟩=>exact g8 h
 |.eL,h=>exact h
theorem pF.iJ {I J:cf} {mp:Nat→Option nd} {w w':World} {b:Nat} {ed:nd} (h:pF I mp w b ed) (bz:I.dY J) (hs:w.heap.size≤w'.heap.size)
  (aF:∀(x:Nat) (o:Obj),w.heap[x]? =some o→(∀cs T eo,o≠Obj.cells cs T eo)→w'.heap[x]? =some o):pF J mp w' b ed:=by
 match ed,h with
 |.map _,⟨ms,c,U,aa,au⟩=>exact⟨ms,c,aF _ _ U (fun _ _ _ h=>by cases h),aa,au.mono bz⟩
 |.iter none _ _ _,⟨aV,s,n,l,h⟩=>exact⟨aV,s,n,l,aF _ _ h (fun _ _ _ h=>by cases h)⟩
 |.iter (some _) _ _ _,⟨ms,c,s,U,aa,au,ba,cb,du,ew⟩=>
  exact⟨ms,c,s,aF _ _ U (fun _ _ _ h=>by cases h),aF _ _ aa (fun _ _ _ h=>by cases h),au,ba.mono bz,cb.mono bz,
   fun e he=>let⟨st,x,az,ao,aX,bD⟩:=du e he;⟨st,x,az,ao,aX.mono bz,bD.mono bz⟩,ew⟩
 |.eL,h=>exact eE h hs
theorem pF.less {I:cf} {mp CL:Nat→Option nd} {w:World} {b:Nat} {ed:nd} (h:pF I mp w b ed) (hs:∀x o,CL x=some o→mp x=some o):pF I CL w b ed:=by
 match ed,h with
 |.map _,h=>exact h
 |.iter none _ _ _,h=>exact h
 |.iter (some _) _ _ _,⟨ms,c,s,U,aa,au,ba,cb,du,ew,hW⟩=>
  exact⟨ms,c,s,U,aa,au,ba,cb,du,fun es' h=>ew es' (hs _ _ h),fun ea es' iK jV h=>hW ea es' iK jV (hs _ _ h)⟩
 |.eL,h=>exact h
theorem e0.N1 {I:cf} {ag:a8} {w:World} (m:e0 I ag w) {b o:Nat} {v:Value} (h:I.cell b o=some v):b<w.heap.size:=by
 obtain⟨_,_,_,aF,_⟩:=m.cell b o v h;exact g8 aF
theorem e0.nv {I:cf} {ag:a8} {w:World} (m:e0 I ag w) {b:Nat} (h:w.heap.size≤b):ag.fresh b:=by
 refine⟨?_,?_,?_⟩
 ·cases e:ag.obj b with
  |none=>rfl
  |some c=>obtain⟨_,_,aF,_⟩:=m.obj b c e;have:=g8 aF;omega
 ·cases e:ag.cF b with
  |none=>rfl
  |some c=>obtain⟨_,_,_,aF,_⟩:=m.cF b c.1 c.2.1 c.2.2 e;have:=g8 aF;omega
 ·cases e:ag.mp b with
  |none=>rfl
  |some c=>have:=(m.mp b c e).2.2.2.lt;omega
theorem e0.SZ {I:cf} {ag:a8} {w:World} (m:e0 I ag w) {b:Nat} (h:w.heap.size≤b) (o:Nat):I.cell b o=none:=by
 cases e:I.cell b o with
 |none=>rfl
 |some v=>have:=m.N1 e;omega
theorem e0.NZ {I:cf} {ag:a8} {w:World} (m:e0 I ag w) {b:Nat} (h:w.heap.size≤b):I.cap b=none:=by
 cases e:I.cap b with
 |none=>rfl
 |some v=>have:=m.cap b v e;omega
theorem e0.sub {I:cf} {ag dR:a8} {w:World} (m:e0 I ag w) (h:dR.Sub ag):e0 I dR w where
 cell:=m.cell
 cap:=m.cap
 obj b as e:=m.obj b as (h.obj b as e)
 cF b n sz t e:=by
  obtain⟨U,aa⟩:=m.cF b n sz t (h.cF b _ e);refine⟨?_,aa⟩;cases aR:dR.obj b with
  |none=>rfl
  |some c=>rw[h.obj b c aR]at U;cases U
 mp b es e:=by
  obtain⟨U,aa,au,ba⟩:=m.mp b es (h.mp b es e);refine⟨?_,?_,au,ba.less h.mp⟩
  ·cases aR:dR.obj b with
   |none=>rfl
   |some c=>rw[h.obj b c aR]at U;cases U
  ·cases aR:dR.cF b with
   |none=>rfl
   |some c=>rw[h.cF b c aR]at aa;cases aa
structure fC (I:cf) (ag:a8) (w:World) (I':cf) (bp:a8) (w':World):Prop where
 le:I.dY I'
 size:w.heap.size≤w'.heap.size
 os:w'.os=w.os
 tape:w'.tape=w.tape
 output:w'.output=w.output
 iJ:∀b,b<w.heap.size→ag.fresh b→w'.heap[b]? =w.heap[b]?∧bp.fresh b∧(∀o,I'.cell b o=I.cell b o)∧I'.cap b=I.cap b
theorem fC.refl (I:cf) (ag:a8) (w:World):fC I ag w I ag w:=
 ⟨.refl I,b1 _,rfl,rfl,rfl,fun _ _ h=>⟨rfl,h,fun _=>rfl,rfl⟩⟩
theorem fC.trans {I J K:cf} {ag dR HU:a8} {w x y:World} (h:fC I ag w J dR x) (k:fC J dR x K HU y):fC I ag w K HU y where
 le:=h.le.trans k.le
 size:=fp h.size k.size
 os:=k.os.trans h.os
 tape:=k.tape.trans h.tape
 output:=k.output.trans h.output
 iJ b aj ax:=by
  obtain⟨U,aa,au,ba⟩:=h.iJ b aj ax;obtain⟨az,ao,aX,bD⟩:=k.iJ b (eE aj h.size) aa;exact⟨az.trans U,ao,fun o=>(aX o).trans (au o),bD.trans ba⟩
theorem fC.sub {I J:cf} {ag dR HU:a8} {w x:World} (h:fC I ag w J dR x) (k:HU.Sub dR):fC I ag w J HU x where
 le:=h.le
 size:=h.size
 os:=h.os
 tape:=h.tape
 output:=h.output
 iJ b aj ax:=let⟨U,aa,au,ba⟩:=h.iJ b aj ax;⟨U,k.fresh aa,au,ba⟩
inductive aJ where
 |val (a:ab)
 |box (cs:List ab)
 |b7 (s off:Nat)
abbrev bt:=Nat→aJ
def bt.set (env:bt) (d:Option Nat) (e:aJ):bt:=
 match d with
 |some d=>fun t=>bif t==d then e else env t
 |none=>env
def aJ.kill (s:Nat):aJ→aJ
 |.b7 dy off=>bif dy==s then .val .top else .b7 dy off
 |e=>e
def bt.m9 (env:bt) (s:Nat) (cs:List ab):bt:=fun t=>bif t==s then .box cs else env t
def bt.nK (env:bt) (s:Nat) (cs:List ab):bt:=fun t=>bif t==s then .box cs else(env t).kill s
def ug (I:cf) (ag:a8) (bK:Nat→Nat) (w:World) (s:Nat) (v:Value):aJ→Prop
 |.val a=>aZ I v a
 |.b7 dy off=>v=.pointer (some ⟨bK dy,off,none⟩)
 |.box cs=>v=.pointer (some ⟨bK s,0,none⟩)∧∃vs T,w.heap[bK s]? =some (.cells vs T (0,0))∧vs.size=cs.length∧(∀j,aZ I (vs.getD j undef) (cs.getD j .top))∧
   ag.fresh (bK s)∧(∀o,I.cell (bK s) o=none)∧I.cap (bK s)=none
def aJ.j8:aJ→Prop
 |.box _=>True
 |_=>False
structure Entry where
 I:cf
 ag:a8
 w:World
 n:Nat
structure cx (E:Entry) (I:cf) (ag:a8) (env:bt) (bK:Nat→Nat) (a:Act) (w:World):Prop where
 cr:e0 I ag w
 nu:∀s,ug I ag bK w s (a.tmps.getD s undef) (env s)
 inj:∀s dy,(env s).j8→(env dy).j8→bK s=bK dy→s=dy
 low:∀s,(env s).j8→E.w.heap.size≤bK s
 kN:fC E.I E.ag E.w I ag w
 size:a.tmps.size=E.n
 defers:a.defers=[]
def dz (E:Entry) (K:bt→a8→Prop) (a:Act) (w:World):Prop:=∃I ag env bK,cx E I ag env bK a w∧K env ag
theorem dz.mono {E:Entry} {K K':bt→a8→Prop} (h:∀env ag,K env ag→K' env ag) {a:Act} {w:World} (u:dz E K a w):dz E K' a w:=
 let⟨I,ag,env,bK,s,k⟩:=u;⟨I,ag,env,bK,s,h _ _ k⟩
def hL (P:Program) (f:FuncId) (as:List ab) (ag:a8) (Q:ab→a8→Prop):Prop:=
 ∀(I:cf) (w:World) (vs:Array Value),e0 I ag w→vs.size=as.length→(∀j,aZ I (vs.getD j undef) (as.getD j .top))→
  Calls P f vs w fun e w'=>∃v a I' bp,e=.returned v∧aZ I' v a∧e0 I' bp w'∧fC I ag w I' bp w'∧Q a bp
theorem hL.mono {P:Program} {f:FuncId} {as:List ab} {ag:a8} {Q Q':ab→a8→Prop} (h:hL P f as ag Q) (aB:∀a bp,Q a bp→Q' a bp):hL P f as ag Q':=
 fun I w vs m hs ah=>(h I w vs m hs ah).mono fun _ _ ⟨v,a,I',bp,he,iI,eI,ai,q⟩=>⟨v,a,I',bp,he,iI,eI,ai,aB _ _ q⟩
def ab.dY (a b:ab):Prop:=∀(I:cf) (v:Value),aZ I v a→aZ I v b
theorem ab.dY.refl (a:ab):a.dY a:=fun _ _ h=>h
theorem hL.agZ {P:Program} {f:FuncId} {as:List ab} {ag:a8} {Q Q':ab→a8→Prop} (h:hL P f as ag Q)
  (aB:∀a bp,Q a bp→∃b dR,a.dY b∧dR.Sub bp∧Q' b dR):hL P f as ag Q':=
 fun I w vs m hs ah=>(h I w vs m hs ah).mono fun _ _ ⟨v,_,I',_,he,iI,eI,ai,q⟩=>
  let⟨b,dR,aj,ZE,ka⟩:=aB _ _ q
  ⟨v,b,I',dR,he,aj _ _ iI,eI.sub ZE,ai.sub ZE,ka⟩
end Go.bO
end
section
namespace Go.bO
open Go.RowKit
def ab.one:ab→Bool
 |.top|.agg _|.tuple _=>false
 |_=>true
inductive aG where
 |tmp (t:Nat)
 |const (a:ab)
inductive dH where
 |bool|int (k:IntKind)|str
 deriving DecidableEq
inductive cL where
 |one (s:dH)
 |row (ss:List dH)
inductive cG where
 |bool|pointer|slice|iface|func|map|flat (ss:List dH)|other
 deriving DecidableEq
def dH.is:dH→ab→Bool
 |.bool,.bool _=>true
 |.int k,.int k' _=>decide (k=k')
 |.str,.str _=>true
 |_,_=>false
def gW:List dH→List ab→Bool
 | [],[]=>true
 |s::ss,a::as=>s.is a&&gW ss as
 |_,_=>false
def cL.is:cL→ab→Bool
 |.one s,a=>s.is a
 |.row ss,.agg cs=>gW ss cs
 |.row _,_=>false
def mM:ab→ab→Bool
 |.bool a,.bool b=>a==b
 |.int _ a,.int _ b=>a==b
 |.str a,.str b=>a==b
 |_,_=>false
def mN:List ab→List ab→Bool
 | [],[]=>true
 |a::as,b::bs=>mM a b&&mN as bs
 |_,_=>false
def kv:ab→ab→Bool
 |.agg a,.agg b=>mN a b
 |a,b=>mM a b
def A0 (a7:cL) (key:ab) (es:List (ab × ab)):Prop:=a7.is key=true∧∀e∈es,a7.is e.1=true
def ox (key:ab) (es:List (ab × ab)):Option ab:=(es.find? fun e=>kv key e.1).map (·.2)
def xD (key v:ab) (es:List (ab × ab)):List (ab × ab):=
 match es.findIdx? fun e=>kv key e.1 with
 |some i=>es.set i (key,v)
 |none=>es++[(key,v)]
def mdel (key:ab) (es:List (ab × ab)):List (ab × ab):=es.eraseP fun e=>kv key e.1
inductive a2 where
 |mv (x:aG)
 |pick (c a b:aG)
 |box (cs:List ab)
 |boxv (x:aG)
 |obj (cs:List ab)
 |objv (x:aG)
 |build (zero:List ab) (eM:List (Nat × Nat × aG))
 |bslice (own:Bool) (sz e len:Nat) (zero:ab) (eM:List (Nat × aG))
 |load (agg:Bool) (n:Nat) (x:aG)
 |store (n:Nat) (x v:aG)
 |nilCheck (x:aG)
 |bin (op:BinOp) (q:cG) (x y:aG)
 |not (x:aG)
 |rR (k:IntKind) (x:aG)
 |same (x:aG)
 |bytesStr (x:aG)
 |strBytes (e:Nat) (x:aG)
 |mark (x:aG)
 |iface (t:Nat) (x:aG)
 |tN (fn:Fn) (first aj5:List aG)
 |cut (sz:Nat) (x:aG) (lo hi:Option aG)
 |cut3 (sz:Nat) (x:aG) (lo:Option aG) (hi mx:aG)
 |cutStr (x:aG) (lo hi:Option aG)
 |foff (off:Nat) (x:aG)
 |field (off n:Nat) (agg:Bool) (x:aG)
 |iaddr (sz:Nat) (x i:aG)
 |istr (x i:aG)
 |extract (x:aG) (i:Nat)
 |call (f:Nat) (args:List aG)
 |callv (f:aG) (args:List aG)
 |len (x:aG)
 |tI (x:aG)
 |append (sz e bytes:Nat) (x y:aG)
 |appendZ (sz e bytes:Nat) (x y:aG)
 |appendM (sz e bytes:Nat) (x y:aG)
 |mslice (sz e len:Nat) (zero:ab) (eM:List (Nat × aG))
 |cap (x:aG)
 |neg (x:aG)
 |ua (t:Nat) (x:aG)
 |wm (m n:Nat) (agg:Bool) (x i:aG)
 |mmap
 |mget (a7:cL) (zero:ab) (ok:Bool) (x i:aG)
 |mset (a7:cL) (x i v:aG)
 |mdel (a7:cL) (x i:aG)
 |mlen (x:aG)
 |range (x:aG)
 |next (x:aG)
 |entry (x:aG)
 |arr (n:Nat) (x:aG)
 |inv (eg:List (Nat × Nat)) (x:aG) (args:List aG)
 |clearS (sz:Nat) (zero:ab) (x:aG)
 |clearM (x:aG)
 |aidx (n sz:Nat) (x i:aG)
 |dead
 |min (x y:aG)
 |max (x y:aG)
 |tM (x y z:aG)
def a2.bq:a2→List aG
 |.mv x|.boxv x|.objv x|.load _ _ x|.nilCheck x|.not x|.rR _ x|.same x|.bytesStr x|.strBytes _ x|.mark x|.iface _ x|.foff _ x|.field _ _ _ x|.extract x _|.len x|.tI x|.cap x|.neg x|.ua _ x|.mlen x|.range x|.next x|.entry x|.arr _ x|.clearS _ _ x|.clearM x=>[x]
 |.pick c a b=>[c,a,b]
 |.box _|.obj _=>[]
 |.build _ br=>br.map fun p=>p.2.2
 |.bslice _ _ _ _ _ br=>br.map fun p=>p.2
 |.mslice _ _ _ _ br=>br.map fun p=>p.2
 |.store _ x v=>[x,v]
 |.bin _ _ x y|.iaddr _ x y|.istr x y|.wm _ _ _ x y|.append _ _ _ x y|.appendZ _ _ _ x y|.appendM _ _ _ x y|.min x y|.max x y=>[x,y]
 |.dead|.mmap=>[]
 |.tM x y z=>[x,y,z]
 |.mget _ _ _ x i|.mdel _ x i|.aidx _ _ x i=>[x,i]
 |.mset _ x i v=>[x,i,v]
 |.tN _ f c=>f++c
 |.cut _ x lo hi=>x::(lo.toList++hi.toList)
 |.cut3 _ x lo hi mx=>x::(lo.toList++[hi,mx])
 |.cutStr x lo hi=>x::(lo.toList++hi.toList)
 |.call _ as=>as
 |.callv f as=>f::as
 |.inv _ x as=>x::as
def a2.kind:a2→Nat
 |.load .. |.call .. |.callv .. |.inv .. |.mget .. |.mlen .. =>1
 |.store .. |.obj .. |.objv .. |.append .. |.appendZ .. |.appendM .. |.mslice .. |.cap .. |.dead|.mark .. |.bslice true .. |.mmap|.mset .. |.mdel .. |.range .. |.next .. |.entry .. |.clearS .. |.clearM .. =>2
 |.box .. |.boxv .. =>3
 |_=>0
def a2.vi:a2→Bool
 |.load .. =>true
 |_=>false
def a2.isObj:a2→Bool
 |.obj .. |.objv .. |.load .. =>true
 |_=>false
def a2.vj:a2→Bool
 |.store .. =>true
 |_=>false
def a2.j8:a2→Bool
 |.box .. |.boxv .. =>true
 |_=>false
def a2.aoZ:a2→Bool
 |.call .. |.callv .. |.inv .. =>true
 |_=>false
def a2.Kg:a2→Bool
 |.append .. |.bslice true .. =>true
 |_=>false
structure ca where
 dst:Option Nat
 guard:Option (Nat × Bool)
 op:a2
def ca.jO (o:ca):List Nat:=
 (match o.guard with
  |some (j,_)=>[j]
  |none=>[])++o.op.bq.filterMap fun
   |.tmp t=>some t
   |.const _=>none
def qj (k:Nat):Bool:=k==0||k==1||k==5||k==6
def ns:List Nat→List Nat
 | []=>[]
 |x::r=>bif Nat.beq x 888888 then []else x::ns r
def ca.free (az:Nat) (de:ca) (ao:Nat) (cy:ca):Bool:=
 ((qj az&&qj ao)||((az==0||az==5)&&ao==2)||(qj az&& !(az==6)&&ao==4)||(az==6&&ao==2&& !cy.op.vj)||(qj az&&ao==3)||(az==3&&(qj ao||ao==2||ao==3||ao==4))||(az==1&&ao==2&&de.op.vi&&cy.op.Kg)||(az==1&&ao==2&&cy.op.isObj))&&
 (match de.dst with
  |some d=> !cy.jO.contains d&&cy.dst !=some d
  |none=>true)&&
 (match cy.dst with
  |some d=> !de.jO.contains d
  |none=>true)
inductive fK where
 |skip
 |region (ops:List ca)
 |drawn (W:List Nat) (ops:List (Nat × ca))
 |seq (a b:fK)
 |cond (c:aG) (a b:fK)
 |block (id:Nat) (body:fK)
 |loop (body:fK)
 |exit (id:Nat)
 |ret
mutual
def dx:Value→Option ab
 |.bool b=>some (.bool b)
 |.int k n=>some (.int k n)
 |.string s=>some (.str s.data.toList)
 |.pointer none=>some .cX
 |.slice none 0 0=>some (.slice [] true none)
 |.nilIface=>some .dC
 |.nilFunc=>some .fj
 |.map none=>some (.map none)
 |.agg ⟨cs⟩=>match z1 cs with
  |some as=>some (.agg as)
  |none=>none
 |_=>none
def z1:List Value→Option (List ab)
 | []=>some []
 |v::r=>match dx v,z1 r with
  |some a,some as=>some (a::as)
  |_,_=>none
end
def b8:Operand→Option aG
 |.tmp t=>some (.tmp t)
 |.const v=>match dx v with
  |some a=>some (.const a)
  |none=>none
 |.func f=>some (.const (.func (.func f) [] []))
 |.global _=>none
def nL:List Operand→Option (List aG)
 | []=>some []
 |x::r=>match b8 x,nL r with
  |some a,some as=>some (a::as)
  |_,_=>none
def m6:Option Operand→Option (Option aG)
 |none=>some none
 |some x=>match b8 x with
  |some a=>some (some a)
  |none=>none
section
variable (P:Program)
def gC (t:TypeId):Option Nat:=match P.info? t with
 |some i=>some i.size
 |none=>none
def qq (t:TypeId):Option Nat:=match P.info? t with
 |some i=>some i.bytes
 |none=>none
def jc (t:TypeId):Option ab:=match P.info? t with
 |some i=>match i.zero with
  |some z=>dx z
  |none=>none
 |none=>none
def UJ (t:TypeId):Option Bool:=match P.underlying t with
 |some (.struct _)=>some true
 |some (.array _ _)=>some true
 |some _=>some false
 |none=>none
def sP (t:TypeId):Option (Bool × Nat):=match UJ P t,gC P t with
 |some true,some n=>some (true,n)
 |some false,some _=>some (false,1)
 |_,_=>none
def qs (t:TypeId):Option TypeId:=match P.underlying t with
 |some (.slice e)=>some e
 |_=>none
def AA (t:TypeId):Option (Nat × TypeId):=match P.underlying t with
 |some (.array n e)=>some (n,e)
 |_=>none
def AB (s:TypeId) (f:Nat):Option Field:=match P.underlying s with
 |some (.struct fs)=>fs[f]?
 |_=>none
def yb (t:TypeId):Option dH:=match P.underlying t with
 |some .bool=>some .bool
 |some (.int k)=>some (.int k)
 |some .string=>some .str
 |_=>none
def uR:List Field→Nat→Option (List dH)
 | [],_=>some []
 |f::r,off=>match yb P f.type,uR r (off+1)with
  |some s,some ss=>if f.offset=off∧f.name≠ "_" then some (s::ss)else none
  |_,_=>none
def vT (t:TypeId):Option (List dH):=match P.underlying t with
 |some (.struct fs)=>match uR P fs.toList 0 with
  |some ss=>if P.stoodInHeld t=false∧P.eqGuardType P.depth t=false then some ss else none
  |none=>none
 |_=>none
def t' (t:TypeId):Option cL:=match yb P t with
 |some s=>some (.one s)
 |none=>match vT P t with
  |some ss=>some (.row ss)
  |none=>none
def lF (t:TypeId):cG:=match P.underlying t with
 |some .bool=>.bool
 |some (.pointer _)=>.pointer
 |some (.slice _)=>.slice
 |some (.interface _)=>.iface
 |some (.func ..)=>.func
 |some (.map ..)=>.map
 |some (.struct _)=>match vT P t with
  |some ss=>.flat ss
  |none=>.other
 |_=>.other
def yv:List Field→Option (List (Nat × Nat))
 | []=>some []
 |f::r=>match gC P f.type,yv r with
  |some n,some l=>some ((f.offset,n)::l)
  |_,_=>none
def tS (pl:List (Nat × Nat)) (eM:List (Nat × Operand)):Option (List (Nat × Nat × aG)):=
 match eM with
 | []=>some []
 |(i,x)::r=>match pl[i]?,b8 x,tS pl r with
  |some (o,n),some a,some as=>some ((o,n,a)::as)
  |_,_,_=>none
def tj (eM:List (Nat × Operand)):Option (List (Nat × aG)):=
 match eM with
 | []=>some []
 |(i,x)::r=>match b8 x,tj r with
  |some a,some as=>some ((i,a)::as)
  |_,_=>none
def A4 (sz:Option Nat):List (Nat × Operand)→Option (List (Nat × Nat × aG))
 | []=>some []
 |(i,x)::r=>match sz,b8 x,A4 sz r with
  |some sz,some a,some as=>some ((i*sz,sz,a)::as)
  |_,_,_=>none
def Lg (b:Builtin) (args:List Operand) (argTypes:List TypeId):Option a2:=
 match b with
 |.len=>match args,argTypes with
  | [x],[t]=>match b8 x,P.underlying t with
   |some x,some (.slice _)=>some (.len x)
   |some x,some .string=>some (.tI x)
   |some x,some (.map _ _)=>some (.mlen x)
   |_,_=>none
  |_,_=>none
 |.delete=>match args,argTypes with
  | [x,i],[t,_]=>match b8 x,b8 i,P.underlying t with
   |some x,some i,some (.map cH _)=>match t' P cH with
    |some a7=>some (.mdel a7 x i)
    |none=>none
   |_,_,_=>none
  |_,_=>none
 |.clear=>match args,argTypes with
  | [x],[t]=>match b8 x,P.underlying t with
   |some x,some (.map _ _)=>some (.clearM x)
   |some x,some (.slice e)=>match gC P e,jc P e with
    |some sz,some z=>if z.cells.length=sz∧z.cells.all ab.one=true then some (.clearS sz z x)else none
    |_,_=>none
   |_,_=>none
  |_,_=>none
 |.append=>match args,argTypes with
  | [x,y],[t,u]=>match b8 x,b8 y,qs P t,P.underlying u with
   |some x,some y,some e,some (.slice _)=>match gC P e,qq P e,jc P e with
    |some (sz+1),some lO,some z=>if z.cells.length=sz+1∧t=u then some (.append (sz+1) e lO x y)else none
    |_,_,_=>none
   |some x,some y,some e,some (.int _)=>match gC P e,qq P e,jc P e with
    |some (sz+1),some lO,some z=>if z.cells.length=sz+1 then some (.appendZ (sz+1) e lO x y)else none
    |_,_,_=>none
   |_,_,_,_=>none
  |_,_=>none
 |.cap=>match args,argTypes with
  | [x],[t]=>match b8 x,P.underlying t with
   |some x,some (.slice _)=>some (.cap x)
   |_,_=>none
  |_,_=>none
 |.min=>match args with
  | [x,y]=>match b8 x,b8 y with
   |some x,some y=>some (.min x y)
   |_,_=>none
  |_=>none
 |.max=>match args with
  | [x,y]=>match b8 x,b8 y with
   |some x,some y=>some (.max x y)
   |_,_=>none
  | [x,y,z]=>match b8 x,b8 y,b8 z with
   |some x,some y,some z=>some (.tM x y z)
   |_,_,_=>none
  |_=>none
 |_=>none
def CJ (m:String) (t:TypeId):Option (Nat × Nat):=match P.info? t with
 |some i=>match i.methods.find? (·.name==m)with
  |some r=>if r.path.toList.isEmpty=true then(match r.func,P.underlying t with
   |some (f,true),some (.pointer _)=>match P.funcs[f]? with
    |some fn=>if(fn.body.isSome&&fn.name != "runtime.NumGoroutine")=true then some (t,f)else none
    |none=>none
   |_,_=>none)else none
  |none=>none
 |none=>none
def KX (esc:List Nat) (m:String):List (Nat × Nat):=(esc.filter (2000000≤ ·)).filterMap fun t=>CJ P m (t-2000000)
def Li (esc:List Nat) (c:Call):Option a2:=
 match c.callee with
 |.value f=>match f with
  |.func f=>match nL c.args.toList,P.funcs[f]? with
   |some as,some fn=>if fn.body.isSome&&fn.name != "runtime.NumGoroutine" then some (.call f as)else none
   |_,_=>none
  |f=>match b8 f,nL c.args.toList with
   |some f,some as=>some (.callv f as)
   |_,_=>none
 |.builtin b=>Lg P b c.args.toList c.argTypes.toList
 |.invoke x m=>match b8 x,nL c.args.toList with
  |some x,some as=>some (.inv (KX P esc m) x as)
  |_,_=>none
def a2.adf:a2→a2
 |.append sz e b x y=>.appendM sz e b x y
 |o=>o
def acG (esc:List Nat):Option Nat→Bool
 |some d=>esc.contains (d+1000000)
 |none=>false
def qh (esc:List Nat) (dst:Option Nat):Op→Option a2
 |.move x|.assign x=>match b8 x with
  |some a=>some (.mv a)
  |none=>none
 |.pick c a b=>match b8 c,b8 a,b8 b with
  |some c,some a,some b=>some (.pick c a b)
  |_,_,_=>none
 |.alloc t=>match jc P t,dst with
  |some z,some d=>some (if esc.contains d then .obj z.cells else .box z.cells)
  |_,_=>none
 |.box _ x=>match b8 x,dst with
  |some x,some d=>some (if esc.contains d then .objv x else .boxv x)
  |_,_=>none
 |.build t eM=>match P.underlying t,jc P t with
  |some (.struct fs),some z=>match yv P fs.toList with
   |some pl=>match tS pl eM.toList with
    |some br=>some (.build z.cells br)
    |none=>none
   |none=>none
  |some (.array _ e),some z=>match gC P e,A4 (gC P e) eM.toList with
   |some _,some br=>some (.build z.cells br)
   |_,_=>none
  |_,_=>none
 |.buildSlice t n eM=>match qs P t with
  |some e=>match gC P e,jc P e,tj eM.toList with
   |some sz,some z,some br=>if n*sz≤65536∧0<sz∧z.cells.length=sz then(if acG esc dst=true then some (.mslice sz e n z br)else some (.bslice (match dst with|some d=>esc.contains d|none=>false) sz e n z br))else none
   |_,_,_=>none
  |none=>none
 |.load t x=>match sP P t,b8 x with
  |some (agg,n),some x=>some (.load agg n x)
  |_,_=>none
 |.store t x v=>match gC P t,b8 x,b8 v with
  |some n,some x,some v=>some (.store n x v)
  |_,_,_=>none
 |.nilCheck x=>match b8 x with
  |some x=>some (.nilCheck x)
  |none=>none
 |.binOp op t x y _=>match b8 x,b8 y with
  |some x,some y=>some (.bin op (lF P t) x y)
  |_,_=>none
 |.unOp .not _ x=>match b8 x with
  |some x=>some (.not x)
  |none=>none
 |.unOp .neg t x=>match b8 x,P.underlying t with
  |some x,some (.int _)=>some (.neg x)
  |_,_=>none
 |.typeAssert x _ t true=>match b8 x,P.underlying t,jc P t with
  |some x,some (.pointer _),some .cX=>some (.ua t x)
  |_,_,_=>none
 |.makeMap _ none=>some .mmap
 |.lookup t x i ok=>match P.underlying t with
  |some (.map cH hN)=>match t' P cH,jc P hN,b8 x,b8 i with
   |some a7,some z,some x,some i=>some (.mget a7 z ok x i)
   |_,_,_,_=>none
  |_=>none
 |.mapUpdate t m i v|.insert t m i v=>match P.underlying t with
  |some (.map cH _)=>match t' P cH,b8 m,b8 i,b8 v with
   |some a7,some m,some i,some v=>some (.mset a7 m i v)
   |_,_,_,_=>none
  |_=>none
 |.range t x=>match P.underlying t,b8 x with
  |some (.map _ _),some x=>some (.range x)
  |_,_=>none
 |.next x false=>match b8 x with
  |some x=>some (.next x)
  |none=>none
 |.entry x=>match b8 x with
  |some x=>some (.entry x)
  |none=>none
 |.convert afT dst x=>if afT=dst then match b8 x,P.underlying dst with
   |some x,some (.slice e)=>match P.underlying e with
    |some (.int .u8)=>some (.mark x)
    |_=>none
   |some x,some .string=>some (.same x)
   |some x,some (.int k)=>some (.rR k x)
   |_,_=>none
  else match b8 x,P.underlying afT,P.underlying dst with
  |some x,some (.int _),some (.int k)=>some (.rR k x)
  |some x,some .string,some .string=>some (.same x)
  |some x,some (.slice e),some .string=>match P.underlying e with
   |some (.int .u8)=>some (.bytesStr x)
   |_=>none
  |some x,some .string,some (.slice e)=>match P.underlying e,P.info? e with
   |some (.int .u8),some _=>some (.strBytes e x)
   |_,_=>none
  |_,_,_=>none
 |.makeInterface t x=>match b8 x,P.underlying t with
  |some _,some (.interface _)=>none
  |some x,some _=>some (.iface t x)
  |_,_=>none
 |.makeFunc fn f c=>match nL f.toList,nL c.toList with
  |some f,some c=>some (.tN fn f c)
  |_,_=>none
 |.slice t x lo hi mx=>match AA P t,lo,hi,mx with
  |some (n,e),none,none,none=>match b8 x,gC P e with
   |some x,some _=>some (.arr n x)
   |_,_=>none
  |_,_,_,_=>match b8 x,m6 lo,m6 hi,m6 mx,P.underlying t with
   |some x,some lo,some hi,some none,some (.slice e)=>match gC P e with
    |some sz=>some (.cut sz x lo hi)
    |none=>none
   |some x,some lo,some (some hi),some (some mx),some (.slice e)=>match gC P e with
    |some sz=>some (.cut3 sz x lo hi mx)
    |none=>none
   |some x,some lo,some hi,some none,some .string=>some (.cutStr x lo hi)
   |_,_,_,_,_=>none
 |.fieldAddr s x f=>match AB P s f,b8 x with
  |some fd,some x=>match gC P fd.type with
   |some (_+1)=>some (.foff fd.offset x)
   |_=>none
  |_,_=>none
 |.field s x f=>match AB P s f,b8 x with
  |some fd,some x=>match sP P fd.type with
   |some (agg,n)=>some (.field fd.offset n agg x)
   |none=>none
  |_,_=>none
 |.indexAddr t x i=>match AA P t with
  |some (n,e)=>match i,b8 x,gC P e with
   |.const (.int _ j),some x,some sz=>if 0≤j∧j<n then some (.foff (j.toNat*sz) x)else none
   |.tmp i,some x,some sz=>some (.aidx n sz x (.tmp i))
   |_,_,_=>none
  |none=>match qs P t,b8 x,b8 i with
   |some e,some x,some i=>match gC P e with
    |some sz=>some (.iaddr sz x i)
    |none=>none
   |_,_,_=>none
 |.index t x i=>match P.underlying t,b8 x,b8 i with
  |some .string,some x,some i=>some (.istr x i)
  |some (.array m e),some x,some i=>match sP P e,gC P e with
   |some (agg,n),some s=>if n=s then some (.wm m n agg x i)else none
   |_,_=>none
  |_,_,_=>none
 |.extract x i=>match b8 x with
  |some x=>some (.extract x i)
  |none=>none
 |.call c=>match Li P esc c with
  |some o=>some (if acG esc dst=true then o.adf else o)
  |none=>none
 |_=>none
def XE (n:Nat):Option Nat→Bool
 |some d=>decide (d<n)
 |none=>true
def zZ (esc:List Nat) (n:Nat) (all:Array Oper) (o:Oper):Option ca:=
 match(qh P esc o.dst o.op).getD .dead with
 |op=>
  if XE n o.dst=true then
   match o.guard with
   |none=>some ⟨o.dst,none,op⟩
   |some (j,cO)=>match all[j]? with
    |some nM=>match nM.dst with
     |some s=>if s<n then some ⟨o.dst,some (s,cO),op⟩else none
     |none=>none
    |none=>none
  else none
def tO (esc:List Nat) (n:Nat) (all:Array Oper):List Oper→Option (List ca)
 | []=>some []
 |o::r=>match zZ P esc n all o,tO esc n all r with
  |some a,some as=>some (a::as)
  |_,_=>none
end
def acn (acc:List Nat) (o:Oper):Nat:=o.after.toList.foldl (fun s e=>if Region.binds .any e then s|||2^e.on|||acc.getD e.on 0 else s) 0
def qa:List Oper→List Nat→List Nat
 | [],acc=>acc
 |o::r,acc=>qa r (acc++[acn acc o])
def asN (m:List Nat) (done i:Nat):Bool:=(m.getD i 0)&&&done==m.getD i 0
def canon (m:List Nat) (kinds:List Nat):Nat→Nat→List Nat→List Nat
 |0,_,left=>left
 |fuel+1,done,left=>
  let rs:=left.filter (asN m done)
  match rs.find? (fun i=>kinds.getD i 0==3),rs.find? (fun i=>kinds.getD i 0==0),rs.find? (fun i=>qj (kinds.getD i 0)),rs with
  |some i,_,_,_=>i::canon m kinds fuel (done|||2^i) (left.filter (· !=i))
  |none,some i,_,_=>i::canon m kinds fuel (done|||2^i) (left.filter (· !=i))
  |none,none,some i,_=>i::canon m kinds fuel (done|||2^i) (left.filter (· !=i))
  |none,none,none,i::_=>i::canon m kinds fuel (done|||2^i) (left.filter (· !=i))
  |none,none,none,[]=>left
def Z3 (esc:List Nat) (o:ca):Bool:=o.op.aoZ&&(match o.dst with
 |some d=>esc.contains (d+3000000)
 |none=>false)
def KP (m:List Nat) (i j:Nat):Bool:= !(j==i)&& !(m.getD i 0).testBit j&& !(m.getD j 0).testBit i
def T2 (l:List ca):Nat→Nat→Nat
 |0,t=>t
 |f+1,t=>match l.find? (fun o=>o.dst==some t)with
  |some o=>match o.op with
   |.foff _ (.tmp s)|.mv (.tmp s)|.aidx _ _ (.tmp s) _|.nilCheck (.tmp s)=>T2 l f s
   |_=>t
  |none=>t
def UC (l:List ca):List Nat:=l.filterMap fun o=>match o.op with
 |.store _ (.tmp t) _=>some (T2 l l.length t)
 |_=>none
def RZ (l:List ca) (o:a2):Bool:=match o with
 |.load _ _ (.tmp t)=>(UC l).contains (T2 l l.length t)
 |_=>false
def ai2 (m:List Nat) (l:List ca) (i:Nat):Bool:=(List.range l.length).all fun j=> !KP m i j||(match l[j]? with
 |some q=>q.op.kind==0||q.op.kind==3||(q.op.kind==1&& !RZ l q.op)
 |none=>true)
def RU (esc:List Nat) (m:List Nat) (l:List ca) (i:Nat):Nat:=
 match l[i]? with
 |some o=>match o.op with
  |.call _ _|.callv _ _|.inv _ _ _=>if Z3 esc o||(List.range l.length).all (fun j=> !KP m i j||(match l[j]? with|some q=>q.op.kind==0||q.op.kind==3|none=>true))then 2 else 1
  |.store _ _ _=>if o.guard.isNone&&(List.range l.length).any (fun j=>KP m i j&&(match l[j]? with|some q=>q.op.kind==1|none=>false))then 4 else 2
  |.load _ _ _=>if(List.range l.length).any (fun j=>KP m i j&&(match l[j]? with|some q=>Z3 esc q|none=>false))then(if RZ l o.op then 6 else 5)else(if RZ l o.op&&ai2 m l i then 2 else 1)
  |op=>op.kind
 |none=>0
def LD (m:List Nat):List (Nat × Nat × ca)→Bool
 | []=>true
 |(j,abN,nM)::r=>(r.all fun(i,apQ,arF)=>(m.getD i 0).testBit j||ca.free abN nM apQ arF)&&LD m r
def Ep:Nat→List Oper→Bool
 |_,[]=>true
 |i,o::r=>(o.after.toList.all fun e=> !Region.binds .any e||decide (e.on<i))&&Ep (i+1) r
def a2.xA:a2→Bool
 |.load .. |.store .. |.obj .. |.objv .. |.append .. |.appendZ .. |.appendM .. |.mslice .. |.cap .. |.dead|.mark .. |.callv .. |.call .. |.inv .. |.clearS .. |.clearM .. |.bslice true .. |.mmap|.mget .. |.mset .. |.mdel .. |.mlen .. |.range .. |.next .. |.entry .. =>true
 |_=>false
def kindOk (x:Nat × ca):Bool:=
 (x.1==0&&x.2.op.kind==0)||(x.1==1&&x.2.op.kind==1)||(x.1==2&&x.2.op.xA)||(x.1==3&&x.2.op.j8&&x.2.guard.isNone&&x.2.dst.isSome)||
 (x.1==4&&x.2.op.vj&&x.2.guard.isNone&&x.2.dst.isNone)||(x.1==5&&x.2.op.vi)||(x.1==6&&x.2.op.vi)
def Iv:List (Nat × ca)→Bool
 | []=>true
 |x::r=>(r.all fun y=> !(y.1==3)||(match y.2.dst with
  |some d=> !x.2.jO.contains d&&x.2.dst !=some d
  |none=>true))&&Iv r
def drawnOf (esc:List Nat) (ops:List Oper) (l:List ca):Option (List Nat × List (Nat × ca)):=
 let m:=qa ops []
 let kinds:=(List.range l.length).map (RU esc m l)
 let arY:=canon m kinds l.length 0 (List.range l.length)
 let all:=arY.filterMap fun i=>match l[i]? with
  |some o=>some (i,kinds.getD i 0,o)
  |none=>none
 if all.length≤l.length∧(all.map (·.1)).Nodup∧(List.range l.length).all (fun i=>all.any fun x=>x.1==i)=true∧LD m all=true∧all.all (fun x=>kindOk x.2)=true∧Ep 0 ops=true∧Iv (all.map (·.2))=true∧
   (all.all fun x=>match x.2.2.dst with|some d=>(ns (all.filterMap (fun x=>x.2.2.dst)++((bif kinds.contains 6 then [888888]else [])++UC l))).contains d|none=>true)=true then
  some (all.filterMap (fun x=>x.2.2.dst)++((bif kinds.contains 6 then [888888]else [])++UC l),all.map (·.2))
 else none
section
variable (P:Program) (esc:List Nat) (n:Nat)
def kX:Code→Option fK
 |.skip=>some .skip
 |.label _=>some .skip
 |.region _ ops OP=>match tO P esc n ops ops.toList with
  |some l=>if OP then(match drawnOf esc ops.toList l with
   |some (W,l)=>some (.drawn W l)
   |none=>none)else some (.region l)
  |none=>none
 |.seq a b=>match kX a,kX b with
  |some a,some b=>some (.seq a b)
  |_,_=>none
 |.cond c a b=>match b8 c,kX a,kX b with
  |some c,some a,some b=>some (.cond c a b)
  |_,_,_=>none
 |.block id b=>match kX b with
  |some b=>some (.block id b)
  |none=>none
 |.loop b=>match kX b with
  |some b=>some (.loop b)
  |none=>none
 |.exit id=>some (.exit id)
 |.ret=>some .ret
 |_=>none
end
inductive kg where
 |tmp (t:Nat)
 |cell (agg:Bool) (n:Nat) (t:Nat)
def rb (P:Program):List ResultVar→Option (List kg)
 | []=>some []
 |.tmp t::r=>match rb P r with
  |some l=>some (.tmp t::l)
  |none=>none
 |.cell a t::r=>match sP P t,rb P r with
  |some (agg,n),some l=>some (.cell agg n a::l)
  |_,_=>none
structure kF where
 n:Nat
 res:List kg
 body:fK
def xJ (P:Program) (esc:List Nat) (fn:Func):Option kF:=
 match fn.body with
 |none=>none
 |some c=>match rb P fn.results.toList,kX P esc fn.ntmps c with
  |some r,some b=>some ⟨fn.ntmps,r,b⟩
  |_,_=>none
def a_ (env:bt):aG→aJ
 |.tmp t=>match env t with
  |.box _=>.b7 t 0
  |e=>e
 |.const a=>.val a
def gh (agg:Bool) (cs:List ab):ab:=bif agg then .agg cs else cs.headD .top
def ft (cs:List ab) (o:Nat) (vs:List ab):List ab:=cs.take o++vs++cs.drop (o+vs.length)
def iQ:List aJ→Option (List ab)
 | []=>some []
 |.val a::r=>match iQ r with
  |some as=>some (a::as)
  |none=>none
 |_::_=>none
def F_:BinOp→Int→Int→Option Bool
 |.eql,a,b=>some (a==b)
 |.neq,a,b=>some (a !=b)
 |.lss,a,b=>some (decide (a<b))
 |.leq,a,b=>some (decide (a≤b))
 |.gtr,a,b=>some (decide (a>b))
 |.geq,a,b=>some (decide (a≥b))
 |_,_,_=>none
def iZ (op:BinOp) (k:IntKind) (a b:Int):Option ab:=
 match op with
 |.add=>some (.int k (k.wrap (a+b)))
 |.sub=>some (.int k (k.wrap (a-b)))
 |.mul=>some (.int k (k.wrap (a*b)))
 |.quo=>if b=0 then none else some (.int k (k.wrap (a.tdiv b)))
 |.rem=>if b=0 then none else some (.int k (a.tmod b))
 |.and=>some (.int k (k.wrap (BitVec.ofInt k.bits a&&&BitVec.ofInt k.bits b).toNat))
 |.or=>some (.int k (k.wrap (BitVec.ofInt k.bits a|||BitVec.ofInt k.bits b).toNat))
 |.xor=>some (.int k (k.wrap (BitVec.ofInt k.bits a^^^BitVec.ofInt k.bits b).toNat))
 |.shl=>if b<0 then none else some (.int k (k.wrap (a*2^min b.toNat k.bits)))
 |.shr=>if b<0 then none else some (.int k (a.fdiv (2^min b.toNat k.bits)))
 |op=>match F_ op a b with
  |some t=>some (.bool t)
  |none=>none
def vR (op:BinOp) (a b:List UInt8):Option ab:=
 match op with
 |.eql=>some (.bool (a==b))
 |.neq=>some (.bool (!(a==b)))
 |.lss=>some (.bool (Op.bytesLess a b))
 |.leq=>some (.bool (Op.bytesLess a b||a==b))
 |.gtr=>some (.bool (!(Op.bytesLess a b||a==b)))
 |.geq=>some (.bool (!Op.bytesLess a b))
 |_=>none
def yV:cG→ab→ab→Option Bool
 |.bool,.bool a,.bool b=>some (a==b)
 |.pointer,.cX,.cX=>some true
 |.pointer,.cX,.ptr _ _=>some false
 |.pointer,.cX,.dK _=>some false
 |.pointer,.ptr _ _,.cX=>some false
 |.pointer,.dK _,.cX=>some false
 |.slice,.slice _ nl _,.slice [] true none=>some nl
 |.slice,.ref _ _ _ _,.slice [] true none=>some false
 |.iface,.iface _ _,.dC=>some false
 |.func,.func _ _ _,.fj=>some false
 |.func,.fj,.fj=>some true
 |.flat ss,.agg a,.agg b=>if gW ss a=true∧gW ss b=true then some (mN a b)else none
 |.map,.map none,.map none=>some true
 |.map,.map (some _),.map none=>some false
 |_,_,_=>none
def qe:aG→Bool
 |.const .dC=>true
 |_=>false
def sI (op:BinOp) (k k':IntKind):Bool:=match op with
 |.shl=>true
 |.shr=>true
 |_=>decide (k=k')
def rK (op:BinOp) (q:cG) (lit:Bool):aJ→aJ→Option ab
 |.val (.int k a),.val (.int k' b)=>if sI op k k'=true then iZ op k a b else none
 |.val (.str a),.val (.str b)=>vR op a b
 |.val .dC,.val .dC=>if lit then(match op,q with
  |.eql,.iface=>some (.bool true)
  |.neq,.iface=>some (.bool false)
  |_,_=>none)else none
 |.val x,.val y=>match op,yV q x y with
  |.eql,some t=>some (.bool t)
  |.neq,some t=>some (.bool (!t))
  |_,_=>none
 |.b7 _ _,.val .cX=>match op,q with
  |.eql,.pointer=>some (.bool false)
  |.neq,.pointer=>some (.bool true)
  |_,_=>none
 |_,_=>none
def tn (cells:List ab):List (Nat × Nat × ab)→Option (List ab)
 | []=>some cells
 |(off,n,v)::r=>if v.cells.length=n∧v.cells.all ab.one=true∧off+n≤cells.length then tn (ft cells off v.cells) r else none
def pt (ai:aG→aJ):List (Nat × Nat × aG)→Option (List (Nat × Nat × ab))
 | []=>some []
 |(o,n,x)::r=>match ai x,pt ai r with
  |.val a,some as=>some ((o,n,a)::as)
  |_,_=>none
def ql (sz:Nat) (xs:List ab) (ai:aG→aJ):List (Nat × aG)→Option (List ab)
 | []=>some xs
 |(i,x)::r=>match ai x with
  |.val a=>if i<xs.length∧a.cells.length=sz∧a.cells.all ab.one=true then ql sz (xs.set i a) ai r else none
  |_=>none
def bX (env:bt):a2→Option aJ
 |.mv x=>some (a_ env x)
 |.nilCheck x=>match a_ env x with
  |.val (.ptr b o)=>some (.val (.ptr b o))
  |.val (.dK cs)=>some (.val (.dK cs))
  |.b7 s o=>some (.b7 s o)
  |_=>none
 |.bin op q x y=>match rK op q (qe x||qe y) (a_ env x) (a_ env y)with
  |some a=>some (.val a)
  |none=>none
 |.not x=>match a_ env x with
  |.val (.bool b)=>some (.val (.bool (!b)))
  |_=>none
 |.rR k x=>match a_ env x with
  |.val (.int _ n)=>some (.val (.int k (k.wrap n)))
  |_=>none
 |.same x=>match a_ env x with
  |.val (.str s)=>some (.val (.str s))
  |_=>none
 |.iface t x=>match a_ env x with
  |.val a=>some (.val (.iface t a))
  |_=>none
 |.tN fn f c=>match iQ (f.map (a_ env)),iQ (c.map (a_ env))with
  |some f,some c=>some (.val (.func fn f c))
  |_,_=>none
 |.foff off x=>match a_ env x with
  |.val (.ptr b o)=>some (.val (.ptr b (o+off)))
  |.val (.dK cs)=>some (.val (.dK (cs.drop off)))
  |.b7 s o=>some (.b7 s (o+off))
  |_=>none
 |.aidx n sz x i=>match a_ env i with
  |.val (.int _ j)=>if 0≤j∧j<n then(match a_ env x with
   |.val (.ptr b o)=>some (.val (.ptr b (o+j.toNat*sz)))
   |.val (.dK cs)=>some (.val (.dK (cs.drop (j.toNat*sz))))
   |.b7 s o=>some (.b7 s (o+j.toNat*sz))
   |_=>none)else none
  |_=>none
 |.arr n x=>match a_ env x with
  |.val (.ptr b o)=>if n≤maxLen then some (.val (.ref b o n n))else none
  |_=>none
 |.neg x=>match a_ env x with
  |.val (.int k n)=>some (.val (.int k (k.wrap (0-n))))
  |_=>none
 |.ua t x=>match a_ env x with
  |.val (.iface u v)=>some (.val (.tuple (if u=t then [v,.bool true]else [.cX,.bool false])))
  |.val .dC=>some (.val (.tuple [.cX,.bool false]))
  |_=>none
 |.wm m n agg x i=>match a_ env x,a_ env i with
  |.val (.agg cs),.val (.int _ j)=>if 0≤j∧j<(m:Int)∧j.toNat*n+n≤cs.length then some (.val (gh agg ((cs.drop (j.toNat*n)).take n)))else none
  |_,_=>none
 |.extract x i=>match a_ env x with
  |.val (.tuple vs)=>match vs[i]? with
   |some a=>some (.val a)
   |none=>none
  |_=>none
 |.field off n agg x=>match a_ env x with
  |.val (.agg cs)=>if off+n≤cs.length then some (.val (gh agg ((cs.drop off).take n)))else none
  |_=>none
 |.build z br=>match pt (a_ env) br with
  |some br=>match tn z br with
   |some cs=>some (.val (.agg cs))
   |none=>none
  |none=>none
 |.len x=>match a_ env x with
  |.val (.slice xs _ _)=>some (.val (.int .i64 xs.length))
  |.val (.ref _ _ n _)=>some (.val (.int .i64 n))
  |_=>none
 |.tI x=>match a_ env x with
  |.val (.str s)=>some (.val (.int .i64 s.length))
  |_=>none
 |.min x y=>match a_ env x,a_ env y with
  |.val (.int k a),.val (.int _ b)=>some (.val (.int k (if b<a then b else a)))
  |_,_=>none
 |.tM x y z=>match a_ env x,a_ env y,a_ env z with
  |.val (.int k a),.val (.int _ b),.val (.int _ c)=>some (.val (.int k (if c>(if b>a then b else a)then c else(if b>a then b else a))))
  |_,_,_=>none
 |.max x y=>match a_ env x,a_ env y with
  |.val (.int k a),.val (.int _ b)=>some (.val (.int k (if b>a then b else a)))
  |_,_=>none
 |_=>none
def fz (env:bt) (d:Nat):Option aG→(Nat→Prop)→Prop
 |none,k=>k d
 |some x,k=>match a_ env x with
  |.val (.int _ n)=>0≤n∧k n.toNat
  |_=>False
def D3 (ag:a8) (xs:List ab) (nl:Bool) (tok:Option Nat) (ys:List ab) (sz e:Nat) (a:ab) (bp:a8):Prop:=
 (ys=[]∧a=.slice xs nl tok∧bp=ag)∨
 (ys≠[]∧∃g,a=.slice (xs++ys) false (some g)∧bp=(ag.jF tok).m_ g (xs.length+ys.length,sz,e)∧(tok=some g∨ag.fresh g))
def oM (k:ab→a8→Prop) (a:ab) (ag:a8):Prop:=∃b dR,a.dY b∧dR.Sub ag∧dR.obj=ag.obj∧k b dR
theorem oM.of {k:ab→a8→Prop} {a:ab} {ag:a8} (h:k a ag):oM k a ag:=⟨a,ag,.refl a,.refl ag,rfl,h⟩
theorem oM.mono {k k':ab→a8→Prop} {a:ab} {ag:a8} (h:oM k a ag) (aq:∀b dR,dR.obj=ag.obj→k b dR→k' b dR):oM k' a ag:=
 let⟨b,dR,U,aa,au,ba⟩:=h
 ⟨b,dR,U,aa,au,aq b dR au ba⟩
def JB (ag:a8) (xs:List ab) (nl:Bool) (tok:Option Nat) (sz e:Nat):Prop:=
 (xs=[]∧nl=true∧tok=none)∨(∃g,tok=some g∧ag.cF g=some (xs.length,sz,e))
def sT (sz:Nat) (ys:List ab):Prop:=∀y∈ys,y.cells.length=sz∧y.cells.all ab.one=true
def kq (l:List UInt8):List ab:=l.map fun c=>.int .u8 c.toNat
def Vj (d:Option Nat) (k:bt→a8→Prop) (env:bt) (ag:a8):Option aJ→Prop
 |some e=>k (env.set d e) ag
 |none=>False
def H5 (ag:a8) (sz:Nat) (e:aJ) (m:Nat) (L:List ab):Prop:=
 match e with
 |.val (.slice ys _ _)=>sT sz ys∧m=ys.length∧L=ys.flatMap ab.cells
 |.val (.ref b o n _)=>∃cs,ag.obj b=some cs∧o+n*sz≤cs.length∧m=n∧L=(cs.drop o).take (n*sz)∧L.all ab.one=true
 |_=>False
def wO (b o c sz h l:Nat):ab:=if l=0 then .ref b o h c else if h=l then .slice [] false none else .ref b (o+l*sz) (h-l) (c-l)
def oG:List (Nat × Nat)→Nat→Option Nat
 | [],_=>none
 |(t,f)::r,u=>if t=u then some f else oG r u
def bH (P:Program) (o:a2) (d:Option Nat) (k:bt→a8→Prop) (env:bt) (ag:a8):Prop:=
 match o with
 |.pick c a b=>match a_ env c with
  |.val (.bool t)=>(t=true→k (env.set d (a_ env a)) ag)∧(t=false→k (env.set d (a_ env b)) ag)
  |_=>False
 |.box cs=>match d with
  |some d=>k (env.nK d cs) ag
  |none=>False
 |.boxv x=>match d,a_ env x with
  |some d,.val a=>a.cells.all ab.one=true∧k (env.nK d a.cells) ag
  |_,_=>False
 |.obj cs=>∀b,ag.fresh b→k (env.set d (.val (.ptr b 0))) (ag.setObj b cs)
 |.objv x=>match a_ env x with
  |.val a=>a.cells.all ab.one=true∧∀b,ag.fresh b→k (env.set d (.val (.ptr b 0))) (ag.setObj b a.cells)
  |_=>False
 |.bslice own sz e n z br=>match ql sz (List.replicate n z) (a_ env) br with
  |some xs=>if own=true then∀g,ag.fresh g→k (env.set d (.val (.slice xs false (some g)))) (ag.m_ g (n,sz,e))else k (env.set d (.val (.slice xs false none))) ag
  |none=>False
 |.load agg n x=>match a_ env x with
  |.val (.ptr b o)=>∃cs,ag.obj b=some cs∧o+n≤cs.length∧k (env.set d (.val (gh agg ((cs.drop o).take n)))) ag
  |.val (.dK cs)=>n≤cs.length∧k (env.set d (.val (gh agg (cs.take n)))) ag
  |.b7 s o=>match env s with
   |.box cs=>o+n≤cs.length∧k (env.set d (.val (gh agg ((cs.drop o).take n)))) ag
   |_=>False
  |_=>False
 |.store n x v=>match a_ env v with
  |.val a=>a.cells.length=n∧a.cells.all ab.one=true∧match a_ env x with
   |.val (.ptr b o)=>∃cs,ag.obj b=some cs∧o+n≤cs.length∧k (env.set d (.val .top)) (ag.setObj b (ft cs o a.cells))
   |.b7 s o=>match env s with
    |.box cs=>o+n≤cs.length∧k ((env.m9 s (ft cs o a.cells)).set d (.val .top)) ag
    |_=>False
   |_=>False
  |_=>False
 |.bytesStr x=>match a_ env x with
  |.val (.slice xs _ _)=>∃l,xs=kq l∧k (env.set d (.val (.str l))) ag
  |_=>False
 |.strBytes _ x=>match a_ env x with
  |.val (.str l)=>l.length≤maxLen∧k (env.set d (.val (.slice (kq l) false none))) ag
  |_=>False
 |.mark x=>match a_ env x with
  |.val (.slice xs false (some g))=>(∃r,ag.cF g=some r)∧k (env.set d (.val (.slice xs false none))) (ag.jF (some g))
  |_=>False
 |.cut sz x lo hi=>match a_ env x with
  |.val (.slice xs nl tok)=>(∀x,xs[0]? =some x→x.cells.length=sz)∧fz env xs.length hi fun h=>h≤xs.length∧fz env 0 lo fun l=>l≤h∧
    k (env.set d (.val (.slice ((xs.take h).drop l) nl (bif l==0&&h==xs.length then tok else none)))) ag
  |.val (.ref b o n c)=>fz env n hi fun h=>h≤n∧fz env 0 lo fun l=>l≤h∧k (env.set d (.val (wO b o c sz h l))) ag
  |.val (.raw g _)=>fz env 1 hi fun h=>h=0∧fz env 0 lo fun l=>l=0∧k (env.set d (.val (.slice [] false (some g)))) ag
  |_=>False
 |.cut3 sz x lo hi mx=>match a_ env x with
  |.val (.slice xs nl _)=>(∀x,xs[0]? =some x→x.cells.length=sz)∧fz env 0 (some mx) fun m=>m≤xs.length∧fz env 0 (some hi) fun h=>h≤m∧fz env 0 lo fun l=>l≤h∧
    k (env.set d (.val (.slice ((xs.take h).drop l) nl none))) ag
  |_=>False
 |.cutStr x lo hi=>match a_ env x with
  |.val (.str s)=>fz env s.length hi fun h=>h≤s.length∧fz env 0 lo fun l=>l≤h∧k (env.set d (.val (.str ((s.take h).drop l)))) ag
  |_=>False
 |.iaddr sz x i=>match a_ env i with
  |.val (.int _ n)=>match a_ env x with
   |.val (.slice xs _ _)=>0≤n∧∃a,xs[n.toNat]? =some a∧a.cells.length=sz∧k (env.set d (.val (.dK a.cells))) ag
   |.val (.ref b o m _)=>0≤n∧n<m∧k (env.set d (.val (.ptr b (o+n.toNat*sz)))) ag
   |_=>False
  |_=>False
 |.istr x i=>match a_ env x,a_ env i with
  |.val (.str s),.val (.int _ n)=>0≤n∧∃c,s[n.toNat]? =some c∧k (env.set d (.val (.int .u8 c.toNat))) ag
  |_,_=>False
 |.call f args=>match iQ (args.map (a_ env))with
  |some as=>hL P f as ag fun a bp=>k (env.set d (.val a)) bp
  |none=>False
 |.callv f args=>match a_ env f,iQ (args.map (a_ env))with
  |.val (.func (.func f) fs cs),some as=>(∃fn,P.funcs[f]? =some fn∧(fn.body.isSome&&fn.name != "runtime.NumGoroutine")=true)∧hL P f (fs++as++cs) ag fun a bp=>k (env.set d (.val a)) bp
  |_,_=>False
 |.append sz e bytes x y=>match a_ env x with
  |.val (.slice xs nl tok)=>match a_ env y with
   |.val (.slice ys _ _)=>JB ag xs nl tok sz e∧sT sz ys∧
    xs.length+ys.length≤maxLen∧(xs.length+ys.length)*bytes≤140737488355328∧
    ∀a bp,D3 ag xs nl tok ys sz e a bp→oM (fun a bp=>k (env.set d (.val a)) bp) a bp
   |.val (.ref b o n _)=>sz=1∧∃cs,ag.obj b=some cs∧o+n≤cs.length∧JB ag xs nl tok sz e∧(∀y∈(cs.drop o).take n,y.one=true)∧
    xs.length+n≤maxLen∧(xs.length+n)*bytes≤140737488355328∧
    ∀a bp,D3 ag xs nl tok ((cs.drop o).take n) sz e a bp→oM (fun a bp=>k (env.set d (.val a)) bp) a bp
   |_=>False
  |_=>False
 |.appendM sz _ bytes x y=>∃m L,H5 ag sz (a_ env y) m L∧match a_ env x with
  |.val (.ref b 0 n c)=>∃cs,ag.obj b=some cs∧cs.length=c*sz∧n+m≤maxLen∧(n+m)*bytes≤140737488355328∧
    (m=0→k (env.set d (.val (.ref b 0 n c))) ag)∧
    (0<m→c<n+m→∀g bF,ag.fresh g→n+m≤bF→bF≤maxLen→
     k (env.set d (.val (.ref g 0 (n+m) bF))) (ag.setObj g (cs.take (n*sz)++L++List.replicate ((bF-(n+m))*sz) .top)))∧
    (0<m→n+m≤c→k (env.set d (.val (.ref b 0 (n+m) c))) (ag.setObj b (ft cs (n*sz) L)))
  |.val (.slice [] true none)=>m≤maxLen∧m*bytes≤140737488355328∧(m=0→k (env.set d (.val (.slice [] true none))) ag)∧
    (0<m→∀g bF,ag.fresh g→m≤bF→bF≤maxLen→k (env.set d (.val (.ref g 0 m bF))) (ag.setObj g (L++List.replicate ((bF-m)*sz) .top)))
  |_=>False
 |.mslice sz _ n z br=>match ql sz (List.replicate n z) (a_ env) br with
  |some xs=>∀b,ag.fresh b→k (env.set d (.val (.ref b 0 n n))) (ag.setObj b (xs.flatMap ab.cells))
  |none=>False
 |.appendZ sz e bytes x y=>match a_ env x,a_ env y with
  |.val (.slice [] true none),.val (.int .i64 m)=>0≤m∧m≤9223372036854775807∧m*bytes≤140737488355328∧(m=0→k (env.set d (.val (.slice [] true none))) ag)∧
    (0<m→∀g,ag.fresh g→k (env.set d (.val (.raw g m.toNat))) (ag.m_ g (0,sz,e)))
  |_,_=>False
 |.cap x=>match a_ env x with
  |.val (.slice xs nl _)=>∀c:Nat,xs.length≤c→c≤maxLen→(nl=true→c=0)→k (env.set d (.val (.int .i64 c))) ag
  |_=>False
 |.inv eg x args=>match a_ env x,iQ (args.map (a_ env))with
  |.val (.iface t v),some as=>∃f,oG eg t=some f∧hL P f (v::as) ag fun a bp=>k (env.set d (.val a)) bp
  |_,_=>False
 |.clearS sz z x=>match a_ env x with
  |.val (.slice [] _ _)=>k (env.set d (.val (.tuple []))) ag
  |.val (.ref b o n _)=>∃cs,ag.obj b=some cs∧o+n*sz≤cs.length∧k (env.set d (.val (.tuple []))) (ag.setObj b (ft cs o ((List.range (n*sz)).map fun q=>z.cells.getD (q%sz) .top)))
  |_=>False
 |.clearM x=>match a_ env x with
  |.val (.map none)=>k (env.set d (.val (.tuple []))) ag
  |.val (.map (some r))=>∃es,ag.mp r=some (.map es)∧k (env.set d (.val (.tuple []))) (ag.c5 r (.map []))
  |_=>False
 |.mmap=>∀b,ag.fresh b→k (env.set d (.val (.map (some b)))) (ag.c5 b (.map []))
 |.mget a7 zero ok x i=>match a_ env x,a_ env i with
  |.val (.map none),.val key=>a7.is key=true∧k (env.set d (.val (if ok then .tuple [zero,.bool false]else zero))) ag
  |.val (.map (some r)),.val key=>∃es,ag.mp r=some (.map es)∧A0 a7 key es∧
    k (env.set d (.val (if ok then .tuple [(ox key es).getD zero,.bool (ox key es).isSome]else(ox key es).getD zero))) ag
  |_,_=>False
 |.mset a7 x i v=>match a_ env x,a_ env i,a_ env v with
  |.val (.map (some r)),.val key,.val a=>∃es,ag.mp r=some (.map es)∧A0 a7 key es∧k (env.set d (.val .top)) (ag.c5 r (.map (xD key a es)))
  |_,_,_=>False
 |.mdel a7 x i=>match a_ env x,a_ env i with
  |.val (.map (some r)),.val key=>∃es,ag.mp r=some (.map es)∧A0 a7 key es∧k (env.set d (.val (.tuple []))) (ag.c5 r (.map (Go.bO.mdel key es)))
  |_,_=>False
 |.mlen x=>match a_ env x with
  |.val (.map none)=>k (env.set d (.val (.int .i64 0))) ag
  |.val (.map (some r))=>∃es,ag.mp r=some (.map es)∧k (env.set d (.val (.int .i64 es.length))) ag
  |_=>False
 |.range x=>match a_ env x with
  |.val (.map none)=>∀b,ag.fresh b→k (env.set d (.val (.ptr b 0))) (ag.c5 b (.iter none [] [] none))
  |.val (.map (some r))=>∃es,ag.mp r=some (.map es)∧∀b,ag.fresh b→k (env.set d (.val (.ptr b 0))) ((ag.c5 r .eL).c5 b (.iter (some r) es es none))
  |_=>False
 |.next x=>match a_ env x with
  |.val (.ptr b 0)=>∃m es left cur,ag.mp b=some (.iter m es left cur)∧(∀r,m=some r→ag.mp r=some .eL)∧
    (left=[]→k (env.set d (.val (.tuple [.bool false]))) (match m with
     |some r=>(ag.c5 b .eL).c5 r (.map es)
     |none=>ag.c5 b .eL))∧
    ∀j e,left[j]? =some e→k (env.set d (.val (.tuple [.bool true,e.1,e.2]))) (ag.c5 b (.iter m es (left.eraseIdx j) (some e)))
  |_=>False
 |.entry x=>match a_ env x with
  |.val (.ptr b 0)=>∃r es left e,ag.mp b=some (.iter (some r) es left (some e))∧k (env.set d (.val (.tuple [e.1,e.2]))) ag
  |_=>False
 |.dead=>False
 |o=>Vj d k env ag (bX env o)
def a2.sq:a2→Bool
 |.pick .. |.box .. |.boxv .. |.obj .. |.objv .. |.bslice .. |.load .. |.store .. |.bytesStr .. |.strBytes .. |.mark .. |.cut .. |.cut3 .. |.cutStr .. |.iaddr .. |.istr .. |.call .. |.callv .. |.inv .. |.clearS .. |.clearM .. |.append .. |.appendZ .. |.appendM .. |.mslice .. |.cap .. |.mmap|.mget .. |.mset .. |.mdel .. |.mlen .. |.range .. |.next .. |.entry .. |.dead=>false
 |_=>true
theorem HO (P:Program) (o:a2) (d:Option Nat) (k:bt→a8→Prop) (env:bt) (ag:a8) (h:o.sq=true):bH P o d k env ag=Vj d k env ag (bX env o):=by
 cases o<;>first|rfl|exact absurd h (by simp[a2.sq])
def h2:aJ:=.val (.tuple [])
def jd (P:Program) (o:ca) (k:bt→a8→Prop) (env:bt) (ag:a8):Prop:=
 match o.guard with
 |none=>bH P o.op o.dst k env ag
 |some (j,cO)=>match env j with
  |.val (.bool t)=>(t=cO→bH P o.op o.dst k (env.set (some j) (.val (.bool cO))) ag)∧
    (t= !cO→k ((env.set (some j) (.val (.bool !cO))).set o.dst h2) ag)
  |.val (.tuple [])=>k (env.set o.dst h2) ag
  |_=>False
def pC (P:Program):List ca→(bt→a8→Prop)→bt→a8→Prop
 | [],k,env,ag=>k env ag
 |o::os,k,env,ag=>jd P o (pC P os k) env ag
def c1 (P:Program) (W:List Nat) (o:a2) (env:bt) (ag:a8) (e:aJ):Prop:=
 match o with
 |.pick c a b=>match a_ env c with
  |.val (.bool t)=>e=bif t then a_ env a else a_ env b
  |_=>False
 |.bslice own sz _ n z br=>match ql sz (List.replicate n z) (a_ env) br with
  |some xs=>own=false∧e=.val (.slice xs false none)
  |none=>False
 |.load agg n x=>match a_ env x with
  |.val (.ptr b o)=>∃cs,ag.obj b=some cs∧o+n≤cs.length∧e=.val (gh agg ((cs.drop o).take n))
  |.val (.dK cs)=>n≤cs.length∧e=.val (gh agg (cs.take n))
  |.b7 s o=>W.contains s=false∧match env s with
   |.box cs=>o+n≤cs.length∧e=.val (gh agg ((cs.drop o).take n))
   |_=>False
  |_=>False
 |.bytesStr x=>match a_ env x with
  |.val (.slice xs _ _)=>∃l,xs=kq l∧e=.val (.str l)
  |_=>False
 |.strBytes _ x=>match a_ env x with
  |.val (.str l)=>l.length≤maxLen∧e=.val (.slice (kq l) false none)
  |_=>False
 |.cut sz x lo hi=>match a_ env x with
  |.val (.slice xs nl tok)=>(∀x,xs[0]? =some x→x.cells.length=sz)∧fz env xs.length hi fun h=>h≤xs.length∧fz env 0 lo fun l=>l≤h∧
    e=.val (.slice ((xs.take h).drop l) nl (bif l==0&&h==xs.length then tok else none))
  |.val (.ref b o n c)=>fz env n hi fun h=>h≤n∧fz env 0 lo fun l=>l≤h∧e=.val (wO b o c sz h l)
  |_=>False
 |.cut3 sz x lo hi mx=>match a_ env x with
  |.val (.slice xs nl _)=>(∀x,xs[0]? =some x→x.cells.length=sz)∧fz env 0 (some mx) fun m=>m≤xs.length∧fz env 0 (some hi) fun h=>h≤m∧fz env 0 lo fun l=>l≤h∧
    e=.val (.slice ((xs.take h).drop l) nl none)
  |_=>False
 |.cutStr x lo hi=>match a_ env x with
  |.val (.str s)=>fz env s.length hi fun h=>h≤s.length∧fz env 0 lo fun l=>l≤h∧e=.val (.str ((s.take h).drop l))
  |_=>False
 |.iaddr sz x i=>match a_ env i with
  |.val (.int _ n)=>match a_ env x with
   |.val (.slice xs _ _)=>0≤n∧∃a,xs[n.toNat]? =some a∧a.cells.length=sz∧e=.val (.dK a.cells)
   |.val (.ref b o m _)=>0≤n∧n<m∧e=.val (.ptr b (o+n.toNat*sz))
   |_=>False
  |_=>False
 |.istr x i=>match a_ env x,a_ env i with
  |.val (.str s),.val (.int _ n)=>0≤n∧∃c,s[n.toNat]? =some c∧e=.val (.int .u8 c.toNat)
  |_,_=>False
 |.call f args=>match iQ (args.map (a_ env))with
  |some as=>∃c,hL P f as ag (fun a bp=>a=c∧bp=ag)∧e=.val c
  |none=>False
 |.callv f args=>match a_ env f,iQ (args.map (a_ env))with
  |.val (.func (.func f) fs cs),some as=>(∃fn,P.funcs[f]? =some fn∧(fn.body.isSome&&fn.name != "runtime.NumGoroutine")=true)∧∃c,hL P f (fs++as++cs) ag (fun a bp=>a=c∧bp=ag)∧e=.val c
  |_,_=>False
 |.inv eg x args=>match a_ env x,iQ (args.map (a_ env))with
  |.val (.iface t v),some as=>∃f,oG eg t=some f∧∃c,hL P f (v::as) ag (fun a bp=>a=c∧bp=ag)∧e=.val c
  |_,_=>False
 |.mget a7 zero ok x i=>match a_ env x,a_ env i with
  |.val (.map none),.val key=>a7.is key=true∧e=.val (if ok then .tuple [zero,.bool false]else zero)
  |.val (.map (some r)),.val key=>∃es,ag.mp r=some (.map es)∧A0 a7 key es∧
    e=.val (if ok then .tuple [(ox key es).getD zero,.bool (ox key es).isSome]else(ox key es).getD zero)
  |_,_=>False
 |.mlen x=>match a_ env x with
  |.val (.map none)=>e=.val (.int .i64 0)
  |.val (.map (some r))=>∃es,ag.mp r=some (.map es)∧e=.val (.int .i64 es.length)
  |_=>False
 |.box _|.boxv _|.obj _|.objv _|.store .. |.append .. |.appendZ .. |.appendM .. |.mslice .. |.cap .. |.mark .. |.mmap|.mset .. |.mdel .. |.range .. |.next .. |.entry .. |.clearS .. |.clearM .. |.dead=>False
 |o=>bX env o=some e
def jM (P:Program) (W:List Nat) (o:ca) (env:bt) (ag:a8) (e:aJ):Prop:=
 match o.guard with
 |none=>c1 P W o.op env ag e
 |some (j,cO)=>match env j with
  |.val (.bool t)=>(t=cO→c1 P W o.op env ag e)∧(t= !cO→e=h2)
  |.val (.tuple [])=>e=h2
  |_=>False
def f_ (P:Program) (W:List Nat) (o:a2) (d:Option Nat) (k:bt→a8→Prop) (env:bt) (ag:a8):Prop:=
 match o with
 |.load agg n x=>match a_ env x with
  |.val (.ptr b o)=>∃cs,ag.obj b=some cs∧o+n≤cs.length∧k (env.set d (.val (gh agg ((cs.drop o).take n)))) ag
  |.val (.dK cs)=>n≤cs.length∧k (env.set d (.val (gh agg (cs.take n)))) ag
  |.b7 s o=>W.contains s=false∧match env s with
   |.box cs=>o+n≤cs.length∧k (env.set d (.val (gh agg ((cs.drop o).take n)))) ag
   |_=>False
  |_=>False
 |.call f args=>match iQ (args.map (a_ env))with
  |some as=>∃c,hL P f as ag (fun a bp=>a=c∧bp=ag)∧k (env.set d (.val c)) ag
  |none=>False
 |.callv f args=>match a_ env f,iQ (args.map (a_ env))with
  |.val (.func (.func f) fs cs),some as=>(∃fn,P.funcs[f]? =some fn∧(fn.body.isSome&&fn.name != "runtime.NumGoroutine")=true)∧∃c,hL P f (fs++as++cs) ag (fun a bp=>a=c∧bp=ag)∧k (env.set d (.val c)) ag
  |_,_=>False
 |.inv eg x args=>match a_ env x,iQ (args.map (a_ env))with
  |.val (.iface t v),some as=>∃f,oG eg t=some f∧∃c,hL P f (v::as) ag (fun a bp=>a=c∧bp=ag)∧k (env.set d (.val c)) ag
  |_,_=>False
 |.cut sz x lo hi=>match a_ env x with
  |.val (.slice xs nl tok)=>(∀x,xs[0]? =some x→x.cells.length=sz)∧fz env xs.length hi fun h=>h≤xs.length∧fz env 0 lo fun l=>l≤h∧
    k (env.set d (.val (.slice ((xs.take h).drop l) nl (bif l==0&&h==xs.length then tok else none)))) ag
  |.val (.ref b o n c)=>fz env n hi fun h=>h≤n∧fz env 0 lo fun l=>l≤h∧k (env.set d (.val (wO b o c sz h l))) ag
  |_=>False
 |o=>bH P o d k env ag
def qv (P:Program) (W:List Nat) (o:ca) (k:bt→a8→Prop) (env:bt) (ag:a8):Prop:=
 match o.guard with
 |none=>f_ P W o.op o.dst k env ag
 |some (j,cO)=>match env j with
  |.val (.bool t)=>(t=cO→f_ P W o.op o.dst k (env.set (some j) (.val (.bool cO))) ag)∧
    (t= !cO→k ((env.set (some j) (.val (.bool !cO))).set o.dst h2) ag)
  |.val (.tuple [])=>k (env.set o.dst h2) ag
  |_=>False
def rm (W:List Nat) (env:bt) (o:a2):Prop:=
 match o with
 |.store _ x _=>∀s q,a_ env x=.b7 s q→W.contains s=true
 |_=>True
def vQ (env:bt) (o:a2):Prop:=
 match o with
 |.store _ x _=>∃s q,a_ env x=.b7 s q
 |_=>False
def zL (env:bt) (o:a2):Prop:=
 match o with
 |.load _ _ x=>∃s q,a_ env x=.b7 s q
 |_=>False
def sv (env:bt) (o:ca):Prop:=
 match o.guard with
 |none=>zL env o.op
 |some (j,cO)=>env j=.val (.bool cO)→zL env o.op
def kC (P:Program) (W:List Nat):List (Nat × ca)→(bt→a8→Prop)→bt→a8→Prop
 | [],k,env,ag=>k env ag
 |(c9,o)::os,k,env,ag=>
  if c9=2 then rm W env o.op∧jd P o (kC P W os k) env ag
  else if c9=3 then jd P o (kC P W os k) env ag
  else if c9=4 then rm W env o.op∧vQ env o.op∧jd P o (kC P W os k) env ag
  else if c9=5 then sv env o∧qv P W o (kC P W os k) env ag
  else if c9=6 then sv env o∧qv P (ns W) o (kC P W os k) env ag
  else qv P W o (kC P W os k) env ag
def zX (l:List (Nat × ca)):List Nat:=l.filterMap fun x=>if x.1=3 then x.2.dst else none
def bt.zJ (B:List Nat) (env:bt):bt:=fun t=>match env t with
 |.b7 s o=>bif B.contains s then .val .top else .b7 s o
 |e=>e
def bt.forget (l:List (Nat × ca)) (env:bt):bt:=match zX l with
 | []=>env
 |B=>env.zJ B
inductive dT where
 |normal
 |exit (id:Nat)
 |ret
def dT.inBlock (id:Nat) (K:dT→bt→a8→Prop):dT→bt→a8→Prop
 |.exit so=>bif so==id then K .normal else K (.exit so)
 |e=>K e
def dT.then (next:bt→a8→Prop) (K:dT→bt→a8→Prop):dT→bt→a8→Prop
 |.normal=>next
 |e=>K e
def aJ.dY (e f:aJ):Prop:=f=.val .top∨e=f∨∃a b,e=.val a∧f=.val b∧a.dY b
def bt.dY (env bP:bt):Prop:=∀s,(env s).dY (bP s)
def mJ (K:bt→a8→Prop) (env:bt) (ag:a8):Prop:=∃bP bp,env.dY bP∧bp.Sub ag∧K bP bp
def jy (P:Program):fK→(dT→bt→a8→Prop)→bt→a8→Prop
 |.skip,K,env,ag=>K .normal env ag
 |.region ops,K,env,ag=>pC P ops (K .normal) env ag
 |.drawn W ops,K,env,ag=>kC P W ops (K .normal) (env.forget ops) ag
 |.seq a b,K,env,ag=>jy P a (dT.then (jy P b K) K) env ag
 |.cond c a b,K,env,ag=>match a_ env c with
  |.val (.bool t)=>(t=true→jy P a K env ag)∧(t=false→jy P b K env ag)
  |_=>False
 |.block id body,K,env,ag=>jy P body (dT.inBlock id K) env ag
 |.loop body,K,env,ag=>∃Inv:Nat→bt→a8→Prop,(∃n,mJ (Inv n) env ag)∧
   ∀n env ag,Inv n env ag→jy P body (dT.then (mJ fun bP bp=>∃m,m<n∧Inv m bP bp) K) env ag
 |.exit id,K,env,ag=>K (.exit id) env ag
 |.ret,K,env,ag=>K .ret env ag
def sG (env:bt) (ag:a8):kg→(ab→Prop)→Prop
 |.tmp t,k=>match a_ env (.tmp t)with
  |.val a=>k a
  |_=>False
 |.cell agg n t,k=>match a_ env (.tmp t)with
  |.b7 s o=>match env s with
   |.box cs=>o+n≤cs.length∧k (gh agg ((cs.drop o).take n))
   |_=>False
  |.val (.ptr b o)=>∃cs,ag.obj b=some cs∧o+n≤cs.length∧k (gh agg ((cs.drop o).take n))
  |_=>False
def vK (env:bt) (ag:a8):List kg→(List ab→Prop)→Prop
 | [],k=>k []
 |r::rs,k=>sG env ag r fun a=>vK env ag rs fun as=>k (a::as)
def LV (env:bt) (ag:a8) (rs:List kg) (k:ab→Prop):Prop:=
 vK env ag rs fun as=>match as with
  | [a]=>k a
  |as=>k (.tuple as)
def TY (rs:List kg) (Q:ab→a8→Prop):dT→bt→a8→Prop
 |.exit _,_,_=>False
 |_,env,ag=>LV env ag rs fun a=>Q a ag
def bt.args (as:List ab):bt:=fun t=>match as[t]? with
 |some a=>.val a
 |none=>.val .top
end Go.bO
end
section
namespace Go.bO
open Go.RowKit
section
variable {P:Program} {E:Entry} {I I':cf} {ag bp:a8} {env:bt} {bK:Nat→Nat} {a:Act} {w w':World}
def gR (I:cf) (bK:Nat→Nat) (v:Value):aJ→Prop
 |.val x=>aZ I v x
 |.b7 s o=>v=.pointer (some ⟨bK s,o,none⟩)
 |.box _=>False
theorem gR.rep {s:Nat} {v:Value} {e:aJ} (h:gR I bK v e):ug I ag bK w s v e:=by
 cases e with
 |val x=>exact h
 |b7 s o=>exact h
 |box c=>exact h.elim
theorem gR.SV {v:Value} {e:aJ} (h:gR I bK v e):¬e.j8:=by
 cases e with
 |val x=>exact id
 |b7 s o=>exact id
 |box c=>exact h.elim
mutual
theorem CS:∀(v:Value) (x:ab),dx v=some x→aZ I v x
 |.bool b,x,h=>by simp only[dx,bk]at h;subst h;exact .bool b
 |.int k n,x,h=>by simp only[dx,bk]at h;subst h;exact .int k n
 |.string s,x,h=>by simp only[dx,bk]at h;subst h;exact .str s _ rfl
 |.pointer none,x,h=>by simp only[dx,bk]at h;subst h;exact .cX
 |.pointer (some _),x,h=>by simp[dx]at h
 |.slice none 0 0,x,h=>by simp only[dx,bk]at h;subst h;exact .qg
 |.slice none 0 (_+1),x,h=>by simp[dx]at h
 |.slice none (_+1) _,x,h=>by simp[dx]at h
 |.slice (some _) _ _,x,h=>by simp[dx]at h
 |.nilIface,x,h=>by simp only[dx,bk]at h;subst h;exact .dC
 |.nilFunc,x,h=>by simp only[dx,bk]at h;subst h;exact .fj
 |.map none,x,h=>by simp only[dx,bk]at h;subst h;exact .map none
 |.map (some _),x,h=>by simp[dx]at h
 |.agg ⟨cs⟩,x,h=>by
  simp only[dx]at h;cases af:z1 cs with
  |none=>rw[af]at h;cases h
  |some as=>
   rw[af]at h;simp only[bk]at h;subst h;obtain⟨U,aa⟩:=ac5 cs as af;refine .agg _ _ (by simpa using U) (fun j=> ?_)
   have:=aa j;simpa[Array.getD,List.getD,ni,eU]using this
 |.float _ _,x,h=>by simp[dx]at h
 |.complex _ _ _,x,h=>by simp[dx]at h
 |.chan _,x,h=>by simp[dx]at h
 |.func _ _ _,x,h=>by simp[dx]at h
 |.iface _ _,x,h=>by simp[dx]at h
 |.tuple _,x,h=>by simp[dx]at h
theorem ac5:∀(cs:List Value) (as:List ab),z1 cs=some as→cs.length=as.length∧∀j,aZ I ((cs.toArray).getD j undef) (as.getD j .top)
 | [],as,h=>by simp only[z1,bk]at h;subst h;exact⟨rfl,fun j=>by simpa using aZ.top _⟩
 |v::r,as,h=>by
  simp only[z1]at h;cases ar:dx v with
  |none=>rw[ar]at h;cases h
  |some x=>
   cases ah:z1 r with
   |none=>rw[ar,ah]at h;cases h
   |some xs=>
    rw[ar,ah]at h;simp only[bk]at h;subst h;obtain⟨U,aa⟩:=ac5 r xs ah;refine⟨by simp[U],fun j=> ?_⟩
    cases j with
    |zero=>simpa using CS v x ar
    |succ j=>have:=aa j;simpa[gl]using this
end
theorem cx.dB (st:cx E I ag env bK a w) {x:Operand} {y:aG} (h:b8 x=some y):gR I bK (a.eval x) (a_ env y):=by
 cases x with
 |tmp t=>
  simp only[b8,bk]at h;subst h;have:=st.nu t;simp only[a_,Act.eval];cases he:env t with
  |val x=>rw[he]at this;exact this
  |b7 s o=>rw[he]at this;exact this
  |box c=>rw[he]at this;exact this.1
 |const v=>
  simp only[b8]at h;cases ar:dx v with
  |none=>rw[ar]at h;cases h
  |some x=>
   rw[ar]at h;simp only[bk]at h;subst h;exact CS v x ar
 |global g=>simp[b8]at h
 |func f=>
  simp only[b8,bk]at h;subst h;exact .func _ _ _ _ _ rfl rfl (fun j=>by simpa using aZ.top _) (fun j=>by simpa using aZ.top _)
theorem Act.agE (a:Act) (d:Option Tmp) (v:Value) (s:Nat):(a.put d v).tmps.getD s undef=if d=some s∧s<a.tmps.size then v else a.tmps.getD s undef:=by
 cases d with
 |none=>simp[Act.put]
 |some d=>
  simp only[Act.put,gl,ON,bk];by_cases h:d=s
  ·subst h;by_cases ak:d<a.tmps.size<;>simp[ak]
  ·simp[h]
theorem Act.size_put (a:Act) (d:Option Tmp) (v:Value):(a.put d v).tmps.size=a.tmps.size:=by cases d<;>simp[Act.put]
theorem Act.Xx (a:Act) (d:Option Tmp) (v:Value):(a.put d v).defers=a.defers:=by cases d<;>rfl
theorem bt.kf (env:bt) (d:Nat) (e:aJ) (s:Nat):env.set (some d) e s=if s=d then e else env s:=by
 by_cases h:s=d
 ·simp[bt.set,h]
 ·have:(s==d)=false:=by simpa using h
  simp[bt.set,h,this]
theorem ug.kN {s:Nat} {v:Value} {e:aJ} (h:ug I ag bK w s v e) (ai:fC I ag w I' bp w'):ug I' bp bK w' s v e:=by
 cases e with
 |val x=>exact aZ.mono ai.le h
 |b7 s o=>exact h
 |box c=>
  obtain⟨U,vs,T,aa,au,ba,cb,du,ew⟩:=h;obtain⟨az,ao,aX,bD⟩:=ai.iJ _ (g8 aa) cb;exact⟨U,vs,T,az.trans aa,au,fun j=>(ba j).mono ai.le,ao,fun o=>(aX o).trans (du o),bD.trans ew⟩
theorem cx.step (st:cx E I ag env bK a w) (ai:fC I ag w I' bp w') (m:e0 I' bp w') {d:Option Nat} (aQ:∀x,d=some x→x<E.n) {v:Value} {e:aJ}
  (ar:gR I' bK v e):cx E I' bp (env.set d e) bK (a.put d v) w' where
 cr:=m
 nu s:=by
  rw[Act.agE];cases d with
  |none=>simpa[bt.set]using(st.nu s).kN ai
  |some d=>
   rw[bt.kf];by_cases h:s=d
   ·subst h;have:s<a.tmps.size:=by rw[st.size];exact aQ s rfl
    simp only[this,and_self,if_true];exact ar.rep
   ·have b0:¬(some d=some s∧s<a.tmps.size):=fun aa=>h (yI aa.1).symm;rw[if_neg b0,if_neg h];exact(st.nu s).kN ai
 inj s dy h b0:=by
  cases d with
  |none=>exact st.inj s dy h b0
  |some d=>
   rw[bt.kf]at h b0;by_cases e1:s=d
   ·rw[if_pos e1]at h;exact(ar.SV h).elim
   ·by_cases aN:dy=d
    ·rw[if_pos aN]at b0;exact(ar.SV b0).elim
    ·rw[if_neg e1]at h;rw[if_neg aN]at b0;exact st.inj s dy h b0
 low s h:=by
  cases d with
  |none=>exact st.low s h
  |some d=>
   rw[bt.kf]at h;by_cases e1:s=d
   ·rw[if_pos e1]at h;exact(ar.SV h).elim
   ·rw[if_neg e1]at h;exact st.low s h
 kN:=st.kN.trans ai
 size:=by rw[Act.size_put];exact st.size
 defers:=by rw[Act.Xx];exact st.defers
theorem MU {o:Oper} {next:Act→World→Prop} {Q:Exit→Act→World→Prop} {v:Value} (h:(execOp a.eval o).run P w=.ok (.value v) w') (aK:next (a.put o.dst v) w'):
  o.wp P a w next Q:=by unfold Oper.wp;rw[h];exact aK
theorem Vo {o:Oper} {next:Act→World→Prop} {Q:Exit→Act→World→Prop} (h:(execOp a.eval o).run P w=.ok .skip w') (aK:next (a.put o.dst undef) w'):
  o.wp P a w next Q:=by unfold Oper.wp;rw[h];exact aK
theorem avi (st:cx E I ag env bK a w) {o:Oper} {k:bt→a8→Prop} {Q:Exit→Act→World→Prop} (aQ:∀x,o.dst=some x→x<E.n) {v:Value} {e:aJ}
  (h:(execOp a.eval o).run P w=.ok (.value v) w) (ar:gR I bK v e) (aq:k (env.set o.dst e) ag):o.wp P a w (dz E k) Q:=
 MU h ⟨I,ag,_,bK,st.step (.refl _ _ _) st.cr aQ ar,aq⟩
theorem aZ.mu {v:Value} {k:IntKind} {n:Int} (h:aZ I v (.int k n)):v=.int k n:=by cases h;rfl
theorem aZ.Ey {v:Value} {b:Bool} (h:aZ I v (.bool b)):v=.bool b:=by cases h;rfl
theorem aZ.qm {v:Value} {l:List UInt8} (h:aZ I v (.str l)):∃s:ByteArray,v=.string s∧s.data.toList=l:=by cases h with|str s l h=>exact⟨s,rfl,h⟩
theorem aZ.vG {v:Value} {b o:Nat} (h:aZ I v (.ptr b o)):v=.pointer (some ⟨b,o,none⟩):=by cases h;rfl
end
end Go.bO
end
section
namespace Go.bO
open Go.RowKit Go.MapKept
section
variable {P:Program} {E:Entry} {I:cf} {ag:a8} {env:bt} {bK:Nat→Nat} {a:Act} {w:World} {o:Oper} {k:bt→a8→Prop} {Q:Exit→Act→World→Prop}
def dH.desc:dH→TypeDesc
 |.bool=>.bool
 |.int k=>.int k
 |.str=>.string
theorem Hv {t:TypeId} {s:dH} (h:yb P t=some s):P.underlying t=some s.desc:=by
 unfold yb at h;split at h<;>simp only[bk,reduceCtorEq]at h<;>subst h<;>assumption
theorem UN {t:TypeId} {s:dH} (h:yb P t=some s):P.plainKey t=true:=by
 have:=Hv h;unfold Program.plainKey;rw[this];cases s<;>rfl
theorem dH.cases {s:dH} {a:ab} (h:s.is a=true):(s=.bool∧∃b,a=.bool b)∨(∃k n,s=.int k∧a=.int k n)∨(s=.str∧∃l,a=.str l):=by
 cases s<;>cases a<;>simp only[dH.is,lK]at h
 ·exact .inl ⟨rfl,_,rfl⟩
 ·exact .inr (.inl ⟨_,_,rfl,by rw[of_decide_eq_true h]⟩)
 ·exact .inr (.inr ⟨rfl,_,rfl⟩)
theorem NQ {x y:ByteArray}:(x==y)=(x.data.toList==y.data.toList):=by
 have h:=bytes_beq x y;by_cases e:x=y
 ·subst e;rw[h.2 rfl];simp
 ·have U:(x==y)=false:=by cases aB:(x==y)with
   |false=>rfl
   |true=>exact absurd (h.1 aB) e
  rw[U];have aa:x.data.toList≠y.data.toList:=fun aF=>e (by cases x;cases y;simp only[ByteArray.mk.injEq];exact Array.toList_inj.1 aF)
  exact(beq_eq_false_iff_ne.2 aa).symm
theorem Uh {s:dH} {a b:ab} {u v:Value} (aA:s.is a=true) (aj:s.is b=true) (hu:aZ I u a) (ar:aZ I v b):Instr.sameNow s.desc u v=some (kv a b)∧IsKey s.desc u∧IsKey s.desc v:=by
 rcases dH.cases aA with⟨rfl,x,rfl⟩|⟨q,n,rfl,rfl⟩|⟨rfl,l,rfl⟩
 ·rcases dH.cases aj with⟨_,y,rfl⟩|⟨_,_,h,_⟩|⟨h,_⟩
  ·cases hu;cases ar;exact⟨rfl,trivial,trivial⟩
  ·cases h
  ·cases h
 ·rcases dH.cases aj with⟨h,_⟩|⟨_,m,h,rfl⟩|⟨h,_⟩
  ·cases h
  ·cases h;cases hu;cases ar;exact⟨by simp[Instr.sameNow,dH.desc,kv,mM],rfl,rfl⟩
  ·cases h
 ·rcases dH.cases aj with⟨h,_⟩|⟨_,_,h,_⟩|⟨_,m,rfl⟩
  ·cases h
  ·cases h
  ·obtain⟨x,rfl,ad⟩:=aZ.qm hu;obtain⟨y,rfl,aI⟩:=aZ.qm ar;exact⟨by simp only[Instr.sameNow,dH.desc,kv,mM,NQ,ad,aI],trivial,trivial⟩
theorem alf {t:TypeId} {s:dH} {a b:ab} {u v:Value} (aw:yb P t=some s) (aA:s.is a=true) (aj:s.is b=true) (hu:aZ I u a) (ar:aZ I v b) (d:Nat) (W:World):
  (Op.equalIn (d+1) t u v).run P W=.ok (mM a b) W:=by
 have aQ:=Hv aw;rcases dH.cases aA with⟨rfl,x,rfl⟩|⟨q,n,rfl,rfl⟩|⟨rfl,l,rfl⟩
 ·rcases dH.cases aj with⟨_,y,rfl⟩|⟨_,_,h,_⟩|⟨h,_⟩
  ·cases hu;cases ar;simp[Op.equalIn,run_underlying aQ,dH.desc,mM]
  ·cases h
  ·cases h
 ·rcases dH.cases aj with⟨h,_⟩|⟨_,m,h,rfl⟩|⟨h,_⟩
  ·cases h
  ·cases h;cases hu;cases ar;simp[Op.equalIn,run_underlying aQ,dH.desc,mM]
  ·cases h
 ·rcases dH.cases aj with⟨h,_⟩|⟨_,_,h,_⟩|⟨_,m,rfl⟩
  ·cases h
  ·cases h
  ·obtain⟨x,rfl,ad⟩:=aZ.qm hu;obtain⟨y,rfl,aI⟩:=aZ.qm ar;have e:(x==y)=(l==m):=by rw[NQ,ad,aI]
   simp only[Op.equalIn,Sem.run_bind,run_underlying aQ,dH.desc,mM,Result.andThen_ok,Sem.run_pure,e]
theorem X1 {f:Field} {r:List Field} {off:Nat} {ss:List dH} (h:uR P (f::r) off=some ss):∃s sM,ss=s::sM∧yb P f.type=some s∧uR P r (off+1)=some sM∧f.offset=off∧f.name≠ "_" :=by
 simp only[uR]at h;split at h
 ·rename_i s sM U aa;split at h
  ·rename_i af;simp only[bk]at h;exact⟨s,sM,h.symm,U,aa,af.1,af.2⟩
  ·cases h
 ·cases h
theorem TV {xs:Array Value} {as:List ab} (ah:∀j,aZ I (xs.getD j undef) (as.getD j .top)) (ak:xs.size=as.length) {off:Nat} {x:ab} {r:List ab} (h:as.drop off=x::r):∃v,xs[off]? =some v∧aZ I v x:=by
 have bw:off<as.length:=by
  rcases lJ off as.length with U|U
  ·exact U
  ·rw[List.drop_eq_nil_of_le U]at h;cases h
 have ad:as.getD off .top=x:=by
  have:(as.drop off)[0]? =some x:=by rw[h];rfl
  rw[k4]at this;simp[cM,show as[off]? =some x from this]
 refine⟨xs.getD off undef,?_,by have:=ah off;rw[ad]at this;exact this⟩
 rw[gl,ni (by omega)];rfl
theorem aff {d:Nat} {xs ys:Array Value} {as bs:List ab} (ad:∀j,aZ I (xs.getD j undef) (as.getD j .top)) (sn:xs.size=as.length) (aI:∀j,aZ I (ys.getD j undef) (bs.getD j .top)) (mY:ys.size=bs.length) (W:World):
  ∀(fs:List Field) (off:Nat) (ss:List dH) (hC oW:List ab),uR P fs off=some ss→as.drop off=hC→bs.drop off=oW→gW ss hC=true→gW ss oW=true→
  (forIn (m:=Sem) fs (none,()) fun f (_:Option Bool × Unit)=>
   if f.name≠ "_" then do
    let b←Op.equalIn (d+1) f.type (←part f.type xs f.offset) (←part f.type ys f.offset)
    if !b then pure (ForInStep.done (some false,()))else pure (ForInStep.yield (none,()))
   else pure (ForInStep.yield (none,()))).run P W=.ok (if mN hC oW then(none,())else(some false,())) W
 | [],off,ss,hC,oW,h,U,aa,au,ba=>by
  simp only[uR,bk]at h;subst h;cases hC<;>cases oW<;>simp_all [gW,mN]
 |f::r,off,ss,hC,oW,h,U,aa,au,ba=>by
  obtain⟨s,sM,rfl,e1,aN,bL,eB⟩:=X1 h;cases hC with
  |nil=>simp[gW]at au
  |cons x hC=>
   cases oW with
   |nil=>simp[gW]at ba
   |cons y oW=>
    simp only[gW,dF]at au ba;obtain⟨u,ia,oI⟩:=TV ad sn U;obtain⟨v,v1,v2⟩:=TV aI mY aa;have et:=run_part_plain W (UN e1) ia;have eY:=run_part_plain W (UN e1) v1;have m7:=alf (P:=P) e1 au.1 ba.1 oI v2 d W;have bm:=aff (d:=d) ad sn aI mY W r (off+1) sM hC oW aN (by rw[←Bt,U];rfl) (by rw[←Bt,aa];rfl) au.2 ba.2
    rw[List.forIn_cons,Sem.run_bind];rw[if_pos eB];simp only[Sem.run_bind,bL,et,eY,m7,Result.andThen_ok];cases af:mM x y with
    |true=>simp only[Bu,lK,if_false,Sem.run_pure,Result.andThen_ok,bm,mN,af,s7]
    |false=>simp[mN,af]
theorem Ms {t:TypeId} {ss:List dH} (h:vT P t=some ss):∃fs,P.underlying t=some (.struct fs)∧uR P fs.toList 0=some ss∧P.stoodInHeld t=false∧P.eqGuardType P.depth t=false:=by
 unfold vT at h;split at h
 ·rename_i fs hu;split at h
  ·rename_i sM hs;split at h
   ·rename_i af;simp only[bk]at h;subst h;exact⟨fs,hu,hs,af.1,af.2⟩
   ·cases h
  ·cases h
 ·cases h
theorem XQ {t:TypeId} {ss:List dH} {as bs:List ab} {u v:Value} (aw:vT P t=some ss) (aA:gW ss as=true) (aj:gW ss bs=true) (hu:aZ I u (.agg as)) (ar:aZ I v (.agg bs)) (d:Nat) (W:World):
  (Op.equalIn (d+2) t u v).run P W=.ok (mN as bs) W:=by
 obtain⟨fs,F5,ax,hs,_⟩:=Ms aw;cases hu with
 |agg xs _ ak ah=>
  cases ar with
  |agg ys _ xe si=>
   have:=aff (d:=d) ah ak si xe W fs.toList 0 ss as bs ax rfl rfl aA aj;unfold Op.equalIn;simp only[Sem.run_bind,run_underlying F5,Result.andThen_ok,run_program,hs];rw[if_neg (by decide),Sem.run_bind,←Array.forIn_toList,this]
   cases mN as bs<;>rfl
end
end Go.bO
end
