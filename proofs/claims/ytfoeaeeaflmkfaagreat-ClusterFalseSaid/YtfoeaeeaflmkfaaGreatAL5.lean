/-
  AN ABSTRACT LOGIC OVER THE MODEL, part 5: what the operations ask is enough.
-/
import Derived.Test.YtfoeaeeaflmkfaaGreatAL4
namespace Go.AL
open Go.RowKit
section
variable {P:Program} {E:Entry} {I:Sealed} {σ:Store} {env:Env} {bx:Nat→Nat} {a:Act} {w:World} {o:Oper}
variable {k:Env→Store→Prop} {Q:Exit→Act→World→Prop}
theorem wp_step (st:St E I σ env bx a w) (hd:∀x,o.dst=some x→x<E.n) {v:Value} {e:Ent} {w':World} {I':Sealed} {σ':Store}
  (h:(execOp a.eval o).run P w=.ok (.value v) w') (m:Models I' σ' w') (ev:Evo I σ w I' σ' w') (hv:EntVal I' bx v e) (hk:k (env.set o.dst e) σ'):o.wp P a w (Up E k) Q:=
 wp_of_value h ⟨I',σ',_,bx,st.step ev m hd hv,hk⟩
theorem sound_pick (st:St E I σ env bx a w) (hd:∀x,o.dst=some x→x<E.n) {c x z:Operand} {c' x' z':Opd} (ho:o.op=.pick c x z) (hc:ofOpd c=some c') (hx:ofOpd x=some x') (hz:ofOpd z=some z')
  (h:vcOp P (.pick c' x' z') o.dst k env σ):o.wp P a w (Up E k) Q:=by
 have hcv:=st.opd hc
 have hxv:=st.opd hx
 have hzv:=st.opd hz
 simp only[vcOp]at h
 generalize evalOpd env c'=ec at hcv h
 split at h
 case h_2=>exact h.elim
 rename_i t
 have e1:=RepC.bool_inv hcv
 cases t with
 |true=>exact wp_step st hd (by simp[execOp,ho,e1,asBool]) st.models (.refl _ _ _) hxv (h.1 rfl)
 |false=>exact wp_step st hd (by simp[execOp,ho,e1,asBool]) st.models (.refl _ _ _) hzv (h.2 rfl)
theorem zero_of {t:TypeId} {z:AVal} (hz:tZero P t=some z):∃i zv,P.info? t=some i∧i.zero=some zv∧ofV zv=some z:=by
 unfold tZero at hz
 split at hz
 ·rename_i i hi
  split at hz
  ·rename_i zv hzv
   exact⟨i,zv,hi,hzv,hz⟩
  ·cases hz
 ·cases hz
theorem ofV_cells (I:Sealed) {zv:Value} {z:AVal} (hof:ofV zv=some z):zv.cells.size=z.cells.length∧∀j,RepC I (zv.cells.getD j undef) (z.cells.getD j .top):=by
 have hrep:=ofV_sound (I:=I) zv z hof
 by_cases hx:∃cs,z=.agg cs
 ·obtain⟨as,rfl⟩:=hx
  cases hrep with
  |agg cs _ hl hr=>exact⟨hl,hr⟩
 ·have hc:z.cells=[z]:=by cases z<;>first|rfl|exact absurd ⟨_,rfl⟩ hx
  have hvc:zv.cells= #[zv]:=by
   cases zv<;>first|rfl|skip
   rename_i cs
   obtain⟨cs⟩:=cs
   simp only[ofV]at hof
   split at hof
   ·simp only[Option.some.injEq]at hof;exact absurd ⟨_,hof.symm⟩ hx
   ·cases hof
  rw[hc,hvc]
  refine⟨rfl,fun j=> ?_⟩
  cases j with
  |zero=>exact hrep
  |succ j=>simpa using RepC.top _
theorem run_newVar (t:TypeId) (v:Value) (W:World):(newVar t v).run P W=.ok ⟨W.heap.size,0,none⟩ (W.alloc (.cells v.cells t)):=by
 simp[newVar,newRow]
theorem sound_box (st:St E I σ env bx a w) {d:Nat} (hd:d<E.n) (hod:o.dst=some d) {t:TypeId} {z:AVal} (ho:o.op=.alloc t) (hz:tZero P t=some z)
  (h:vcOp P (.box z.cells) o.dst k env σ):o.wp P a w (Up E k) Q:=by
 obtain⟨i,zv,hi,hzv,hof⟩:=zero_of hz
 obtain⟨h1,h2⟩:=ofV_cells I hof
 rw[hod]at h
 refine wp_of_value (v:=.pointer (some ⟨w.heap.size,0,none⟩)) (w':=w.alloc (.cells zv.cells t)) ?_ ?_
 ·have hzr:(zeroValue t).run P w=.ok zv w:=by simp[zeroValue,typeInfo,hi,hzv]
  simp[execOp,ho,Instr.alloc,hzr,run_newVar]
 ·rw[hod]
  exact⟨I,σ,_,_,st.newBox hd t h1 h2,h⟩
theorem sound_obj (st:St E I σ env bx a w) (hd:∀x,o.dst=some x→x<E.n) {t:TypeId} {z:AVal} (ho:o.op=.alloc t) (hz:tZero P t=some z)
  (h:vcOp P (.obj z.cells) o.dst k env σ):o.wp P a w (Up E k) Q:=by
 obtain⟨i,zv,hi,hzv,hof⟩:=zero_of hz
 obtain⟨h1,h2⟩:=ofV_cells I hof
 have hzr:(zeroValue t).run P w=.ok zv w:=by simp[zeroValue,typeInfo,hi,hzv]
 exact wp_step st hd (v:=.pointer (some ⟨w.heap.size,0,none⟩)) (by simp[execOp,ho,Instr.alloc,hzr,run_newVar]) (st.models.newObj t h1 h2) (Evo.newObj st.models _ _)
  (e:=.val (.ptr w.heap.size 0)) (RepC.ptr _ _) (h _ (st.models.fresh_of_ge (Nat.le_refl _)))
theorem sound_boxv (st:St E I σ env bx a w) {d:Nat} (hd:d<E.n) (hod:o.dst=some d) {t:TypeId} {x:Operand} {y:Opd} (ho:o.op=.box t x) (hx:ofOpd x=some y)
  (h:vcOp P (.boxv y) o.dst k env σ):o.wp P a w (Up E k) Q:=by
 have hv:=st.opd hx
 simp only[vcOp,hod]at h
 generalize evalOpd env y=e at hv h
 cases e with
 |box c=>exact hv.elim
 |lptr s off=>exact h.elim
 |val x'=>
  obtain⟨h0,h⟩:=h
  obtain⟨k1,k2,_⟩:=RepC.cells_of hv h0
  refine wp_of_value (v:=.pointer (some ⟨w.heap.size,0,none⟩)) (w':=w.alloc (.cells (a.eval x).cells t)) ?_ ?_
  ·simp[execOp,ho,Instr.box,run_newVar]
  ·rw[hod]
   exact⟨I,σ,_,_,st.newBox hd t k1 k2,h⟩
theorem sound_objv (st:St E I σ env bx a w) (hd:∀x,o.dst=some x→x<E.n) {t:TypeId} {x:Operand} {y:Opd} (ho:o.op=.box t x) (hx:ofOpd x=some y)
  (h:vcOp P (.objv y) o.dst k env σ):o.wp P a w (Up E k) Q:=by
 have hv:=st.opd hx
 simp only[vcOp]at h
 generalize evalOpd env y=e at hv h
 cases e with
 |box c=>exact hv.elim
 |lptr s off=>exact h.elim
 |val x'=>
  obtain⟨h0,h⟩:=h
  obtain⟨k1,k2,_⟩:=RepC.cells_of hv h0
  exact wp_step st hd (v:=.pointer (some ⟨w.heap.size,0,none⟩)) (by simp[execOp,ho,Instr.box,run_newVar]) (st.models.newObj t k1 k2) (Evo.newObj st.models _ _)
   (e:=.val (.ptr w.heap.size 0)) (RepC.ptr _ _) (h _ (st.models.fresh_of_ge (Nat.le_refl _)))
theorem run_loadVar_lay {t:TypeId} {agg:Bool} {n:Nat} (hl:tLay P t=some (agg,n)) {b off:Nat} (f:Nat→Value) (hc:∀j,j<n→w.cell? ⟨b,off+j,none⟩=some (f j)):
  (loadVar t ⟨b,off,none⟩).run P w=.ok (bif agg then .agg ((List.range n).map f).toArray else f 0) w:=by
 rcases lay_of hl with⟨rfl,⟨i,hi,hsz⟩,hk⟩|⟨rfl,rfl,⟨i,hi⟩,d,hd,h1,h2⟩
 ·have hcells:=run_loadCells (P:=P) w ⟨b,off,none⟩ n f (fun j hj=>by rw[Addr.add_lit];exact hc j hj)
  rcases hk with⟨fs,hk⟩|⟨m,e,hk⟩<;>simp[loadVar,isAgg,run_underlying hk,sizeOf,typeInfo,hi,hsz,hcells]
 ·have ha:(isAgg t).run P w=.ok false w:=by
   simp only[isAgg,Sem.run_bind,run_underlying hd,Result.andThen_ok]
   cases d<;>simp_all
  have:=hc 0 (by omega)
  simp only[Nat.add_zero]at this
  simp[loadVar,ha,this]
theorem rep_load {agg:Bool} {n:Nat} {as:List AVal} {f:Nat→Value} (hn:agg=true∨n=1) (hr:∀j,j<n→RepC I (f j) (as.getD j .top)) (hl:as.length=n):
  RepC I (bif agg then .agg ((List.range n).map f).toArray else f 0) (mkv agg as):=by
 cases agg with
 |true=>
  refine RepC.agg _ _ (by simp[hl]) (fun j=> ?_)
  by_cases hj:j<n
  ·have:=hr j hj
   simpa[Array.getD_eq_getD_getElem?,hj]using this
  ·have:as.getD j .top=.top:=by rw[List.getD_eq_getElem?_getD,List.getElem?_eq_none (by omega)];rfl
   rw[this]
   exact .top _
 |false=>
  have hn1:n=1:=by simpa using hn
  subst hn1
  have:=hr 0 (by omega)
  cases as with
  |nil=>simp at hl
  |cons x r=>simpa[mkv]using this
theorem lay_one {t:TypeId} {agg:Bool} {n:Nat} (hl:tLay P t=some (agg,n)):agg=true∨n=1:=by
 rcases lay_of hl with⟨h,_⟩|⟨_,h,_⟩
 ·exact .inl h
 ·exact .inr h
theorem cell_of_heap {W:World} {b off:Nat} {cs:Array Value} {T:TypeId} {fz:Nat × Nat} (h:W.heap[b]? =some (.cells cs T fz)):W.cell? ⟨b,off,none⟩=cs[off]? :=by
 simp[World.cell?,h]
theorem cells_known {cs:Array Value} {as:List AVal} {off n:Nat} (hl:cs.size=as.length) (hr:∀j,RepC I (cs.getD j undef) (as.getD j .top)) (hle:off+n≤as.length):
  (∀j,j<n→cs[off+j]? =some (cs.getD (off+j) undef))∧(∀j,j<n→RepC I (cs.getD (off+j) undef) (((as.drop off).take n).getD j .top))∧((as.drop off).take n).length=n:=by
 refine⟨fun j hj=> ?_,fun j hj=> ?_,by simp;omega⟩
 ·rw[Array.getD_eq_getD_getElem?,Array.getElem?_eq_getElem (by omega)];rfl
 ·have:=hr (off+j)
  rw[List.getD_eq_getElem?_getD,List.getElem?_take,if_pos hj,List.getElem?_drop,←List.getD_eq_getElem?_getD]
  exact this
theorem sound_load (st:St E I σ env bx a w) (hd:∀x,o.dst=some x→x<E.n) {t:TypeId} {x:Operand} {y:Opd} {agg:Bool} {n:Nat} (ho:o.op=.load t x) (hl:tLay P t=some (agg,n)) (hx:ofOpd x=some y)
  (h:vcOp P (.load agg n y) o.dst k env σ):o.wp P a w (Up E k) Q:=by
 have hv:=st.opd hx
 have hn:=lay_one hl
 have hrun:∀(b off:Nat) (f:Nat→Value),a.eval x=.pointer (some ⟨b,off,none⟩)→(∀j,j<n→w.cell? ⟨b,off+j,none⟩=some (f j))→
   (execOp a.eval o).run P w=.ok (.value (bif agg then .agg ((List.range n).map f).toArray else f 0)) w:=by
  intro b off f hz hc
  simp[execOp,ho,hz,Instr.loadAt,Instr.sureAddr,run_loadVar_lay hl f hc]
 simp only[vcOp]at h
 generalize evalOpd env y=e at hv h
 split at h
 ·
  rename_i b off
  obtain⟨cs,h1,h2,h3⟩:=h
  obtain⟨vs,T,k1,k2,k3,_⟩:=st.models.obj b cs h1
  obtain⟨c1,c2,c3⟩:=cells_known k2 k3 h2
  exact wp_step st hd (hrun b off _ (RepC.ptr_inv hv) (fun j hj=>by rw[cell_of_heap k1];exact c1 j hj)) st.models (.refl _ _ _)
   (e:=.val (mkv agg ((cs.drop off).take n))) (rep_load hn c2 c3) h3
 ·
  rename_i cs
  obtain⟨h2,h3⟩:=h
  simp only[EntVal]at hv
  generalize hz:a.eval x=z at hv
  cases hv with
  |sptr b off _ vs hc hr=>
   refine wp_step st hd (hrun b off vs hz (fun j hj=> ?_)) st.models (.refl _ _ _) (e:=.val (mkv agg (cs.take n))) (rep_load hn (fun j hj=> ?_) (by simp;omega)) h3
   ·obtain⟨us,T,fz,q1,q2⟩:=st.models.cell b (off+j) (vs j) (hc j (by omega))
    rw[cell_of_heap q1];exact q2
   ·rw[List.getD_eq_getElem?_getD,List.getElem?_take,if_pos hj,←List.getD_eq_getElem?_getD]
    exact hr j
 ·
  rename_i s off
  split at h
  ·rename_i cs hs
   obtain⟨h2,h3⟩:=h
   have hb:=st.ents s
   rw[hs]at hb
   obtain⟨_,vs,T,k1,k2,k3,_⟩:=hb
   obtain⟨c1,c2,c3⟩:=cells_known k2 k3 h2
   exact wp_step st hd (hrun (bx s) off _ hv (fun j hj=>by rw[cell_of_heap k1];exact c1 j hj)) st.models (.refl _ _ _)
    (e:=.val (mkv agg ((cs.drop off).take n))) (rep_load hn c2 c3) h3
  ·exact h.elim
 ·exact h.elim
theorem run_storeVar_row {t:TypeId} {n:Nat} (hs:tSize P t=some n) {b off:Nat} {cs:Array Value} {T:TypeId} {v:Value} (hb:w.heap[b]? =some (.cells cs T (0,0))) (hv:v.cells.size=n) (hle:off+n≤cs.size)
  (h1:∀u∈v.cells.toList,u.oneCell'=true):
  (storeVar t ⟨b,off,none⟩ v).run P w=.ok () (w.setRow b (cs.toList.take off++v.cells.toList++cs.toList.drop (off+v.cells.toList.length)).toArray):=by
 obtain⟨i,hi,hsz⟩:=info_of_tSize hs
 have:=run_storeCells_at P b off T v.cells.toList 0 cs w hb (by simpa[hv]using hle) h1
 simp only[Nat.add_zero]at this
 have hne:¬(v.cells.size≠i.size):=by omega
 simp[storeVar,sizeOf,typeInfo,hi,hsz,hv,this]
theorem row_spliced {cs vs:Array Value} {off:Nat} (hle:off+vs.size≤cs.size):
  (cs.toList.take off++vs.toList++cs.toList.drop (off+vs.toList.length)).toArray.size=cs.size∧
  ∀j,(cs.toList.take off++vs.toList++cs.toList.drop (off+vs.toList.length)).toArray[j]? =if off≤j∧j<off+vs.size∧j<cs.size then vs[j-off]? else cs[j]? :=by
 refine⟨by simp;omega,fun j=> ?_⟩
 rw[List.getElem?_toArray]
 by_cases h1:j<off
 ·rw[if_neg (by omega),List.append_assoc,List.getElem?_append_left (by simp;omega),List.getElem?_take,if_pos h1];simp
 ·by_cases h2:j<off+vs.size
  ·rw[if_pos (by omega),List.append_assoc,List.getElem?_append_right (by simp;omega),List.getElem?_append_left (by simp;omega)]
   have:min off cs.size=off:=by omega
   simp[this]
  ·rw[if_neg (by omega),List.getElem?_append_right (by simp;omega),List.getElem?_drop]
   simp only[List.length_append,List.length_take,Array.length_toList,Array.getElem?_toList]
   congr 1
   omega
theorem sound_store (st:St E I σ env bx a w) (hd:∀x,o.dst=some x→x<E.n) {t:TypeId} {x v:Operand} {x' v':Opd} {n:Nat} (ho:o.op=.store t x v) (hs:tSize P t=some n) (hx:ofOpd x=some x') (hv:ofOpd v=some v')
  (h:vcOp P (.store n x' v') o.dst k env σ):o.wp P a w (Up E k) Q:=by
 have hxv:=st.opd hx
 have hvv:=st.opd hv
 simp only[vcOp]at h
 generalize evalOpd env v'=ev at hvv h
 cases ev with
 |box c=>exact hvv.elim
 |lptr s off=>exact h.elim
 |val y=>
  obtain⟨h1,h2,h⟩:=h
  obtain⟨c1,c2,c3⟩:=RepC.cells_of hvv h2
  have hrun:∀(b off:Nat) (cs:Array Value) (T:TypeId),a.eval x=.pointer (some ⟨b,off,none⟩)→w.heap[b]? =some (.cells cs T (0,0))→off+n≤cs.size→
    (execOp a.eval o).run P w=.ok .skip (w.setRow b (cs.toList.take off++(a.eval v).cells.toList++cs.toList.drop (off+(a.eval v).cells.toList.length)).toArray):=by
   intro b off cs T hz hb hle
   have:=run_storeVar_row (P:=P) hs hb (v:=a.eval v) (by omega) hle c3
   simp only[execOp,ho,Sem.run_bind,Instr.storeAt,hz,Instr.sureAddr,Sem.run_pure,Result.andThen_ok,this]
  generalize evalOpd env x'=ex at hxv h
  split at h
  ·rename_i b off
   obtain⟨cs,g1,g2,g3⟩:=h
   obtain⟨vs,T,k1,k2,k3,_⟩:=st.models.obj b cs g1
   obtain⟨s1,s2⟩:=row_spliced (cs:=vs) (vs:=(a.eval v).cells) (off:=off) (by omega)
   obtain⟨r1,r2⟩:=rep_splice k3 k2 c2 c1 (by omega) ⟨s1,s2⟩
   exact wp_of_skip (hrun b off vs T (RepC.ptr_inv hxv) k1 (by omega)) ⟨I,_,_,bx,st.step (Evo.setObj g1 _) (st.models.setObj g1 r1 r2) hd (e:=.val .top) (RepC.top _),g3⟩
  ·rename_i s off
   split at h
   ·rename_i cs hs
    obtain⟨g2,g3⟩:=h
    have hb:=st.ents s
    rw[hs]at hb
    obtain⟨_,vs,T,k1,k2,k3,_⟩:=hb
    obtain⟨s1,s2⟩:=row_spliced (cs:=vs) (vs:=(a.eval v).cells) (off:=off) (by omega)
    obtain⟨r1,r2⟩:=rep_splice k3 k2 c2 c1 (by omega) ⟨s1,s2⟩
    have st2:=st.setBox hs r1 r2
    exact wp_of_skip (hrun (bx s) off vs T hxv k1 (by omega)) ⟨I,_,_,bx,st2.step (.refl _ _ _) st2.models hd (e:=.val .top) (RepC.top _),g3⟩
   ·exact h.elim
  ·exact h.elim
theorem sound_iaddr (st:St E I σ env bx a w) (hd:∀x,o.dst=some x→x<E.n) {t e:TypeId} {x i:Operand} {x' i':Opd} {sz:Nat} (ho:o.op=.indexAddr t x i) (he:tElem P t=some e) (hs:tSize P e=some sz) (hx:ofOpd x=some x') (hi:ofOpd i=some i')
  (h:vcOp P (.iaddr sz x' i') o.dst k env σ):o.wp P a w (Up E k) Q:=by
 have hxv:=st.opd hx
 have hiv:=st.opd hi
 have ht:=underlying_of_tElem he
 obtain⟨inf,hinf,hsz⟩:=info_of_tSize hs
 simp only[vcOp]at h
 generalize evalOpd env x'=ex at hxv h
 generalize evalOpd env i'=ei at hiv h
 split at h
 case h_2=>exact h.elim
 rename_i kd n
 have e2:=RepC.int_inv hiv
 split at h
 case h_3=>exact h.elim
 case h_2=>
  rename_i b off m c
  obtain⟨h0,h1,h⟩:=h
  have hv:a.eval x=.slice (some ⟨b,off,none⟩) m c:=by
   generalize a.eval x=v at hxv
   cases hxv;rfl
  refine wp_step st hd (v:=.pointer (some ⟨b,off+n.toNat*sz,none⟩)) ?_ st.models (.refl _ _ _) (e:=.val (.ptr b (off+n.toNat*sz))) (RepC.ptr _ _) h
  have hnt:(n.toNat:Int)=n:=Int.toNat_of_nonneg h0
  simp[execOp,ho,hv,e2,Instr.indexAt,asIntOf,run_underlying ht,sizeOf,typeInfo,hinf,hsz,h0,h1,Addr.add_lit]
 rename_i xs nl tok
 obtain⟨h0,z,hz,hzl,h⟩:=h
 have hlt:n.toNat<xs.length:=(List.getElem?_eq_some_iff.1 hz).1
 rcases RepC.slice_inv hxv with⟨_,h2,_⟩|⟨b,off,cap,sz',vs,h1,_,h3,h4,h5,h6,h7,_⟩|⟨_,_,h2,_⟩
 ·subst h2;simp at hlt
 ·have hget:xs.getD n.toNat .top=z:=by rw[List.getD_eq_getElem?_getD,hz];rfl
  have hsz':sz'=sz:=by
   have:=h5 n.toNat hlt
   rw[hget]at this
   omega
  subst hsz'
  refine wp_step st hd (v:=.pointer (some ⟨b,off+n.toNat*sz',none⟩)) ?_ st.models (.refl _ _ _) (e:=.val (.sptr z.cells)) ?_ h
  ·have hc:0≤n∧n<(xs.length:Int):=⟨h0,by omega⟩
   have hnt:(n.toNat:Int)=n:=Int.toNat_of_nonneg h0
   simp[execOp,ho,h1,e2,Instr.indexAt,asIntOf,run_underlying ht,sizeOf,typeInfo,hinf,hsz,hc.1,hc.2,Addr.add_lit]
  ·refine RepC.sptr _ _ _ (fun j=>vs n.toNat j) (fun j hj=> ?_) (fun j=> ?_)
   ·have:=h6 n.toNat j hlt (by omega)
    rw[Nat.add_assoc]
    exact this
   ·have:=h7 n.toNat j
    rw[hget]at this
    exact this
 ·subst h2;simp at hlt
theorem sound_istr (st:St E I σ env bx a w) (hd:∀x,o.dst=some x→x<E.n) {t:TypeId} {x i:Operand} {x' i':Opd} (ho:o.op=.index t x i) (ht:P.underlying t=some .string) (hx:ofOpd x=some x') (hi:ofOpd i=some i')
  (h:vcOp P (.istr x' i') o.dst k env σ):o.wp P a w (Up E k) Q:=by
 have hxv:=st.opd hx
 have hiv:=st.opd hi
 simp only[vcOp]at h
 generalize evalOpd env x'=ex at hxv h
 generalize evalOpd env i'=ei at hiv h
 split at h
 case h_2=>exact h.elim
 rename_i s kd n
 obtain⟨h0,c,hc,h⟩:=h
 have e2:=RepC.int_inv hiv
 obtain⟨s0,e1,hs⟩:=RepC.str_inv hxv
 refine wp_step st hd (v:=.int .u8 c.toNat) ?_ st.models (.refl _ _ _) (e:=.val (.int .u8 c.toNat)) (RepC.int _ _) h
 have hlt:n.toNat<s0.size:=by
  have:=(List.getElem?_eq_some_iff.1 hc).1
  rw[←hs]at this
  simpa using this
 have hg:s0[n.toNat]? =some c:=by
  subst hs
  rw[getElem?_pos s0 n.toNat hlt]
  have:=List.getElem?_eq_some_iff.1 hc
  obtain⟨_,hq⟩:=this
  rw[←hq]
  rfl
 simp[execOp,ho,e1,e2,Instr.index,asIntOf,run_underlying ht,h0,hg]
theorem St.bnd (st:St E I σ env bx a w) {d:Nat} {K:Nat→Prop} {lo:Option Operand} {lo':Option Opd} (hlo:ofOpdO lo=some lo') (h:bound env d lo' K):
  ∃l,K l∧((lo=none∧l=d)∨∃x kd n,lo=some x∧a.eval x=.int kd n∧0≤n∧l=n.toNat):=by
 cases lo with
 |none=>
  simp only[ofOpdO,Option.some.injEq]at hlo
  subst hlo
  exact⟨d,h,.inl ⟨rfl,rfl⟩⟩
 |some x=>
  simp only[ofOpdO]at hlo
  cases hx:ofOpd x with
  |none=>rw[hx]at hlo;cases hlo
  |some y=>
   rw[hx]at hlo
   simp only[Option.some.injEq]at hlo
   subst hlo
   have hv:=st.opd hx
   simp only[bound]at h
   generalize evalOpd env y=e at hv h
   split at h
   ·exact⟨_,h.2,.inr ⟨x,_,_,rfl,RepC.int_inv hv,h.1,rfl⟩⟩
   ·exact h.elim
theorem run_sliceBound {kd:IntKind} {n:Int} {y:Nat} {code:BoundsCode} (h0:0≤n) (hy:n.toNat≤y) (W:World):(Instr.sliceBound (.int kd n) y code).run P W=.ok n.toNat W:=by
 have:n≤(y:Int):=by omega
 simp[Instr.sliceBound,asIntOf,h0,this]
theorem rep_cut {b off cap sz l h m:Nat} {xs:List AVal} {vs:Nat→Nat→Value} (h4:cap≤maxLen) (h5:∀i,i<xs.length→(xs.getD i .top).cells.length=sz)
  (h6:∀i j,i<xs.length→j<sz→I.cell b (off+(i*sz+j))=some (vs i j)) (h7:∀i j,RepC I (vs i j) ((xs.getD i .top).cells.getD j .top))
  (hl:l≤h) (hh:h≤xs.length) (hm:h≤m) (hmc:m≤cap) {s:Nat} (hs:0<xs.length→s=sz) {tok:Option Nat}
  (ht:∀g,tok=some g→l=0∧g=b∧off=0∧I.cap g=some (m,sz)):
  RepC I (.slice (some (if m=l then⟨b,off,none⟩else(⟨b,off,none⟩:Addr).add (l*s))) (h-l) (m-l)) (.slice ((xs.take h).drop l) false tok):=by
 have hget:∀i,i<h-l→((xs.take h).drop l).getD i .top=xs.getD (l+i) .top:=by
  intro i hi
  rw[List.getD_eq_getElem?_getD,List.getElem?_drop,List.getElem?_take,if_pos (by omega),←List.getD_eq_getElem?_getD]
 have hlen:((xs.take h).drop l).length=h-l:=by simp;omega
 by_cases hml:m=l
 ·have:h-l=0:=by omega
  rw[if_pos hml,this,show m-l=0 from by omega]
  have hnil:(xs.take h).drop l=[]:=List.eq_nil_of_length_eq_zero (by omega)
  rw[hnil]
  refine RepC.slice b off 0 0 sz [] tok (fun _ _=>undef) rfl (Nat.le_refl _) (by simp[maxLen]) (fun i hi=>by omega) (fun i j hi=>by omega) (fun i j=>by cases j<;>simpa[AVal.cells]using RepC.top _) (fun g hg=> ?_)
  obtain⟨k1,k2,k3,k4⟩:=ht g hg
  subst k1
  subst hml
  exact⟨k2,k3,k4⟩
 ·rw[if_neg hml,Addr.add_lit]
  have hss:0<h-l→s=sz:=fun hp=>hs (by omega)
  refine RepC.slice b (off+l*s) (h-l) (m-l) sz _ tok (fun i j=>if i<h-l then vs (l+i) j else undef) hlen (by omega) (by omega) (fun i hi=> ?_) (fun i j hi hj=> ?_) (fun i j=> ?_) (fun g hg=> ?_)
  ·rw[hget i hi];exact h5 _ (by omega)
  ·rw[if_pos hi,hss (by omega),Nat.add_assoc]
   have:=h6 (l+i) j (by omega) hj
   rw[Nat.add_mul]at this
   rw[←Nat.add_assoc (l*sz)]
   exact this
  ·by_cases hi:i<h-l
   ·rw[if_pos hi,hget i hi];exact h7 _ _
   ·have:((xs.take h).drop l).getD i .top=.top:=by rw[List.getD_eq_getElem?_getD,List.getElem?_eq_none (by omega)];rfl
    rw[if_neg hi,this]
    cases j<;>simpa[AVal.cells]using RepC.top _
  ·obtain⟨k1,k2,k3,k4⟩:=ht g hg
   subst k1
   exact⟨k2,by omega,by simpa using k4⟩
def IsBnd (ev:Operand→Value) (d:Nat) (lo:Option Operand) (l:Nat):Prop:=(lo=none∧l=d)∨∃x kd n,lo=some x∧ev x=.int kd n∧0≤n∧l=n.toNat
theorem run_bounds (ev:Operand→Value) {isS:Bool} {lo hi:Option Operand} {len cap l h:Nat} (hl:IsBnd ev 0 lo l) (hh:IsBnd ev len hi h) (hle:l≤h) (hc:h≤cap) (W:World):
  (Instr.sliceBounds isS len cap (lo.map ev) (hi.map ev) none).run P W=.ok (l,h,cap) W:=by
 unfold Instr.sliceBounds
 rcases hh with⟨rfl,rfl⟩|⟨y,kd,n,rfl,h2,h3,rfl⟩<;>rcases hl with⟨rfl,rfl⟩|⟨z,kd',n',rfl,g2,g3,rfl⟩
 ·simp
 ·simp[g2,run_sliceBound g3 hle]
 ·simp[h2,run_sliceBound h3 hc]
 ·simp[h2,g2,run_sliceBound h3 hc,run_sliceBound g3 hle]
theorem run_bounds3 (ev:Operand→Value) {isS:Bool} {lo:Option Operand} {hi mx:Operand} {len cap l h m:Nat} (hl:IsBnd ev 0 lo l) (hh:IsBnd ev 0 (some hi) h) (hm:IsBnd ev 0 (some mx) m) (hle:l≤h) (hc:h≤m) (hmc:m≤cap) (W:World):
  (Instr.sliceBounds isS len cap (lo.map ev) (some (ev hi)) (some (ev mx))).run P W=.ok (l,h,m) W:=by
 unfold Instr.sliceBounds
 rcases hh with⟨q,_⟩|⟨y,kd,n,q1,h2,h3,rfl⟩
 ·cases q
 rcases hm with⟨q,_⟩|⟨y',kd',n',q1',m2,m3,rfl⟩
 ·cases q
 cases q1
 cases q1'
 rcases hl with⟨rfl,rfl⟩|⟨z,kd'',n'',rfl,g2,g3,rfl⟩
 ·simp[h2,m2,run_sliceBound m3 hmc,run_sliceBound h3 hc]
 ·simp[h2,m2,g2,run_sliceBound m3 hmc,run_sliceBound h3 hc,run_sliceBound g3 hle]
theorem cut_size {xs:List AVal} {sz sz':Nat} (h0:∀x,xs[0]? =some x→x.cells.length=sz) (h5:∀i,i<xs.length→(xs.getD i .top).cells.length=sz') (h:0<xs.length):sz=sz':=by
 have h1:xs[0]? =some xs[0]:=List.getElem?_eq_getElem h
 have:=h0 _ h1
 have h2:=h5 0 h
 rw[List.getD_eq_getElem?_getD,h1]at h2
 simp only[Option.getD_some]at h2
 omega
theorem sound_cut (st:St E I σ env bx a w) (hd:∀x,o.dst=some x→x<E.n) {t e:TypeId} {x:Operand} {lo hi:Option Operand} {x':Opd} {lo' hi':Option Opd} {sz:Nat} (ho:o.op=.slice t x lo hi none) (ht:P.underlying t=some (.slice e)) (hs:tSize P e=some sz)
  (hx:ofOpd x=some x') (hlo:ofOpdO lo=some lo') (hhi:ofOpdO hi=some hi')
  (h:vcOp P (.cut sz x' lo' hi') o.dst k env σ):o.wp P a w (Up E k) Q:=by
 have hxv:=st.opd hx
 obtain⟨inf,hinf,hsz⟩:=info_of_tSize hs
 simp only[vcOp]at h
 generalize evalOpd env x'=ex at hxv h
 split at h
 case h_4=>exact h.elim
 case h_2=>
  rename_i b q n c
  obtain⟨hh,⟨hhl,h⟩,chi⟩:=st.bnd hhi h
  obtain⟨ll,⟨hll,h⟩,clo⟩:=st.bnd hlo h
  simp only[EntVal]at hxv
  generalize hz:a.eval x=zz at hxv
  cases hxv with
  |ref _ _ _ _ hc hm=>
   have hsb:=run_bounds (P:=P) a.eval (isS:=true) (cap:=c) clo chi hll (Nat.le_trans hhl hc) w
   refine wp_step st hd (v:=.slice (some (if c=ll then⟨b,q,none⟩else(⟨b,q,none⟩:Addr).add (ll*sz))) (hh-ll) (c-ll)) ?_ st.models (.refl _ _ _) (e:=.val (cutRef b q c sz hh ll)) ?_ h
   ·have hz2:(sizeOf e).run P w=.ok sz w:=by simp[sizeOf,typeInfo,hinf,hsz]
    simp only[execOp,ho,hz,Option.map_none,Instr.sliceAt,Instr.slice,Sem.run_bind,run_underlying ht,Result.andThen_ok,hsb,hz2,Sem.run_pure]
    by_cases hc:c=ll<;>simp[hc]
   ·have hadd:(⟨b,q,none⟩:Addr).add (ll*sz)=⟨b,q+ll*sz,none⟩:=by unfold Addr.add;split<;>simp_all
    show RepC I _ (cutRef b q c sz hh ll)
    unfold cutRef
    by_cases h0:ll=0
    ·subst h0
     rw[if_pos rfl,hadd]
     simp only[Nat.zero_mul,Nat.add_zero,ite_self,Nat.sub_zero]
     exact RepC.ref _ _ _ _ (by omega) hm
    ·rw[if_neg h0]
     by_cases h1:hh=ll
     ·subst h1
      rw[if_pos rfl,hadd,Nat.sub_self]
      split
      ·exact RepC.slice _ _ 0 _ 1 [] none (fun _ _=>undef) rfl (Nat.zero_le _) (by omega) (fun i hi=>by omega) (fun i j hi=>by omega) (fun i j=>by cases j<;>simpa[AVal.cells]using RepC.top _) (fun q hq=>by cases hq)
      ·exact RepC.slice _ _ 0 _ 1 [] none (fun _ _=>undef) rfl (Nat.zero_le _) (by omega) (fun i hi=>by omega) (fun i j hi=>by omega) (fun i j=>by cases j<;>simpa[AVal.cells]using RepC.top _) (fun q hq=>by cases hq)
     ·rw[if_neg h1,if_neg (by omega),hadd]
      exact RepC.ref _ _ _ _ (by omega) (by omega)
 case h_3=>
  rename_i g n
  obtain⟨hh,⟨hh0,h⟩,chi⟩:=st.bnd hhi h
  obtain⟨ll,⟨hl0,h⟩,clo⟩:=st.bnd hlo h
  subst hh0;subst hl0
  simp only[EntVal]at hxv
  generalize hz:a.eval x=zz at hxv
  cases hxv with
  |raw _ _ cap sz' hc hm ht'=>
   have chi':IsBnd a.eval n hi 0:=by
    rcases chi with⟨_,h1⟩|h1
    ·omega
    ·exact .inr h1
   have hsb:=run_bounds (P:=P) a.eval (isS:=true) (cap:=cap) clo chi' (Nat.le_refl _) (Nat.zero_le _) w
   refine wp_step st hd (v:=.slice (some ⟨g,0,none⟩) 0 cap) ?_ st.models (.refl _ _ _) (e:=.val (.slice [] false (some g))) ?_ h
   ·have hz2:(sizeOf e).run P w=.ok sz w:=by simp[sizeOf,typeInfo,hinf,hsz]
    simp only[execOp,ho,hz,Option.map_none,Instr.sliceAt,Instr.slice,Sem.run_bind,run_underlying ht,Result.andThen_ok,hsb,hz2,Sem.run_pure]
    by_cases hc:cap=0<;>simp[hc,Addr.add]
   ·exact RepC.slice g 0 0 cap sz' [] (some g) (fun _ _=>undef) rfl (Nat.zero_le _) hm (fun i hi=>by omega) (fun i j hi=>by omega) (fun i j=>by cases j<;>simpa[AVal.cells]using RepC.top _) (fun q hq=>by cases hq;exact⟨rfl,rfl,ht'⟩)
 rename_i xs nl tok
 obtain⟨h0,h⟩:=h
 obtain⟨hh,⟨hhl,h⟩,chi⟩:=st.bnd hhi h
 obtain⟨ll,⟨hll,h⟩,clo⟩:=st.bnd hlo h
 rcases RepC.slice_inv hxv with⟨h1,h2,hnl,htok⟩|⟨b,off,cap,sz',vs,h1,hnl,h3,h4,h5,h6,h7,h8⟩|⟨az,h1,h2,hnl,htok⟩
 ·subst h2;subst hnl;subst htok
  simp only[List.length_nil]at hhl chi
  have e1:hh=0:=by omega
  have e2:ll=0:=by omega
  subst e1;subst e2
  refine wp_step st hd (v:=.slice none 0 0) ?_ st.models (.refl _ _ _) (e:=.val (.slice [] true none)) RepC.nilS (by simpa using h)
  have hsb:=run_bounds (P:=P) a.eval (isS:=true) clo chi (Nat.le_refl _) (Nat.le_refl _) w
  simp[execOp,ho,h1,Instr.sliceAt,Instr.slice,run_underlying ht,hsb,sizeOf,typeInfo,hinf]
 ·subst hnl
  have hsb:=run_bounds (P:=P) a.eval (isS:=true) clo chi hll (Nat.le_trans hhl h3) w
  refine wp_step st hd (v:=.slice (some (if cap=ll then⟨b,off,none⟩else(⟨b,off,none⟩:Addr).add (ll*sz))) (hh-ll) (cap-ll)) ?_ st.models (.refl _ _ _) (e:=.val (.slice ((xs.take hh).drop ll) false (bif ll==0&&hh==xs.length then tok else none)))
   ?_ h
  ·have hz2:(sizeOf e).run P w=.ok sz w:=by simp[sizeOf,typeInfo,hinf,hsz]
   simp only[execOp,ho,h1,Option.map_none,Instr.sliceAt,Instr.slice,Sem.run_bind,run_underlying ht,Result.andThen_ok,hsb,hz2,Sem.run_pure]
   by_cases hc:cap=ll<;>simp[hc]
  ·refine rep_cut h4 h5 h6 h7 hll hhl (by omega) (Nat.le_refl _) (cut_size h0 h5) (fun g hg=> ?_)
   cases hq:(ll==0&&hh==xs.length)with
   |false=>rw[hq]at hg;cases hg
   |true=>
    rw[hq]at hg
    simp only[Bool.and_eq_true,beq_iff_eq]at hq
    obtain⟨k1,k2,k3⟩:=h8 g hg
    exact⟨hq.1,k1,k2,k3⟩
 ·subst h2;subst hnl;subst htok
  simp only[List.length_nil]at hhl chi
  have e1:hh=0:=by omega
  have e2:ll=0:=by omega
  subst e1;subst e2
  refine wp_step st hd (v:=.slice (some az) 0 0) ?_ st.models (.refl _ _ _) (e:=.val (.slice [] false none)) (RepC.sliceZ az) (by simpa using h)
  have hsb:=run_bounds (P:=P) a.eval (isS:=true) clo chi (Nat.le_refl _) (Nat.le_refl _) w
  simp[execOp,ho,h1,Instr.sliceAt,Instr.slice,run_underlying ht,hsb,sizeOf,typeInfo,hinf]
theorem sound_cut3 (st:St E I σ env bx a w) (hd:∀x,o.dst=some x→x<E.n) {t e:TypeId} {x:Operand} {lo:Option Operand} {hi mx:Operand} {x':Opd} {lo':Option Opd} {hi' mx':Opd} {sz:Nat} (ho:o.op=.slice t x lo (some hi) (some mx)) (ht:P.underlying t=some (.slice e)) (hs:tSize P e=some sz)
  (hx:ofOpd x=some x') (hlo:ofOpdO lo=some lo') (hhi:ofOpdO (some hi)=some (some hi')) (hmx:ofOpdO (some mx)=some (some mx'))
  (h:vcOp P (.cut3 sz x' lo' hi' mx') o.dst k env σ):o.wp P a w (Up E k) Q:=by
 have hxv:=st.opd hx
 obtain⟨inf,hinf,hsz⟩:=info_of_tSize hs
 simp only[vcOp]at h
 generalize evalOpd env x'=ex at hxv h
 split at h
 case h_2=>exact h.elim
 rename_i xs nl tok
 obtain⟨h0,h⟩:=h
 obtain⟨mm,⟨hmm,h⟩,cmx⟩:=st.bnd hmx h
 obtain⟨hh,⟨hhl,h⟩,chi⟩:=st.bnd hhi h
 obtain⟨ll,⟨hll,h⟩,clo⟩:=st.bnd hlo h
 rcases RepC.slice_inv hxv with⟨h1,h2,hnl,htok⟩|⟨b,off,cap,sz',vs,h1,hnl,h3,h4,h5,h6,h7,h8⟩|⟨az,h1,h2,hnl,htok⟩
 ·subst h2;subst hnl;subst htok
  simp only[List.length_nil]at hmm
  have e0:mm=0:=by omega
  have e1:hh=0:=by omega
  have e2:ll=0:=by omega
  subst e0;subst e1;subst e2
  refine wp_step st hd (v:=.slice none 0 0) ?_ st.models (.refl _ _ _) (e:=.val (.slice [] true none)) RepC.nilS (by simpa using h)
  have hsb:=run_bounds3 (P:=P) a.eval (isS:=true) (len:=0) (cap:=0) clo chi cmx (Nat.le_refl _) (Nat.le_refl _) (Nat.le_refl _) w
  simp[execOp,ho,h1,Instr.sliceAt,Instr.slice,run_underlying ht,hsb,sizeOf,typeInfo,hinf]
 ·subst hnl
  have hsb:=run_bounds3 (P:=P) a.eval (isS:=true) (len:=xs.length) (cap:=cap) clo chi cmx hll hhl (Nat.le_trans hmm h3) w
  refine wp_step st hd (v:=.slice (some (if mm=ll then⟨b,off,none⟩else(⟨b,off,none⟩:Addr).add (ll*sz))) (hh-ll) (mm-ll)) ?_ st.models (.refl _ _ _) (e:=.val (.slice ((xs.take hh).drop ll) false none))
   ?_ h
  ·have hz2:(sizeOf e).run P w=.ok sz w:=by simp[sizeOf,typeInfo,hinf,hsz]
   simp only[execOp,ho,h1,Option.map_some,Instr.sliceAt,Instr.slice,Sem.run_bind,run_underlying ht,Result.andThen_ok,hsb,hz2,Sem.run_pure]
   by_cases hc:mm=ll<;>simp[hc]
  ·exact rep_cut h4 h5 h6 h7 hll (Nat.le_trans hhl hmm) hhl (Nat.le_trans hmm h3) (cut_size h0 h5) (fun g hg=>by cases hg)
 ·subst h2;subst hnl;subst htok
  simp only[List.length_nil]at hmm
  have e0:mm=0:=by omega
  have e1:hh=0:=by omega
  have e2:ll=0:=by omega
  subst e0;subst e1;subst e2
  refine wp_step st hd (v:=.slice (some az) 0 0) ?_ st.models (.refl _ _ _) (e:=.val (.slice [] false none)) (RepC.sliceZ az) (by simpa using h)
  have hsb:=run_bounds3 (P:=P) a.eval (isS:=true) (len:=0) (cap:=0) clo chi cmx (Nat.le_refl _) (Nat.le_refl _) (Nat.le_refl _) w
  simp[execOp,ho,h1,Instr.sliceAt,Instr.slice,run_underlying ht,hsb,sizeOf,typeInfo,hinf]
theorem sound_cutStr (st:St E I σ env bx a w) (hd:∀x,o.dst=some x→x<E.n) {t:TypeId} {x:Operand} {lo hi:Option Operand} {x':Opd} {lo' hi':Option Opd} (ho:o.op=.slice t x lo hi none) (ht:P.underlying t=some .string)
  (hx:ofOpd x=some x') (hlo:ofOpdO lo=some lo') (hhi:ofOpdO hi=some hi')
  (h:vcOp P (.cutStr x' lo' hi') o.dst k env σ):o.wp P a w (Up E k) Q:=by
 have hxv:=st.opd hx
 simp only[vcOp]at h
 generalize evalOpd env x'=ex at hxv h
 split at h
 case h_2=>exact h.elim
 rename_i s
 obtain⟨hh,⟨hhl,h⟩,chi⟩:=st.bnd hhi h
 obtain⟨ll,⟨hll,h⟩,clo⟩:=st.bnd hlo h
 obtain⟨s0,h1,hs⟩:=RepC.str_inv hxv
 have hsl:s0.size=s.length:=by rw[←hs];simp
 have hsb:=run_bounds (P:=P) a.eval (isS:=false) (cap:=s0.size) clo chi hll (by omega) w
 rw[←hsl]at hsb
 refine wp_step st hd (v:=.string (s0.extract ll hh)) ?_ st.models (.refl _ _ _) (e:=.val (.str ((s.take hh).drop ll))) (RepC.str _ _ ?_) h
 ·simp[execOp,ho,h1,Instr.sliceAt,Instr.slice,run_underlying ht,hsb]
 ·subst hs
  simp[List.drop_take,ByteArray.data_extract]
theorem foldl_push (ns:List Int):∀(s:ByteArray),(ns.foldl (fun r n=>r.push (UInt8.ofNat n.toNat)) s).data.toList=s.data.toList++ns.map fun n=>UInt8.ofNat n.toNat:=by
 induction ns with
 |nil=>intro s;simp
 |cons n r ih=>intro s;rw[List.foldl_cons,ih];simp[ByteArray.push]
theorem sound_bytesStr (st:St E I σ env bx a w) (hd:∀x,o.dst=some x→x<E.n) {s d e:TypeId} {x:Operand} {x':Opd} (ho:o.op=.convert s d x) (hs:P.underlying s=some (.slice e)) (he:P.underlying e=some (.int .u8)) (hdd:P.underlying d=some .string)
  (hx:ofOpd x=some x') (h:vcOp P (.bytesStr x') o.dst k env σ):o.wp P a w (Up E k) Q:=by
 have hxv:=st.opd hx
 simp only[vcOp]at h
 generalize evalOpd env x'=ex at hxv h
 split at h
 case h_2=>exact h.elim
 rename_i xs nl tok
 obtain⟨l,hl,h⟩:=h
 rcases RepC.slice_inv hxv with⟨h1,h2,_⟩|⟨b,off,cap,sz',vs,h1,hnl,h3,h4,h5,h6,h7,h8⟩|⟨az,h1,h2,_⟩
 rotate_left 2
 ·subst h2
  have hl0:l=[]:=by
   have:(bytesA l).length=0:=by rw[←hl];rfl
   simpa[bytesA]using this
  subst hl0
  have hload:=run_loadCells (P:=P) w az 0 (fun _=>undef) (fun j hj=>by omega)
  have hrun:=run_bytesToString (P:=P) w az 0 0 [] hload
  refine wp_step st hd (v:=.string .empty) ?_ st.models (.refl _ _ _) (e:=.val (.str [])) (RepC.str _ _ rfl) h
  simp[execOp,ho,h1,run_convert_bytes_string _ _ _ _ _ _ _ hs he hdd,hrun]
 ·subst h2
  have hl0:l=[]:=by
   have:(bytesA l).length=0:=by rw[←hl];rfl
   simpa[bytesA]using this
  subst hl0
  refine wp_step st hd (v:=.string .empty) ?_ st.models (.refl _ _ _) (e:=.val (.str [])) (RepC.str _ _ rfl) h
  simp[execOp,ho,h1,run_convert_bytes_string _ _ _ _ _ _ _ hs he hdd,Conv.bytesToString]
 ·have hlen:xs.length=l.length:=by rw[hl];simp[bytesA]
  have hcell:∀j,j<xs.length→w.cell? ⟨b,off+j,none⟩=some (.int .u8 ((l.map fun c:UInt8=>(c.toNat:Int)).getD j 0)):=by
   intro j hj
   have hjl:j<l.length:=by omega
   have hx:xs.getD j .top=.int .u8 (l[j].toNat):=by
    rw[hl,List.getD_eq_getElem?_getD]
    simp[bytesA,hjl]
   have hsz:sz'=1:=by have:=h5 j hj;rw[hx]at this;simpa[AVal.cells]using this.symm
   subst hsz
   have hc:=h6 j 0 hj (by omega)
   have hv:=h7 j 0
   rw[hx]at hv
   have:=RepC.int_inv (by simpa[AVal.cells]using hv)
   rw[this]at hc
   obtain⟨us,T,fz,q1,q2⟩:=st.models.cell _ _ _ hc
   rw[cell_of_heap q1]
   simpa[hjl]using q2
  have hload:=run_loadCells (P:=P) w ⟨b,off,none⟩ xs.length (fun j=>.int .u8 ((l.map fun c:UInt8=>(c.toNat:Int)).getD j 0)) (fun j hj=>by rw[Addr.add_lit];exact hcell j hj)
  have hlist:(List.range xs.length).map (fun j=>Value.int .u8 ((l.map fun c:UInt8=>(c.toNat:Int)).getD j 0))=(l.map fun c:UInt8=>(c.toNat:Int)).map (Value.int .u8):=by
   apply List.ext_getElem?
   intro j
   by_cases hj:j<l.length
   ·simp[hlen,hj]
   ·simp[hlen,hj]
  rw[hlist]at hload
  have hrun:=run_bytesToString (P:=P) w ⟨b,off,none⟩ xs.length cap _ hload
  refine wp_step st hd (v:=.string (List.foldl (fun r n=>r.push (UInt8.ofNat n.toNat)) ByteArray.empty (l.map fun c:UInt8=>(c.toNat:Int)))) ?_ st.models (.refl _ _ _) (e:=.val (.str l)) (RepC.str _ _ ?_) h
  ·simp[execOp,ho,h1,run_convert_bytes_string _ _ _ _ _ _ _ hs he hdd,hrun]
  ·rw[foldl_push]
   have:(fun n:Int=>UInt8.ofNat n.toNat)∘(fun c:UInt8=>(c.toNat:Int))=id:=by funext c;simp
   simp[this]
theorem sealed_row (m:Models I σ w) {w':World} {cap:Nat × Nat} {e:TypeId} {cur:Array Value} {fz:Nat × Nat}
  (hsize:w.heap.size<w'.heap.size) (hos:w'.os=w.os) (htape:w'.tape=w.tape) (hout:w'.output=w.output)
  (hother:∀x,x<w.heap.size→w'.heap[x]? =w.heap[x]?) (hb:w'.heap[w.heap.size]? =some (.cells cur e fz)):
  Models (I.grow w.heap.size cap fun o=>cur[o]?) σ w'∧Evo I σ w (I.grow w.heap.size cap fun o=>cur[o]?) σ w':=by
 have hle:I.Le (I.grow w.heap.size cap fun o=>cur[o]?):=by
  refine⟨fun x o v h=> ?_,fun x k h=> ?_⟩
  ·have:=m.cell_lt h
   have hx:(x==w.heap.size)=false:=by simp;omega
   simpa[Sealed.grow,hx]using h
  ·have:=m.cap x k h
   have hx:(x==w.heap.size)=false:=by simp;omega
   simpa[Sealed.grow,hx]using h
 have old:∀{x:Nat} {ob:Obj},w.heap[x]? =some ob→w'.heap[x]? =some ob∧(x==w.heap.size)=false:=by
  intro x ob h
  have:=lt_of_heap h
  exact⟨(hother x this).trans h,by simp;omega⟩
 refine⟨⟨fun x o v h=> ?_,fun x k h=> ?_,fun x bs h=> ?_,fun x k s t h=> ?_,fun x es h=> ?_⟩,⟨hle,by omega,hos,htape,hout,fun x hx hf=> ?_⟩⟩
 ·by_cases hx:x=w.heap.size
  ·subst hx
   simp only[Sealed.grow,beq_self_eq_true,cond_true]at h
   exact⟨cur,e,fz,hb,h⟩
  ·have hxb:(x==w.heap.size)=false:=by simpa using hx
   simp only[Sealed.grow,hxb,cond_false]at h
   obtain⟨c,T,f,k1,k2⟩:=m.cell x o v h
   exact⟨c,T,f,(old k1).1,k2⟩
 ·by_cases hx:x=w.heap.size
  ·subst hx;exact hsize
  ·have hxb:(x==w.heap.size)=false:=by simpa using hx
   simp only[Sealed.grow,hxb,cond_false]at h
   have:=m.cap x k h
   omega
 ·obtain⟨c,T,k1,k2,k3,k4,k5⟩:=m.obj x bs h
  have hxb:=(old k1).2
  exact⟨c,T,(old k1).1,k2,fun j=>(k3 j).mono hle,by simpa[Sealed.grow,hxb]using k4,by simpa[Sealed.grow,hxb]using k5⟩
 ·obtain⟨k0,c,cp,k1,k2,k3,k4,k5,k6⟩:=m.opn x k s t h
  have hxb:=(old k1).2
  exact⟨k0,c,cp,(old k1).1,by simpa[Sealed.grow,hxb]using k2,k3,k4,k5,by simpa[Sealed.grow,hxb]using k6⟩
 ·obtain⟨k1,k2,k3,k4⟩:=m.mp x es h
  exact⟨k1,k2,fun cs' T' fz' hc=>k3 cs' T' fz' ((hother x k4.lt).symm.trans hc),k4.keep hle (by omega) fun y o hy _=>(old hy).1⟩
 ·have hxb:(x==w.heap.size)=false:=by simp;omega
  exact⟨hother x hx,hf,by simp[Sealed.grow,hxb],by simp[Sealed.grow,hxb]⟩
theorem sealed_slice_rep {cap sz n b:Nat} {cur:Array Value} {xs:List AVal} {vs:Nat→Nat→Value} {J:Sealed} (hl:xs.length=n) (hn:n≤cap) (hcap:cap≤maxLen)
  (hs:∀i,i<n→(xs.getD i .top).cells.length=sz) (hc:∀i j,i<n→j<sz→cur[i*sz+j]? =some (vs i j)) (hr:∀i j,RepC J (vs i j) ((xs.getD i .top).cells.getD j .top))
  (hJ:J.cell b=fun o=>cur[o]?):RepC J (.slice (some ⟨b,0,none⟩) n cap) (.slice xs false none):=
 RepC.slice b 0 n cap sz xs none vs hl hn hcap hs (fun i j hi hj=>by rw[hJ,Nat.zero_add];exact hc i j hi hj) hr (fun g hg=>by cases hg)
theorem bytes_elem (l:List UInt8) (i:Nat) (hi:i<l.length):(bytesA l).getD i .top=.int .u8 l[i].toNat:=by
 rw[List.getD_eq_getElem?_getD];simp[bytesA,hi]
theorem sound_strBytes (st:St E I σ env bx a w) (hd:∀x,o.dst=some x→x<E.n) {s d e:TypeId} {x:Operand} {x':Opd} (ho:o.op=.convert s d x) (hs:P.underlying s=some .string) (hdd:P.underlying d=some (.slice e)) (he:P.underlying e=some (.int .u8))
  (hx:ofOpd x=some x') (h:vcOp P (.strBytes e x') o.dst k env σ):o.wp P a w (Up E k) Q:=by
 have hxv:=st.opd hx
 simp only[vcOp]at h
 generalize evalOpd env x'=ex at hxv h
 split at h
 case h_2=>exact h.elim
 rename_i l
 obtain⟨hlen,h⟩:=h
 obtain⟨s0,h1,hs0⟩:=RepC.str_inv hxv
 have hsl:s0.size=l.length:=by rw[←hs0];simp
 have hge:=grownCap_ge w s0.size 0 e
 have hcm:grownCap w s0.size 0 e≤maxLen:=grownCap_le_maxLen w s0.size 0 e (by omega)
 have hrun:=run_bytes_of_string w s d e s0 hs hdd he
 obtain⟨m2,ev2⟩:=sealed_row st.models (cap:=(grownCap w s0.size 0 e,1)) (w':=w.drew.alloc (.cells (bytesRow s0 (grownCap w s0.size 0 e)) e ((bytesRow s0 (grownCap w s0.size 0 e)).size,(bytesRow s0 (grownCap w s0.size 0 e)).size+1)))
  (by simp) rfl rfl rfl (fun x hx=>heap_new_old w.drew _ (by simpa using hx)) (by rw[show w.heap.size=w.drew.heap.size from rfl,heap_new,if_pos rfl])
 refine wp_step st hd (v:=.slice (some ⟨w.heap.size,0,none⟩) s0.size (grownCap w s0.size 0 e)) ?_ m2 ev2 (e:=.val (.slice (bytesA l) false none)) ?_ h
 ·simp only[execOp,ho,h1,Sem.run_bind,hrun,Result.andThen_ok]
  rfl
 ·refine sealed_slice_rep (sz:=1) (cur:=bytesRow s0 (grownCap w s0.size 0 e)) (vs:=fun i _=>.int .u8 (if hi:i<l.length then l[i].toNat else 0)) (by simp[bytesA,hsl]) hge hcm (fun i hi=> ?_) (fun i j hi hj=> ?_) (fun i j=> ?_) (Sealed.grow_cell _ _ _ _)
  ·rw[bytes_elem l i (by omega)];rfl
  ·have hj0:j=0:=by omega
   subst hj0
   have hil:i<l.length:=by omega
   subst hs0
   simp only[Nat.mul_one,Nat.add_zero,bytesRow]
   rw[Array.getElem?_append_left (by simpa using hi)]
   have:i<s0.data.size:=by simpa using hi
   simp[hi]
  ·by_cases hi:i<l.length
   ·rw[bytes_elem l i hi]
    cases j with
    |zero=>simp only[hi,dif_pos,AVal.cells];exact RepC.int _ _
    |succ j=>simpa[AVal.cells]using RepC.top _
   ·have:(bytesA l).getD i .top=.top:=by rw[List.getD_eq_getElem?_getD,List.getElem?_eq_none (by simp[bytesA];omega)];rfl
    rw[this]
    cases j<;>simpa[AVal.cells]using RepC.top _
theorem Models.refreeze (m:Models I σ w) {g:Nat} {n sz e:Nat} (ho:σ.opn g=some (n,sz,e)) {cs:Array Value} {T:TypeId} (fz:Nat × Nat) {w':World} (hg:w.heap[g]? =some (.cells cs T (0,0)))
  (hw:∀b,w'.heap[b]? =if b=g then some (.cells cs T fz)else w.heap[b]?) (hsz:w'.heap.size=w.heap.size):Models I (σ.dropOpn (some g)) w' where
 cell b o v h:=by
  obtain⟨ds,T',fz',h1,h2⟩:=m.cell b o v h
  by_cases hb:b=g
  ·subst hb
   rw[hg]at h1;cases h1
   exact⟨_,_,_,by rw[hw,if_pos rfl],h2⟩
  ·exact⟨ds,T',fz',by rw[hw,if_neg hb];exact h1,h2⟩
 cap b n h:=by rw[hsz];exact m.cap b n h
 obj b as h:=by
  have h':σ.obj b=some as:=h
  have hb:b≠g:=by rintro rfl;rw[(m.opn b _ _ _ ho).1]at h';cases h'
  have:=m.obj b as h
  rw[hw,if_neg hb];exact this
 opn b n' sz' e' h:=by
  have hb:b≠g:=by rintro rfl;simp[Store.dropOpn]at h
  have hb':(b==g)=false:=by simpa using hb
  have h':σ.opn b=some (n',sz',e'):=by simpa[Store.dropOpn,hb']using h
  have:=m.opn b n' sz' e' h'
  rw[hw,if_neg hb];exact this
 mp b es h:=by
  obtain⟨k1,k2,k3,k4⟩:=m.mp b es h
  have hb:b≠g:=by rintro rfl;exact k3 _ _ _ hg
  have hb':(b==g)=false:=by simpa using hb
  refine⟨k1,by simp[Store.dropOpn,hb',k2],fun cs' T' fz' hc=>k3 cs' T' fz' (by rw[hw,if_neg hb]at hc;exact hc),k4.keep (.refl I) (by omega) fun y o hy hc=> ?_⟩
  rw[hw,if_neg]
  ·exact hy
  ·rintro rfl;rw[hg]at hy;cases hy;exact hc _ _ _ rfl
theorem sound_mark (st:St E I σ env bx a w) (hd:∀x,o.dst=some x→x<E.n) {d e:TypeId} {x:Operand} {x':Opd} (ho:o.op=.convert d d x) (hdd:P.underlying d=some (.slice e)) (he:P.underlying e=some (.int .u8)) (hx:ofOpd x=some x')
  (h:vcOp P (.mark x') o.dst k env σ):o.wp P a w (Up E k) Q:=by
 have hxv:=st.opd hx
 simp only[vcOp]at h
 generalize evalOpd env x'=ex at hxv h
 split at h
 ·rename_i xs g
  obtain⟨⟨⟨n,sz,et⟩,ho'⟩,hk⟩:=h
  have hv:RepC I (a.eval x) (.slice xs false (some g)):=hxv
  have hv2:RepC I (a.eval x) (.slice xs false none):=by
   generalize a.eval x=v at hv⊢
   cases hv with
   |slice b o n cap sz xs tok vs hl hc hm hs h hr ht=>exact .slice b o n cap sz xs none vs hl hc hm hs h hr (fun g hg=>by cases hg)
  obtain⟨n',cap,hval⟩:∃n' cap,a.eval x=.slice (some ⟨g,0,none⟩) n' cap:=by
   generalize a.eval x=v at hv⊢
   cases hv with
   |slice b o n cap sz xs tok vs hl hc hm hs h hr ht=>
    obtain⟨rfl,rfl,_⟩:=ht g rfl
    exact⟨_,_,rfl⟩
  obtain⟨_,cs,cap',hg,_⟩:=st.models.opn g n sz et ho'
  have hlt:=lt_of_heap hg
  have hsh:w.shape? g=some (et,cs.size):=by unfold World.shape?;rw[hg]
  have hw:∀b,(w.freeze ⟨g,cs.size,none⟩ 1).heap[b]? =if b=g then some (.cells cs et (cs.size,cs.size+1))else w.heap[b]? :=by
   intro b
   unfold World.freeze
   rw[if_neg (by decide)]
   show(w.heap.modify g _)[b]? =_
   rw[Array.getElem?_modify]
   by_cases hb:b=g
   ·subst hb;rw[if_pos rfl,if_pos rfl,hg];rfl
   ·rw[if_neg (fun h=>hb h.symm),if_neg hb]
  have hsz:(w.freeze ⟨g,cs.size,none⟩ 1).heap.size=w.heap.size:=by
   unfold World.freeze
   rw[if_neg (by decide)]
   show(w.heap.modify g _).size=_
   rw[Array.size_modify]
  have hrun:(execOp a.eval o).run P w=.ok (.value (a.eval x)) (w.freeze ⟨g,cs.size,none⟩ 1):=by
   simp[execOp,ho,convert,run_underlying hdd,run_underlying he,hval,markStringish,hsh]
  have m':=st.models.refreeze ho' (cs.size,cs.size+1) hg hw hsz
  refine wp_step st hd hrun m' ⟨.refl I,by omega,by simp[World.freeze],by simp[World.freeze],by simp[World.freeze],fun b hb hf=> ?_⟩ (e:=.val (.slice xs false none)) hv2 hk
  have hbg:b≠g:=by rintro rfl;rw[hf.2.1]at ho';cases ho'
  have hbg':(b==g)=false:=by simpa using hbg
  exact⟨by rw[hw,if_neg hbg],⟨hf.1,by simp[Store.dropOpn,hbg',hf.2.1],hf.2.2⟩,fun _=>rfl,rfl⟩
 ·exact h.elim
theorem callee_enter {f:FuncId} {fn:Func} (hf:P.funcs[f]? =some fn) (hb:fn.body.isSome=true) (hn:(fn.name != "runtime.NumGoroutine")=true) (args:Array Value) (W:World):
  (callFunc f args).run P W=.ok (.enter f args) W:=by
 have hn2:fn.name≠ "runtime.NumGoroutine" :=by simpa using hn
 have hb2:fn.body≠none:=by intro h;rw[h]at hb;cases hb
 simp[callFunc,hf,hn2,hb2]
theorem wp_of_call (st:St E I σ env bx a w) (hd:∀x,o.dst=some x→x<E.n) {f:FuncId} {as:List AVal} {vs:Array Value} (h:(execOp a.eval o).run P w=.ok (.enter f vs) w)
  (h1:vs.size=as.length) (h2:∀j,RepC I (vs.getD j undef) (as.getD j .top)) (hc:ACall P f as σ fun x σ'=>k (env.set o.dst (.val x)) σ'):o.wp P a w (Up E k) Q:=by
 unfold Oper.wp
 rw[h,Oper.upon_enter]
 refine(hc I w vs st.models h1 h2).mono fun e w' ⟨v,x,I',σ',he,hr,m,ev,hk⟩=> ?_
 subst he
 exact⟨I',σ',_,bx,st.step ev m hd (e:=.val x) hr,hk⟩
theorem sound_call (st:St E I σ env bx a w) (hd:∀x,o.dst=some x→x<E.n) {c:Call} {f:FuncId} {fn:Func} {ys:List Opd} (ho:o.op=.call c) (hcal:c.callee=.value (.func f)) (hys:ofOpds c.args.toList=some ys)
  (hf:P.funcs[f]? =some fn) (hb:(fn.body.isSome&&fn.name != "runtime.NumGoroutine")=true) (h:vcOp P (.call f ys) o.dst k env σ):o.wp P a w (Up E k) Q:=by
 simp only[Bool.and_eq_true]at hb
 simp only[vcOp]at h
 cases hv:vals (ys.map (evalOpd env))with
 |none=>rw[hv]at h;exact h.elim
 |some as=>
  rw[hv]at h
  obtain⟨h1,h2⟩:=st.opdsA hys hv
  refine wp_of_call st hd (vs:=c.args.map a.eval) ?_ h1 h2 h
  have he:=callee_enter (P:=P) hf hb.1 hb.2 (c.args.map a.eval) w
  simp[execOp,ho,resolve,hcal,Act.eval,Deferred.ofValue,invoke,he]
theorem sound_callv (st:St E I σ env bx a w) (hd:∀x,o.dst=some x→x<E.n) {c:Call} {x:Operand} {x':Opd} {ys:List Opd} (ho:o.op=.call c) (hcal:c.callee=.value x) (hx:ofOpd x=some x') (hys:ofOpds c.args.toList=some ys)
  (h:vcOp P (.callv x' ys) o.dst k env σ):o.wp P a w (Up E k) Q:=by
 have hxv:=st.opd hx
 simp only[vcOp]at h
 cases hv:vals (ys.map (evalOpd env))with
 |none=>rw[hv]at h;split at h<;>first|exact h.elim|simp_all
 |some as=>
  rw[hv]at h
  obtain⟨h1,h2⟩:=st.opdsA hys hv
  generalize evalOpd env x'=ex at hxv h
  split at h
  ·rename_i f fs cs as' heq
   cases heq
   obtain⟨⟨fn,hf,hb⟩,h⟩:=h
   simp only[Bool.and_eq_true]at hb
   simp only[EntVal]at hxv
   generalize hz:a.eval x=z at hxv
   cases hxv with
   |func _ f1 c1 _ _ l1 l2 r1 r2=>
    refine wp_of_call st hd (vs:=f1++c.args.map a.eval++c1) ?_ (by simp only[Array.size_append,List.length_append,l1,h1,l2]) (fun j=> ?_) h
    ·have he:=callee_enter (P:=P) hf hb.1 hb.2 (f1++c.args.map a.eval++c1) w
     simp only[execOp,ho,Sem.run_bind,resolve,hcal,hz,Deferred.ofValue,Sem.run_pure,Result.andThen_ok,invoke,he]
    ·simp only[Array.getD_eq_getD_getElem?,List.getD_eq_getElem?_getD]at*
     by_cases c1':j<f1.size
     ·rw[Array.append_assoc,Array.getElem?_append_left c1',List.append_assoc,List.getElem?_append_left (by omega)]
      exact r1 j
     ·by_cases c2':j<f1.size+(c.args.map a.eval).size
      ·rw[Array.append_assoc,Array.getElem?_append_right (by omega),Array.getElem?_append_left (by omega),List.append_assoc,List.getElem?_append_right (by omega),List.getElem?_append_left (by omega),l1]
       exact h2 _
      ·rw[Array.append_assoc,Array.getElem?_append_right (by omega),Array.getElem?_append_right (by omega),List.append_assoc,List.getElem?_append_right (by omega),List.getElem?_append_right (by omega),l1,h1]
       exact r2 _
  ·exact h.elim
theorem methRow_fst {m:String} {t:TypeId} {x:Nat × Nat} (h:methRow P m t=some x):x.1=t:=by
 unfold methRow at h
 repeat' (split at h)
 all_goals first
  |cases h;done
  |(simp only[Option.some.injEq]at h;subst h;rfl)
theorem tblGet_mem:∀(l:List (Nat × Nat)) {t f:Nat},tblGet l t=some f→(t,f)∈l
 | [],_,_,h=>by cases h
 |(u,g)::r,t,f,h=>by
  unfold tblGet at h
  split at h
  ·rename_i hu
   simp only[Option.some.injEq]at h;subst h;subst hu
   exact List.mem_cons_self ..
  ·exact List.mem_cons_of_mem _ (tblGet_mem r h)
theorem methRow_of_tbl {m:String} {esc:List Nat} {t f:Nat} (h:tblGet (methTbl P esc m) t=some f):methRow P m t=some (t,f):=by
 have h0:=tblGet_mem _ h
 unfold methTbl at h0
 obtain⟨u,_,hu⟩:=List.mem_filterMap.1 h0
 have h1:t=u-2000000:=methRow_fst hu
 rw[←h1]at hu
 exact hu
theorem run_method {m:String} {t:TypeId} {f:Nat} (h:methRow P m t=some (t,f)) (v:Value) (n:Nat) (W:World):
  (method (n+1) t v m).run P W=.ok (f,v) W∧∃fn,P.funcs[f]? =some fn∧fn.body.isSome=true∧(fn.name != "runtime.NumGoroutine")=true:=by
 unfold methRow at h
 split at h
 case h_2=>cases h
 rename_i i hi
 split at h
 case h_2=>cases h
 rename_i r hr
 split at h
 case isFalse=>cases h
 rename_i hp
 split at h
 case h_2=>cases h
 rename_i f' e hf hu
 split at h
 case h_2=>cases h
 rename_i fn hfn
 split at h
 case isFalse=>cases h
 rename_i hb
 simp only[Option.some.injEq,Prod.mk.injEq,true_and]at h
 subst h
 simp only[Bool.and_eq_true]at hb
 refine⟨?_,fn,hfn,hb.1,hb.2⟩
 have hp':r.path.toList=[]:=by simpa using hp
 unfold method
 simp[typeInfo,hi,hr,hp',follow,hf,receiverAt,run_underlying hu,Place.get]
theorem sound_inv (st:St E I σ env bx a w) (hd:∀x,o.dst=some x→x<E.n) {c:Call} {x:Operand} {m:String} {x':Opd} {ys:List Opd} (ho:o.op=.call c) (hcal:c.callee=.invoke x m) (hx:ofOpd x=some x') (hys:ofOpds c.args.toList=some ys)
  {esc:List Nat} (h:vcOp P (.inv (methTbl P esc m) x' ys) o.dst k env σ):o.wp P a w (Up E k) Q:=by
 have hxv:=st.opd hx
 simp only[vcOp]at h
 cases hv:vals (ys.map (evalOpd env))with
 |none=>rw[hv]at h;split at h<;>first|exact h.elim|simp_all
 |some as=>
  rw[hv]at h
  obtain⟨h1,h2⟩:=st.opdsA hys hv
  generalize evalOpd env x'=ex at hxv h
  split at h
  ·rename_i t v as' heq
   cases heq
   obtain⟨f,hf,h⟩:=h
   simp only[EntVal]at hxv
   generalize hz:a.eval x=z at hxv
   cases hxv with
   |iface _ u _ hu=>
    have hm:=methRow_of_tbl hf
    refine wp_of_call st hd (vs:= #[u]++c.args.map a.eval) ?_ (by simp only[Array.size_append,List.length_cons,h1];simp only[List.size_toArray,List.length_cons,List.length_nil];omega) (fun j=> ?_) h
    ·obtain⟨r1,fn,g1,g2,g3⟩:=run_method hm u (P.types.size+Made.depth-1) w
     have hn:P.types.size+Made.depth-1+1=P.types.size+Made.depth:=by
      have:0<Made.depth:=by decide
      omega
     rw[hn]at r1
     have he:=callee_enter (P:=P) g1 g2 g3 (#[u]++c.args.map a.eval) w
     have e0:(#[Value.iface t u]++c.args.map a.eval)[0]? =some (.iface t u):=by rw[Array.getElem?_append_left (by simp)];rfl
     have e1:(#[Value.iface t u]++c.args.map a.eval).extract 1 (#[Value.iface t u]++c.args.map a.eval).size=c.args.map a.eval:=by
      apply Array.ext'
      simp only[Array.toList_extract,Array.size_append,Array.toList_map,Array.size_map,List.size_toArray,List.length_cons,List.length_nil]
      simp[List.take_of_length_le]
     simp only[execOp,ho,Sem.run_bind,resolve,hcal,hz,Sem.run_pure,Result.andThen_ok,invoke,e0,e1,callMethod]
     have hpr:(program:Sem Program).run P w=.ok P w:=rfl
     simp only[hpr,Result.andThen_ok,r1,he]
    ·cases j with
     |zero=>rw[Array.getD_eq_getD_getElem?,Array.getElem?_append_left (by simp)];exact hu
     |succ j=>
      have:=h2 j
      rw[Array.getD_eq_getD_getElem?,Array.getElem?_append_right (by simp)]
      simpa[Array.getD_eq_getD_getElem?,List.getD_eq_getElem?_getD]using this
  ·exact h.elim
theorem run_bslice {t e:TypeId} {sz n:Nat} (he:tElem P t=some e) (hs:tSize P e=some sz) {zv:Value} {i:TypeInfo} (hi:P.info? e=some i) (hz:i.zero=some zv) (hsm:n*sz≤65536) (parts:Array (Nat × Value)) {cells:Array Value}
  (hf:Instr.fill (fun i=>some (i*sz,sz)) ((Array.range (n*sz)).map (fun j=>(if n*sz=0 then #[]else zv.cells)[j%(if n*sz=0 then(#[]:Array Value)else zv.cells).size]!)) parts.toList=some cells) (W:World):
  (Instr.buildSlice t n parts).run P W=.ok (.slice (some ⟨W.heap.size,0,none⟩) n n) (W.alloc (.cells cells e)):=by
 have ht:=underlying_of_tElem he
 obtain⟨i',hi',hsz⟩:=info_of_tSize hs
 have:i'=i:=by rw[hi]at hi';exact(Option.some.inj hi').symm
 subst this
 have hns:¬(16777216<n*sz):=by omega
 unfold Instr.buildSlice
 simp only[Sem.run_bind,run_underlying ht,Result.andThen_ok]
 have hz2:(sizeOf e).run P W=.ok sz W:=by simp[sizeOf,typeInfo,hi,hsz]
 rw[hz2]
 simp only[Result.andThen_ok]
 by_cases h0:n*sz=0
 ·simp only[h0,if_true]at hf
  have hr:(Array.range 0)=(#[]:Array Nat):=rfl
  rw[hr]at hf
  simp at hf
  simp[h0,hr,hf,newRow]
 ·simp only[h0,if_false]at hf
  have hzr:(zeroValue e).run P W=.ok zv W:=by simp[zeroValue,typeInfo,hi,hz]
  simp[h0,hns,hzr,hf,newRow]
def RowRep (I:Sealed) (sz:Nat) (cells:Array Value) (xs:List AVal):Prop:=
 cells.size=xs.length*sz∧(∀x∈xs,x.cells.length=sz)∧∀i j,i<xs.length→j<sz→RepC I (cells.getD (i*sz+j) undef) ((xs.getD i .top).cells.getD j .top)
theorem lt_row {i j n sz:Nat} (hi:i<n) (hj:j<sz):i*sz+j<n*sz:=by
 have:(i+1)*sz≤n*sz:=Nat.mul_le_mul_right _ hi
 rw[Nat.succ_mul]at this
 omega
theorem row_eq {i i' j' sz:Nat} (hj':j'<sz) (h:i*sz≤i'*sz+j') (h2:i'*sz+j'<i*sz+sz):i=i':=by
 rcases Nat.lt_trichotomy i i' with hlt|rfl|hlt
 ·have:(i+1)*sz≤i'*sz:=Nat.mul_le_mul_right _ hlt
  rw[Nat.succ_mul]at this
  omega
 ·rfl
 ·have:(i'+1)*sz≤i*sz:=Nat.mul_le_mul_right _ hlt
  rw[Nat.succ_mul]at this
  omega
theorem RowRep.set {sz i:Nat} {cells ds vs:Array Value} {xs:List AVal} {b:AVal} (h:RowRep I sz cells xs) (hi:i<xs.length) (hb:b.cells.length=sz) (hv:∀j,RepC I (vs.getD j undef) (b.cells.getD j .top)) (hvs:vs.size=sz)
  (hd:ds.size=cells.size∧∀j,ds[j]? =if i*sz≤j∧j<i*sz+vs.size∧j<cells.size then vs[j-i*sz]? else cells[j]?):RowRep I sz ds (xs.set i b):=by
 obtain⟨h1,h2,h3⟩:=h
 refine⟨by rw[hd.1,h1];simp,fun x hx=> ?_,fun p q hp hq=> ?_⟩
 ·rcases List.mem_or_eq_of_mem_set hx with hx|rfl
  ·exact h2 x hx
  ·exact hb
 ·have hp':p<xs.length:=by simpa using hp
  have hlt:=lt_row hp' hq
  rw[Array.getD_eq_getD_getElem?,hd.2,hvs]
  by_cases e:p=i
  ·subst e
   rw[if_pos (by rw[h1];omega)]
   have:=hv q
   rw[Array.getD_eq_getD_getElem?]at this
   have e1:p*sz+q-p*sz=q:=by omega
   have e2:(xs.set p b).getD p .top=b:=by rw[List.getD_eq_getElem?_getD,List.getElem?_set_self hp'];rfl
   rw[e1,e2]
   exact this
  ·rw[if_neg (by intro hc;exact e (row_eq hq hc.1 hc.2.1).symm)]
   have e2:(xs.set i b).getD p .top=xs.getD p .top:=by
    rw[List.getD_eq_getElem?_getD,List.getElem?_set_ne (by omega),←List.getD_eq_getElem?_getD]
   rw[e2,←Array.getD_eq_getD_getElem?]
   exact h3 p q hp' hq
theorem fill_rows {ev:Opd→Ent} {rv:Operand→Value} (hev:∀{x:Operand} {y:Opd},ofOpd x=some y→EntVal I bx (rv x) (ev y)) (sz:Nat):
  ∀(parts:List (Nat × Operand)) (ps:List (Nat × Opd)) (cells:Array Value) (xs ys:List AVal),elems parts=some ps→setAll sz xs ev ps=some ys→RowRep I sz cells xs→
   ∃ds,Instr.fill (fun i=>some (i*sz,sz)) cells (parts.map fun(i,x)=>(i,rv x))=some ds∧RowRep I sz ds ys∧ys.length=xs.length
 | [],ps,cells,xs,ys,h1,h2,hr=>by
  simp only[elems,Option.some.injEq]at h1
  subst h1
  simp only[setAll,Option.some.injEq]at h2
  subst h2
  exact⟨cells,rfl,hr,rfl⟩
 |(i,x)::r,ps,cells,xs,ys,h1,h2,hr=>by
  simp only[elems]at h1
  cases hx:ofOpd x with
  |none=>rw[hx]at h1;cases h1
  |some y=>
   cases hrest:elems r with
   |none=>rw[hx,hrest]at h1;cases h1
   |some ps'=>
    rw[hx,hrest]at h1
    simp only[Option.some.injEq]at h1
    subst h1
    have hv:=hev hx
    simp only[setAll]at h2
    generalize ev y=e at hv h2
    cases e with
    |box c=>exact hv.elim
    |lptr s o=>cases h2
    |val b=>
     simp only[]at h2
     split at h2
     case isFalse=>cases h2
     rename_i hc
     obtain⟨c1,c2,c3⟩:=hc
     obtain⟨k1,k2,k3⟩:=RepC.cells_of hv c3
     obtain⟨f1,f2⟩:=foldl_set (i*sz) (rv x).cells.toList 0 cells
     have hfold:((rv x).cells.zipIdx.foldl (fun(cs:Array Value) (p:Value × Nat)=>cs.setIfInBounds (i*sz+p.2) p.1) cells)=
       (((rv x).cells.toList.zipIdx 0).foldl (fun(cs:Array Value) (p:Value × Nat)=>cs.setIfInBounds (i*sz+p.2) p.1) cells):=by
      rw[←Array.foldl_toList,Array.toList_zipIdx]
     generalize hds:(((rv x).cells.toList.zipIdx 0).foldl (fun(cs:Array Value) (p:Value × Nat)=>cs.setIfInBounds (i*sz+p.2) p.1) cells)=ds at hfold f1 f2
     have hr2:=hr.set (ds:=ds) c1 c2 k2 (by omega) ⟨f1,fun j=>by rw[f2 j];simp⟩
     obtain⟨es,he,hes,hel⟩:=fill_rows hev sz r ps' ds (xs.set i b) ys hrest h2 hr2
     refine⟨es,?_,hes,by rw[hel];simp⟩
     simp only[List.map_cons,Instr.fill]
     have hlt:i*sz+sz≤cells.size:=by
      rw[hr.1]
      have:(i+1)*sz≤xs.length*sz:=Nat.mul_le_mul_right _ c1
      rw[Nat.succ_mul]at this
      exact this
     have hcond:¬((rv x).cells.size≠sz∨i*sz+(rv x).cells.size>cells.size):=by
      rw[k1];omega
     simp only[ne_eq,decide_not,Bool.or_eq_true,Bool.not_eq_eq_eq_not,Bool.not_true,decide_eq_false_iff_not,gt_iff_lt,decide_eq_true_eq]
     rw[if_neg (by simpa using hcond),hfold]
     exact he
theorem slice_dim {I:Sealed} {v:Value} {xs:List AVal} {nl:Bool} {t:Option Nat} (h:RepC I v (.slice xs nl t)):RepC I v (.slice xs nl none):=by
 cases h with
 |nilS=>exact .nilS
 |slice b o n cap sz xs tok vs hl hc hm hs h hr ht=>exact .slice b o n cap sz xs none vs hl hc hm hs h hr (fun g hg=>by cases hg)
 |sliceZ a=>exact .sliceZ a
theorem zero_rows {n sz:Nat} {z:AVal} {zv:Value} (_hsz:0<sz) (z1:zv.cells.size=z.cells.length) (z2:∀j,RepC I (zv.cells.getD j undef) (z.cells.getD j .top)) (hzl:z.cells.length=sz):
  RowRep I sz ((Array.range (n*sz)).map (fun j=>(if n*sz=0 then #[]else zv.cells)[j%(if n*sz=0 then(#[]:Array Value)else zv.cells).size]!)) (List.replicate n z):=by
 refine⟨by simp,fun x hx=>by rw[(List.mem_replicate.1 hx).2];exact hzl,fun p q hp hq=> ?_⟩
 have hp':p<n:=by simpa using hp
 have hlt:=lt_row hp' hq
 have hne:n*sz≠0:=by omega
 have hmod:(p*sz+q)%zv.cells.size=q:=by
  rw[z1,hzl,Nat.mul_comm,Nat.mul_add_mod];exact Nat.mod_eq_of_lt hq
 have hqz:q<zv.cells.size:=by omega
 have e1:(List.replicate n z).getD p .top=z:=by rw[List.getD_eq_getElem?_getD];simp[hp']
 rw[e1]
 have e2:((Array.range (n*sz)).map (fun j=>(if n*sz=0 then #[]else zv.cells)[j%(if n*sz=0 then(#[]:Array Value)else zv.cells).size]!)).getD (p*sz+q) undef=zv.cells.getD q undef:=by
  simp only[hne,if_false]
  rw[Array.getD_eq_getD_getElem?,Array.getElem?_map,Array.getElem?_range,if_pos hlt]
  simp only[Option.map_some,Option.getD_some,hmod]
  rw[Array.getD_eq_getD_getElem?,Array.getElem?_eq_getElem hqz,getElem!_pos zv.cells q hqz]
  rfl
 rw[e2]
 exact z2 q
theorem sound_bslice (st:St E I σ env bx a w) (hd:∀x,o.dst=some x→x<E.n) {t e:TypeId} {sz n:Nat} {z:AVal} {parts:Array (Nat × Operand)} {ps:List (Nat × Opd)} (ho:o.op=.buildSlice t n parts) (he:tElem P t=some e) (hs:tSize P e=some sz)
  (hz:tZero P e=some z) (hps:elems parts.toList=some ps) (hsm:n*sz≤65536) (hsz:0<sz) (hzl:z.cells.length=sz) {own:Bool} (h:vcOp P (.bslice own sz e n z ps) o.dst k env σ):o.wp P a w (Up E k) Q:=by
 obtain⟨i,zv,hi,hzv,hof⟩:=zero_of hz
 obtain⟨z1,z2⟩:=ofV_cells I hof
 simp only[vcOp]at h
 split at h
 case h_2=>exact h.elim
 rename_i xs hxs
 have hrow0:=zero_rows (I:=I) (n:=n) hsz z1 z2 hzl
 obtain⟨ds,hf,⟨r1,r2,r3⟩,hlen⟩:=fill_rows (rv:=a.eval) (fun hx=>st.opd hx) sz parts.toList ps _ _ xs hps hxs hrow0
 have hxn:xs.length=n:=by rw[hlen];simp
 have hf':Instr.fill (fun i=>some (i*sz,sz)) ((Array.range (n*sz)).map (fun j=>(if n*sz=0 then #[]else zv.cells)[j%(if n*sz=0 then(#[]:Array Value)else zv.cells).size]!)) (parts.map fun(i,x)=>(i,a.eval x)).toList=some ds:=by
  have:(parts.map fun(i,x)=>(i,a.eval x)).toList=parts.toList.map fun(i,x)=>(i,a.eval x):=by simp
  rw[this]
  exact hf
 have hrun:=run_bslice (P:=P) he hs hi hzv hsm (parts.map fun(i,x)=>(i,a.eval x)) hf' w
 have hnm:n≤maxLen:=by
  have:n*1≤n*sz:=Nat.mul_le_mul_left _ hsz
  simp only[maxLen];omega
 obtain⟨m2,ev2⟩:=open_row st.models (w':=w.alloc (.cells ds e)) (b:=w.heap.size) (cap:=n) (sz:=sz) (n:=n) (e:=e) (cur:=ds) (tok:=none) (by simp) rfl rfl rfl
  (fun x hx _=>heap_new_old w _ hx) (by rw[heap_new,if_pos rfl]) (by rw[r1,hxn]) (Nat.le_refl _) hnm (.inl (Nat.le_refl _))
 have hdrop:σ.dropOpn none=σ:=by cases σ;simp[Store.dropOpn]
 rw[hdrop]at m2 ev2
 have hexec:(execOp a.eval o).run P w=.ok (.value (.slice (some ⟨w.heap.size,0,none⟩) n n)) (w.alloc (.cells ds e)):=by
  simp only[execOp,ho,Sem.run_bind,hrun,Result.andThen_ok]
  rfl
 have hrep:RepC (I.grow w.heap.size (n,sz) fun o=>if o<n*sz then ds[o]? else none) (.slice (some ⟨w.heap.size,0,none⟩) n n) (.slice xs false (some w.heap.size)):=by
  refine open_slice_rep (vs:=fun i j=>if i<n∧j<sz then ds.getD (i*sz+j) undef else undef) hxn (Nat.le_refl _) hnm (fun i hi=> ?_) (fun i j hi hj=> ?_) (fun i j=> ?_) (Sealed.grow_cell _ _ _ _) (Sealed.grow_cap _ _ _ _)
  ·rw[List.getD_eq_getElem?_getD,List.getElem?_eq_getElem (by omega)];exact r2 _ (List.getElem_mem _)
  ·rw[if_pos ⟨hi,hj⟩,Array.getD_eq_getD_getElem?,Array.getElem?_eq_getElem (by rw[r1,hxn];exact lt_row hi hj)];rfl
  ·by_cases hc:i<n∧j<sz
   ·rw[if_pos hc];exact(r3 i j (by omega) hc.2).mono ev2.le
   ·rw[if_neg hc]
    have:(xs.getD i .top).cells.getD j .top=.top:=by
     by_cases hi:i<n
     ·have hl:(xs.getD i .top).cells.length=sz:=by rw[List.getD_eq_getElem?_getD,List.getElem?_eq_getElem (by omega)];exact r2 _ (List.getElem_mem _)
      rw[List.getD_eq_getElem?_getD,List.getElem?_eq_none (by omega)];rfl
     ·have:xs.getD i .top=.top:=by rw[List.getD_eq_getElem?_getD,List.getElem?_eq_none (by omega)];rfl
      rw[this]
      cases j<;>rfl
    rw[this]
    exact .top _
 have hsub:σ.Sub (σ.setOpn w.heap.size (n,sz,e)):=by
  refine⟨fun b cs h=>h,fun b r h=> ?_,fun b es h=>h⟩
  have:b≠w.heap.size:=by rintro rfl;rw[(st.models.fresh_of_ge (Nat.le_refl _)).2.1]at h;cases h
  have hb:(b==w.heap.size)=false:=by simpa using this
  simpa[Store.setOpn,hb]using h
 split at h
 ·exact wp_step st hd hexec m2 ev2 (e:=.val (.slice xs false (some w.heap.size))) hrep (h _ (st.models.fresh_of_ge (Nat.le_refl _)))
 ·refine wp_step st hd hexec (m2.sub hsub) (ev2.sub hsub) (e:=.val (.slice xs false none)) (slice_dim hrep) h
theorem flat_cells {sz:Nat}:∀{xs:List AVal},(∀x∈xs,x.cells.length=sz)→(xs.flatMap AVal.cells).length=xs.length*sz∧
  ∀i j,i<xs.length→j<sz→(xs.flatMap AVal.cells).getD (i*sz+j) .top=(xs.getD i .top).cells.getD j .top
 | [],_=>⟨by simp,fun i j hi=>by simp at hi⟩
 |x::xs,h=>by
  have hx:=h x List.mem_cons_self
  obtain⟨h1,h2⟩:=flat_cells (xs:=xs) fun y hy=>h y (List.mem_cons_of_mem _ hy)
  refine⟨by simp only[List.flatMap_cons,List.length_append,h1,hx,List.length_cons,Nat.add_mul];omega,fun i j hi hj=> ?_⟩
  simp only[List.flatMap_cons]
  cases i with
  |zero=>
   rw[Nat.zero_mul,Nat.zero_add,List.getD_eq_getElem?_getD,List.getElem?_append_left (by omega),←List.getD_eq_getElem?_getD]
   rfl
  |succ i=>
   have e1:(i+1)*sz+j-x.cells.length=i*sz+j:=by rw[hx,Nat.add_mul];omega
   rw[List.getD_eq_getElem?_getD,List.getElem?_append_right (by rw[hx,Nat.add_mul];omega),e1,←List.getD_eq_getElem?_getD]
   exact h2 i j (by simpa using hi) hj
theorem RowRep.flat {sz:Nat} {ds:Array Value} {xs:List AVal} (h:RowRep I sz ds xs) (hsz:0<sz):ds.size=(xs.flatMap AVal.cells).length∧∀q,RepC I (ds.getD q undef) ((xs.flatMap AVal.cells).getD q .top):=by
 obtain⟨r1,r2,r3⟩:=h
 obtain⟨f1,f2⟩:=flat_cells r2
 refine⟨by rw[r1,f1],fun q=> ?_⟩
 by_cases hq:q<xs.length*sz
 ·have hi:q/sz<xs.length:=(Nat.div_lt_iff_lt_mul hsz).2 hq
  have hj:q%sz<sz:=Nat.mod_lt _ hsz
  have hqe:q/sz*sz+q%sz=q:=by rw[Nat.mul_comm];exact Nat.div_add_mod q sz
  have:=r3 (q/sz) (q%sz) hi hj
  rw[←f2 _ _ hi hj,hqe]at this
  exact this
 ·rw[List.getD_eq_getElem?_getD,List.getElem?_eq_none (by omega)]
  exact .top _
theorem sound_mslice (st:St E I σ env bx a w) (hd:∀x,o.dst=some x→x<E.n) {t e:TypeId} {sz n:Nat} {z:AVal} {parts:Array (Nat × Operand)} {ps:List (Nat × Opd)} (ho:o.op=.buildSlice t n parts) (he:tElem P t=some e) (hs:tSize P e=some sz)
  (hz:tZero P e=some z) (hps:elems parts.toList=some ps) (hsm:n*sz≤65536) (hsz:0<sz) (hzl:z.cells.length=sz) (h:vcOp P (.mslice sz e n z ps) o.dst k env σ):o.wp P a w (Up E k) Q:=by
 obtain⟨i,zv,hi,hzv,hof⟩:=zero_of hz
 obtain⟨z1,z2⟩:=ofV_cells I hof
 simp only[vcOp]at h
 split at h
 case h_2=>exact h.elim
 rename_i xs hxs
 have hrow0:=zero_rows (I:=I) (n:=n) hsz z1 z2 hzl
 obtain⟨ds,hf,hrow,hlen⟩:=fill_rows (rv:=a.eval) (fun hx=>st.opd hx) sz parts.toList ps _ _ xs hps hxs hrow0
 have hxn:xs.length=n:=by rw[hlen];simp
 have hf':Instr.fill (fun i=>some (i*sz,sz)) ((Array.range (n*sz)).map (fun j=>(if n*sz=0 then #[]else zv.cells)[j%(if n*sz=0 then(#[]:Array Value)else zv.cells).size]!)) (parts.map fun(i,x)=>(i,a.eval x)).toList=some ds:=by
  have:(parts.map fun(i,x)=>(i,a.eval x)).toList=parts.toList.map fun(i,x)=>(i,a.eval x):=by simp
  rw[this]
  exact hf
 have hrun:=run_bslice (P:=P) he hs hi hzv hsm (parts.map fun(i,x)=>(i,a.eval x)) hf' w
 have hnm:n≤maxLen:=by
  have:n*1≤n*sz:=Nat.mul_le_mul_left _ hsz
  simp only[maxLen];omega
 obtain⟨g1,g2⟩:=hrow.flat hsz
 have hexec:(execOp a.eval o).run P w=.ok (.value (.slice (some ⟨w.heap.size,0,none⟩) n n)) (w.alloc (.cells ds e)):=by
  simp only[execOp,ho,Sem.run_bind,hrun,Result.andThen_ok]
  rfl
 exact wp_step st hd hexec (st.models.newObj e g1 g2) (Evo.newObj st.models _ _) (e:=.val (.ref w.heap.size 0 n n)) (RepC.ref _ _ _ _ (Nat.le_refl _) hnm) (h _ (st.models.fresh_of_ge (Nat.le_refl _)))
end
end Go.AL
