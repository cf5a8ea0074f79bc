/-
  AN ABSTRACT LOGIC OVER THE MODEL, part 6: append.
-/
import Derived.Test.YtfoeaeeaflmkfaaGreatAL5
import Derived.Lib.AppendZeros
namespace Go.AL
open Go.RowKit
section
variable {P:Program} {E:Entry} {I:Sealed} {σ:Store} {env:Env} {bx:Nat→Nat} {a:Act} {w:World} {o:Oper}
variable {k:Env→Store→Prop} {Q:Exit→Act→World→Prop}
theorem run_append_zero {t e:TypeId} {i:TypeInfo} (ty:TypeId) (ht:P.underlying t=some (.slice e)) (hi:P.info? e=some i) {A B:Option Addr} {n c c2:Nat} (hc:n≤c) (W:World):
  (Builtin.append_ #[t,t] ty #[.slice A n c,.slice B 0 c2]).run P W=.ok (.slice A n c) W:=by
 have hf:(Builtin.firstCells i.size 0 (.slice B 0 c2)).run P W=.ok #[] W:=by
  cases B<;>simp[Builtin.firstCells,loadCells,loadCellsFrom]
 cases A<;>simp[Builtin.append_,run_underlying ht,sizeOf,typeInfo,hi,Builtin.lenOf,hc,hf,storeCells]
def flat (m sz:Nat) (vs:Nat→Nat→Value):List Value:=(List.range (m*sz)).map fun q=>vs (q/sz) (q%sz)
theorem flat_length (m sz:Nat) (vs:Nat→Nat→Value):(flat m sz vs).length=m*sz:=by simp[flat]
theorem flat_get {m sz:Nat} {vs:Nat→Nat→Value} {i j:Nat} (hi:i<m) (hj:j<sz):(flat m sz vs)[i*sz+j]? =some (vs i j):=by
 have hlt:=lt_row hi hj
 have h1:(i*sz+j)/sz=i:=by
  rw[Nat.mul_comm,Nat.mul_add_div (by omega)];simp[Nat.div_eq_of_lt hj]
 have h2:(i*sz+j)%sz=j:=by
  rw[Nat.mul_comm,Nat.mul_add_mod];exact Nat.mod_eq_of_lt hj
 simp[flat,hlt,h1,h2]
theorem flat_at {m sz:Nat} {vs:Nat→Nat→Value} {q:Nat} {u:Value} (h:(flat m sz vs)[q]? =some u):∃i j,i<m∧j<sz∧q=i*sz+j∧u=vs i j:=by
 have hq:q<m*sz:=by
  have:=(List.getElem?_eq_some_iff.1 h).1
  rwa [flat_length]at this
 have hsz:0<sz:=by
  rcases Nat.eq_zero_or_pos sz with h0|h0
  ·subst h0;simp at hq
  ·exact h0
 have hi:q/sz<m:=Nat.div_lt_of_lt_mul (by rw[Nat.mul_comm];exact hq)
 have hj:q%sz<sz:=Nat.mod_lt _ hsz
 have he:q=(q/sz)*sz+q%sz:=by rw[Nat.mul_comm];exact(Nat.div_add_mod q sz).symm
 refine⟨q/sz,q%sz,hi,hj,he,?_⟩
 have:=flat_get (vs:=vs) hi hj
 rw[←he,h]at this
 exact Option.some.inj this
theorem append_rep {n m:Nat} {xs ys:List AVal} {vs us:Nat→Nat→Value} {J:Sealed} (hx:xs.length=n) (_hy:ys.length=m)
  (h1:∀i j,i<n→RepC J (vs i j) ((xs.getD i .top).cells.getD j .top)) (h2:∀i j,RepC J (us i j) ((ys.getD i .top).cells.getD j .top)) (i j:Nat):
  RepC J (if i<n then vs i j else us (i-n) j) (((xs++ys).getD i .top).cells.getD j .top):=by
 by_cases hi:i<n
 ·rw[if_pos hi]
  have:(xs++ys).getD i .top=xs.getD i .top:=by
   rw[List.getD_eq_getElem?_getD,List.getElem?_append_left (by omega),←List.getD_eq_getElem?_getD]
  rw[this]
  exact h1 i j hi
 ·rw[if_neg hi]
  have:(xs++ys).getD i .top=ys.getD (i-n) .top:=by
   rw[List.getD_eq_getElem?_getD,List.getElem?_append_right (by omega),←List.getD_eq_getElem?_getD,hx]
  rw[this]
  exact h2 _ j
theorem append_len {n m sz:Nat} {xs ys:List AVal} (hx:xs.length=n) (_hy:ys.length=m) (h1:∀i,i<n→(xs.getD i .top).cells.length=sz) (h2:∀i,i<m→(ys.getD i .top).cells.length=sz) (i:Nat) (hi:i<n+m):
  ((xs++ys).getD i .top).cells.length=sz:=by
 by_cases h:i<n
 ·have:(xs++ys).getD i .top=xs.getD i .top:=by
   rw[List.getD_eq_getElem?_getD,List.getElem?_append_left (by omega),←List.getD_eq_getElem?_getD]
  rw[this];exact h1 i h
 ·have:(xs++ys).getD i .top=ys.getD (i-n) .top:=by
   rw[List.getD_eq_getElem?_getD,List.getElem?_append_right (by omega),←List.getD_eq_getElem?_getD,hx]
  rw[this];exact h2 _ (by omega)
theorem append_done (st:St E I σ env bx a w) (hd:∀x,o.dst=some x→x<E.n) {xs ys:List AVal} {nl:Bool} {tok:Option Nat} {sz:Nat} {e:TypeId} {n m g cap:Nat} {cur:Array Value} {w':World}
  {vs us:Nat→Nat→Value} (hx:xs.length=n) (hy:ys.length=m) (hm:0<m)
  (hxs:∀i,i<n→(xs.getD i .top).cells.length=sz) (hys:∀i,i<m→(ys.getD i .top).cells.length=sz)
  (h1:∀i j,i<n→RepC I (vs i j) ((xs.getD i .top).cells.getD j .top)) (h2:∀i j,RepC I (us i j) ((ys.getD i .top).cells.getD j .top))
  (hrun:(execOp a.eval o).run P w=.ok (.value (.slice (some ⟨g,0,none⟩) (n+m) cap)) w')
  (hsize:w.heap.size≤w'.heap.size) (hos:w'.os=w.os) (htape:w'.tape=w.tape) (hout:w'.output=w.output)
  (hother:∀x,x<w.heap.size→x≠g→w'.heap[x]? =w.heap[x]?)
  (hb:w'.heap[g]? =some (.cells cur e (0,0))) (hcur:cur.size=cap*sz) (hn:n+m≤cap) (hcap:cap≤maxLen)
  (hc1:∀i j,i<n→j<sz→cur[i*sz+j]? =some (vs i j)) (hc2:∀i j,i<m→j<sz→cur[(n+i)*sz+j]? =some (us i j))
  (hown:w.heap.size≤g∨(tok=some g∧(∃r,σ.opn g=some r)∧I.cap g=some (cap,sz)∧∀o v,I.cell g o=some v→o<(n+m)*sz∧cur[o]? =some v))
  (hk:∀x σ',AppRes σ xs nl tok ys sz e x σ'→DimA (fun a σ'=>k (env.set o.dst (.val a)) σ') x σ'):o.wp P a w (Up E k) Q:=by
 obtain⟨m2,ev2⟩:=open_row st.models (sz:=sz) (n:=n+m) (tok:=tok) hsize hos htape hout hother hb hcur hn hcap hown
 have hrep:=open_slice_rep (xs:=xs++ys) (vs:=fun i j=>if i<n then vs i j else us (i-n) j) (J:=I.grow g (cap,sz) fun o=>if o<(n+m)*sz then cur[o]? else none) (b:=g) (cap:=cap) (sz:=sz) (n:=n+m) (cur:=cur)
  (by simp[hx,hy]) hn hcap (append_len hx hy hxs hys) (fun i j hi hj=>by
   by_cases h:i<n
   ·rw[if_pos h];exact hc1 i j h hj
   ·rw[if_neg h]
    have:=hc2 (i-n) j (by omega) hj
    rwa [show n+(i-n)=i from by omega]at this)
  (append_rep hx hy (fun i j hi=>(h1 i j hi).mono ev2.le) (fun i j=>(h2 i j).mono ev2.le)) (Sealed.grow_cell _ _ _ _) (Sealed.grow_cap _ _ _ _)
 obtain⟨b,τ,hle,hsub,_,hk'⟩:=hk _ _ (.inr ⟨fun h=>by subst h;simp at hy;omega,g,rfl,by rw[hx,hy],by
  rcases hown with h|⟨h,_⟩
  ·exact .inr (st.models.fresh_of_ge h)
  ·exact .inl h⟩)
 exact wp_step st hd hrun (m2.sub hsub) (ev2.sub hsub) (e:=.val b) (hle _ _ hrep) hk'
def Src (I:Sealed) (w:World) (v:Value) (ys:List AVal) (sz:Nat):Prop:=
 ∃(b o c:Nat) (us:Nat→Nat→Value),v=.slice (some ⟨b,o,none⟩) ys.length c∧(∀p r,p<ys.length→r<sz→w.cell? ⟨b,o+(p*sz+r),none⟩=some (us p r))∧
  ∀p r,RepC I (us p r) ((ys.getD p .top).cells.getD r .top)
theorem src_slice (m:Models I σ w) {v:Value} {ys:List AVal} {nl:Bool} {tok:Option Nat} {sz:Nat} (h:RepC I v (.slice ys nl tok)) (hys:∀q,q<ys.length→(ys.getD q .top).cells.length=sz):
  (ys=[]→∃B c,v=.slice B 0 c)∧(ys≠[]→Src I w v ys sz):=by
 refine⟨fun h0=> ?_,fun hne=> ?_⟩
 ·subst h0
  rcases RepC.slice_inv h with⟨h1,_⟩|⟨b,off,cap,_,_,h1,_⟩|⟨az,h1,_⟩
  ·exact⟨_,_,h1⟩
  ·exact⟨_,_,by simpa using h1⟩
  ·exact⟨_,_,h1⟩
 ·have hmpos:0<ys.length:=List.length_pos_iff.2 hne
  rcases RepC.slice_inv h with⟨_,h2,_⟩|⟨b2,o2,c2,sz2,us,g1,_,g3,g4,g5,g6,g7,_⟩|⟨_,_,h2,_⟩
  ·exact absurd h2 hne
  ·have hsz2:sz2=sz:=by rw[←g5 0 hmpos];exact hys 0 hmpos
   subst hsz2
   refine⟨b2,o2,c2,us,g1,fun p r hp hr=> ?_,g7⟩
   obtain⟨cs,T,fz,q1,q2⟩:=m.cell _ _ _ (g6 p r hp hr)
   rw[cell_of_heap q1]
   exact q2
  ·exact absurd h2 hne
theorem elemsOk_one {ys:List AVal} (h:∀y∈ys,y.one=true):ElemsOk 1 ys:=fun y hy=>by
 have h1:=AVal.one_cells (h y hy)
 rw[h1];exact⟨rfl,by simp[h y hy]⟩
theorem src_ref (m:Models I σ w) {v:Value} {b o n c:Nat} {cs:List AVal} (h:RepC I v (.ref b o n c)) (ho:σ.obj b=some cs) (hle:o+n≤cs.length) (h1:∀y∈(cs.drop o).take n,y.one=true):
  ((cs.drop o).take n=[]→∃B c,v=.slice B 0 c)∧((cs.drop o).take n≠[]→Src I w v ((cs.drop o).take n) 1):=by
 have hl:((cs.drop o).take n).length=n:=by simp;omega
 obtain⟨vs,T,k1,k2,k3,_⟩:=m.obj b cs ho
 have hv:v=.slice (some ⟨b,o,none⟩) n c:=by cases h;rfl
 refine⟨fun h0=> ?_,fun _=>⟨b,o,c,fun p r=>if r=0∧p<n then vs.getD (o+p) undef else undef,by rw[hl];exact hv,fun p r hp hr=> ?_,fun p r=> ?_⟩⟩
 ·have:n=0:=by rw[←hl,h0];rfl
  subst this;exact⟨_,_,hv⟩
 ·obtain rfl:r=0:=by omega
  rw[hl]at hp
  dsimp only
  rw[if_pos ⟨rfl,hp⟩,cell_of_heap k1]
  simp only[Nat.mul_one,Nat.add_zero]
  rw[Array.getD_eq_getD_getElem?,Array.getElem?_eq_getElem (by omega)];rfl
 ·dsimp only
  by_cases hp:r=0∧p<n
  ·rw[if_pos hp]
   obtain⟨rfl,hp⟩:=hp
   have hpl:p<((cs.drop o).take n).length:=by omega
   have e1:((cs.drop o).take n).getD p .top=cs.getD (o+p) .top:=by
    rw[List.getD_eq_getElem?_getD,List.getElem?_take,if_pos hp,List.getElem?_drop,←List.getD_eq_getElem?_getD]
   have hone:(((cs.drop o).take n).getD p .top).one=true:=by
    rw[List.getD_eq_getElem?_getD,List.getElem?_eq_getElem hpl];exact h1 _ (List.getElem_mem hpl)
   rw[AVal.one_cells hone,e1]
   exact k3 (o+p)
  ·rw[if_neg hp]
   by_cases hpn:p<n
   ·have hr:r≠0:=fun h=>hp ⟨h,hpn⟩
    have hpl:p<((cs.drop o).take n).length:=by omega
    have hone:(((cs.drop o).take n).getD p .top).one=true:=by
     rw[List.getD_eq_getElem?_getD,List.getElem?_eq_getElem hpl];exact h1 _ (List.getElem_mem hpl)
    rw[AVal.one_cells hone]
    cases r with
    |zero=>exact absurd rfl hr
    |succ r=>simpa using RepC.top _
   ·have:((cs.drop o).take n).getD p .top=.top:=by rw[List.getD_eq_getElem?_getD,List.getElem?_eq_none (by omega)];rfl
    rw[this]
    cases r<;>simpa[AVal.cells]using RepC.top _
theorem append_core (st:St E I σ env bx a w) (hd:∀x,o.dst=some x→x<E.n) {t e:TypeId} {x y:Operand} {sz bytes:Nat} {z:AVal}
  (ho:o.op=.call {callee:=.builtin .append,args:=⟨[x,y]⟩,argTypes:=⟨[t,t]⟩}) (he:tElem P t=some e) (hs:tSize P e=some (sz+1)) (hby:tBytes P e=some bytes) (hz:tZero P e=some z)
  (hzl:z.cells.length=sz+1) {xs:List AVal} {nl:Bool} {tok:Option Nat} {ys:List AVal} (hxv:RepC I (a.eval x) (.slice xs nl tok)) (hy0:ys=[]→∃B c,a.eval y=.slice B 0 c) (hy1:ys≠[]→Src I w (a.eval y) ys (sz+1))
  (hgr:grows σ xs nl tok (sz+1) e) (hone:ElemsOk (sz+1) ys) (hlen:xs.length+ys.length≤maxLen) (hroom:(xs.length+ys.length)*bytes≤140737488355328)
  (hk:∀v σ',AppRes σ xs nl tok ys (sz+1) e v σ'→DimA (fun a σ'=>k (env.set o.dst (.val a)) σ') v σ'):o.wp P a w (Up E k) Q:=by
 have ht:=underlying_of_tElem he
 obtain⟨i,zv,hi,hzv,hof⟩:=zero_of hz
 have hsz:i.size=sz+1:=by
  obtain⟨i',hi',h'⟩:=info_of_tSize hs
  rw[hi]at hi';cases hi';exact h'
 have hbytes:i.bytes=bytes:=by
  unfold tBytes at hby;rw[hi]at hby;simpa using hby
 have hzc:zv.cells.size=i.size:=by rw[(ofV_cells I hof).1,hzl,hsz]
 have hred:∀v w',(Builtin.append_ #[t,t] o.type #[a.eval x,a.eval y]).run P w=.ok v w'→(execOp a.eval o).run P w=.ok (.value v) w':=by
  intro v w' hr
  simp[execOp,ho,resolve,invoke,builtin,hr]
 by_cases hys:ys=[]
 ·subst hys
  obtain⟨B,c2,hB⟩:=hy0 rfl
  obtain⟨A,n,c,hA,hnc⟩:∃A n c,a.eval x=.slice A n c∧n≤c:=by
   rcases RepC.slice_inv hxv with⟨h1,_⟩|⟨b,off,cap,_,_,h1,_,h3,_⟩|⟨az,h1,_⟩
   ·exact⟨_,_,_,h1,Nat.le_refl _⟩
   ·exact⟨_,_,_,h1,h3⟩
   ·exact⟨_,_,_,h1,Nat.le_refl _⟩
  have hr:=run_append_zero (P:=P) o.type ht hi (A:=A) (B:=B) (c2:=c2) hnc w
  rw[←hA,←hB]at hr
  obtain⟨b,τ,hle,hsub,_,hk'⟩:=hk _ _ (.inl ⟨rfl,rfl,rfl⟩)
  exact wp_step st hd (hred _ _ hr) (st.models.sub hsub) ((Evo.refl _ _ _).sub hsub) (e:=.val b) (hle _ _ hxv) hk'
 ·have hmpos:0<ys.length:=List.length_pos_iff.2 hys
  have hysz:∀q,q<ys.length→(ys.getD q .top).cells.length=sz+1:=by
   intro q hq
   rw[List.getD_eq_getElem?_getD,List.getElem?_eq_getElem hq]
   exact(hone _ (List.getElem_mem hq)).1
  obtain⟨b2,o2,c2,us,g1,g6,g7⟩:=hy1 hys
  ·skip
   have hnl:(flat ys.length (sz+1) us).length=ys.length*i.size:=by rw[flat_length,hsz]
   have hnews:∀j u,(flat ys.length (sz+1) us)[j]? =some u→w.cell? ((⟨b2,o2,none⟩:Addr).add j)=some u:=by
    intro q u hq
    obtain⟨p,r,hp,hr,rfl,rfl⟩:=flat_at hq
    rw[Addr.add_lit]
    exact g6 p r hp hr
   have h1c:∀u∈flat ys.length (sz+1) us,u.oneCell'=true:=by
    intro u hu
    obtain⟨q,hq⟩:=List.getElem?_of_mem hu
    obtain⟨p,r,hp,hr,rfl,rfl⟩:=flat_at hq
    have hmem:(ys.getD p .top)∈ys:=by rw[List.getD_eq_getElem?_getD,List.getElem?_eq_getElem hp];exact List.getElem_mem hp
    have hall:=(hone _ hmem).2
    have hr':r<(ys.getD p .top).cells.length:=by rw[hysz p hp];exact hr
    have hone':((ys.getD p .top).cells.getD r .top).one=true:=by
     rw[List.getD_eq_getElem?_getD (l:=(ys.getD p .top).cells),List.getElem?_eq_getElem hr']
     exact List.all_eq_true.1 hall _ (List.getElem_mem hr')
    exact((g7 p r).one_cell hone').1
   rcases hgr with⟨hx0,hnl0,htok⟩|⟨g,htok,hopn⟩
   ·
    subst hx0;subst hnl0;subst htok
    have hA:a.eval x=.slice none 0 0:=by
     rcases RepC.slice_inv hxv with⟨h1,_⟩|⟨_,_,_,_,_,_,h1,_⟩|⟨_,_,_,h1,_⟩
     ·exact h1
     ·cases h1
     ·cases h1
    have hr:=run_append_nil (P:=P) w t o.type e i zv ht hi hzv ⟨b2,o2,none⟩ ys.length c2 _ hnl hnews hmpos (by simp only[maxLen]at hlen;simp at hlen;omega) (by rw[hbytes];simp at hroom;omega)
    have hge:=grownCap_ge w ys.length 0 e
    have hcm:=grownCap_le_maxLen w ys.length 0 e (by simpa using hlen)
    rw[←hA,←g1]at hr
    have hr':=hred _ _ hr
    refine append_done (n:=0) (m:=ys.length) (sz:=sz+1) (e:=e) (vs:=fun _ _=>undef) (us:=us) (cap:=grownCap w ys.length 0 e) (g:=w.heap.size)
     (w':=w.drew.alloc (.cells ((flat ys.length (sz+1) us).toArray++Builtin.zeroCells zv.cells (grownCap w ys.length 0 e-ys.length)) e)) st hd rfl rfl hmpos
     (fun q hq=>by omega) hysz (fun q r hq=>by omega) g7 (by rw[Nat.zero_add];exact hr') (by simp) rfl rfl rfl
     (fun q hq _=>heap_new_old w.drew _ (by simpa using hq)) (by rw[show w.heap.size=w.drew.heap.size from rfl,heap_new,if_pos rfl]) ?_ (by omega) hcm (fun q r hq=>by omega) (fun q r hq hr=> ?_) (.inl (Nat.le_refl _)) hk
    ·simp only[Array.size_append,List.size_toArray,flat_length,size_zeroCells,hzc,hsz,←Nat.add_mul]
     congr 1;omega
    ·rw[Nat.zero_add,Array.getElem?_append_left (by simpa[flat_length]using lt_row hq hr),List.getElem?_toArray]
     exact flat_get hq hr
   ·
    subst htok
    rcases RepC.slice_inv hxv with⟨_,_,_,h1⟩|⟨b,off,cap,sz1,vs,e1,e2,e3,e4,e5,e6,e7,e8⟩|⟨_,_,_,_,h1⟩
    rotate_left 2
    ·cases h1
    ·cases h1
    ·obtain⟨rfl,rfl,hcap⟩:=e8 g rfl
     obtain⟨k0,cs,cap',k1,k2,k3,k4,k5,k6⟩:=st.models.opn _ _ _ _ hopn
     have hcc:cap'=cap∧sz+1=sz1:=by rw[hcap]at k2;simpa[eq_comm]using k2
     obtain⟨rfl,rfl⟩:=hcc
     have hfit0:xs.length*(sz+1)≤cs.size:=by rw[k3];exact Nat.mul_le_mul_right _ k4
     have hcell:∀o v,I.cell g o=some v→o<xs.length*(sz+1)∧cs[o]? =some v:=by
      intro q v hq
      refine⟨?_,?_⟩
      ·rcases Nat.lt_or_ge q (xs.length*(sz+1))with hlt|hge
       ·exact hlt
       ·rw[k6 q hge]at hq;cases hq
      ·obtain⟨cs',T,fz,q1,q2⟩:=st.models.cell _ _ _ hq
       rw[k1]at q1
       injection q1 with q1
       injection q1 with q1 _ _
       rw[q1];exact q2
     have hold:∀p r,p<xs.length→r<sz+1→cs[p*(sz+1)+r]? =some (vs p r):=by
      intro p r hp hr
      have:=(hcell _ _ (e6 p r hp hr)).2
      simpa using this
     by_cases hroomy:xs.length+ys.length≤cap'
     ·
      have hfit:xs.length*i.size+(flat ys.length (sz+1) us).length≤cs.size:=by
       rw[hnl,hsz,k3,←Nat.add_mul];exact Nat.mul_le_mul_right _ hroomy
      have hr:=run_append_room (P:=P) w t o.type e i ht hi g xs.length cap' cs k1 ⟨b2,o2,none⟩ ys.length c2 _ hnl hnews h1c hroomy hfit
      rw[←g1,←e1]at hr
      have hr':=hred _ _ hr
      have hlenf:(cs.toList.take (xs.length*(sz+1))).length=xs.length*(sz+1):=by simp;omega
      refine append_done (n:=xs.length) (m:=ys.length) (sz:=sz+1) (e:=e) (vs:=vs) (us:=us) (cap:=cap') (g:=g) st hd rfl rfl hmpos (fun q hq=>e5 q hq) hysz (fun q r _=>e7 q r) g7 hr' (by simp) rfl rfl rfl
       (fun q hq hne=>setRow_other w g q _ hne) (setRow_heap w g cs _ e (0,0) k1) ?_ hroomy k5 (fun q r hq hr=> ?_) (fun q r hq hr=> ?_)
       (.inr ⟨rfl,⟨_,hopn⟩,hcap,fun q v hq=> ?_⟩) hk
      ·rw[hsz]at hfit⊢
       simp only[List.size_toArray,List.length_append,List.length_take,List.length_drop,Array.length_toList]
       omega
      ·rw[List.getElem?_toArray,List.append_assoc,List.getElem?_append_left (by rw[hsz,hlenf];exact lt_row hq hr),List.getElem?_take,if_pos (by rw[hsz];exact lt_row hq hr)]
       simpa using hold q r hq hr
      ·have hlt:=lt_row hq hr
       rw[List.getElem?_toArray,List.append_assoc,hsz,List.getElem?_append_right (by rw[hlenf,Nat.add_mul];omega),hlenf,List.getElem?_append_left (by rw[flat_length,Nat.add_mul];omega)]
       have:(xs.length+q)*(sz+1)+r-xs.length*(sz+1)=q*(sz+1)+r:=by rw[Nat.add_mul];omega
       rw[this]
       exact flat_get hq hr
      ·obtain⟨q1,q2⟩:=hcell q v hq
       refine⟨by rw[Nat.add_mul];omega,?_⟩
       rw[List.getElem?_toArray,List.append_assoc,hsz,List.getElem?_append_left (by rw[hlenf];exact q1),List.getElem?_take,if_pos q1]
       simpa using q2
     ·
      have hol:(flat xs.length (sz+1) vs).length=xs.length*i.size:=by rw[flat_length,hsz]
      have holds:∀j v,(flat xs.length (sz+1) vs)[j]? =some v→w.cell? ((⟨g,0,none⟩:Addr).add j)=some v:=by
       intro q u hq
       obtain⟨p,r,hp,hr,rfl,rfl⟩:=flat_at hq
       rw[Addr.add_lit,cell_of_heap k1,Nat.zero_add]
       exact hold p r hp hr
      have hr:=run_append_grow (P:=P) w t o.type e i zv ht hi hzv ⟨g,0,none⟩ xs.length cap' _ hol holds ⟨b2,o2,none⟩ ys.length c2 _ hnl hnews (by omega) (by simp only[maxLen]at hlen;omega) (growslice_fits (by omega) (by rw[hbytes];exact hroom))
      have hge:=grownCap_ge w (xs.length+ys.length) cap' e
      have hcm:=grownCap_le_maxLen w (xs.length+ys.length) cap' e hlen
      rw[←g1,←e1]at hr
      have hr':=hred _ _ hr
      refine append_done (n:=xs.length) (m:=ys.length) (sz:=sz+1) (e:=e) (vs:=vs) (us:=us) (g:=w.heap.size) st hd rfl rfl hmpos (fun q hq=>e5 q hq) hysz (fun q r _=>e7 q r) g7 hr' (by simp) rfl rfl rfl
       (fun q hq _=>heap_new_old w.drew _ (by simpa using hq)) (by rw[show w.heap.size=w.drew.heap.size from rfl,heap_new,if_pos rfl]) ?_ hge hcm (fun q r hq hr=> ?_) (fun q r hq hr=> ?_)
       (.inl (Nat.le_refl _)) hk
      ·simp only[Array.size_append,List.size_toArray,flat_length,size_zeroCells,hzc,hsz,←Nat.add_mul]
       congr 1;omega
      ·rw[Array.append_assoc,Array.getElem?_append_left (by simpa[flat_length]using lt_row hq hr),List.getElem?_toArray]
       exact flat_get hq hr
      ·have hlt:=lt_row hq hr
       rw[Array.append_assoc,Array.getElem?_append_right (by simp only[List.size_toArray,flat_length];rw[Nat.add_mul];omega),Array.getElem?_append_left (by simp only[List.size_toArray,flat_length];rw[Nat.add_mul];omega),List.getElem?_toArray]
       have:(xs.length+q)*(sz+1)+r-(flat xs.length (sz+1) vs).toArray.size=q*(sz+1)+r:=by simp only[List.size_toArray,flat_length];rw[Nat.add_mul];omega
       rw[this]
       exact flat_get hq hr
theorem sound_append (st:St E I σ env bx a w) (hd:∀x,o.dst=some x→x<E.n) {t e:TypeId} {x y:Operand} {x' y':Opd} {sz bytes:Nat} {z:AVal}
  (ho:o.op=.call {callee:=.builtin .append,args:=⟨[x,y]⟩,argTypes:=⟨[t,t]⟩}) (hx:ofOpd x=some x') (hy:ofOpd y=some y') (he:tElem P t=some e) (hs:tSize P e=some (sz+1)) (hby:tBytes P e=some bytes) (hz:tZero P e=some z)
  (hzl:z.cells.length=sz+1) (h:vcOp P (.append (sz+1) e bytes x' y') o.dst k env σ):o.wp P a w (Up E k) Q:=by
 have hxv:=st.opd hx
 have hyv:=st.opd hy
 simp only[vcOp]at h
 generalize evalOpd env x'=ex at hxv h
 generalize evalOpd env y'=ey at hyv h
 split at h
 case h_2=>exact h.elim
 rename_i xs nl tok
 split at h
 case h_3=>exact h.elim
 case h_1=>
  rename_i ys nl2 tok2
  obtain⟨hgr,hone,hlen,hroom,hk⟩:=h
  have hysz:∀q,q<ys.length→(ys.getD q .top).cells.length=sz+1:=by
   intro q hq
   rw[List.getD_eq_getElem?_getD,List.getElem?_eq_getElem hq]
   exact(hone _ (List.getElem_mem hq)).1
  obtain⟨s1,s2⟩:=src_slice st.models hyv hysz
  exact append_core st hd ho he hs hby hz hzl hxv s1 s2 hgr hone hlen hroom hk
 case h_2=>
  rename_i b q n c
  obtain⟨h1,cs,hob,hle,hgr,hone,hlen,hroom,hk⟩:=h
  obtain rfl:sz=0:=by omega
  have hl:((cs.drop q).take n).length=n:=by simp;omega
  obtain⟨s1,s2⟩:=src_ref st.models hyv hob hle hone
  exact append_core st hd ho he hs hby hz hzl hxv s1 s2 hgr (elemsOk_one hone) (by rw[hl];exact hlen) (by rw[hl];exact hroom) hk
theorem src_cells {ey:Ent} {v:Value} {sz m:Nat} {L:List AVal} (hyv:EntVal I bx v ey) (mo:Models I σ w) (h:SrcM σ (sz+1) ey m L):
  L.length=m*(sz+1)∧(m=0→∃B c2,v=.slice B 0 c2)∧(0<m→∃(b2 o2 c2:Nat) (news:List Value),v=.slice (some ⟨b2,o2,none⟩) m c2∧news.length=m*(sz+1)∧
   (∀j u,news[j]? =some u→w.cell? ((⟨b2,o2,none⟩:Addr).add j)=some u)∧(∀u∈news,u.oneCell'=true)∧∀q,q<m*(sz+1)→∃u,news[q]? =some u∧RepC I u (L.getD q .top)):=by
 unfold SrcM at h
 split at h
 ·rename_i ys nl tok
  obtain⟨hone,rfl,rfl⟩:=h
  have hysz:∀q,q<ys.length→(ys.getD q .top).cells.length=sz+1:=by
   intro q hq
   rw[List.getD_eq_getElem?_getD,List.getElem?_eq_getElem hq]
   exact(hone _ (List.getElem_mem hq)).1
  obtain⟨s0,s1⟩:=src_slice mo hyv hysz
  obtain⟨f1,f2⟩:=flat_cells (sz:=sz+1) (xs:=ys) fun y hy=>(hone y hy).1
  refine⟨f1,fun h0=>s0 (List.length_eq_zero_iff.1 h0),fun hm=> ?_⟩
  obtain⟨b2,o2,c2,us,g1,g6,g7⟩:=s1 (List.length_pos_iff.1 hm)
  refine⟨b2,o2,c2,flat ys.length (sz+1) us,g1,flat_length _ _ _,?_,?_,?_⟩
  ·intro q u hq
   obtain⟨p,r,hp,hr,rfl,rfl⟩:=flat_at hq
   rw[Addr.add_lit]
   exact g6 p r hp hr
  ·intro u hu
   obtain⟨q,hq⟩:=List.getElem?_of_mem hu
   obtain⟨p,r,hp,hr,rfl,rfl⟩:=flat_at hq
   have hmem:(ys.getD p .top)∈ys:=by rw[List.getD_eq_getElem?_getD,List.getElem?_eq_getElem hp];exact List.getElem_mem hp
   have hall:=(hone _ hmem).2
   have hr':r<(ys.getD p .top).cells.length:=by rw[hysz p hp];exact hr
   have hone':((ys.getD p .top).cells.getD r .top).one=true:=by
    rw[List.getD_eq_getElem?_getD (l:=(ys.getD p .top).cells),List.getElem?_eq_getElem hr']
    exact List.all_eq_true.1 hall _ (List.getElem_mem hr')
   exact((g7 p r).one_cell hone').1
  ·intro q hq
   have hi':q/(sz+1)<ys.length:=(Nat.div_lt_iff_lt_mul (by omega)).2 hq
   have hj:q%(sz+1)<sz+1:=Nat.mod_lt _ (by omega)
   have hqe:q/(sz+1)*(sz+1)+q%(sz+1)=q:=by rw[Nat.mul_comm];exact Nat.div_add_mod q (sz+1)
   refine⟨_,by rw[←hqe];exact flat_get hi' hj,?_⟩
   rw[←hqe,f2 _ _ hi' hj,hqe]
   exact g7 _ _
 ·rename_i b o' n c
  obtain⟨cs,hob,hle,rfl,rfl,hall⟩:=h
  obtain⟨vs,T,k1,k2,k3,_⟩:=mo.obj b cs hob
  have hv:v=.slice (some ⟨b,o',none⟩) m c:=by
   simp only[EntVal]at hyv
   cases hyv;rfl
  have hL:((cs.drop o').take (m*(sz+1))).length=m*(sz+1):=by simp;omega
  have hat:∀q,q<m*(sz+1)→((cs.drop o').take (m*(sz+1))).getD q .top=cs.getD (o'+q) .top:=by
   intro q hq
   rw[List.getD_eq_getElem?_getD,List.getElem?_take,if_pos hq,List.getElem?_drop,←List.getD_eq_getElem?_getD]
  have hnl:((vs.toList.drop o').take (m*(sz+1))).length=m*(sz+1):=by simp;omega
  have hnat:∀q u,((vs.toList.drop o').take (m*(sz+1)))[q]? =some u→q<m*(sz+1)∧vs[o'+q]? =some u:=by
   intro q u hq
   rw[List.getElem?_take]at hq
   split at hq
   ·rename_i hlt
    rw[List.getElem?_drop]at hq
    exact⟨hlt,by simpa using hq⟩
   ·cases hq
  refine⟨hL,fun h0=>⟨_,_,by rw[hv,h0]⟩,fun _=>⟨b,o',c,(vs.toList.drop o').take (m*(sz+1)),hv,hnl,?_,?_,?_⟩⟩
  ·intro q u hq
   rw[Addr.add_lit,cell_of_heap k1]
   exact(hnat q u hq).2
  ·intro u hu
   obtain⟨q,hq⟩:=List.getElem?_of_mem hu
   obtain⟨hlt,hq'⟩:=hnat q u hq
   have hr:=k3 (o'+q)
   rw[Array.getD_eq_getD_getElem?,hq']at hr
   have h1:(((cs.drop o').take (m*(sz+1))).getD q .top).one=true:=by
    rw[List.getD_eq_getElem?_getD,List.getElem?_eq_getElem (by omega)]
    exact List.all_eq_true.1 hall _ (List.getElem_mem _)
   rw[hat q hlt]at h1
   exact(RepC.one_cell hr h1).1
  ·intro q hq
   have hlt:o'+q<vs.size:=by omega
   refine⟨vs[o'+q],?_,?_⟩
   ·rw[List.getElem?_take,if_pos hq,List.getElem?_drop]
    simp[hlt]
   ·rw[hat q hq]
    have:=k3 (o'+q)
    rw[Array.getD_eq_getD_getElem?,Array.getElem?_eq_getElem hlt]at this
    exact this
 ·exact h.elim
theorem run_append_roomT (t ty e T:TypeId) (i:TypeInfo) (ht:P.underlying t=some (.slice e)) (hi:P.info? e=some i)
  (g sLen sCap:Nat) (cur:Array Value) (hg:w.heap[g]? =some (.cells cur T (0,0)))
  (a:Addr) (m c:Nat) (news:List Value) (hl:news.length=m*i.size) (hnews:∀j u,news[j]? =some u→w.cell? (a.add j)=some u) (h1:∀u∈news,u.oneCell'=true)
  (hroom:sLen+m≤sCap) (hfit:sLen*i.size+news.length≤cur.size):
  (Builtin.append_ #[t,t] ty #[.slice (some ⟨g,0,none⟩) sLen sCap,.slice (some a) m c]).run P w=
   .ok (.slice (some ⟨g,0,none⟩) (sLen+m) sCap) (w.setRow g (cur.toList.take (sLen*i.size)++news++cur.toList.drop (sLen*i.size+news.length)).toArray):=by
 have hf:=run_firstCells_some (P:=P) w i.size m a m c news hl hnews
 have hst:=run_storeCells_at P g (sLen*i.size) T news 0 cur w hg (by simpa using hfit) h1
 simp only[Nat.add_zero]at hst
 simp[Builtin.append_,run_underlying ht,sizeOf,typeInfo,hi,Builtin.lenOf,hroom,hf,Addr.add_lit,hst]
theorem sound_appendM (st:St E I σ env bx a w) (hd:∀x,o.dst=some x→x<E.n) {t e:TypeId} {x y:Operand} {x' y':Opd} {sz bytes:Nat} {z:AVal}
  (ho:o.op=.call {callee:=.builtin .append,args:=⟨[x,y]⟩,argTypes:=⟨[t,t]⟩}) (hx:ofOpd x=some x') (hy:ofOpd y=some y') (he:tElem P t=some e) (hs:tSize P e=some (sz+1)) (hby:tBytes P e=some bytes) (hz:tZero P e=some z)
  (hzl:z.cells.length=sz+1) (h:vcOp P (.appendM (sz+1) e bytes x' y') o.dst k env σ):o.wp P a w (Up E k) Q:=by
 have hxv:=st.opd hx
 have hyv:=st.opd hy
 have ht:=underlying_of_tElem he
 obtain⟨i,zv,hi,hzv,hof⟩:=zero_of hz
 have hsz:i.size=sz+1:=by
  obtain⟨i',hi',h'⟩:=info_of_tSize hs
  rw[hi]at hi';cases hi';exact h'
 have hbytes:i.bytes=bytes:=by
  unfold tBytes at hby;rw[hi]at hby;simpa using hby
 have hzc:zv.cells.size=i.size:=by rw[(ofV_cells I hof).1,hzl,hsz]
 have hred:∀v w',(Builtin.append_ #[t,t] o.type #[a.eval x,a.eval y]).run P w=.ok v w'→(execOp a.eval o).run P w=.ok (.value v) w':=by
  intro v w' hr
  simp[execOp,ho,resolve,invoke,builtin,hr]
 simp only[vcOp]at h
 obtain⟨m,L,hsrc,h⟩:=h
 obtain⟨hLl,src0,src1⟩:=src_cells hyv st.models hsrc
 generalize evalOpd env x'=ex at hxv h
 split at h
 case h_3=>exact h.elim
 case h_2=>
  obtain⟨hlen,hroom,hk0,hk1⟩:=h
  have hA:a.eval x=.slice none 0 0:=by
   rcases RepC.slice_inv hxv with⟨h1,_⟩|⟨_,_,_,_,_,_,h1,_⟩|⟨_,_,_,h1,_⟩
   ·exact h1
   ·cases h1
   ·cases h1
  by_cases hm0:m=0
  ·obtain⟨B,c2,hB⟩:=src0 hm0
   have hr:=run_append_zero (P:=P) o.type ht hi (A:=none) (B:=B) (c2:=c2) (Nat.le_refl 0) w
   rw[←hA,←hB]at hr
   exact wp_step st hd (hred _ _ hr) st.models (.refl _ _ _) (e:=.val (.slice [] true none)) hxv (hk0 hm0)
  ·obtain⟨b2,o2,c2,news,g1,g2,g3,g4,g5⟩:=src1 (by omega)
   have hr:=run_append_nil (P:=P) w t o.type e i zv ht hi hzv ⟨b2,o2,none⟩ m c2 news (by rw[hsz];exact g2) g3 (by omega) (by simp only[maxLen]at hlen;omega) (by rw[hbytes];omega)
   have hge:=grownCap_ge w m 0 e
   have hcm:=grownCap_le_maxLen w m 0 e hlen
   rw[←hA,←g1]at hr
   generalize grownCap w m 0 e=c' at hr hge hcm
   refine wp_step st hd (hred _ _ hr) (st.models.drew.newObj e ?_ fun j=> ?_) (Evo.drew.trans (Evo.newObj st.models.drew _ _)) (e:=.val (.ref w.heap.size 0 m c')) (RepC.ref _ _ _ _ hge hcm)
    (hk1 (by omega) _ _ (st.models.fresh_of_ge (Nat.le_refl _)) hge hcm)
   ·simp only[Array.size_append,List.size_toArray,List.length_append,g2,hLl,size_zeroCells,hzc,hsz,List.length_replicate]
   ·rw[Array.getD_eq_getD_getElem?,List.getD_eq_getElem?_getD]
    by_cases h2:j<m*(sz+1)
    ·rw[Array.getElem?_append_left (by simpa[g2]using h2),List.getElem?_toArray,List.getElem?_append_left (by rw[hLl];exact h2)]
     obtain⟨u,hu,hru⟩:=g5 j h2
     rw[hu,←List.getD_eq_getElem?_getD]
     exact hru
    ·rw[List.getElem?_append_right (by rw[hLl];omega),List.getElem?_replicate]
     split<;>exact .top _
 rename_i b n c
 obtain⟨cs,hob,hcl,hlen,hroom,hk0,hk1,hk2⟩:=h
 have hA:a.eval x=.slice (some ⟨b,0,none⟩) n c:=by
  generalize a.eval x=v at hxv
  cases hxv;rfl
 have hnc:n≤c∧c≤maxLen:=by
  generalize a.eval x=v at hxv
  cases hxv with
  |ref _ _ _ _ hc hm=>exact⟨hc,hm⟩
 by_cases hm0:m=0
 ·obtain⟨B,c2,hB⟩:=src0 hm0
  have hr:=run_append_zero (P:=P) o.type ht hi (A:=some ⟨b,0,none⟩) (B:=B) (c2:=c2) hnc.1 w
  rw[←hA,←hB]at hr
  exact wp_step st hd (hred _ _ hr) st.models (.refl _ _ _) (e:=.val (.ref b 0 n c)) hxv (hk0 hm0)
 ·obtain⟨b2,o2,c2,news,g1,g2,g3,g4,hnew⟩:=src1 (by omega)
  obtain⟨vs,T,k1,k2,k3,_⟩:=st.models.obj b cs hob
  have hnfit:n*(sz+1)≤cs.length:=by rw[hcl];exact Nat.mul_le_mul_right _ hnc.1
  by_cases hgrow:c<n+m
  ·
   have hol:(vs.toList.take (n*(sz+1))).length=n*i.size:=by rw[hsz];simp;omega
   have holds:∀j v,(vs.toList.take (n*(sz+1)))[j]? =some v→w.cell? ((⟨b,0,none⟩:Addr).add j)=some v:=by
    intro q u hq
    rw[Addr.add_lit,cell_of_heap k1,Nat.zero_add]
    rw[List.getElem?_take]at hq
    split at hq
    ·simpa using hq
    ·cases hq
   have hr:=run_append_grow (P:=P) w t o.type e i zv ht hi hzv ⟨b,0,none⟩ n c _ hol holds ⟨b2,o2,none⟩ m c2 news (by rw[hsz];exact g2) g3 (by omega) (by simp only[maxLen]at hlen;omega) (growslice_fits (by omega) (by rw[hbytes];exact hroom))
   have hge:=grownCap_ge w (n+m) c e
   have hcm:=grownCap_le_maxLen w (n+m) c e hlen
   rw[←g1,←hA]at hr
   generalize grownCap w (n+m) c e=c' at hr hge hcm
   have hlt1:(vs.toList.take (n*(sz+1))).length=n*(sz+1):=by simp;omega
   have hlt2:(cs.take (n*(sz+1))).length=n*(sz+1):=by simp;omega
   refine wp_step st hd (hred _ _ hr) (st.models.drew.newObj e ?_ fun j=> ?_) (Evo.drew.trans (Evo.newObj st.models.drew _ _)) (e:=.val (.ref w.heap.size 0 (n+m) c')) (RepC.ref _ _ _ _ hge hcm)
    (hk1 (by omega) hgrow _ _ (st.models.fresh_of_ge (Nat.le_refl _)) hge hcm)
   ·simp only[Array.size_append,List.size_toArray,List.length_append,hlt1,hlt2,g2,hLl,size_zeroCells,hzc,hsz,List.length_replicate]
   ·have hs1:(vs.toList.take (n*(sz+1))).toArray.size=n*(sz+1):=by simp only[List.size_toArray,hlt1]
    have hs2:((vs.toList.take (n*(sz+1))).toArray++news.toArray).size=n*(sz+1)+m*(sz+1):=by simp only[Array.size_append,List.size_toArray,hlt1,g2]
    rw[Array.getD_eq_getD_getElem?,List.getD_eq_getElem?_getD,List.append_assoc]
    by_cases h1:j<n*(sz+1)
    ·rw[Array.append_assoc,Array.getElem?_append_left (by omega),List.getElem?_toArray,List.getElem?_take,if_pos h1,List.getElem?_append_left (by omega),List.getElem?_take,if_pos h1,
      Array.getElem?_toList,←Array.getD_eq_getD_getElem?,←List.getD_eq_getElem?_getD]
     exact k3 j
    ·by_cases h2:j<n*(sz+1)+m*(sz+1)
     ·rw[Array.getElem?_append_left (by omega),Array.getElem?_append_right (by omega),hs1,List.getElem?_toArray,List.getElem?_append_right (by omega),hlt2,List.getElem?_append_left (by rw[hLl];omega)]
      obtain⟨u,hu,hru⟩:=hnew (j-n*(sz+1)) (by omega)
      rw[hu,←List.getD_eq_getElem?_getD]
      exact hru
     ·rw[List.getElem?_append_right (by omega),hlt2,List.getElem?_append_right (by rw[hLl];omega),List.getElem?_replicate]
      split<;>exact .top _
  ·
   have hle:n+m≤c:=by omega
   have hmul:(n+m)*(sz+1)≤c*(sz+1):=Nat.mul_le_mul_right _ hle
   have hfit:n*(sz+1)+m*(sz+1)≤vs.size:=by rw[←Nat.add_mul];omega
   have hr:=run_append_roomT (P:=P) (w:=w) t o.type e T i ht hi b n c vs k1 ⟨b2,o2,none⟩ m c2 news (by rw[hsz];exact g2) g3 g4 hle (by rw[hsz,g2];exact hfit)
   rw[←g1,←hA,hsz]at hr
   obtain⟨s1,s2⟩:=row_spliced (cs:=vs) (vs:=news.toArray) (off:=n*(sz+1)) (by simp only[List.size_toArray,g2];exact hfit)
   obtain⟨r1,r2⟩:=rep_splice (cs:=vs) (vs:=news.toArray) (as:=cs) (bs:=L) (off:=n*(sz+1)) k3 k2 (fun j=>by
    rw[Array.getD_eq_getD_getElem?,List.getElem?_toArray]
    by_cases hj:j<m*(sz+1)
    ·obtain⟨u,hu,hru⟩:=hnew j hj
     rw[hu];exact hru
    ·have hn:L.getD j .top=.top:=by rw[List.getD_eq_getElem?_getD,List.getElem?_eq_none (by rw[hLl];omega)];rfl
     rw[hn]
     exact .top _) (by simp only[List.size_toArray,g2,hLl]) (by rw[←k2,hLl];exact hfit) ⟨s1,s2⟩
   exact wp_step st hd (hred _ _ hr) (st.models.setObj hob r1 r2) (Evo.setObj hob _) (e:=.val (.ref b 0 (n+m) c)) (RepC.ref _ _ _ _ hle hnc.2) (hk2 (by omega) hle)
theorem sound_clearS (st:St E I σ env bx a w) (hd:∀x,o.dst=some x→x<E.n) {t e:TypeId} {x:Operand} {x':Opd} {sz:Nat} {z:AVal}
  (ho:o.op=.call {callee:=.builtin .clear,args:=⟨[x]⟩,argTypes:=⟨[t]⟩}) (hx:ofOpd x=some x') (ht:P.underlying t=some (.slice e)) (hs:tSize P e=some sz) (hz:tZero P e=some z)
  (hzl:z.cells.length=sz) (hz1:z.cells.all AVal.one=true) (h:vcOp P (.clearS sz z x') o.dst k env σ):o.wp P a w (Up E k) Q:=by
 have hxv:=st.opd hx
 obtain⟨i,zv,hi,hzv,hof⟩:=zero_of hz
 obtain⟨hzc,hzr⟩:=ofV_cells I hof
 have hred:∀w',(Builtin.clear_ #[t] o.type #[a.eval x]).run P w=.ok (.tuple #[]) w'→(execOp a.eval o).run P w=.ok (.value (.tuple #[])) w':=by
  intro w' hr
  simp[execOp,ho,resolve,invoke,builtin,hr]
 have hrep:∀J,EntVal J bx (.tuple #[]) (.val (.tuple [])):=fun J=>RepC.tuple _ _ rfl fun j=>by cases j<;>exact RepC.top _
 simp only[vcOp]at h
 generalize evalOpd env x'=ex at hxv h
 split at h
 case h_3=>exact h.elim
 ·rename_i nl tok
  have hv:∃A c,a.eval x=.slice A 0 c:=by
   rcases RepC.slice_inv hxv with⟨h1,_⟩|⟨_,_,_,_,_,h1,_⟩|⟨_,h1,_⟩
   ·exact⟨_,_,h1⟩
   ·exact⟨_,_,h1⟩
   ·exact⟨_,_,h1⟩
  obtain⟨A,c,hv⟩:=hv
  refine wp_step st hd (hred _ ?_) st.models (.refl _ _ _) (hrep _) h
  cases A<;>simp[Builtin.clear_,hv,run_underlying ht]
 ·rename_i b q n c
  obtain⟨cs,hob,hle,h⟩:=h
  have hv:a.eval x=.slice (some ⟨b,q,none⟩) n c:=by
   simp only[EntVal]at hxv
   generalize a.eval x=v at hxv
   cases hxv;rfl
  obtain⟨vs,T,k1,k2,k3,_⟩:=st.models.obj b cs hob
  by_cases hn0:n=0
  ·subst hn0
   refine wp_step st hd (hred _ ?_) st.models (.refl _ _ _) (hrep _) ?_
   ·simp[Builtin.clear_,hv,run_underlying ht]
   ·have:σ.setObj b (splice cs q ((List.range (0*sz)).map fun q=>z.cells.getD (q%sz) .top))=σ:=by
     have h0:splice cs q ((List.range (0*sz)).map fun q=>z.cells.getD (q%sz) .top)=cs:=by simp[splice]
     rw[h0]
     unfold Store.setObj
     have:(fun x=>bif x==b then some cs else σ.obj x)=σ.obj:=by
      funext x
      by_cases hxb:x=b
      ·subst hxb;simp[hob]
      ·have hb:(x==b)=false:=by simpa using hxb
       rw[hb];rfl
     rw[this]
    rw[this]at h
    exact h
  ·have hnews:(Builtin.zeroCells zv.cells n).toList.length=n*sz:=by simp[size_zeroCells,hzc,hzl]
   have hat:∀j:Nat,j<n*sz→(Builtin.zeroCells zv.cells n).toList[j]? =some (zv.cells[j%sz]!):=by
    intro j hj
    simp[Builtin.zeroCells,hzc,hzl,hj]
   have hmod:∀j:Nat,j<n*sz→j%sz<zv.cells.size:=by
    intro j hj
    rw[hzc,hzl]
    refine Nat.mod_lt _ ?_
    rcases Nat.eq_zero_or_pos sz with h0|h0
    ·subst h0;simp at hj
    ·exact h0
   have hcell:∀j:Nat,j<n*sz→RepC I (zv.cells[j%sz]!) (z.cells.getD (j%sz) .top):=by
    intro(j:Nat) hj
    have:=hzr (j%sz)
    rw[Array.getD_eq_getD_getElem?,Array.getElem?_eq_getElem (hmod j hj)]at this
    rw[getElem!_pos zv.cells (j%sz) (hmod j hj)]
    exact this
   have h1c:∀u∈(Builtin.zeroCells zv.cells n).toList,u.oneCell'=true:=by
    intro u hu
    obtain⟨j,hj⟩:=List.getElem?_of_mem hu
    have hlt:j<n*sz:=by have:=(List.getElem?_eq_some_iff.1 hj).1;omega
    rw[hat j hlt]at hj
    simp only[Option.some.injEq]at hj
    subst hj
    have h2:(z.cells.getD (j%sz) .top).one=true:=by
     have:=hmod j hlt
     rw[hzc]at this
     rw[List.getD_eq_getElem?_getD,List.getElem?_eq_getElem this]
     exact List.all_eq_true.1 hz1 _ (List.getElem_mem _)
    exact((hcell j hlt).one_cell h2).1
   have hfit:q+(Builtin.zeroCells zv.cells n).size≤vs.size:=by rw[size_zeroCells,hzc,hzl];omega
   have hst:=run_storeCells_at P b q T (Builtin.zeroCells zv.cells n).toList 0 vs w k1 (by simpa using hfit) h1c
   simp only[Nat.add_zero]at hst
   have hr:(Builtin.clear_ #[t] o.type #[a.eval x]).run P w=.ok (.tuple #[]) (w.setRow b (vs.toList.take q++(Builtin.zeroCells zv.cells n).toList++vs.toList.drop (q+(Builtin.zeroCells zv.cells n).toList.length)).toArray):=by
    have hzro:(zeroValue e).run P w=.ok zv w:=by simp[zeroValue,typeInfo,hi,hzv]
    match n,hn0 with
    |n+1,_=>simp[Builtin.clear_,hv,run_underlying ht,hzro,hst]
   obtain⟨s1,s2⟩:=row_spliced (cs:=vs) (vs:=Builtin.zeroCells zv.cells n) (off:=q) hfit
   obtain⟨r1,r2⟩:=rep_splice (cs:=vs) (vs:=Builtin.zeroCells zv.cells n) (as:=cs) (bs:=(List.range (n*sz)).map fun q=>z.cells.getD (q%sz) .top) (off:=q) k3 k2 (fun j=>by
    by_cases hj:j<n*sz
    ·have h1:(Builtin.zeroCells zv.cells n)[j]? =some (zv.cells[j%sz]!):=by rw[←hat j hj];simp
     have h2:((List.range (n*sz)).map fun q=>z.cells.getD (q%sz) .top).getD j .top=z.cells.getD (j%sz) .top:=by
      rw[List.getD_eq_getElem?_getD,List.getElem?_map,List.getElem?_range hj];rfl
     rw[Array.getD_eq_getD_getElem?,h1,h2]
     exact hcell j hj
    ·have h2:((List.range (n*sz)).map fun q=>z.cells.getD (q%sz) .top).getD j .top=.top:=by
      rw[List.getD_eq_getElem?_getD,List.getElem?_eq_none (by simp;omega)];rfl
     rw[h2]
     exact .top _) (by simp[size_zeroCells,hzc,hzl]) (by simp;omega) ⟨s1,s2⟩
   exact wp_step st hd (hred _ hr) (st.models.setObj hob r1 r2) (Evo.setObj hob _) (hrep _) h
theorem sound_appendZ (st:St E I σ env bx a w) (hd:∀x,o.dst=some x→x<E.n) {t u e:TypeId} {x y:Operand} {x' y':Opd} {sz bytes:Nat} {z:AVal} {kn:IntKind}
  (ho:o.op=.call {callee:=.builtin .append,args:=⟨[x,y]⟩,argTypes:=⟨[t,u]⟩}) (hx:ofOpd x=some x') (hy:ofOpd y=some y') (he:tElem P t=some e) (hu:P.underlying u=some (.int kn)) (hs:tSize P e=some (sz+1)) (hby:tBytes P e=some bytes) (hz:tZero P e=some z)
  (hzl:z.cells.length=sz+1) (h:vcOp P (.appendZ (sz+1) e bytes x' y') o.dst k env σ):o.wp P a w (Up E k) Q:=by
 have hxv:=st.opd hx
 have hyv:=st.opd hy
 have ht:=underlying_of_tElem he
 obtain⟨i,zv,hi,hzv,hof⟩:=zero_of hz
 have hsz:i.size=sz+1:=by
  obtain⟨i',hi',h'⟩:=info_of_tSize hs
  rw[hi]at hi';cases hi';exact h'
 have hbytes:i.bytes=bytes:=by
  unfold tBytes at hby;rw[hi]at hby;simpa using hby
 have hzc:zv.cells.size=sz+1:=by rw[(ofV_cells I hof).1,hzl]
 simp only[vcOp]at h
 generalize evalOpd env x'=ex at hxv h
 generalize evalOpd env y'=ey at hyv h
 split at h
 case h_2=>exact h.elim
 rename_i m
 obtain⟨h0,h63,hroom,hk0,hk1⟩:=h
 have hA:a.eval x=.slice none 0 0:=by
  rcases RepC.slice_inv hxv with⟨h1,_⟩|⟨_,_,_,_,_,_,h1,_⟩|⟨_,_,_,h1,_⟩
  ·exact h1
  ·cases h1
  ·cases h1
 have hB:=RepC.int_inv hyv
 have hred:∀v w',(Builtin.append_ #[t,u] o.type #[a.eval x,a.eval y]).run P w=.ok v w'→(execOp a.eval o).run P w=.ok (.value v) w':=by
  intro v w' hr
  simp[execOp,ho,resolve,invoke,builtin,hr]
 obtain⟨n,rfl⟩:=Int.eq_ofNat_of_zero_le h0
 have h63':(n:Int)≤9223372036854775807:=h63
 by_cases hn:n=0
 ·subst hn
  have hr:(Builtin.append_ #[t,u] o.type #[a.eval x,a.eval y]).run P w=.ok (.slice none 0 0) w:=by
   have hw:IntKind.i64.wrap ((0:Nat):Int)=0:=rfl
   simp[hA,hB,Builtin.append_,run_underlying ht,run_underlying hu,sizeOf,typeInfo,hi,asInt,asIntOf]
   simp[IntKind.wrap_i64]
  exact wp_step st hd (hred _ _ hr) st.models (.refl _ _ _) (e:=.val (.slice [] true none)) RepC.nilS (hk0 rfl)
 ·have hr:=Lib.run_append_nil_zeros (P:=P) w t u o.type e i zv .i64 kn ht hu hi hzv n (by omega) (by omega) h63' (by
   rw[hbytes]
   have:((n*bytes:Nat):Int)≤140737488355328:=by rw[Int.natCast_mul];simpa using hroom
   omega)
  rw[←hA]at hr
  have hB':a.eval y=.int .i64 (n:Int):=hB
  rw[←hB']at hr
  have hge:=grownCap_ge w n 0 e
  have hcm:=grownCap_le_maxLen w n 0 e (by simp only[maxLen];omega)
  obtain⟨m2,ev2⟩:=open_row st.models (w':=w.drew.alloc (.cells (Builtin.zeroCells zv.cells n++Builtin.zeroCells zv.cells (grownCap w n 0 e-n)) e)) (b:=w.heap.size) (cap:=grownCap w n 0 e) (sz:=sz+1) (n:=0) (e:=e) (tok:=none)
   (by simp) rfl rfl rfl (fun q hq _=>heap_new_old w.drew _ (by simpa using hq)) (by rw[show w.heap.size=w.drew.heap.size from rfl,heap_new,if_pos rfl]) (by
    simp only[Array.size_append,size_zeroCells,hzc,←Nat.add_mul]
    congr 1;omega) (Nat.zero_le _) hcm (.inl (Nat.le_refl _))
  have hdrop:σ.dropOpn none=σ:=by cases σ;simp[Store.dropOpn]
  rw[hdrop]at m2 ev2
  exact wp_step st hd (hred _ _ hr) m2 ev2 (e:=.val (.raw w.heap.size n)) (RepC.raw _ _ _ _ hge hcm (Sealed.grow_cap _ _ _ _)) (by
   have:=hk1 (by simp;omega) w.heap.size (st.models.fresh_of_ge (Nat.le_refl _))
   simpa using this)
theorem sound_cap (st:St E I σ env bx a w) (hd:∀x,o.dst=some x→x<E.n) {t e:TypeId} {x:Operand} {x':Opd}
  (ho:o.op=.call {callee:=.builtin .cap,args:=⟨[x]⟩,argTypes:=⟨[t]⟩}) (hx:ofOpd x=some x') (ht:P.underlying t=some (.slice e)) (h:vcOp P (.cap x') o.dst k env σ):o.wp P a w (Up E k) Q:=by
 have hxv:=st.opd hx
 simp only[vcOp]at h
 generalize evalOpd env x'=ex at hxv h
 split at h
 case h_2=>exact h.elim
 rename_i xs nl tok
 obtain⟨A,c,hA,hc,hm,hnl⟩:∃A c,a.eval x=.slice A xs.length c∧xs.length≤c∧c≤maxLen∧(nl=true→c=0):=by
  rcases RepC.slice_inv hxv with⟨h1,h2,_⟩|⟨b,off,cap,_,_,h1,h2,h3,h4,_⟩|⟨_,h1,h2,h3,_⟩
  ·subst h2;exact⟨_,_,h1,Nat.le_refl _,Nat.zero_le _,fun _=>rfl⟩
  ·exact⟨_,_,h1,h3,h4,fun h=>by rw[h2]at h;cases h⟩
  ·subst h2;exact⟨_,_,h1,Nat.le_refl _,Nat.zero_le _,fun _=>rfl⟩
 exact wp_step st hd (v:=.int .i64 c) (by simp[execOp,ho,resolve,invoke,builtin,hA,Builtin.cap_,run_underlying ht,goInt]) st.models (.refl _ _ _) (e:=.val (.int .i64 c)) (RepC.int _ _) (h c hc hm hnl)
end
end Go.AL
