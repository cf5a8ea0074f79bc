/-
  AN ABSTRACT LOGIC OVER THE MODEL, part 4: operations that read or turn memory.
-/
import Derived.Test.YtfoeaeeaflmkfaaGreatAL3
namespace Go.AL
open Go.RowKit
section
variable {P:Program} {E:Entry} {I:Sealed} {σ:Store} {env:Env} {bx:Nat→Nat} {a:Act} {w:World} {o:Oper}
theorem heap_new (w:World) (x:Obj) (b:Nat):(w.alloc x).heap[b]? =if b=w.heap.size then some x else w.heap[b]? :=by
 simp only[World.alloc]
 by_cases h:b=w.heap.size
 ·subst h;simp
 ·rw[if_neg h,Array.getElem?_push,if_neg h]
theorem heap_new_old (w:World) (x:Obj) {b:Nat} (h:b<w.heap.size):(w.alloc x).heap[b]? =w.heap[b]? :=by
 rw[heap_new,if_neg (by omega)]
theorem Models.alloc (m:Models I σ w) (x:Obj):Models I σ (w.alloc x) where
 cell b o v h:=by
  obtain⟨cs,T,fz,h1,h2⟩:=m.cell b o v h
  exact⟨cs,T,fz,(heap_new_old w x (lt_of_heap h1)).trans h1,h2⟩
 cap b n h:=by have:=m.cap b n h;simp;omega
 obj b as h:=by
  obtain⟨cs,T,h1,h2⟩:=m.obj b as h
  exact⟨cs,T,(heap_new_old w x (lt_of_heap h1)).trans h1,h2⟩
 opn b n sz e h:=by
  obtain⟨h0,cs,cap,h1,h2⟩:=m.opn b n sz e h
  exact⟨h0,cs,cap,(heap_new_old w x (lt_of_heap h1)).trans h1,h2⟩
 mp b es h:=by
  obtain⟨h1,h2,h3,h4⟩:=m.mp b es h
  exact⟨h1,h2,fun cs T fz hc=>h3 cs T fz ((heap_new_old w x h4.lt).symm.trans hc),h4.keep (.refl I) (by simp) fun y o hy _=>(heap_new_old w x (lt_of_heap hy)).trans hy⟩
theorem Evo.alloc (x:Obj):Evo I σ w I σ (w.alloc x):=
 ⟨.refl I,by simp,rfl,rfl,rfl,fun b hb h=>⟨heap_new_old w x hb,h,fun _=>rfl,rfl⟩⟩
theorem Models.drew (m:Models I σ w):Models I σ w.drew:=⟨m.cell,m.cap,m.obj,m.opn,m.mp⟩
theorem Evo.drew:Evo I σ w I σ w.drew:=⟨.refl I,Nat.le_refl _,rfl,rfl,rfl,fun _ _ h=>⟨rfl,h,fun _=>rfl,rfl⟩⟩
theorem Models.undrew (m:Models I σ w.drew):Models I σ w:=⟨m.cell,m.cap,m.obj,m.opn,m.mp⟩
theorem St.world (st:St E I σ env bx a w) {w':World} (ev:Evo I σ w I σ w') (m:Models I σ w'):St E I σ env bx a w':=
 ⟨m,fun s=>(st.ents s).evo ev,st.inj,st.low,st.evo.trans ev,st.size,st.defers⟩
theorem Models.newObj (m:Models I σ w) {cs:Array Value} {as:List AVal} (T:TypeId) (hl:cs.size=as.length) (hr:∀j,RepC I (cs.getD j undef) (as.getD j .top)):
  Models I (σ.setObj w.heap.size as) (w.alloc (.cells cs T)) where
 cell:=(m.alloc _).cell
 cap:=(m.alloc _).cap
 obj b bs h:=by
  by_cases e:b=w.heap.size
  ·subst e
   simp only[Store.setObj,beq_self_eq_true,cond_true,Option.some.injEq]at h
   subst h
   exact⟨cs,T,by rw[heap_new,if_pos rfl],hl,hr,m.none_of_ge (Nat.le_refl _),m.capnone_of_ge (Nat.le_refl _)⟩
  ·have:(b==w.heap.size)=false:=by simpa using e
   simp only[Store.setObj,this,cond_false]at h
   exact(m.alloc _).obj b bs h
 opn b n sz e h:=by
  obtain⟨h0,h1⟩:=(m.alloc (.cells cs T)).opn b n sz e h
  refine⟨?_,h1⟩
  obtain⟨_,_,h2,_⟩:=m.opn b n sz e h|>.2
  have:(b==w.heap.size)=false:=by have:=lt_of_heap h2;simp;omega
  simpa[Store.setObj,this]using h0
 mp b mo h:=by
  obtain⟨h1,h2,h3,h4⟩:=(m.alloc (.cells cs T)).mp b mo h
  have:(b==w.heap.size)=false:=by have:=(m.mp b mo h).2.2.2.lt;simp;omega
  exact⟨by simpa[Store.setObj,this]using h1,h2,h3,h4⟩
theorem Evo.newObj (_m:Models I σ w) (as:List AVal) (x:Obj):Evo I σ w I (σ.setObj w.heap.size as) (w.alloc x):=
 ⟨.refl I,by simp,rfl,rfl,rfl,fun b hb h=>⟨heap_new_old w x hb,by
  have:(b==w.heap.size)=false:=by simp;omega
  exact⟨by simpa[Store.setObj,this]using h.1,h.2.1,h.2.2⟩,fun _=>rfl,rfl⟩⟩
theorem Models.setObj (m:Models I σ w) {b:Nat} {old:List AVal} (ho:σ.obj b=some old) {ds:Array Value} {as:List AVal} (hs:ds.size=as.length) (hr:∀j,RepC I (ds.getD j undef) (as.getD j .top)):
  Models I (σ.setObj b as) (w.setRow b ds):=by
 obtain⟨cs,T,h1,h2,h3,h4,h5⟩:=m.obj b old ho
 have hne:∀x,x≠b→(w.setRow b ds).heap[x]? =w.heap[x]? :=fun x hx=>setRow_other w b x ds hx
 refine⟨fun x o v h=> ?_,fun x n h=>by simpa using m.cap x n h,fun x bs h=> ?_,fun x n sz e h=> ?_,fun x es h=> ?_⟩
 ·have hx:x≠b:=by rintro rfl;rw[h4]at h;cases h
  obtain⟨c,T',fz,k1,k2⟩:=m.cell x o v h
  exact⟨c,T',fz,(hne x hx).trans k1,k2⟩
 ·by_cases e:x=b
  ·subst e
   simp only[Store.setObj,beq_self_eq_true,cond_true,Option.some.injEq]at h
   subst h
   exact⟨ds,T,setRow_heap w x cs ds T (0,0) h1,hs,hr,h4,h5⟩
  ·have hb:(x==b)=false:=by simpa using e
   simp only[Store.setObj,hb,cond_false]at h
   obtain⟨c,T',k1,k2⟩:=m.obj x bs h
   exact⟨c,T',(hne x e).trans k1,k2⟩
 ·obtain⟨k0,c,cap,k1,k2⟩:=m.opn x n sz e h
  have hx:x≠b:=by rintro rfl;rw[ho]at k0;cases k0
  have hb:(x==b)=false:=by simpa using hx
  exact⟨by simpa[Store.setObj,hb]using k0,c,cap,(hne x hx).trans k1,k2⟩
 ·obtain⟨k1,k2,k3,k4⟩:=m.mp x es h
  have hx:x≠b:=by rintro rfl;exact k3 _ _ _ h1
  have hb:(x==b)=false:=by simpa using hx
  exact⟨by simpa[Store.setObj,hb]using k1,k2,fun cs' T' fz' hc=>k3 cs' T' fz' ((hne x hx).symm.trans hc),k4.keep (.refl I) (by simp) fun y o hy hc=>by
   have:y≠b:=by rintro rfl;rw[h1]at hy;cases hy;exact hc _ _ _ rfl
   exact(hne y this).trans hy⟩
theorem Evo.setObj {b:Nat} {old as:List AVal} (ho:σ.obj b=some old) (ds:Array Value):Evo I σ w I (σ.setObj b as) (w.setRow b ds):=
 ⟨.refl I,by simp,rfl,rfl,rfl,fun x _ h=>by
  have hx:x≠b:=by rintro rfl;rw[h.1]at ho;cases ho
  have hb:(x==b)=false:=by simpa using hx
  exact⟨setRow_other w b x ds hx,⟨by simpa[Store.setObj,hb]using h.1,h.2⟩,fun _=>rfl,rfl⟩⟩
def Sealed.grow (I:Sealed) (b:Nat) (cap:Nat × Nat) (f:Nat→Option Value):Sealed:=
 {cell:=fun x o=>bif x==b then f o else I.cell x o,cap:=fun x=>bif x==b then some cap else I.cap x}
theorem Sealed.grow_cell (I:Sealed) (b:Nat) (cap:Nat × Nat) (f:Nat→Option Value):(I.grow b cap f).cell b=f:=by funext o;simp[Sealed.grow]
theorem Sealed.grow_cap (I:Sealed) (b:Nat) (cap:Nat × Nat) (f:Nat→Option Value):(I.grow b cap f).cap b=some cap:=by simp[Sealed.grow]
theorem open_row (m:Models I σ w) {w':World} {b cap sz n:Nat} {e:TypeId} {cur:Array Value} {tok:Option Nat}
  (hsize:w.heap.size≤w'.heap.size) (hos:w'.os=w.os) (htape:w'.tape=w.tape) (hout:w'.output=w.output)
  (hother:∀x,x<w.heap.size→x≠b→w'.heap[x]? =w.heap[x]?)
  (hb:w'.heap[b]? =some (.cells cur e (0,0))) (hcur:cur.size=cap*sz) (hn:n≤cap) (hcap:cap≤maxLen)
  (hown:w.heap.size≤b∨(tok=some b∧(∃r,σ.opn b=some r)∧I.cap b=some (cap,sz)∧∀o v,I.cell b o=some v→o<n*sz∧cur[o]? =some v)):
  Models (I.grow b (cap,sz) fun o=>if o<n*sz then cur[o]? else none) ((σ.dropOpn tok).setOpn b (n,sz,e)) w'∧
  Evo I σ w (I.grow b (cap,sz) fun o=>if o<n*sz then cur[o]? else none) ((σ.dropOpn tok).setOpn b (n,sz,e)) w':=by
 have hobj:σ.obj b=none:=by
  rcases hown with h|⟨_,⟨r,hr⟩,_⟩
  ·exact(m.fresh_of_ge h).1
  ·exact(m.opn b r.1 r.2.1 r.2.2 hr).1
 have hmp:σ.mp b=none:=by
  rcases hown with h|⟨_,⟨r,hr⟩,_⟩
  ·exact(m.fresh_of_ge h).2.2
  ·cases hq:σ.mp b with
   |none=>rfl
   |some es=>have:=(m.mp b es hq).2.1;rw[hr]at this;cases this
 have hcell:∀o v,I.cell b o=some v→o<n*sz∧cur[o]? =some v:=by
  rcases hown with h|⟨_,_,_,h⟩
  ·intro o v hc;rw[m.none_of_ge h]at hc;cases hc
  ·exact h
 have hcapb:I.cap b=none∨I.cap b=some (cap,sz):=by
  rcases hown with h|⟨_,_,h,_⟩
  ·exact .inl (m.capnone_of_ge h)
  ·exact .inr h
 have hle:I.Le (I.grow b (cap,sz) fun o=>if o<n*sz then cur[o]? else none):=by
  refine⟨fun x o v h=> ?_,fun x k h=> ?_⟩
  ·by_cases hx:x=b
   ·subst hx
    obtain⟨h1,h2⟩:=hcell o v h
    simp[Sealed.grow,h1,h2]
   ·have:(x==b)=false:=by simpa using hx
    simpa[Sealed.grow,this]using h
  ·by_cases hx:x=b
   ·subst hx
    rcases hcapb with hc|hc
    ·rw[hc]at h;cases h
    ·rw[hc]at h;simp[Sealed.grow,Option.some.inj h]
   ·have:(x==b)=false:=by simpa using hx
    simpa[Sealed.grow,this]using h
 refine⟨⟨fun x o v h=> ?_,fun x k h=> ?_,fun x bs h=> ?_,fun x k s t h=> ?_,fun x es h=> ?_⟩,⟨hle,hsize,hos,htape,hout,fun x hx hf=> ?_⟩⟩
 ·by_cases hx:x=b
  ·subst hx
   simp only[Sealed.grow,beq_self_eq_true,cond_true]at h
   split at h
   ·exact⟨cur,e,(0,0),hb,h⟩
   ·cases h
  ·have hxb:(x==b)=false:=by simpa using hx
   simp only[Sealed.grow,hxb,cond_false]at h
   obtain⟨c,T,fz,k1,k2⟩:=m.cell x o v h
   exact⟨c,T,fz,(hother x (lt_of_heap k1) hx).trans k1,k2⟩
 ·by_cases hx:x=b
  ·subst hx;exact lt_of_heap hb
  ·have hxb:(x==b)=false:=by simpa using hx
   simp only[Sealed.grow,hxb,cond_false]at h
   have:=m.cap x k h
   omega
 ·have h':σ.obj x=some bs:=h
  have hx:x≠b:=by rintro rfl;rw[hobj]at h';cases h'
  have hxb:(x==b)=false:=by simpa using hx
  obtain⟨c,T,k1,k2,k3,k4,k5⟩:=m.obj x bs h'
  exact⟨c,T,(hother x (lt_of_heap k1) hx).trans k1,k2,fun j=>(k3 j).mono hle,by simpa[Sealed.grow,hxb]using k4,by simpa[Sealed.grow,hxb]using k5⟩
 ·by_cases hx:x=b
  ·subst hx
   simp only[Store.setOpn,beq_self_eq_true,cond_true,Option.some.injEq,Prod.mk.injEq]at h
   obtain⟨rfl,rfl,rfl⟩:=h
   refine⟨hobj,cur,cap,hb,by simp[Sealed.grow],hcur,hn,hcap,fun o ho=> ?_⟩
   simp only[Sealed.grow,beq_self_eq_true,cond_true]
   rw[if_neg (by omega)]
  ·have hxb:(x==b)=false:=by simpa using hx
   have h':σ.opn x=some (k,s,t):=by
    simp only[Store.setOpn,Store.dropOpn,hxb,cond_false]at h
    cases hq:(some x==tok)with
    |true=>rw[hq]at h;cases h
    |false=>rw[hq]at h;exact h
   obtain⟨k0,c,cp,k1,k2,k3,k4,k5,k6⟩:=m.opn x k s t h'
   exact⟨k0,c,cp,(hother x (lt_of_heap k1) hx).trans k1,by simpa[Sealed.grow,hxb]using k2,k3,k4,k5,by simpa[Sealed.grow,hxb]using k6⟩
 ·have h':σ.mp x=some es:=h
  have hx:x≠b:=by rintro rfl;rw[hmp]at h';cases h'
  obtain⟨k1,k2,k3,k4⟩:=m.mp x es h'
  have hxb:(x==b)=false:=by simpa using hx
  refine⟨k1,?_,fun cs' T' fz' hc=>k3 cs' T' fz' ((hother x k4.lt hx).symm.trans hc),k4.keep hle hsize fun y o hy hc=> ?_⟩
  ·simp only[Store.setOpn,Store.dropOpn,hxb,cond_false]
   cases hq:(some x==tok)with
   |true=>rfl
   |false=>exact k2
  ·by_cases hyb:y=b
   ·subst hyb
    rcases hown with h|⟨_,⟨r,hr⟩,_⟩
    ·have:=lt_of_heap hy;omega
    ·obtain⟨_,_,_,k5,_⟩:=m.opn y r.1 r.2.1 r.2.2 hr
     rw[k5]at hy;cases hy;exact(hc _ _ _ rfl).elim
   ·exact(hother y (lt_of_heap hy) hyb).trans hy
 ·have hxb:x≠b:=by
   rintro rfl
   rcases hown with h|⟨_,⟨r,hr⟩,_⟩
   ·omega
   ·rw[hf.2.1]at hr;cases hr
  have hb':(x==b)=false:=by simpa using hxb
  refine⟨hother x hx hxb,⟨hf.1,?_,hf.2.2⟩,by simp[Sealed.grow,hb'],by simp[Sealed.grow,hb']⟩
  simp only[Store.setOpn,Store.dropOpn,hb',cond_false]
  cases hq:(some x==tok)with
  |true=>rfl
  |false=>exact hf.2.1
theorem open_slice_rep {b cap sz n:Nat} {cur:Array Value} {xs:List AVal} {vs:Nat→Nat→Value} {J:Sealed} (hl:xs.length=n) (hn:n≤cap) (hcap:cap≤maxLen)
  (hs:∀i,i<n→(xs.getD i .top).cells.length=sz) (hc:∀i j,i<n→j<sz→cur[i*sz+j]? =some (vs i j)) (hr:∀i j,RepC J (vs i j) ((xs.getD i .top).cells.getD j .top))
  (hJ:J.cell b=fun o=>if o<n*sz then cur[o]? else none) (hJc:J.cap b=some (cap,sz)):
  RepC J (.slice (some ⟨b,0,none⟩) n cap) (.slice xs false (some b)):=by
 refine RepC.slice b 0 n cap sz xs (some b) vs hl hn hcap hs (fun i j hi hj=> ?_) hr (fun g hg=> ?_)
 ·rw[hJ]
  have:i*sz+j<n*sz:=by
   have:(i+1)*sz≤n*sz:=Nat.mul_le_mul_right _ hi
   rw[Nat.succ_mul]at this
   omega
  simp only[Nat.zero_add]
  rw[if_pos this]
  exact hc i j hi hj
 ·cases hg
  exact⟨rfl,rfl,hJc⟩
theorem Ent.kill_val {s:Nat} {e:Ent} {J:Sealed} {τ:Store} {w':World} {by_:Nat→Nat} {t:Nat} {v:Value} (h:EntRep J τ by_ w' t v e) (ht:t≠s) {bz:Nat→Nat} (hb:∀x,x≠s→bz x=by_ x):
  EntRep J τ bz w' t v (e.kill s):=by
 cases e with
 |val x=>exact h
 |box c=>unfold Ent.kill EntRep;rw[hb t ht];exact h
 |lptr q off=>
  show EntRep J τ bz w' t v (bif q==s then .val .top else .lptr q off)
  by_cases hq:q=s
  ·subst hq;simp only[beq_self_eq_true,cond_true];exact RepC.top _
  ·have:(q==s)=false:=by simpa using hq
   have h0:v=.pointer (some ⟨by_ q,off,none⟩):=h
   rw[this]
   show v=.pointer (some ⟨bz q,off,none⟩)
   rw[hb q hq]
   exact h0
theorem Ent.kill_isBox {s:Nat} {e:Ent}:(e.kill s).isBox↔e.isBox:=by
 cases e with
 |val x=>exact Iff.rfl
 |box c=>exact Iff.rfl
 |lptr q off=>
  show(bif q==s then Ent.val .top else .lptr q off).isBox↔_
  cases(q==s)<;>exact Iff.rfl
theorem St.newBox (st:St E I σ env bx a w) {d:Nat} (hd:d<E.n) {cs:Array Value} {as:List AVal} (T:TypeId) (hl:cs.size=as.length) (hr:∀j,RepC I (cs.getD j undef) (as.getD j .top)):
  St E I σ (env.newBox d as) (fun s=>if s=d then w.heap.size else bx s) (a.put (some d) (.pointer (some ⟨w.heap.size,0,none⟩))) (w.alloc (.cells cs T)) where
 models:=st.models.alloc _
 ents s:=by
  rw[Act.tmps_put]
  by_cases h:s=d
  ·subst h
   have hs:s<a.tmps.size:=by rw[st.size];exact hd
   simp only[hs,and_self,if_true,Env.newBox,beq_self_eq_true,cond_true]
   refine⟨by simp,cs,T,?_,hl,hr,?_,?_,?_⟩
   ·simp only[if_true];rw[heap_new,if_pos rfl]
   ·simp only[if_true];exact st.models.fresh_of_ge (Nat.le_refl _)
   ·simp only[if_true];exact st.models.none_of_ge (Nat.le_refl _)
   ·simp only[if_true];exact st.models.capnone_of_ge (Nat.le_refl _)
  ·have h':¬(some d=some s∧s<a.tmps.size):=fun h2=>h (Option.some.inj h2.1).symm
   have hb:(s==d)=false:=by simpa using h
   rw[if_neg h']
   simp only[Env.newBox,hb,cond_false]
   exact Ent.kill_val ((st.ents s).evo (Evo.alloc _)) h (fun x hx=>by simp[hx])
 inj s s' h h' heq:=by
  have old:∀t,t≠d→(env.newBox d as t).isBox→bx t<w.heap.size:=by
   intro t ht hbx
   have hb:(t==d)=false:=by simpa using ht
   simp only[Env.newBox,hb,cond_false,Ent.kill_isBox]at hbx
   have:=st.ents t
   cases he:env t with
   |val x=>rw[he]at hbx;exact hbx.elim
   |lptr q o=>rw[he]at hbx;exact hbx.elim
   |box c=>rw[he]at this;exact lt_of_heap this.2.choose_spec.choose_spec.1
  by_cases e1:s=d<;>by_cases e2:s'=d
  ·rw[e1,e2]
  ·have:=old s' e2 h'
   simp only[e1,e2,if_true,if_false]at heq
   omega
  ·have:=old s e1 h
   simp only[e1,e2,if_true,if_false]at heq
   omega
  ·have b1:(s==d)=false:=by simpa using e1
   have b2:(s'==d)=false:=by simpa using e2
   simp only[Env.newBox,b1,b2,cond_false,Ent.kill_isBox]at h h'
   simp only[e1,e2,if_false]at heq
   exact st.inj s s' h h' heq
 low s h:=by
  by_cases e1:s=d
  ·simp only[e1,if_true];exact st.evo.size
  ·have b1:(s==d)=false:=by simpa using e1
   simp only[Env.newBox,b1,cond_false,Ent.kill_isBox]at h
   simp only[e1,if_false]
   exact st.low s h
 evo:=st.evo.trans (Evo.alloc _)
 size:=by rw[Act.size_put];exact st.size
 defers:=by rw[Act.defers_put];exact st.defers
theorem St.setBox (st:St E I σ env bx a w) {s:Nat} {cs:List AVal} (hs:env s=.box cs) {ds:Array Value} {as:List AVal} (hl:ds.size=as.length) (hr:∀j,RepC I (ds.getD j undef) (as.getD j .top)):
  St E I σ (env.setBox s as) bx a (w.setRow (bx s) ds):=by
 have hb:=st.ents s
 rw[hs]at hb
 obtain⟨p1,vs,T,p2,p3,p4,p5,p6,p7⟩:=hb
 have hne:∀x,x≠bx s→(w.setRow (bx s) ds).heap[x]? =w.heap[x]? :=fun x hx=>setRow_other w (bx s) x ds hx
 have hbox:(env s).isBox:=by rw[hs];trivial
 have hE:E.w.heap.size≤bx s:=st.low s hbox
 have hiff:∀t,(env.setBox s as t).isBox↔(env t).isBox:=by
  intro t
  by_cases e:t=s
  ·subst e;simp only[Env.setBox,beq_self_eq_true,cond_true];exact⟨fun _=>hbox,fun _=>trivial⟩
  ·have:(t==s)=false:=by simpa using e
   simp only[Env.setBox,this,cond_false]
 refine⟨⟨fun x o v h=> ?_,fun x n h=>by simpa using st.models.cap x n h,fun x bs h=> ?_,fun x n sz e h=> ?_,fun x es h=> ?_⟩,fun t=> ?_,fun t t' h h'=>st.inj t t' ((hiff t).1 h) ((hiff t').1 h'),
  fun t h=>st.low t ((hiff t).1 h),⟨st.evo.le,by simpa using st.evo.size,st.evo.os,st.evo.tape,st.evo.output,fun x hx hf=> ?_⟩,st.size,st.defers⟩
 ·have hx:x≠bx s:=by rintro rfl;rw[p6]at h;cases h
  obtain⟨c,T',fz,k1,k2⟩:=st.models.cell x o v h
  exact⟨c,T',fz,(hne x hx).trans k1,k2⟩
 ·obtain⟨c,T',k1,k2⟩:=st.models.obj x bs h
  exact⟨c,T',(hne x (by rintro rfl;rw[p5.1]at h;cases h)).trans k1,k2⟩
 ·obtain⟨k0,c,cap,k1,k2⟩:=st.models.opn x n sz e h
  exact⟨k0,c,cap,(hne x (by rintro rfl;rw[p5.2.1]at h;cases h)).trans k1,k2⟩
 ·obtain⟨k1,k2,k3,k4⟩:=st.models.mp x es h
  have hx:x≠bx s:=by rintro rfl;rw[p5.2.2]at h;cases h
  exact⟨k1,k2,fun cs' T' fz' hc=>k3 cs' T' fz' ((hne x hx).symm.trans hc),k4.keep (.refl I) (by simp) fun y o hy hc=>by
   have:y≠bx s:=by rintro rfl;rw[p2]at hy;cases hy;exact hc _ _ _ rfl
   exact(hne y this).trans hy⟩
 ·by_cases e:t=s
  ·subst e
   simp only[Env.setBox,beq_self_eq_true,cond_true]
   exact⟨p1,ds,T,setRow_heap w (bx t) vs ds T (0,0) p2,hl,hr,p5,p6,p7⟩
  ·have hts:(t==s)=false:=by simpa using e
   simp only[Env.setBox,hts,cond_false]
   have ht:=st.ents t
   cases he:env t with
   |val x=>rw[he]at ht;exact ht
   |lptr q off=>rw[he]at ht;exact ht
   |box c=>
    rw[he]at ht
    obtain⟨q1,us,U,q2,q3⟩:=ht
    have hbt:bx t≠bx s:=fun heq=>e (st.inj t s (by rw[he];trivial) hbox heq)
    exact⟨q1,us,U,(hne _ hbt).trans q2,q3⟩
 ·obtain⟨k1,k2⟩:=st.evo.keep x hx hf
  exact⟨(hne x (by omega)).trans k1,k2⟩
end
end Go.AL
