/-
  AN ABSTRACT LOGIC OVER THE MODEL, part 21: the evaluator's operations that look at the objects, or turn them, are those of the model.
-/
import Derived.Test.YtfoeaeeaflmkfaaGreatAL20
namespace Go.AL
open Go.RowKit
theorem bif_bad {c:Bool} {A r:ER} (h:(bif c then A else .bad)=r) (hr:r≠.bad):c=true∧A=r:=by
 cases c with
 |false=>exact absurd h.symm hr
 |true=>exact⟨rfl,h⟩
theorem orec_bad {α:Type} {o:Option α} {f:α→ER} {r:ER} (h: @Option.rec α (fun _=>ER) .bad f o=r) (hr:r≠.bad):∃a,o=some a∧f a=r:=by
 cases o with
 |none=>exact absurd h.symm hr
 |some a=>exact⟨a,rfl,h⟩
def KS (R:Store) (ρ:Names) (V:VS) (k:EK) (r:ER) (K:Env→Store→Prop):Prop:=
 ∀ρ' env V' e' σ,ρ.Le ρ'→Gd V V'→Rel R ρ' V' σ→EnvR ρ' env e'→k env V'=r→K e' σ
theorem KS.next {R:Store} {ρ ρ':Names} {V V':VS} {k:EK} {r:ER} {K:Env→Store→Prop} (h:KS R ρ V k r K) (hle:ρ.Le ρ') (hg:Gd V V'):KS R ρ' V' k r K:=
 fun ρ'' env V'' e' σ h1 h2 h3 h4 h5=>h ρ'' env V'' e' σ (hle.trans h1) (hg.trans h2) h3 h4 h5
theorem EntR.top {ρ:Names}:EntR ρ (.val .top) (.val .top):=⟨.top,by simp only[VR],rfl⟩
section
variable {P:Program} {R:Store} {ρ:Names} {V:VS} {σ:Store} {env:VE} {e':Env} {k:EK} {r:ER} {K:Env→Store→Prop} {d:Option Nat}
theorem KS.fin (hk:KS R ρ V k r K) (hR:Rel R ρ V σ) (hE:EnvR ρ env e') {x y:Ent} (hx:EntR ρ x y) (h:k (setd d x env) V=r):K (e'.set d y) σ:=
 hk ρ _ V _ σ (.refl _) (.refl _) hR (hE.set d hx) h
theorem KS.fin2 (hk:KS R ρ V k r K) (hE:EnvR ρ env e') {ρ':Names} {V':VS} {σ':Store} (hle:ρ.Le ρ') (hg:Gd V V') (hR:Rel R ρ' V' σ') {x y:Ent} (hx:EntR ρ' x y) (h:k (setd d x env) V'=r):K (e'.set d y) σ':=
 hk ρ' _ V' _ σ' hle hg hR ((hE.mono hle).set d hx) h
theorem opP_sound (hk:KS R ρ V k r K) (hr:r≠.bad) (hR:Rel R ρ V σ) (hE:EnvR ρ env e') {m:VE→Option Ent} {o:AOp} (hg:∀e,m env=some e→GivesE P o e' ρ e) (h:opP m d k env V=r) (W:List Nat):
  vcOp P o d K e' σ∧vcOpD P W o d K e' σ:=by
 obtain⟨e,h1,h2⟩:=orec_bad h hr
 obtain⟨f,k1,k2⟩:=hg e h1
 exact k2 d K σ W (hk.fin hR hE k1 h2)
theorem drop_app {ds rest:List AVal} {o n:Nat} (h:o+n≤ds.length):((ds++rest).drop o).take n=(ds.drop o).take n:=by
 rw[List.drop_append_of_le_length (by omega),List.take_append_of_le_length (by rw[List.length_drop];omega)]
theorem splice_app {ds rest vs:List AVal} {o:Nat} (h:o+vs.length≤ds.length):splice (ds++rest) o vs=splice ds o vs++rest:=by
 unfold splice
 rw[List.take_append_of_le_length (by omega),List.drop_append_of_le_length (by omega)]
 simp[List.append_assoc]
theorem splice_len {ds vs:List AVal} {o:Nat} (h:o+vs.length≤ds.length):(splice ds o vs).length=ds.length:=by
 unfold splice
 simp only[List.length_append,List.length_take,List.length_drop];omega
theorem cells_rep (hR:Rel R ρ V σ) {i:Nat} {cs:List AVal} (h:objCells V i=some cs):∃x ds rest,ρ i=some x∧VRs ρ cs ds∧σ.obj x.b=some (ds++rest):=by
 unfold objCells at h
 rw[cellsAt_eq]at h
 unfold cellsAt0 at h
 split at h
 ·rename_i cs' heq
  cases h
  obtain⟨x,h1,⟨ds,h2,h3⟩,_⟩:=hR.get heq (by intro hh;cases hh)
  exact⟨x,ds,[],h1,h2,by rw[List.append_nil];exact(blk_inv h3).1⟩
 ·rename_i sz cs' heq
  cases h
  obtain⟨x,h1,⟨ds,h2,h3,_⟩,_⟩:=hR.get heq (by intro hh;cases hh)
  exact⟨x,ds,x.rest,h1,h2,(blk_inv h3).1⟩
 ·cases h
theorem ret1_out {o:Option AVal} (h:ret1 d k env V o=r) (hr:r≠.bad):∃a,o=some a∧k (setd d (.val a) env) V=r:=orec_bad h hr
theorem loadB_rep {agg:Bool} {n o:Nat} {x y:Ent} (hx:EntR ρ x y) {v:AVal} (h:loadB agg n o x=some v):∃cs,y=.box cs∧o+n≤cs.length∧VR ρ v (mkv agg ((cs.drop o).take n)):=by
 rw[loadB_eq]at h
 unfold loadB0 at h
 split at h
 ·obtain⟨ds,h1,rfl⟩:=hx.box_inv
  obtain⟨h2,rfl⟩:=partAt_some h
  exact⟨ds,rfl,by rw[h1.length];exact h2,VR.mkv' agg ((h1.drop o).take n)⟩
 ·cases h
theorem loadC_rep (hR:Rel R ρ V σ) {agg:Bool} {n o i:Nat} {v:AVal} (h:loadC agg n o (objCells V i)=some v):∃x cs,ρ i=some x∧σ.obj x.b=some cs∧o+n≤cs.length∧VR ρ v (mkv agg ((cs.drop o).take n)):=by
 cases hc:objCells V i with
 |none=>rw[hc]at h;cases h
 |some cs=>
  rw[hc]at h
  have h:partAt agg n o cs=some v:=h
  obtain⟨x,ds,rest,h1,h2,h3⟩:=cells_rep hR hc
  obtain⟨h4,rfl⟩:=partAt_some h
  have hl:=h2.length
  exact⟨x,_,h1,h3,by rw[List.length_append];omega,by rw[drop_app (by omega)];exact VR.mkv' agg ((h2.drop o).take n)⟩
theorem load_sound (hk:KS R ρ V k r K) (hr:r≠.bad) (hR:Rel R ρ V σ) (hE:EnvR ρ env e') {agg:Bool} {n:Nat} {x:Opd} (hp:x.plain=true) (h:opLoad agg n x d k env V=r):vcOp P (.load agg n x) d K e' σ:=by
 obtain⟨a,h1,h2⟩:=ret1_out h hr
 have hx:=eo_rep hE hp
 rw[loadE_eq]at h1
 unfold loadE0 at h1
 split at h1
 ·rename_i i o heq
  rw[heq]at hx;obtain⟨v,k1,k2⟩:=hx.val_inv;simp only[VR]at k1;obtain⟨z,hz,rfl⟩:=k1
  obtain⟨y,cs,m1,m2,m3,m4⟩:=loadC_rep hR h1
  rw[hz]at m1;cases m1
  simp only[vcOp,k2]
  exact⟨cs,m2,m3,hk.fin hR hE (.ofV m4) h2⟩
 ·rename_i cs heq
  rw[heq]at hx;obtain⟨v,k1,k2⟩:=hx.val_inv;simp only[VR]at k1;obtain⟨ds,hd,rfl⟩:=k1
  obtain⟨m1,rfl⟩:=partOf_some h1
  simp only[vcOp,k2]
  exact⟨by rw[hd.length];exact m1,hk.fin hR hE (.ofV (VR.mkv' agg (hd.take n))) h2⟩
 ·rename_i s o heq
  rw[heq]at hx;have k2:=hx.lptr_inv
  obtain⟨cs,m1,m2,m3⟩:=loadB_rep (hE s) h1
  simp only[vcOp,k2,m1]
  exact⟨m2,hk.fin hR hE (.ofV m3) h2⟩
 ·cases h1
theorem loadD_sound (hk:KS R ρ V k r K) (hr:r≠.bad) (hR:Rel R ρ V σ) (hE:EnvR ρ env e') {W:List Nat} {agg:Bool} {n:Nat} {x:Opd} (hp:x.plain=true) (h:opLoadD W agg n x d k env V=r):vcOpD P W (.load agg n x) d K e' σ:=by
 obtain⟨a,h1,h2⟩:=ret1_out h hr
 have hx:=eo_rep hE hp
 unfold loadD at h1
 split at h1
 ·rename_i s o heq
  rw[heq]at hx;have k2:=hx.lptr_inv
  cases hw:W.contains s with
  |true=>rw[hw]at h1;cases h1
  |false=>
   rw[hw,cond_false]at h1
   obtain⟨cs,m1,m2,m3⟩:=loadB_rep (hE s) h1
   simp only[vcOpD,k2,m1]
   exact⟨hw,m2,hk.fin hR hE (.ofV m3) h2⟩
 ·have h1:loadE agg n env V (eo x env)=some a:=h1
  rw[loadE_eq]at h1
  unfold loadE0 at h1
  split at h1
  ·rename_i i o heq
   rw[heq]at hx;obtain⟨v,k1,k2⟩:=hx.val_inv;simp only[VR]at k1;obtain⟨z,hz,rfl⟩:=k1
   obtain⟨y,cs,m1,m2,m3,m4⟩:=loadC_rep hR h1
   rw[hz]at m1;cases m1
   simp only[vcOpD,k2]
   exact⟨cs,m2,m3,hk.fin hR hE (.ofV m4) h2⟩
  ·rename_i cs heq
   rw[heq]at hx;obtain⟨v,k1,k2⟩:=hx.val_inv;simp only[VR]at k1;obtain⟨ds,hd,rfl⟩:=k1
   obtain⟨m1,rfl⟩:=partOf_some h1
   simp only[vcOpD,k2]
   exact⟨by rw[hd.length];exact m1,hk.fin hR hE (.ofV (VR.mkv' agg (hd.take n))) h2⟩
  ·rename_i heq
   exact(‹∀s o,eo x env=.lptr s o→False› _ _ heq).elim
  ·cases h1
theorem kill_rep {s:Nat} {x y:Ent} (hx:EntR ρ x y):EntR ρ (killE s x) (y.kill s):=by
 cases x with
 |val a=>obtain⟨b,h1,rfl⟩:=hx.val_inv;exact⟨b,h1,rfl⟩
 |box cs=>obtain⟨b,h1,rfl⟩:=hx.box_inv;exact⟨b,h1,rfl⟩
 |lptr s' o=>
  rw[hx.lptr_inv]
  show EntR ρ (bif Nat.beq s' s then .val .top else .lptr s' o) (bif s'==s then .val .top else .lptr s' o)
  rw[beq_eq]
  by_cases h:s'=s
  ·subst h;simp only[decide_true,cond_true,beq_self_eq_true];exact .top
  ·have:(s'==s)=false:=by simpa using h
   rw[decide_eq_false h,this];exact rfl
theorem boxAt_rep (hE:EnvR ρ env e') {s:Nat} {cs ds:List AVal} (h:VRs ρ cs ds):EnvR ρ (boxAt env s cs) (e'.newBox s ds):=by
 intro t
 unfold boxAt
 rw[eat_eput]
 show EntR ρ _ (bif t==s then .box ds else(e' t).kill s)
 by_cases hst:s=t
 ·subst hst;simp only[if_true,beq_self_eq_true,cond_true];exact⟨ds,h,rfl⟩
 ·have:(t==s)=false:=by simpa using fun hh=>hst hh.symm
  rw[if_neg hst,this,eat_mapTr rfl]
  exact kill_rep (hE t)
theorem box_sound (hk:KS R ρ V k r K) (hr:r≠.bad) (hR:Rel R ρ V σ) (hE:EnvR ρ env e') {cs:List AVal} (hp:plains cs=true) (h:opBox cs d k env V=r):vcOp P (.box cs) d K e' σ:=by
 unfold opBox at h
 split at h
 ·exact hk ρ _ V _ σ (.refl _) (.refl _) hR (boxAt_rep hE (VRs.of_plain cs hp)) h
 ·exact absurd h.symm hr
theorem boxv_sound (hk:KS R ρ V k r K) (hr:r≠.bad) (hR:Rel R ρ V σ) (hE:EnvR ρ env e') {x:Opd} (hp:x.plain=true) (h:opBoxv x d k env V=r):vcOp P (.boxv x) d K e' σ:=by
 have hx:=eo_rep hE hp
 unfold opBoxv at h
 split at h
 ·unfold opBoxv2 at h
  split at h
  ·rename_i a heq
   rw[heq]at hx;obtain⟨v,k1,k2⟩:=hx.val_inv
   obtain⟨h1,h2⟩:=bif_bad h hr
   simp only[vcOp,k2]
   exact⟨by rw[k1.cells.all_one];exact h1,hk ρ _ V _ σ (.refl _) (.refl _) hR (boxAt_rep hE k1.cells) h2⟩
  ·exact absurd h.symm hr
 ·exact absurd h.symm hr
theorem new_rep (hR:Rel R ρ V σ) {b:Nat} (hb:σ.fresh b) {σ':Store} {x:Nm} (hx:x.b=b) {o:VObj} (hB:σ.But σ' b) (ho:ObjR (ρ.add V.n x) σ' x o):
  Rel R (ρ.add V.n x) (V.new o) σ'∧ρ.Le (ρ.add V.n x)∧Gd V (V.new o):=by
 subst hx
 obtain⟨h1,h2⟩:=hR.fresh_names hb
 exact hR.new h1 h2 hB ho
theorem le_add (hR:Rel R ρ V σ) (x:Nm):ρ.Le (ρ.add V.n x):=by
 intro i y hy
 have:=hR.dom i y hy
 unfold Names.add
 rw[if_neg (by omega)];exact hy
theorem obj_fin (hk:KS R ρ V k r K) (hR:Rel R ρ V σ) (hE:EnvR ρ env e') {cs ds:List AVal} (hv:VRs ρ cs ds) (h:opObj cs d k env V=r):∀b,σ.fresh b→K (e'.set d (.val (.ptr b 0))) (σ.setObj b ds):=by
 intro b hb
 have hle:=le_add hR ⟨b,0,[]⟩
 obtain⟨h1,h2,h3⟩:=new_rep hR (σ':=σ.setObj b ds) hb (x:=⟨b,0,[]⟩) rfl (o:=.obj cs) (but_setObj σ b ds) ⟨ds,hv.mono hle,by rw[blk_setObj,hb.2.1,hb.2.2]⟩
 exact hk.fin2 hE h2 h3 h1 (.ofV (by simp only[VR];exact⟨_,Names.add_get ..,rfl⟩)) h
theorem obj_sound (hk:KS R ρ V k r K) (hR:Rel R ρ V σ) (hE:EnvR ρ env e') {cs:List AVal} (hp:plains cs=true) (h:opObj cs d k env V=r):vcOp P (.obj cs) d K e' σ:=
 obj_fin hk hR hE (VRs.of_plain cs hp) h
theorem objv_sound (hk:KS R ρ V k r K) (hr:r≠.bad) (hR:Rel R ρ V σ) (hE:EnvR ρ env e') {x:Opd} (hp:x.plain=true) (h:opObjv x d k env V=r):vcOp P (.objv x) d K e' σ:=by
 have hx:=eo_rep hE hp
 unfold opObjv opObjv2 at h
 split at h
 ·rename_i a heq
  rw[heq]at hx;obtain⟨v,k1,k2⟩:=hx.val_inv
  obtain⟨h1,h2⟩:=bif_bad h hr
  simp only[vcOp,k2]
  exact⟨by rw[k1.cells.all_one];exact h1,obj_fin hk hR hE k1.cells h2⟩
 ·exact absurd h.symm hr
theorem newOpn_fin (hk:KS R ρ V k r K) (hR:Rel R ρ V σ) (hE:EnvR ρ env e') {xs ys:List AVal} {n sz q:Nat} (hv:VRs ρ xs ys) (hn:xs.length=n) (h:newOpn d k env V xs n sz q=r) {b:Nat} (hf:(∀j y,V.at j≠.dead→ρ j=some y→y.b≠b)∧R.fresh b)
  (ho:σ.obj b=none) (hm:σ.mp b=none):K (e'.set d (.val (.slice ys false (some b)))) (σ.setOpn b (n,sz,q)):=by
 have hle:=le_add hR ⟨b,n,[]⟩
 obtain⟨h1,h2,h3⟩:=hR.new (σ':=σ.setOpn b (n,sz,q)) (x:=⟨b,n,[]⟩) (o:=.opn n sz q) hf.1 hf.2 (but_setOpn σ b _) ⟨by rw[blk_setOpn,ho,hm],rfl⟩
 exact hk.fin2 hE h2 h3 h1 (.ofV (by simp only[VR];exact⟨ys,_,hv.mono hle,⟨Names.add_get ..,hn.symm⟩,rfl⟩)) h
theorem bsl_sound (hk:KS R ρ V k r K) (hr:r≠.bad) (hR:Rel R ρ V σ) (hE:EnvR ρ env e') {own:Bool} {sz q n:Nat} {z:AVal} {ps:List (Nat × Opd)} (hz:z.plain=true) (hp:∀p∈ps,p.2.plain=true) (h:opBsl own sz q n z ps d k env V=r):
  vcOp P (.bslice own sz q n z ps) d K e' σ:=by
 unfold opBsl at h
 cases own with
 |true=>
  rw[cond_true]at h
  obtain⟨xs,h1,h2⟩:=orec_bad h hr
  obtain⟨ys,k1,k2,k3⟩:=setE_rep hE h1 (VRs.replicate n (VR.of_plain z hz)) hp
  simp only[vcOp,k1,if_true]
  intro g hg
  exact newOpn_fin hk hR hE k2 (by rw[k3];simp) h2 (hR.fresh_names hg) hg.1 hg.2.2
 |false=>
  rw[cond_false]at h
  obtain⟨xs,h1,h2⟩:=orec_bad h hr
  obtain⟨ys,k1,k2,k3⟩:=setE_rep hE h1 (VRs.replicate n (VR.of_plain z hz)) hp
  simp only[vcOp,k1]
  exact hk.fin hR hE (.ofV (by simp only[VR];exact⟨ys,k2,rfl⟩)) h2
theorem elems_flat {sz:Nat}:∀{xs:List AVal},ElemsOk sz xs→(xs.flatMap AVal.cells).length=xs.length*sz
 | [],_=>by simp
 |x::xs,h=>by
  rw[List.flatMap_cons,List.length_append,elems_flat (fun y hy=>h y (List.mem_cons_of_mem _ hy)),(h x (List.mem_cons_self ..)).1,List.length_cons,Nat.succ_mul];omega
theorem newRow_fin (hk:KS R ρ V k r K) (hR:Rel R ρ V σ) (hE:EnvR ρ env e') {cs ds rest:List AVal} {n c sz b:Nat} (hv:VRs ρ cs ds) (hl:(ds++rest).length=c*sz) (h:newRow' d k env V cs n sz=r)
  (hf:(∀j y,V.at j≠.dead→ρ j=some y→y.b≠b)∧R.fresh b) (ho:σ.opn b=none) (hm:σ.mp b=none):K (e'.set d (.val (.ref b 0 n c))) (σ.setObj b (ds++rest)):=by
 have hle:=le_add hR ⟨b,c,rest⟩
 obtain⟨h1,h2,h3⟩:=hR.new (σ':=σ.setObj b (ds++rest)) (x:=⟨b,c,rest⟩) (o:=.row sz cs) hf.1 hf.2 (but_setObj σ b _) ⟨ds,hv.mono hle,by rw[blk_setObj,ho,hm],hl⟩
 exact hk.fin2 hE h2 h3 h1 (.ofV (by simp only[VR];exact⟨_,Names.add_get ..,rfl⟩)) h
theorem msl_sound (hk:KS R ρ V k r K) (hr:r≠.bad) (hR:Rel R ρ V σ) (hE:EnvR ρ env e') {sz q n:Nat} {z:AVal} {ps:List (Nat × Opd)} (hz:z.plain=true) (hp:∀p∈ps,p.2.plain=true) (h:opMsl sz n z ps d k env V=r):
  vcOp P (.mslice sz q n z ps) d K e' σ:=by
 unfold opMsl at h
 obtain⟨xs,h1,h2⟩:=orec_bad h hr
 obtain⟨h3,h4⟩:=bif_bad h2 hr
 obtain⟨ys,k1,k2,k3⟩:=setE_rep hE h1 (VRs.replicate n (VR.of_plain z hz)) hp
 simp only[vcOp,k1]
 intro b hb
 have hel:ElemsOk sz ys:=k2.elemsOk (elemsB_ok h3)
 rw[flat2_eq]at h4
 have hl:=elems_flat hel
 rw[k2.length,k3,List.length_replicate]at hl
 have:=newRow_fin (rest:=[]) (c:=n) hk hR hE k2.flat (by rw[List.append_nil];exact hl) h4 (hR.fresh_names hb) hb.2.1 hb.2.2
 rw[List.append_nil]at this
 exact this
theorem live_of {o:VObj} {i:Nat} (h:V.at i=o) (hd:o≠.dead):V.at i≠.dead:=by rw[h];exact hd
theorem setBox_eq (e':Env) (s:Nat) (cs:List AVal):e'.setBox s cs=fun t=>bif t==s then .box cs else e' t:=rfl
theorem store_sound (hk:KS R ρ V k r K) (hr:r≠.bad) (hR:Rel R ρ V σ) (hE:EnvR ρ env e') {n:Nat} {x v:Opd} (hp:x.plain=true) (hq:v.plain=true) (h:opStore n x v d k env V=r):vcOp P (.store n x v) d K e' σ:=by
 have hv:=eo_rep hE hq;have hx:=eo_rep hE hp
 unfold opStore opSt1 at h
 split at h
 case h_2=>exact absurd h.symm hr
 rename_i a heq
 rw[heq]at hv;obtain⟨w,k1,k2⟩:=hv.val_inv
 obtain⟨h1,h⟩:=bif_bad h hr
 obtain⟨c1,c2⟩:=cellsOk_eq h1
 have hw:=k1.cells
 have hwl:=hw.length
 have w1:w.cells.length=n:=by rw[hwl];exact c1
 have w2:w.cells.all AVal.one=true:=by rw[hw.all_one];exact c2
 simp only[vcOp,k2]
 refine⟨w1,w2,?_⟩
 rw[cellsC_eq,opSt2_eq]at h
 unfold opSt20 at h
 split at h
 ·rename_i i o heq2
  rw[heq2]at hx;obtain⟨y,m1,m2⟩:=hx.val_inv;simp only[VR]at m1;obtain⟨z,hz,rfl⟩:=m1
  obtain⟨hg,h⟩:=bif_bad h hr
  have hg:V.g≤i:=Nat.le_of_ble_eq_true hg
  unfold wrObj at h
  split at h
  ·rename_i cs hat
   obtain⟨hf,h⟩:=bif_bad h hr
   have hf:o+n≤cs.length:=fits_some hf
   rw[putAt_eq (by rw[c1];exact hf)]at h
   obtain⟨z',hz',⟨ds,d1,d2⟩,_⟩:=hR.get hat (by intro hh;cases hh)
   rw[hz]at hz';cases hz'
   obtain⟨o1,o2,o3⟩:=blk_inv d2
   have dl:=d1.length
   rw[m2]
   obtain⟨r1,r2⟩:=hR.put (σ':=σ.setObj z.b (splice ds o w.cells)) hz (live_of hat (by intro hh;cases hh)) hg (but_setObj σ z.b _) (o:=.obj (splice cs o a.cells)) ⟨_,d1.splice o hw,by rw[blk_setObj,o2,o3]⟩
   exact⟨ds,o1,by omega,hk.fin2 hE (.refl _) r2 r1 .top h⟩
  ·rename_i sz cs hat
   obtain⟨hf,h⟩:=bif_bad h hr
   have hf:o+n≤cs.length:=fits_some hf
   rw[putAt_eq (by rw[c1];exact hf)]at h
   obtain⟨z',hz',⟨ds,d1,d2,d3⟩,_⟩:=hR.get hat (by intro hh;cases hh)
   rw[hz]at hz';cases hz'
   obtain⟨o1,o2,o3⟩:=blk_inv d2
   have dl:=d1.length
   rw[m2]
   have hsp:o+w.cells.length≤ds.length:=by omega
   obtain⟨r1,r2⟩:=hR.put (σ':=σ.setObj z.b (splice (ds++z.rest) o w.cells)) hz (live_of hat (by intro hh;cases hh)) hg (but_setObj σ z.b _) (o:=.row sz (splice cs o a.cells))
    ⟨_,d1.splice o hw,by rw[blk_setObj,o2,o3,splice_app hsp],by rw[List.length_append,splice_len hsp,←List.length_append];exact d3⟩
   exact⟨ds++z.rest,o1,by rw[List.length_append];omega,hk.fin2 hE (.refl _) r2 r1 .top h⟩
  ·exact absurd h.symm hr
 ·rename_i s o heq2
  rw[heq2]at hx;have m2:=hx.lptr_inv
  unfold wrBox at h
  split at h
  ·rename_i cs hat
   obtain⟨hf,h⟩:=bif_bad h hr
   have hf:o+n≤cs.length:=fits_some hf
   rw[putAt_eq (by rw[c1];exact hf)]at h
   have hs:=hE s
   rw[hat]at hs
   obtain⟨ds,d1,d2⟩:=hs.box_inv
   have dl:=d1.length
   rw[m2]
   simp only[d2]
   refine⟨by omega,hk ρ _ V _ σ (.refl _) (.refl _) hR (EnvR.set ?_ d .top) h⟩
   rw[setBox_eq]
   exact hE.put s ⟨_,d1.splice o hw,rfl⟩
  ·exact absurd h.symm hr
 ·exact absurd h.symm hr
theorem mark_sound (hk:KS R ρ V k r K) (hr:r≠.bad) (hR:Rel R ρ V σ) (hE:EnvR ρ env e') {x:Opd} (hp:x.plain=true) (h:opMark x d k env V=r):vcOp P (.mark x) d K e' σ:=by
 have hx:=eo_rep hE hp
 unfold opMark opMark2 at h
 split at h
 ·rename_i xs g heq
  rw[heq]at hx;obtain⟨v,k1,k2⟩:=hx.val_inv
  simp only[VR]at k1;obtain⟨ys,z,v1,⟨v2,v3⟩,rfl⟩:=k1
  unfold markK at h
  split at h
  ·rename_i n sz q hat
   obtain⟨hg,h⟩:=bif_bad h hr
   have hg:V.g≤g:=Nat.le_of_ble_eq_true hg
   obtain⟨z',hz',⟨d1,d2⟩,_⟩:=hR.get hat (by intro hh;cases hh)
   rw[v2]at hz';cases hz'
   obtain⟨o1,o2,o3⟩:=blk_inv d1
   simp only[vcOp,k2]
   obtain⟨r1,r2⟩:=hR.put (σ':=σ.dropOpn (some z.b)) v2 (live_of hat (by intro hh;cases hh)) hg (but_dropOpn σ z.b) (o:=.dead) trivial
   exact⟨⟨_,o2⟩,hk.fin2 hE (.refl _) r2 r1 (.ofV (by simp only[VR];exact⟨ys,v1,rfl⟩)) h⟩
  ·exact absurd h.symm hr
 ·exact absurd h.symm hr
theorem VRs.ones {xs ys:List AVal} (h:VRs ρ xs ys) (k:xs.all AVal.one=true):∀y∈ys,y.one=true:=by
 intro y hy
 have:=h.all_one
 rw[k]at this
 exact List.all_eq_true.1 this y hy
theorem app_fin (hk:KS R ρ V k r K) (hr:r≠.bad) (hR:Rel R ρ V σ) (hE:EnvR ρ env e') {sz q bytes:Nat} {x:Opd} (hp:x.plain=true) {ys ys':List AVal} (hy:VRs ρ ys ys')
  (h:(bif isNil ys then app0 sz q bytes d k env V (eo x env)else appK ys sz q bytes d k env V (eo x env))=r):∃xs nl tok,evalOpd e' x=.val (.slice xs nl tok)∧grows σ xs nl tok sz q∧
   xs.length+ys'.length≤maxLen∧(xs.length+ys'.length)*bytes≤140737488355328∧∀a σ',AppRes σ xs nl tok ys' sz q a σ'→DimA (fun a σ'=>K (e'.set d (.val a)) σ') a σ':=by
 have hx:=eo_rep hE hp
 have hyl:=hy.length
 cases hn:isNil ys with
 |true=>
  rw[hn,cond_true]at h
  have hnil:=isNil_eq.1 hn
  subst hnil
  have:ys'=[]:=hy.nil_inv
  subst this
  unfold app0 at h
  split at h
  ·rename_i xs nl g heq
   rw[heq]at hx;obtain⟨v,k1,k2⟩:=hx.val_inv
   have k1':=k1
   simp only[VR]at k1;obtain⟨zs,z,v1,⟨v2,v3⟩,rfl⟩:=k1
   obtain⟨ha,h⟩:=bif_bad h hr
   unfold aliveO at ha
   split at ha
   ·rename_i n sz' q' hat
    simp only[Bool.and_eq_true,beq_eq,decide_eq_true_eq]at ha
    obtain⟨rfl,rfl,ha⟩:=ha
    obtain⟨r1,r2⟩:=room_eq ha
    obtain⟨z',hz',⟨d1,d2⟩,_⟩:=hR.get hat (by intro hh;cases hh)
    rw[v2]at hz';cases hz'
    obtain⟨o1,o2,o3⟩:=blk_inv d1
    have hl:zs.length=n:=by rw[v1.length,←v3,d2]
    refine⟨zs,nl,some z.b,k2,.inr ⟨z.b,rfl,by rw[hl];exact o2⟩,by simpa[hl]using r1,by simpa[hl]using r2,fun a σ' hA=> ?_⟩
    rcases hA with⟨_,rfl,rfl⟩|⟨hne,_⟩
    ·exact DimA.of (k:=fun a σ'=>K (e'.set d (.val a)) σ') (hk.fin hR hE (.ofV k1') h)
    ·exact absurd rfl hne
   ·cases ha
  ·rename_i heq
   rw[heq]at hx;obtain⟨v,k1,k2⟩:=hx.val_inv
   have hv:=k1.slice_nil
   subst hv
   refine⟨[],true,none,k2,.inl ⟨rfl,rfl,rfl⟩,by simp,by simp,fun a σ' hA=> ?_⟩
   rcases hA with⟨_,rfl,rfl⟩|⟨hne,_⟩
   ·exact DimA.of (k:=fun a σ'=>K (e'.set d (.val a)) σ') (hk.fin hR hE (.plain rfl) h)
   ·exact absurd rfl hne
  ·exact absurd h.symm hr
 |false=>
  rw[hn,cond_false]at h
  have hne:ys≠[]:=fun hh=>by rw[isNil_eq.2 hh]at hn;cases hn
  have hne':ys'≠[]:=fun hh=>hne (by have:=hyl;rw[hh]at this;exact List.length_eq_zero_iff.1 this.symm)
  rw[appK_eq]at h
  unfold appK0 at h
  split at h
  ·rename_i xs nl g heq
   rw[heq]at hx;obtain⟨v,k1,k2⟩:=hx.val_inv
   simp only[VR]at k1;obtain⟨zs,z,v1,⟨v2,v3⟩,rfl⟩:=k1
   unfold appGrow at h
   split at h
   ·rename_i n sz' q' hat
    obtain⟨ha,h5⟩:=bif_bad h hr
    clear h
    simp only[Bool.and_eq_true,beq_eq,ble_eq,decide_eq_true_eq]at ha
    obtain⟨rfl,rfl,hg,ha⟩:=ha
    rename newOpn _ _ _ _ _ _ _ _=_=>h
    rw[lenF_eq,Nat.zero_add]at ha h
    obtain⟨r1,r2⟩:=room_eq ha
    obtain⟨z',hz',⟨d1,d2⟩,_⟩:=hR.get hat (by intro hh;cases hh)
    rw[v2]at hz';cases hz'
    obtain⟨o1,o2,o3⟩:=blk_inv d1
    have hl:zs.length=n:=by rw[v1.length,←v3,d2]
    have hl2:xs.length=n:=by rw[←v3,d2]
    have r1:n+ys.length≤maxLen:=r1
    have r2:(n+ys.length)*bytes≤_:=r2
    refine⟨zs,nl,some z.b,k2,.inr ⟨z.b,rfl,by rw[hl];exact o2⟩,by rw[hl,hyl];exact r1,by rw[hl,hyl];exact r2,fun a σ' hA=> ?_⟩
    rcases hA with⟨hh,_⟩|⟨_,g',rfl,rfl,hg'⟩
    ·exact absurd hh hne'
    ·obtain⟨q1,q2⟩:=hR.put (σ':=σ.dropOpn (some z.b)) v2 (live_of hat (by intro hh;cases hh)) hg (but_dropOpn σ z.b) (o:=.dead) trivial
     have hk':=hk.next (.refl _) q2
     refine DimA.of (k:=fun a σ'=>K (e'.set d (.val a)) σ') ?_
     rw[hl,hyl]
     rcases hg' with hg'|hg'
     ·cases hg'
      have:=blk_inv (blk_dropOpn σ z.b)
      refine newOpn_fin hk' q1 hE (v1.append hy) (by rw[List.length_append,hl2];rfl) h ?_ (by rw[this.1];exact o1) (by rw[this.2.2];exact o3)
      exact hR.dead_names v2 (live_of hat (by intro hh;cases hh))
     ·have hb:g'≠z.b:=by rintro rfl;rw[hg'.2.1]at o2;cases o2
      have hd:=blk_inv (but_dropOpn σ z.b g' hb)
      refine newOpn_fin hk' q1 hE (v1.append hy) (by rw[List.length_append,hl2];rfl) h (q1.fresh_names ?_) (by rw[hd.1];exact hg'.1) (by rw[hd.2.2];exact hg'.2.2)
      exact fresh_blk.2 ((but_dropOpn σ z.b g' hb).trans (fresh_blk.1 hg'))
   ·exact absurd h.symm hr
  ·rename_i heq
   rw[heq]at hx;obtain⟨v,k1,k2⟩:=hx.val_inv
   have hv:=k1.slice_nil
   subst hv
   unfold appNew at h
   rw[lenF_eq,Nat.zero_add]at h
   obtain⟨ha,h⟩:=bif_bad h hr
   obtain⟨r1,r2⟩:=room_eq ha
   refine⟨[],true,none,k2,.inl ⟨rfl,rfl,rfl⟩,by simpa[hyl]using r1,by simpa[hyl]using r2,fun a σ' hA=> ?_⟩
   rcases hA with⟨hh,_⟩|⟨_,g',rfl,rfl,hg'⟩
   ·exact absurd hh hne'
   ·rcases hg' with hg'|hg'
    ·cases hg'
    ·refine DimA.of (k:=fun a σ'=>K (e'.set d (.val a)) σ') ?_
     have hd:σ.dropOpn none=σ:=by
      unfold Store.dropOpn
      cases σ
      simp
     rw[hd]
     simp only[List.nil_append,List.length_nil,Nat.zero_add]
     rw[hyl]
     exact newOpn_fin hk hR hE hy rfl h (hR.fresh_names hg') hg'.1 hg'.2.2
  ·exact absurd h.symm hr
theorem app_sound (hk:KS R ρ V k r K) (hr:r≠.bad) (hR:Rel R ρ V σ) (hE:EnvR ρ env e') {sz q bytes:Nat} {x y:Opd} (hp:x.plain=true) (hq:y.plain=true) (h:opApp sz q bytes x y d k env V=r):vcOp P (.append sz q bytes x y) d K e' σ:=by
 have hy:=eo_rep hE hq
 unfold opApp appY at h
 obtain⟨ys,h1,h2⟩:=orec_bad h hr
 rw[srcE_eq]at h1
 unfold srcE0 at h1
 split at h1
 ·rename_i ys' nl tok heq
  cases hel:elemsB sz ys' with
  |false=>rw[hel]at h1;cases h1
  |true=>
   rw[hel]at h1;cases h1
   rw[heq]at hy;obtain⟨v,k1,k2⟩:=hy.val_inv
   obtain⟨zs,t,m1,rfl,_⟩:=k1.slice_inv
   obtain⟨xs,nl',tok',g1,g2,g3,g4,g5⟩:=app_fin hk hr hR hE hp m1 h2
   simp only[vcOp,g1,k2]
   exact⟨g2,m1.elemsOk (elemsB_ok hel),g3,g4,g5⟩
 ·rename_i i o n c heq
  rw[heq]at hy;obtain⟨v,k1,k2⟩:=hy.val_inv
  simp only[VR]at k1;obtain⟨z,hz,rfl⟩:=k1
  rw[beq_eq]at h1
  by_cases hs:sz=1
  ·rw[decide_eq_true hs,cond_true]at h1
   cases hc:objCells V i with
   |none=>rw[hc]at h1;cases h1
   |some cs=>
    rw[hc]at h1
    have h1:(@Option.rec (List AVal) (fun _=>Option (List AVal)) none (fun ys=>bif ys.all AVal.one then some ys else none) (atO (takeN n) o cs))=some ys:=h1
    cases ht:atO (takeN n) o cs with
    |none=>rw[ht]at h1;cases h1
    |some us=>
     rw[ht]at h1
     have h1:(bif us.all AVal.one then some us else none)=some ys:=h1
     cases ho:us.all AVal.one with
     |false=>rw[ho]at h1;cases h1
     |true=>
      rw[ho,cond_true]at h1;cases h1
      obtain⟨w,ds,rest,c1,c2,c3⟩:=cells_rep hR hc
      rw[hz]at c1;cases c1
      obtain⟨t1,rfl⟩:=subO_some ht
      have dl:=c2.length
      have hsub:=(c2.drop o).take n
      obtain⟨xs,nl',tok',g1,g2,g3,g4,g5⟩:=app_fin hk hr hR hE hp hsub h2
      have hln:((ds.drop o).take n).length=n:=by rw[List.length_take,List.length_drop];omega
      rw[hln]at g3 g4
      simp only[vcOp,g1,k2]
      refine⟨hs,ds++rest,c3,by rw[List.length_append];omega,g2,?_,g3,g4,?_⟩
      ·rw[drop_app (by omega)];exact hsub.ones ho
      ·rw[drop_app (by omega)];exact g5
  ·rw[decide_eq_false hs]at h1;cases h1
 ·cases h1
theorem appM_sound (hk:KS R ρ V k r K) (hr:r≠.bad) (hR:Rel R ρ V σ) (hE:EnvR ρ env e') {sz q bytes:Nat} {x y:Opd} (hp:x.plain=true) (hq:y.plain=true) (h:opAppM sz bytes x y d k env V=r):vcOp P (.appendM sz q bytes x y) d K e' σ:=by
 have hy:=eo_rep hE hq;have hx:=eo_rep hE hp
 unfold opAppM appMY at h
 obtain⟨⟨ys,m⟩,h1,h⟩:=orec_bad h hr
 simp only at h
 have hS:∃ys',VRs ρ ys ys'∧SrcM σ sz (evalOpd e' y) m ys'∧ys'.length=m*sz:=by
  unfold srcM at h1
  split at h1
  ·rename_i zs nl tok heq
   cases hel:elemsB sz zs with
   |false=>rw[hel]at h1;cases h1
   |true=>
    rw[hel,cond_true]at h1
    simp only[Option.some.injEq,Prod.mk.injEq]at h1
    obtain⟨rfl,rfl⟩:=h1
    rw[heq]at hy;obtain⟨v,k1,k2⟩:=hy.val_inv
    obtain⟨us,t,m1,rfl,_⟩:=k1.slice_inv
    rw[flat2_eq,lenF_eq,Nat.zero_add,k2]
    have hel':=m1.elemsOk (elemsB_ok hel)
    refine⟨_,m1.flat,⟨hel',m1.length.symm,rfl⟩,?_⟩
    rw[elems_flat hel',m1.length]
  ·rename_i i o n c heq
   rw[heq]at hy;obtain⟨v,k1,k2⟩:=hy.val_inv
   simp only[VR]at k1;obtain⟨z,hz,rfl⟩:=k1
   cases hc:objCells V i with
   |none=>rw[hc]at h1;cases h1
   |some cs=>
    rw[hc]at h1
    have h1:(@Option.rec (List AVal) (fun _=>Option (List AVal × Nat)) none (fun ys=>bif ys.all AVal.one then some (ys,n)else none) (atO (takeN (Nat.mul n sz)) o cs))=some (ys,m):=h1
    cases ht:atO (takeN (Nat.mul n sz)) o cs with
    |none=>rw[ht]at h1;cases h1
    |some us=>
     rw[ht]at h1
     have h1:(bif us.all AVal.one then some (us,n)else none)=some (ys,m):=h1
     cases ho:us.all AVal.one with
     |false=>rw[ho]at h1;cases h1
     |true=>
      rw[ho,cond_true]at h1
      simp only[Option.some.injEq,Prod.mk.injEq]at h1
      obtain⟨rfl,rfl⟩:=h1
      obtain⟨w,ds,rest,c1,c2,c3⟩:=cells_rep hR hc
      rw[hz]at c1;cases c1
      obtain⟨t1,rfl⟩:=subO_some ht
      have t1:o+n*sz≤cs.length:=t1
      have dl:=c2.length
      have hsub:VRs ρ ((cs.drop o).take (n*sz)) ((ds.drop o).take (n*sz)):=(c2.drop o).take (n*sz)
      rw[k2]
      refine⟨_,hsub,⟨ds++rest,c3,by rw[List.length_append];omega,rfl,by rw[drop_app (by omega)],?_⟩,?_⟩
      ·exact List.all_eq_true.2 (hsub.ones ho)
      ·rw[List.length_take,List.length_drop];omega
  ·cases h1
 obtain⟨ys',hv,hS,hlen⟩:=hS
 simp only[vcOp]
 refine⟨m,ys',hS,?_⟩
 rw[beq_eq]at h
 by_cases hm:m=0
 ·subst hm
  rw[decide_eq_true rfl,cond_true]at h
  unfold appM0 at h
  split at h
  ·rename_i i n heq
   rw[heq]at hx;obtain⟨v,k1,k2⟩:=hx.val_inv
   have k1':=k1
   simp only[VR]at k1;obtain⟨z,hz,rfl⟩:=k1
   obtain⟨ha,h⟩:=bif_bad h hr
   simp only[Bool.and_eq_true]at ha
   obtain⟨r1,r2⟩:=room_eq ha.2
   have ha:=ha.1
   unfold isRow' at ha
   split at ha
   ·rename_i sz' cs hat
    rw[beq_eq,decide_eq_true_eq]at ha
    subst ha
    obtain⟨z',hz',⟨ds,d1,d2,d3⟩,_⟩:=hR.get hat (by intro hh;cases hh)
    rw[hz]at hz';cases hz'
    rw[k2]
    have hcap:capOf z.m 1=z.m:=by simp[capOf]
    simp only[hcap]
    rw[hcap]at k1'
    exact⟨ds++z.rest,(blk_inv d2).1,d3,r1,r2,fun _=>hk.fin hR hE (.ofV k1') h,fun hh=>absurd hh (by omega),fun hh=>absurd hh (by omega)⟩
   ·cases ha
  ·rename_i heq
   rw[heq]at hx;obtain⟨v,k1,k2⟩:=hx.val_inv
   have hv:=k1.slice_nil
   subst hv
   rw[k2]
   exact⟨by simp,by simp,fun _=>hk.fin hR hE (.plain rfl) h,fun hh=>absurd hh (by omega)⟩
  ·exact absurd h.symm hr
 ·rw[decide_eq_false hm,cond_false]at h
  unfold appM1 at h
  split at h
  ·rename_i i n heq
   rw[heq]at hx;obtain⟨v,k1,k2⟩:=hx.val_inv
   simp only[VR]at k1;obtain⟨z,hz,rfl⟩:=k1
   unfold appM2 at h
   split at h
   ·rename_i sz' cs hat
    obtain⟨ha,h5⟩:=bif_bad h hr
    clear h
    simp only[Bool.and_eq_true,beq_eq,ble_eq,decide_eq_true_eq]at ha
    obtain⟨rfl,hg,ha⟩:=ha
    obtain⟨r1,r2⟩:=room_eq ha
    obtain⟨old,h2,h⟩:=orec_bad h5 hr
    clear h5
    obtain⟨t1,rfl⟩:=takeN_some h2
    have t1:n*sz≤cs.length:=t1
    obtain⟨z',hz',⟨ds,d1,d2,d3⟩,_⟩:=hR.get hat (by intro hh;cases hh)
    rw[hz]at hz';cases hz'
    obtain⟨o1,o2,o3⟩:=blk_inv d2
    have dl:=d1.length
    have hlive:=live_of hat (by intro hh;cases hh)
    have hcap:capOf z.m 1=z.m:=by simp[capOf]
    rw[k2]
    simp only[hcap]
    have hold:VRs ρ (cs.take (n*sz)) (ds.take (n*sz)):=d1.take (n*sz)
    have htk:(ds++z.rest).take (n*sz)=ds.take (n*sz):=List.take_append_of_le_length (by omega)
    have hmul:(n+m)*sz=n*sz+m*sz:=Nat.add_mul ..
    refine⟨ds++z.rest,o1,d3,r1,r2,fun hh=>absurd hh hm,fun _ _ g c' hg' hc hc'=> ?_,fun _ hc=> ?_⟩
    ·obtain⟨q1,q2⟩:=hR.put (σ':=σ) hz hlive hg (fun x _=>rfl) (o:=.dead) trivial
     have hk':=hk.next (.refl _) q2
     rw[htk]
     have hmul2:c'*sz=(n+m)*sz+(c'-(n+m))*sz:=by rw[←Nat.add_mul];congr 1;omega
     refine newRow_fin (n:=n+m) hk' q1 hE (hold.append hv) ?_ h (q1.fresh_names hg') hg'.2.1 hg'.2.2
     simp only[List.length_append,List.length_take,List.length_replicate,hlen];omega
    ·obtain⟨q1,q2⟩:=hR.put (σ':=σ.setObj z.b (splice (ds++z.rest) (n*sz) ys')) hz hlive hg (but_setObj σ z.b _) (o:=.dead) trivial
     have hk':=hk.next (.refl _) q2
     have hsp:splice (ds++z.rest) (n*sz) ys'=(ds.take (n*sz)++ys')++(ds++z.rest).drop (n*sz+m*sz):=by
      unfold splice;rw[htk,hlen]
     have hcm:(n+m)*sz≤z.m*sz:=Nat.mul_le_mul_right _ hc
     obtain⟨n1,n2⟩:=hR.dead_names hz hlive
     have hso:σ.setObj z.b (splice (ds++z.rest) (n*sz) ys')=(σ.setObj z.b (splice (ds++z.rest) (n*sz) ys')).setObj z.b (splice (ds++z.rest) (n*sz) ys'):=by
      unfold Store.setObj
      congr 1
      funext w
      cases h7:(w==z.b)<;>simp[h7]
     rw[hso,hsp]
     refine newRow_fin (n:=n+m) (σ:=σ.setObj z.b ((ds.take (n*sz)++ys')++(ds++z.rest).drop (n*sz+m*sz))) hk' (by rw[←hsp];exact q1) hE (hold.append hv) ?_ h ⟨n1,n2⟩ o2 o3
     simp only[List.length_append,List.length_take,List.length_drop,hlen]
     rw[List.length_append]at d3
     omega
   ·exact absurd h.symm hr
  ·rename_i heq
   rw[heq]at hx;obtain⟨v,k1,k2⟩:=hx.val_inv
   have hv0:=k1.slice_nil
   subst hv0
   obtain⟨ha,h⟩:=bif_bad h hr
   obtain⟨r1,r2⟩:=room_eq ha
   rw[k2]
   refine⟨r1,r2,fun hh=>absurd hh hm,fun _ g c' hg' hc hc'=> ?_⟩
   have hmul2:c'*sz=m*sz+(c'-m)*sz:=by rw[←Nat.add_mul];congr 1;omega
   refine newRow_fin hk hR hE hv ?_ h (hR.fresh_names hg') hg'.2.1 hg'.2.2
   simp only[List.length_append,List.length_replicate,hlen];omega
  ·exact absurd h.symm hr
end
end Go.AL
