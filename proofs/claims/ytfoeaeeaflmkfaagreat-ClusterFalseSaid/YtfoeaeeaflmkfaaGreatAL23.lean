/-
  AN ABSTRACT LOGIC OVER THE MODEL, part 23: the evaluator is sound: calls, operations all together, regions, code, functions.
-/
import Derived.Test.YtfoeaeeaflmkfaaGreatAL22
namespace Go.AL
open Go.RowKit
mutual
theorem shut_plain:∀(a:AVal),a.plain=true→a.shut=a
 |.top,h=>by cases h
 |.bool _,_=>rfl
 |.int _ _,_=>rfl
 |.str _,_=>rfl
 |.nilP,_=>rfl
 |.ptr _ _,_=>rfl
 |.sptr cs,h=>by simp only[AVal.shut];rw[shuts_plain cs (by simpa[AVal.plain]using h)]
 |.slice xs nl none,h=>by simp only[AVal.shut];rw[shuts_plain xs (by simpa[AVal.plain]using h)]
 |.slice xs nl (some g),h=>by simp[AVal.plain]at h
 |.raw _ _,h=>by cases h
 |.ref _ _ _ _,_=>rfl
 |.agg cs,h=>by simp only[AVal.shut];rw[shuts_plain cs (by simpa[AVal.plain]using h)]
 |.tuple cs,h=>by simp only[AVal.shut];rw[shuts_plain cs (by simpa[AVal.plain]using h)]
 |.iface t v,h=>by simp only[AVal.shut];rw[shut_plain v (by simpa[AVal.plain]using h)]
 |.nilI,_=>rfl
 |.func fn f c,h=>by
  simp only[AVal.plain,Bool.and_eq_true]at h
  simp only[AVal.shut];rw[shuts_plain f h.1,shuts_plain c h.2]
 |.nilF,_=>rfl
 |.map _,_=>rfl
theorem shuts_plain:∀(l:List AVal),plains l=true→shuts l=l
 | [],_=>rfl
 |x::l,h=>by
  simp only[plains,Bool.and_eq_true]at h
  simp only[shuts];rw[shut_plain x h.1,shuts_plain l h.2]
end
mutual
theorem VR.shut {ρ:Names}:∀(v:AVal) {y:AVal},VR ρ v y→VR ρ v.shut y.shut
 |.top,y,h=>by rw[VR]at h;subst h;simp only[AVal.shut,VR]
 |.bool _,y,h=>by rw[VR]at h;subst h;simp only[AVal.shut,VR]
 |.int _ _,y,h=>by rw[VR]at h;subst h;simp only[AVal.shut,VR]
 |.str _,y,h=>by rw[VR]at h;subst h;simp only[AVal.shut,VR]
 |.nilP,y,h=>by rw[VR]at h;subst h;simp only[AVal.shut,VR]
 |.ptr i o,y,h=>by have h':=h;rw[VR]at h;obtain⟨x,h1,rfl⟩:=h;exact h'
 |.sptr cs,y,h=>by rw[VR]at h;obtain⟨ds,h1,rfl⟩:=h;simp only[AVal.shut,VR];exact⟨_,VRs.shut cs h1,rfl⟩
 |.slice xs nl tok,y,h=>by obtain⟨ds,t,h1,rfl,_⟩:=h.slice_inv;simp only[AVal.shut,VR];exact⟨_,VRs.shut xs h1,rfl⟩
 |.raw i n,y,h=>by have h':=h;rw[VR]at h;obtain⟨x,h1,h2⟩:=h;rw[shut_plain y h2.1];exact h'
 |.ref i o n c,y,h=>by have h':=h;rw[VR]at h;obtain⟨x,h1,rfl⟩:=h;exact h'
 |.agg cs,y,h=>by rw[VR]at h;obtain⟨ds,h1,rfl⟩:=h;simp only[AVal.shut,VR];exact⟨_,VRs.shut cs h1,rfl⟩
 |.tuple cs,y,h=>by rw[VR]at h;obtain⟨ds,h1,rfl⟩:=h;simp only[AVal.shut,VR];exact⟨_,VRs.shut cs h1,rfl⟩
 |.iface t v,y,h=>by rw[VR]at h;obtain⟨w,h1,rfl⟩:=h;simp only[AVal.shut,VR];exact⟨_,VR.shut v h1,rfl⟩
 |.nilI,y,h=>by rw[VR]at h;subst h;simp only[AVal.shut,VR]
 |.func fn f c,y,h=>by rw[VR]at h;obtain⟨f',c',h1,h2,rfl⟩:=h;simp only[AVal.shut,VR];exact⟨_,_,VRs.shut f h1,VRs.shut c h2,rfl⟩
 |.nilF,y,h=>by rw[VR]at h;subst h;simp only[AVal.shut,VR]
 |.map none,y,h=>by rw[VR]at h;subst h;simp only[AVal.shut,VR]
 |.map (some i),y,h=>by have h':=h;rw[VR]at h;obtain⟨x,h1,rfl⟩:=h;exact h'
theorem VRs.shut {ρ:Names}:∀(vs:List AVal) {ys:List AVal},VRs ρ vs ys→VRs ρ (shuts vs) (shuts ys)
 | [],ys,h=>by rw[h.nil_inv];simp only[shuts];exact .nil
 |x::xs,ys,h=>by obtain⟨y,zs,h1,h2,rfl⟩:=h.cons_inv;simp only[shuts];exact .cons (VR.shut x h1) (VRs.shut xs h2)
end
def CallOk (P:Program) (f:Nat) (c:Callee'):Prop:=∀as V a V',c as V=.got a V'→
 (∃fn,P.funcs[f]? =some fn∧(fn.body.isSome&&fn.name != "runtime.NumGoroutine")=true)∧
 ∀R ρ σ bs,Rel R ρ V σ→VRs ρ as bs→ACall P f bs σ fun b σ'=>∃ρ',ρ.Le ρ'∧Gd V V'∧Rel R ρ' V' σ'∧VR ρ' a b
section
variable {P:Program} {R:Store} {ρ:Names} {V:VS} {σ:Store} {env:VE} {e':Env} {k:EK} {r:ER} {K:Env→Store→Prop} {d:Option Nat} {call:Nat→Callee'}
noncomputable def Store.besides (σ:Store) (ρ:Names) (V:VS):Store:=
 open Classical in
 ⟨fun b=>if∃i y,V.at i≠.dead∧ρ i=some y∧y.b=b then none else σ.obj b,
  fun b=>if∃i y,V.at i≠.dead∧ρ i=some y∧y.b=b then none else σ.opn b,
  fun b=>if∃i y,V.at i≠.dead∧ρ i=some y∧y.b=b then none else σ.mp b⟩
theorem quiet_call {c:Callee'} {f:Nat} (hc:CallOk P f c) (hR:Rel R ρ V σ) {as bs:List AVal} (hv:VRs ρ as bs) {a:AVal} {V':VS} (h:c as V.guard=.got a V') (hp:a.shut.plain=true):
  ACall P f bs σ fun b σ'=>b=a.shut∧σ'=σ:=by
 have hR':Rel (σ.besides ρ V) ρ V.guard σ:=by
  refine⟨Nat.le_refl _,hR.dom,fun i hi=> ?_,hR.inj,?_⟩
  ·obtain⟨x,h1,h2,_⟩:=hR.obj i hi
   have hcov:∃i y,V.at i≠.dead∧ρ i=some y∧y.b=x.b:=⟨i,x,hi,h1,rfl⟩
   exact⟨x,h1,h2,if_pos hcov,if_pos hcov,if_pos hcov⟩
  ·refine⟨fun b q e=> ?_,fun b q e=> ?_,fun b q e=> ?_⟩<;>
   ·simp only[Store.besides]at e
    split at e
    ·cases e
    ·exact e
 refine((hc as V.guard a V' h).2 _ ρ σ bs hR' hv).weak ?_
 rintro b σ' ⟨ρ',hle,hg,hR2,hab⟩
 refine⟨a.shut,σ,?_,?_,rfl,rfl⟩
 ·have hs:=VR.shut a hab
  rw[←VR.prim hs hp]
  exact AVal.le_shut b
 ·have key:∀x:Nat,(∃i y,V.at i≠.dead∧ρ i=some y∧y.b=x)→σ'.blk x=σ.blk x:=by
   rintro x ⟨i,y,hi,hy,rfl⟩
   obtain⟨z,z1,z2,_⟩:=hR.obj i hi
   rw[hy]at z1;cases z1
   have hlt:i<V.n:=hR.dom i y hy
   have hat:V'.at i=V.at i:=hg.keep i hlt
   obtain⟨w,w1,w2,_⟩:=hR2.obj i (by rw[hat];exact hi)
   rw[hle i y hy]at w1;cases w1
   rw[hat]at w2
   exact z2.same hle w2 hi
  refine⟨fun x q e=> ?_,fun x q e=> ?_,fun x q e=> ?_⟩
  ·by_cases hx:∃i y,V.at i≠.dead∧ρ i=some y∧y.b=x
   ·rw[(blk_inv (key x hx)).1];exact e
   ·exact hR2.sub.obj x q (by simp only[Store.besides];rw[if_neg hx];exact e)
  ·by_cases hx:∃i y,V.at i≠.dead∧ρ i=some y∧y.b=x
   ·rw[(blk_inv (key x hx)).2.1];exact e
   ·exact hR2.sub.opn x q (by simp only[Store.besides];rw[if_neg hx];exact e)
  ·by_cases hx:∃i y,V.at i≠.dead∧ρ i=some y∧y.b=x
   ·rw[(blk_inv (key x hx)).2.2];exact e
   ·exact hR2.sub.mp x q (by simp only[Store.besides];rw[if_neg hx];exact e)
theorem retK_out {x:FR} (h:retK d k env x=r) (hr:r≠.bad):∃a V',x=.got a V'∧k (setd d (.val a) env) V'=r:=by
 cases x with
 |got a V'=>exact⟨a,V',rfl,h⟩
 |fail=>exact absurd h.symm hr
theorem call_fin {c:Callee'} {f:Nat} (hc:CallOk P f c) (hk:KS R ρ V k r K) (hr:r≠.bad) (hR:Rel R ρ V σ) (hE:EnvR ρ env e') {as bs:List AVal} (hv:VRs ρ as bs) (h:retK d k env (c as V)=r):
  (∃fn,P.funcs[f]? =some fn∧(fn.body.isSome&&fn.name != "runtime.NumGoroutine")=true)∧ACall P f bs σ fun a σ'=>K (e'.set d (.val a)) σ':=by
 obtain⟨a,V',h1,h2⟩:=retK_out h hr
 obtain⟨c1,c2⟩:=hc as V a V' h1
 refine⟨c1,(c2 R ρ σ bs hR hv).mono ?_⟩
 rintro b σ' ⟨ρ',hle,hg,hR',hab⟩
 exact hk.fin2 hE hle hg hR' (.ofV hab) h2
theorem call_sound (hc:∀f,CallOk P f (call f)) (hk:KS R ρ V k r K) (hr:r≠.bad) (hR:Rel R ρ V σ) (hE:EnvR ρ env e') {f:Nat} {as:List Opd} (hp:∀x∈as,x.plain=true) (h:opCall call f as d k env V=r):vcOp P (.call f as) d K e' σ:=by
 obtain⟨vs,h1,h2⟩:=orec_bad h hr
 obtain⟨bs,k1,k2⟩:=evals_rep hE h1 hp
 simp only[vcOp,k1]
 exact(call_fin (hc f) hk hr hR hE k2 h2).2
theorem callv_sound (hc:∀f,CallOk P f (call f)) (hk:KS R ρ V k r K) (hr:r≠.bad) (hR:Rel R ρ V σ) (hE:EnvR ρ env e') {f:Opd} {as:List Opd} (hf:f.plain=true) (hp:∀x∈as,x.plain=true) (h:opCallv call f as d k env V=r):vcOp P (.callv f as) d K e' σ:=by
 obtain⟨vs,h1,h2⟩:=orec_bad h hr
 obtain⟨bs,k1,k2⟩:=evals_rep hE h1 hp
 have hx:=eo_rep hE hf
 unfold callvK at h2
 split at h2
 ·rename_i g fs cs heq
  rw[heq]at hx;obtain⟨w,m1,m2⟩:=hx.val_inv;simp only[VR]at m1;obtain⟨fs',cs',f1,f2,rfl⟩:=m1
  simp only[vcOp,k1,m2]
  exact call_fin (hc g) hk hr hR hE ((f1.append k2).append f2) h2
 ·exact absurd h2.symm hr
theorem inv_sound (hc:∀f,CallOk P f (call f)) (hk:KS R ρ V k r K) (hr:r≠.bad) (hR:Rel R ρ V σ) (hE:EnvR ρ env e') {tbl:List (Nat × Nat)} {x:Opd} {as:List Opd} (hf:x.plain=true) (hp:∀x∈as,x.plain=true) (h:opInv call tbl x as d k env V=r):vcOp P (.inv tbl x as) d K e' σ:=by
 obtain⟨vs,h1,h2⟩:=orec_bad h hr
 obtain⟨bs,k1,k2⟩:=evals_rep hE h1 hp
 have hx:=eo_rep hE hf
 unfold invK at h2
 split at h2
 ·rename_i t v heq
  rw[heq]at hx;obtain⟨w,m1,m2⟩:=hx.val_inv;simp only[VR]at m1;obtain⟨v',f1,rfl⟩:=m1
  unfold invF at h2
  split at h2
  ·rename_i g hg
   rw[tblF_eq]at hg
   simp only[vcOp,k1,m2]
   exact⟨g,hg,(call_fin (hc g) hk hr hR hE (.cons f1 k2) h2).2⟩
  ·exact absurd h2.symm hr
 ·exact absurd h2.symm hr
theorem quiet_fin {c:Callee'} {f:Nat} (hc:CallOk P f c) (hk:KS R ρ V k r K) (hr:r≠.bad) (hR:Rel R ρ V σ) (hE:EnvR ρ env e') {as bs:List AVal} (hv:VRs ρ as bs) (h:quietR d k env V (c as V.guard)=r):
  (∃fn,P.funcs[f]? =some fn∧(fn.body.isSome&&fn.name != "runtime.NumGoroutine")=true)∧∃x,ACall P f bs σ (fun a σ'=>a=x∧σ'=σ)∧K (e'.set d (.val x)) σ:=by
 cases hx:c as V.guard with
 |fail=>rw[hx]at h;exact absurd h.symm hr
 |got a V'=>
  rw[hx]at h
  obtain⟨hp,h⟩:=bif_bad h hr
  exact⟨(hc as V.guard a V' hx).1,a.shut,quiet_call hc hR hv hx hp,hk.fin hR hE (.plain hp) h⟩
theorem callD_sound (hc:∀f,CallOk P f (call f)) (hk:KS R ρ V k r K) (hr:r≠.bad) (hR:Rel R ρ V σ) (hE:EnvR ρ env e') {W:List Nat} {f:Nat} {as:List Opd} (hp:∀x∈as,x.plain=true) (h:callD call f as d k env V=r):vcOpD P W (.call f as) d K e' σ:=by
 obtain⟨vs,h1,h2⟩:=orec_bad h hr
 obtain⟨bs,k1,k2⟩:=evals_rep hE h1 hp
 simp only[vcOpD,k1]
 exact(quiet_fin (hc f) hk hr hR hE k2 h2).2
theorem callvD_sound (hc:∀f,CallOk P f (call f)) (hk:KS R ρ V k r K) (hr:r≠.bad) (hR:Rel R ρ V σ) (hE:EnvR ρ env e') {W:List Nat} {f:Opd} {as:List Opd} (hf:f.plain=true) (hp:∀x∈as,x.plain=true) (h:callvD call f as d k env V=r):vcOpD P W (.callv f as) d K e' σ:=by
 obtain⟨vs,h1,h2⟩:=orec_bad h hr
 obtain⟨bs,k1,k2⟩:=evals_rep hE h1 hp
 have hx:=eo_rep hE hf
 unfold callvDK at h2
 split at h2
 ·rename_i g fs cs heq
  rw[heq]at hx;obtain⟨w,m1,m2⟩:=hx.val_inv;simp only[VR]at m1;obtain⟨fs',cs',f1,f2,rfl⟩:=m1
  simp only[vcOpD,k1,m2]
  exact quiet_fin (hc g) hk hr hR hE ((f1.append k2).append f2) h2
 ·exact absurd h2.symm hr
theorem invD_sound (hc:∀f,CallOk P f (call f)) (hk:KS R ρ V k r K) (hr:r≠.bad) (hR:Rel R ρ V σ) (hE:EnvR ρ env e') {W:List Nat} {tbl:List (Nat × Nat)} {x:Opd} {as:List Opd} (hf:x.plain=true) (hp:∀x∈as,x.plain=true) (h:invD call tbl x as d k env V=r):vcOpD P W (.inv tbl x as) d K e' σ:=by
 obtain⟨vs,h1,h2⟩:=orec_bad h hr
 obtain⟨bs,k1,k2⟩:=evals_rep hE h1 hp
 have hx:=eo_rep hE hf
 unfold invDK at h2
 split at h2
 ·rename_i t v heq
  rw[heq]at hx;obtain⟨w,m1,m2⟩:=hx.val_inv;simp only[VR]at m1;obtain⟨v',f1,rfl⟩:=m1
  unfold invDF at h2
  split at h2
  ·rename_i g hg
   rw[tblF_eq]at hg
   simp only[vcOpD,k1,m2]
   exact⟨g,hg,(quiet_fin (hc g) hk hr hR hE (.cons f1 k2) h2).2⟩
  ·exact absurd h2.symm hr
 ·exact absurd h2.symm hr
theorem range_sound (hk:KS R ρ V k r K) (hr:r≠.bad) (hR:Rel R ρ V σ) (hE:EnvR ρ env e') {x:Opd} (hp:x.plain=true) (h:opRange x d k env V=r):vcOp P (.range x) d K e' σ:=by
 have hx:=eo_rep hE hp
 unfold opRange range1 at h
 split at h
 ·rename_i r0 heq
  rw[heq]at hx;obtain⟨w,m1,m2⟩:=hx.val_inv;simp only[VR]at m1;obtain⟨y,hy,rfl⟩:=m1
  unfold rangeK at h
  split at h
  ·rename_i ko es hat
   obtain⟨hg,h⟩:=bif_bad h hr
   obtain⟨es',q1,q2,q3,q4,q5,q6⟩:=map_get hR hat hy
   simp only[vcOp,m2]
   refine⟨es',q4,fun b hb=> ?_⟩
   have hne:b≠y.b:=by rintro rfl;rw[hb.2.2]at q4;cases q4
   obtain⟨r1,r2⟩:=hR.put (σ':=σ.setMap y.b .lent) hy (live_of hat (by intro hh;cases hh)) (Nat.le_of_ble_eq_true hg) (but_setMap σ y.b _) (o:=.lent) (by show Store.blk _ _=_;rw[blk_setMap,q2,q3])
   have hf:(σ.setMap y.b .lent).fresh b:=by
    rw[fresh_blk,but_setMap σ y.b _ b hne,←fresh_blk];exact hb
   have hle:=le_add r1 ⟨b,0,[]⟩
   obtain⟨h1,h2,h3⟩:=new_rep r1 (σ':=(σ.setMap y.b .lent).setMap b (.iter (some y.b) es' es' none)) hf (x:=⟨b,0,[]⟩) rfl (o:=.iter r0 ko es es none) (but_setMap _ b _)
    ⟨y,es',es',none,hle _ _ hy,q1.mono hle,q1.mono hle,rfl,by rw[blk_setMap,hf.1,hf.2.1],q5,q6⟩
   exact hk.fin2 hE h2 (r2.trans h3) h1 (.ofV (by simp only[VR];exact⟨_,Names.add_get ..,rfl⟩)) h
  ·exact absurd h.symm hr
 ·exact absurd h.symm hr
theorem iter_get (hR:Rel R ρ V σ) {i m:Nat} {ko:Option KeyK} {es left:List (AVal × AVal)} {cur:Option (AVal × AVal)} (hat:V.at i=.iter m ko es left cur) {z:Nm} (hz:ρ i=some z):
  ∃y es' left' cur',ρ m=some y∧MR ρ es es'∧MR ρ left left'∧CurR ρ cur cur'∧σ.obj z.b=none∧σ.opn z.b=none∧σ.mp z.b=some (.iter (some y.b) es' left' cur')∧(∀kk,ko=some kk→∀e∈es,kk.is e.1=true)∧(ko=none→es=[]):=by
 obtain⟨z',hz',⟨y,es',left',cur',m1,m2,m3,m4,m5,m6,m7⟩,_⟩:=hR.get hat (by intro hh;cases hh)
 rw[hz]at hz';cases hz'
 obtain⟨o1,o2,o3⟩:=blk_inv m5
 exact⟨y,es',left',cur',m1,m2,m3,m4,o1,o2,o3,m6,m7⟩
theorem VR.pair {a b c b':AVal} (ha:a.plain=true) (hc:c.plain=true) (hb:VR ρ b b'):VR ρ (.tuple [c,a,b]) (.tuple [c,a,b']):=by
 simp only[VR];exact⟨_,.cons (VR.of_plain c hc) (.cons (VR.of_plain a ha) (.cons hb .nil)),rfl⟩
theorem entry_sound (hk:KS R ρ V k r K) (hr:r≠.bad) (hR:Rel R ρ V σ) (hE:EnvR ρ env e') {x:Opd} (hp:x.plain=true) (h:opEntry x d k env V=r):vcOp P (.entry x) d K e' σ:=by
 have hx:=eo_rep hE hp
 unfold opEntry entry1 at h
 split at h
 ·rename_i i heq
  rw[heq]at hx;obtain⟨w,m1,m2⟩:=hx.val_inv;simp only[VR]at m1;obtain⟨z,hz,rfl⟩:=m1
  unfold entryK at h
  split at h
  ·rename_i m ko es left e hat
   obtain⟨hpl,h⟩:=bif_bad h hr
   obtain⟨y,es',left',cur',q1,q2,q3,q4,o1,o2,o3,_⟩:=iter_get hR hat hz
   obtain⟨v,v1,rfl⟩:=q4
   simp only[vcOp,m2]
   refine⟨y.b,es',left',(e.1,v),o3,hk.fin hR hE (.ofV ?_) h⟩
   simp only[VR];exact⟨_,.cons (VR.of_plain _ hpl) (.cons v1 .nil),rfl⟩
  ·exact absurd h.symm hr
 ·exact absurd h.symm hr
def AOp.zeros:AOp→Bool
 |.box cs|.obj cs=>plains cs
 |.build z _=>plains z
 |.bslice _ _ _ _ z _=>z.plain
 |.mslice _ _ _ z _=>z.plain
 |.mget _ z _ _ _=>z.plain
 |.clearS _ z _=>z.plain
 |_=>true
def AOp.plainB (o:AOp):Bool:=o.opds.all Opd.plain&&o.zeros
theorem opE_sound (hc:∀f,CallOk P f (call f)) (hk:KS R ρ V k r K) (hr:r≠.bad) (hR:Rel R ρ V σ) (hE:EnvR ρ env e') {o:AOp} (hp:o.plainB=true) (h:opE call o d k env V=r):vcOp P o d K e' σ:=by
 simp only[AOp.plainB,Bool.and_eq_true]at hp
 have hz:=hp.2
 have q:∀x∈o.opds,x.plain=true:=List.all_eq_true.1 hp.1
 cases o with
 |mv x=>exact(opP_sound hk hr hR hE (fun e he=>givesE_pure rfl (fun _ _ _ _=>rfl) (pMv_rep hE (q x (by simp[AOp.opds])) he)) h []).1
 |nilCheck x=>exact(opP_sound hk hr hR hE (fun e he=>givesE_pure rfl (fun _ _ _ _=>rfl) (pNil_rep hE (q x (by simp[AOp.opds])) he)) h []).1
 |bin op eq x y=>exact(opP_sound hk hr hR hE (fun e he=>givesE_pure rfl (fun _ _ _ _=>rfl) (pBin_rep hE (q x (by simp[AOp.opds])) (q y (by simp[AOp.opds])) he)) h []).1
 |not x=>exact(opP_sound hk hr hR hE (fun e he=>givesE_pure rfl (fun _ _ _ _=>rfl) (pNot_rep hE (q x (by simp[AOp.opds])) he)) h []).1
 |convInt kd x=>exact(opP_sound hk hr hR hE (fun e he=>givesE_pure rfl (fun _ _ _ _=>rfl) (pConv_rep hE (q x (by simp[AOp.opds])) he)) h []).1
 |same x=>exact(opP_sound hk hr hR hE (fun e he=>givesE_pure rfl (fun _ _ _ _=>rfl) (pSame_rep hE (q x (by simp[AOp.opds])) he)) h []).1
 |iface t x=>exact(opP_sound hk hr hR hE (fun e he=>givesE_pure rfl (fun _ _ _ _=>rfl) (pIface_rep hE (q x (by simp[AOp.opds])) he)) h []).1
 |mkFunc fn f c=>exact(opP_sound hk hr hR hE (fun e he=>givesE_pure rfl (fun _ _ _ _=>rfl) (pMk_rep hE (fun x hx=>q x (by simp[AOp.opds,hx])) (fun x hx=>q x (by simp[AOp.opds,hx])) he)) h []).1
 |foff off x=>exact(opP_sound hk hr hR hE (fun e he=>givesE_pure rfl (fun _ _ _ _=>rfl) (pFoff_rep hE (q x (by simp[AOp.opds])) he)) h []).1
 |aidx n sz x i=>exact(opP_sound hk hr hR hE (fun e he=>givesE_pure rfl (fun _ _ _ _=>rfl) (pAidx_rep hE (q x (by simp[AOp.opds])) (q i (by simp[AOp.opds])) he)) h []).1
 |arr n x=>exact(opP_sound hk hr hR hE (fun e he=>givesE_pure rfl (fun _ _ _ _=>rfl) (pArr_rep hE (q x (by simp[AOp.opds])) he)) h []).1
 |neg x=>exact(opP_sound hk hr hR hE (fun e he=>givesE_pure rfl (fun _ _ _ _=>rfl) (pNeg_rep hE (q x (by simp[AOp.opds])) he)) h []).1
 |aget m n agg x i=>exact(opP_sound hk hr hR hE (fun e he=>givesE_pure rfl (fun _ _ _ _=>rfl) (pAget_rep hE (q x (by simp[AOp.opds])) (q i (by simp[AOp.opds])) he)) h []).1
 |tassert t x=>exact(opP_sound hk hr hR hE (fun e he=>givesE_pure rfl (fun _ _ _ _=>rfl) (pTas_rep hE (q x (by simp[AOp.opds])) he)) h []).1
 |extract x i=>exact(opP_sound hk hr hR hE (fun e he=>givesE_pure rfl (fun _ _ _ _=>rfl) (pExt_rep hE (q x (by simp[AOp.opds])) he)) h []).1
 |field off n agg x=>exact(opP_sound hk hr hR hE (fun e he=>givesE_pure rfl (fun _ _ _ _=>rfl) (pField_rep hE (q x (by simp[AOp.opds])) he)) h []).1
 |build zs ps=>exact(opP_sound hk hr hR hE (fun e he=>givesE_pure rfl (fun _ _ _ _=>rfl) (buildE_rep hE hz (fun p hp=>q p.2.2 (List.mem_map.2 ⟨p,hp,rfl⟩)) he)) h []).1
 |len x=>exact(opP_sound hk hr hR hE (fun e he=>givesE_pure rfl (fun _ _ _ _=>rfl) (pLen_rep hE (q x (by simp[AOp.opds])) he)) h []).1
 |lenStr x=>exact(opP_sound hk hr hR hE (fun e he=>givesE_pure rfl (fun _ _ _ _=>rfl) (pLenS_rep hE (q x (by simp[AOp.opds])) he)) h []).1
 |min x y=>exact(opP_sound hk hr hR hE (fun e he=>givesE_pure rfl (fun _ _ _ _=>rfl) (pMin_rep hE (q x (by simp[AOp.opds])) (q y (by simp[AOp.opds])) he)) h []).1
 |max x y=>exact(opP_sound hk hr hR hE (fun e he=>givesE_pure rfl (fun _ _ _ _=>rfl) (pMax_rep hE (q x (by simp[AOp.opds])) (q y (by simp[AOp.opds])) he)) h []).1
 |max3 x y z=>exact(opP_sound hk hr hR hE (fun e he=>givesE_pure rfl (fun _ _ _ _=>rfl) (pMax3_rep hE (q x (by simp[AOp.opds])) (q y (by simp[AOp.opds])) (q z (by simp[AOp.opds])) he)) h []).1
 |pick c a b=>exact(opP_sound hk hr hR hE (fun e he=>pPick_rep hE (q c (by simp[AOp.opds])) (q a (by simp[AOp.opds])) (q b (by simp[AOp.opds])) he) h []).1
 |bytesStr x=>exact(opP_sound hk hr hR hE (fun e he=>pBstr_rep hE (q x (by simp[AOp.opds])) he) h []).1
 |strBytes t x=>exact(opP_sound hk hr hR hE (fun e he=>pStrb_rep hE (q x (by simp[AOp.opds])) he) h []).1
 |cut sz x lo hi=>exact(opP_sound hk hr hR hE (fun e he=>pCut_rep hE (q x (by simp[AOp.opds])) (fun y hy=>q y (by simp[AOp.opds,hy])) (fun y hy=>q y (by simp[AOp.opds,hy])) he) h []).1
 |cut3 sz x lo hi mx=>exact(opP_sound hk hr hR hE (fun e he=>pCut3_rep hE (q x (by simp[AOp.opds])) (fun y hy=>q y (by simp[AOp.opds,hy])) (q hi (by simp[AOp.opds])) (q mx (by simp[AOp.opds])) he) h []).1
 |cutStr x lo hi=>exact(opP_sound hk hr hR hE (fun e he=>pCutS_rep hE (q x (by simp[AOp.opds])) (fun y hy=>q y (by simp[AOp.opds,hy])) (fun y hy=>q y (by simp[AOp.opds,hy])) he) h []).1
 |iaddr sz x i=>exact(opP_sound hk hr hR hE (fun e he=>pIaddr_rep hE (q x (by simp[AOp.opds])) (q i (by simp[AOp.opds])) he) h []).1
 |istr x i=>exact(opP_sound hk hr hR hE (fun e he=>pIstr_rep hE (q x (by simp[AOp.opds])) (q i (by simp[AOp.opds])) he) h []).1
 |box cs=>exact box_sound hk hr hR hE hz h
 |boxv x=>exact boxv_sound hk hr hR hE (q x (by simp[AOp.opds])) h
 |obj cs=>exact obj_sound hk hR hE hz h
 |objv x=>exact objv_sound hk hr hR hE (q x (by simp[AOp.opds])) h
 |bslice own sz t n z ps=>exact bsl_sound hk hr hR hE hz (fun p hp=>q p.2 (List.mem_map.2 ⟨p,hp,rfl⟩)) h
 |load agg n x=>exact load_sound hk hr hR hE (q x (by simp[AOp.opds])) h
 |store n x v=>exact store_sound hk hr hR hE (q x (by simp[AOp.opds])) (q v (by simp[AOp.opds])) h
 |mark x=>exact mark_sound hk hr hR hE (q x (by simp[AOp.opds])) h
 |call f as=>exact call_sound hc hk hr hR hE (fun x hx=>q x (by simp[AOp.opds,hx])) h
 |callv f as=>exact callv_sound hc hk hr hR hE (q f (by simp[AOp.opds])) (fun x hx=>q x (by simp[AOp.opds,hx])) h
 |inv tbl x as=>exact inv_sound hc hk hr hR hE (q x (by simp[AOp.opds])) (fun x hx=>q x (by simp[AOp.opds,hx])) h
 |append sz t by_ x y=>exact app_sound hk hr hR hE (q x (by simp[AOp.opds])) (q y (by simp[AOp.opds])) h
 |appendZ sz t by_ x y=>exact absurd (show ER.bad=r from h).symm hr
 |appendM sz t by_ x y=>exact appM_sound hk hr hR hE (q x (by simp[AOp.opds])) (q y (by simp[AOp.opds])) h
 |mslice sz t n z ps=>exact msl_sound hk hr hR hE hz (fun p hp=>q p.2 (List.mem_map.2 ⟨p,hp,rfl⟩)) h
 |cap x=>
  obtain⟨e,h1,h2⟩:=orec_bad (show opP (pCap x) d k env V=r from h) hr
  have hx:=eo_rep hE (q x (by simp[AOp.opds]))
  unfold pCap capE at h1
  split at h1
  ·rename_i heq
   cases h1
   rw[heq]at hx
   obtain⟨b,h3,h4⟩:=hx.val_inv
   have h3:=h3.slice_nil
   subst h3
   simp only[vcOp,h4]
   intro c _ _ h0
   rw[h0 trivial]
   exact hk.fin hR hE (.plain rfl) h2
  ·cases h1
 |mmap=>exact mmap_sound hk hR hE h
 |mget kk z ok x i=>exact mget_sound hk hr hR hE hz (q x (by simp[AOp.opds])) (q i (by simp[AOp.opds])) h
 |mset kk x i v=>exact mset_sound hk hr hR hE (q x (by simp[AOp.opds])) (q i (by simp[AOp.opds])) (q v (by simp[AOp.opds])) h
 |mdel kk x i=>exact mdel_sound hk hr hR hE (q x (by simp[AOp.opds])) (q i (by simp[AOp.opds])) h
 |mlen x=>exact mlen_sound hk hr hR hE (q x (by simp[AOp.opds])) h
 |range x=>exact range_sound hk hr hR hE (q x (by simp[AOp.opds])) h
 |next x=>exact absurd (show ER.bad=r from h).symm hr
 |entry x=>exact entry_sound hk hr hR hE (q x (by simp[AOp.opds])) h
 |clearS sz z x=>exact clearS_sound hk hr hR hE hz (q x (by simp[AOp.opds])) h
 |clearM x=>exact clearM_sound hk hr hR hE (q x (by simp[AOp.opds])) h
 |dead=>exact absurd (show ER.bad=r from h).symm hr
theorem opD_sound (hc:∀f,CallOk P f (call f)) (hk:KS R ρ V k r K) (hr:r≠.bad) (hR:Rel R ρ V σ) (hE:EnvR ρ env e') {W:List Nat} {o:AOp} (hp:o.plainB=true) (h:opD call W o d k env V=r):vcOpD P W o d K e' σ:=by
 simp only[AOp.plainB,Bool.and_eq_true]at hp
 have hz:=hp.2
 have q:∀x∈o.opds,x.plain=true:=List.all_eq_true.1 hp.1
 cases o with
 |mv x=>exact(opP_sound hk hr hR hE (fun e he=>givesE_pure rfl (fun _ _ _ _=>rfl) (pMv_rep hE (q x (by simp[AOp.opds])) he)) h W).2
 |nilCheck x=>exact(opP_sound hk hr hR hE (fun e he=>givesE_pure rfl (fun _ _ _ _=>rfl) (pNil_rep hE (q x (by simp[AOp.opds])) he)) h W).2
 |bin op eq x y=>exact(opP_sound hk hr hR hE (fun e he=>givesE_pure rfl (fun _ _ _ _=>rfl) (pBin_rep hE (q x (by simp[AOp.opds])) (q y (by simp[AOp.opds])) he)) h W).2
 |not x=>exact(opP_sound hk hr hR hE (fun e he=>givesE_pure rfl (fun _ _ _ _=>rfl) (pNot_rep hE (q x (by simp[AOp.opds])) he)) h W).2
 |convInt kd x=>exact(opP_sound hk hr hR hE (fun e he=>givesE_pure rfl (fun _ _ _ _=>rfl) (pConv_rep hE (q x (by simp[AOp.opds])) he)) h W).2
 |same x=>exact(opP_sound hk hr hR hE (fun e he=>givesE_pure rfl (fun _ _ _ _=>rfl) (pSame_rep hE (q x (by simp[AOp.opds])) he)) h W).2
 |iface t x=>exact(opP_sound hk hr hR hE (fun e he=>givesE_pure rfl (fun _ _ _ _=>rfl) (pIface_rep hE (q x (by simp[AOp.opds])) he)) h W).2
 |mkFunc fn f c=>exact(opP_sound hk hr hR hE (fun e he=>givesE_pure rfl (fun _ _ _ _=>rfl) (pMk_rep hE (fun x hx=>q x (by simp[AOp.opds,hx])) (fun x hx=>q x (by simp[AOp.opds,hx])) he)) h W).2
 |foff off x=>exact(opP_sound hk hr hR hE (fun e he=>givesE_pure rfl (fun _ _ _ _=>rfl) (pFoff_rep hE (q x (by simp[AOp.opds])) he)) h W).2
 |aidx n sz x i=>exact(opP_sound hk hr hR hE (fun e he=>givesE_pure rfl (fun _ _ _ _=>rfl) (pAidx_rep hE (q x (by simp[AOp.opds])) (q i (by simp[AOp.opds])) he)) h W).2
 |arr n x=>exact(opP_sound hk hr hR hE (fun e he=>givesE_pure rfl (fun _ _ _ _=>rfl) (pArr_rep hE (q x (by simp[AOp.opds])) he)) h W).2
 |neg x=>exact(opP_sound hk hr hR hE (fun e he=>givesE_pure rfl (fun _ _ _ _=>rfl) (pNeg_rep hE (q x (by simp[AOp.opds])) he)) h W).2
 |aget m n agg x i=>exact(opP_sound hk hr hR hE (fun e he=>givesE_pure rfl (fun _ _ _ _=>rfl) (pAget_rep hE (q x (by simp[AOp.opds])) (q i (by simp[AOp.opds])) he)) h W).2
 |tassert t x=>exact(opP_sound hk hr hR hE (fun e he=>givesE_pure rfl (fun _ _ _ _=>rfl) (pTas_rep hE (q x (by simp[AOp.opds])) he)) h W).2
 |extract x i=>exact(opP_sound hk hr hR hE (fun e he=>givesE_pure rfl (fun _ _ _ _=>rfl) (pExt_rep hE (q x (by simp[AOp.opds])) he)) h W).2
 |field off n agg x=>exact(opP_sound hk hr hR hE (fun e he=>givesE_pure rfl (fun _ _ _ _=>rfl) (pField_rep hE (q x (by simp[AOp.opds])) he)) h W).2
 |build zs ps=>exact(opP_sound hk hr hR hE (fun e he=>givesE_pure rfl (fun _ _ _ _=>rfl) (buildE_rep hE hz (fun p hp=>q p.2.2 (List.mem_map.2 ⟨p,hp,rfl⟩)) he)) h W).2
 |len x=>exact(opP_sound hk hr hR hE (fun e he=>givesE_pure rfl (fun _ _ _ _=>rfl) (pLen_rep hE (q x (by simp[AOp.opds])) he)) h W).2
 |lenStr x=>exact(opP_sound hk hr hR hE (fun e he=>givesE_pure rfl (fun _ _ _ _=>rfl) (pLenS_rep hE (q x (by simp[AOp.opds])) he)) h W).2
 |min x y=>exact(opP_sound hk hr hR hE (fun e he=>givesE_pure rfl (fun _ _ _ _=>rfl) (pMin_rep hE (q x (by simp[AOp.opds])) (q y (by simp[AOp.opds])) he)) h W).2
 |max x y=>exact(opP_sound hk hr hR hE (fun e he=>givesE_pure rfl (fun _ _ _ _=>rfl) (pMax_rep hE (q x (by simp[AOp.opds])) (q y (by simp[AOp.opds])) he)) h W).2
 |max3 x y z=>exact(opP_sound hk hr hR hE (fun e he=>givesE_pure rfl (fun _ _ _ _=>rfl) (pMax3_rep hE (q x (by simp[AOp.opds])) (q y (by simp[AOp.opds])) (q z (by simp[AOp.opds])) he)) h W).2
 |pick c a b=>exact(opP_sound hk hr hR hE (fun e he=>pPick_rep hE (q c (by simp[AOp.opds])) (q a (by simp[AOp.opds])) (q b (by simp[AOp.opds])) he) h W).2
 |bytesStr x=>exact(opP_sound hk hr hR hE (fun e he=>pBstr_rep hE (q x (by simp[AOp.opds])) he) h W).2
 |strBytes t x=>exact(opP_sound hk hr hR hE (fun e he=>pStrb_rep hE (q x (by simp[AOp.opds])) he) h W).2
 |cut sz x lo hi=>exact(opP_sound hk hr hR hE (fun e he=>pCut_rep hE (q x (by simp[AOp.opds])) (fun y hy=>q y (by simp[AOp.opds,hy])) (fun y hy=>q y (by simp[AOp.opds,hy])) he) h W).2
 |cut3 sz x lo hi mx=>exact(opP_sound hk hr hR hE (fun e he=>pCut3_rep hE (q x (by simp[AOp.opds])) (fun y hy=>q y (by simp[AOp.opds,hy])) (q hi (by simp[AOp.opds])) (q mx (by simp[AOp.opds])) he) h W).2
 |cutStr x lo hi=>exact(opP_sound hk hr hR hE (fun e he=>pCutS_rep hE (q x (by simp[AOp.opds])) (fun y hy=>q y (by simp[AOp.opds,hy])) (fun y hy=>q y (by simp[AOp.opds,hy])) he) h W).2
 |iaddr sz x i=>exact(opP_sound hk hr hR hE (fun e he=>pIaddr_rep hE (q x (by simp[AOp.opds])) (q i (by simp[AOp.opds])) he) h W).2
 |istr x i=>exact(opP_sound hk hr hR hE (fun e he=>pIstr_rep hE (q x (by simp[AOp.opds])) (q i (by simp[AOp.opds])) he) h W).2
 |box cs=>exact absurd (show ER.bad=r from h).symm hr
 |boxv x=>exact absurd (show ER.bad=r from h).symm hr
 |obj cs=>exact absurd (show ER.bad=r from h).symm hr
 |objv x=>exact absurd (show ER.bad=r from h).symm hr
 |bslice own sz t n z ps=>exact(opP_sound hk hr hR hE (fun e he=>pBsl_rep hE hz (fun p hp=>q p.2 (List.mem_map.2 ⟨p,hp,rfl⟩)) he) h W).2
 |load agg n x=>exact loadD_sound hk hr hR hE (q x (by simp[AOp.opds])) h
 |store n x v=>exact absurd (show ER.bad=r from h).symm hr
 |mark x=>exact absurd (show ER.bad=r from h).symm hr
 |call f as=>exact callD_sound hc hk hr hR hE (fun x hx=>q x (by simp[AOp.opds,hx])) h
 |callv f as=>exact callvD_sound hc hk hr hR hE (q f (by simp[AOp.opds])) (fun x hx=>q x (by simp[AOp.opds,hx])) h
 |inv tbl x as=>exact invD_sound hc hk hr hR hE (q x (by simp[AOp.opds])) (fun x hx=>q x (by simp[AOp.opds,hx])) h
 |append sz t by_ x y=>exact absurd (show ER.bad=r from h).symm hr
 |appendZ sz t by_ x y=>exact absurd (show ER.bad=r from h).symm hr
 |appendM sz t by_ x y=>exact absurd (show ER.bad=r from h).symm hr
 |mslice sz t n z ps=>exact absurd (show ER.bad=r from h).symm hr
 |cap x=>exact absurd (show ER.bad=r from h).symm hr
 |mmap=>exact absurd (show ER.bad=r from h).symm hr
 |mget kk z ok x i=>exact mget_sound (P:=P) hk hr hR hE hz (q x (by simp[AOp.opds])) (q i (by simp[AOp.opds])) h
 |mset kk x i v=>exact absurd (show ER.bad=r from h).symm hr
 |mdel kk x i=>exact absurd (show ER.bad=r from h).symm hr
 |mlen x=>exact mlen_sound (P:=P) hk hr hR hE (q x (by simp[AOp.opds])) h
 |range x=>exact absurd (show ER.bad=r from h).symm hr
 |next x=>exact absurd (show ER.bad=r from h).symm hr
 |entry x=>exact absurd (show ER.bad=r from h).symm hr
 |clearS sz z x=>exact absurd (show ER.bad=r from h).symm hr
 |clearM x=>exact absurd (show ER.bad=r from h).symm hr
 |dead=>exact absurd (show ER.bad=r from h).symm hr
theorem beq_bool {t w:Bool}:(t==w)=true→t=w:=by cases t<;>cases w<;>simp
theorem EntR.undone:EntR ρ undone undone:=.plain rfl
theorem operE_sound (hc:∀f,CallOk P f (call f)) (hk:KS R ρ V k r K) (hr:r≠.bad) (hR:Rel R ρ V σ) (hE:EnvR ρ env e') {o:AOper} (hp:o.op.plainB=true) (h:operE call o k env V=r):vcOper P o K e' σ:=by
 obtain⟨d,g,op⟩:=o
 cases g with
 |none=>exact opE_sound hc hk hr hR hE hp h
 |some jw=>
  obtain⟨j,want⟩:=jw
  replace h:operG2 call op d want k env V (eat env j)=r:=h
  have hj:=hE j
  unfold operG2 at h
  split at h
  ·rename_i t heq
   rw[heq]at hj;obtain⟨v,k1,k2⟩:=hj.val_inv;simp only[VR]at k1;subst k1
   simp only[vcOper,k2]
   cases ht:(t==want)with
   |true=>
    rw[ht,cond_true]at h
    have:=beq_bool ht
    subst this
    refine⟨fun _=>opE_sound hc hk hr hR (hE.set_same j (by rw[heq];exact .plain rfl)) hp h,fun hh=> ?_⟩
    cases t<;>cases hh
   |false=>
    rw[ht,cond_false]at h
    have ht:t= !want:=by cases t<;>cases want<;>simp_all
    subst ht
    refine⟨fun hh=>(by cases want<;>cases hh),fun _=> ?_⟩
    exact hk.fin hR (hE.set_same j (by rw[heq];exact .plain rfl)) .undone h
  ·rename_i heq
   rw[heq]at hj;obtain⟨v,k1,k2⟩:=hj.val_inv;simp only[VR]at k1
   obtain⟨ds,k3,rfl⟩:=k1
   rw[k3.nil_inv]at k2
   simp only[vcOper,k2]
   exact hk.fin hR hE .undone h
  ·exact absurd h.symm hr
theorem operD_sound (hc:∀f,CallOk P f (call f)) (hk:KS R ρ V k r K) (hr:r≠.bad) (hR:Rel R ρ V σ) (hE:EnvR ρ env e') {W:List Nat} {o:AOper} (hp:o.op.plainB=true) (h:operD call W o k env V=r):vcOperD P W o K e' σ:=by
 obtain⟨d,g,op⟩:=o
 cases g with
 |none=>exact opD_sound hc hk hr hR hE hp h
 |some jw=>
  obtain⟨j,want⟩:=jw
  replace h:operDG2 call W op d want k env V (eat env j)=r:=h
  have hj:=hE j
  unfold operDG2 at h
  split at h
  ·rename_i t heq
   rw[heq]at hj;obtain⟨v,k1,k2⟩:=hj.val_inv;simp only[VR]at k1;subst k1
   simp only[vcOperD,k2]
   cases ht:(t==want)with
   |true=>
    rw[ht,cond_true]at h
    have:=beq_bool ht
    subst this
    refine⟨fun _=>opD_sound hc hk hr hR (hE.set_same j (by rw[heq];exact .plain rfl)) hp h,fun hh=> ?_⟩
    cases t<;>cases hh
   |false=>
    rw[ht,cond_false]at h
    have ht:t= !want:=by cases t<;>cases want<;>simp_all
    subst ht
    refine⟨fun hh=>(by cases want<;>cases hh),fun _=> ?_⟩
    exact hk.fin hR (hE.set_same j (by rw[heq];exact .plain rfl)) .undone h
  ·rename_i heq
   rw[heq]at hj;obtain⟨v,k1,k2⟩:=hj.val_inv;simp only[VR]at k1
   obtain⟨ds,k3,rfl⟩:=k1
   rw[k3.nil_inv]at k2
   simp only[vcOperD,k2]
   exact hk.fin hR hE .undone h
  ·exact absurd h.symm hr
theorem opsE_sound (hc:∀f,CallOk P f (call f)) (hr:r≠.bad):∀{l:List AOper} {ρ:Names} {V:VS} {σ:Store} {env:VE} {e':Env},(∀o∈l,o.op.plainB=true)→KS R ρ V k r K→Rel R ρ V σ→EnvR ρ env e'→opsE call l k env V=r→vcOps P l K e' σ
 | [],ρ,V,σ,env,e',_,hk,hR,hE,h=>hk ρ env V e' σ (.refl _) (.refl _) hR hE h
 |o::l,ρ,V,σ,env,e',hp,hk,hR,hE,h=>by
  have h:operE call o (opsE call l k) env V=r:=h
  refine operE_sound (K:=vcOps P l K) hc ?_ hr hR hE (hp o (List.mem_cons_self ..)) h
  intro ρ' env' V' e'' σ' h1 h2 h3 h4 h5
  exact opsE_sound hc hr (fun x hx=>hp x (List.mem_cons_of_mem _ hx)) (hk.next h1 h2) h3 h4 h5
theorem okK_out {b:Bool} {m:EK} (h:okK b m env V=r) (hr:r≠.bad):b=true∧m env V=r:=bif_bad h hr
theorem stOk_rep (hE:EnvR ρ env e') {W:List Nat} {o:AOp} (hp:o.plainB=true) (h:stOkE W env o=true):stOk W e' o:=by
 cases o<;>try trivial
 rename_i n x v
 intro s q hs
 simp only[AOp.plainB,Bool.and_eq_true]at hp
 have hx:=eo_rep hE (List.all_eq_true.1 hp.1 x (by simp[AOp.opds]))
 have h:stOkE2 W (eo x env)=true:=h
 rw[hs]at hx
 cases he:eo x env with
 |val a=>rw[he]at hx;obtain⟨_,_,hh⟩:=hx.val_inv;cases hh
 |box a=>rw[he]at hx;obtain⟨_,_,hh⟩:=hx.box_inv;cases hh
 |lptr s' o'=>
  rw[he]at hx h
  have:=hx.lptr_inv
  cases this
  have h:hasE W s=true:=h
  rw[←hasE_eq];exact h
theorem isL_rep {x y:Ent} (hx:EntR ρ x y) (h:isL x=true):∃s q,y=.lptr s q:=by
 cases x with
 |lptr s o=>exact⟨s,o,hx.lptr_inv⟩
 |val a=>cases h
 |box a=>cases h
theorem stBox_rep (hE:EnvR ρ env e') {o:AOp} (hp:o.plainB=true) (h:stBoxE env o=true):stBox e' o:=by
 cases o<;>try cases h
 rename_i n x v
 simp only[AOp.plainB,Bool.and_eq_true]at hp
 exact isL_rep (eo_rep hE (List.all_eq_true.1 hp.1 x (by simp[AOp.opds]))) h
theorem ldBox_rep (hE:EnvR ρ env e') {o:AOp} (hp:o.plainB=true) (h:ldBoxE env o=true):ldBox e' o:=by
 cases o<;>try cases h
 rename_i agg n x
 simp only[AOp.plainB,Bool.and_eq_true]at hp
 exact isL_rep (eo_rep hE (List.all_eq_true.1 hp.1 x (by simp[AOp.opds]))) h
theorem ldBoxG_rep (hE:EnvR ρ env e') {o:AOper} (hp:o.op.plainB=true) (h:ldBoxGE env o.op o.guard=true):ldBoxG e' o:=by
 obtain⟨d,g,op⟩:=o
 cases g with
 |none=>exact ldBox_rep hE hp h
 |some jw=>
  obtain⟨j,want⟩:=jw
  intro hj
  have h:ldG2 want env op (eat env j)=true:=h
  have hx:=hE j
  rw[hj]at hx
  cases he:eat env j with
  |val a=>
   rw[he]at hx h
   obtain⟨b,h1,h2⟩:=hx.val_inv
   cases h2
   have ha:a=.bool want:=by
    cases a with
    |slice xs nl tok=>obtain⟨_,_,_,hh,_⟩:=h1.slice_inv;cases hh
    |map m=>cases m<;>simp[VR]at h1
    |bool t=>simp only[VR,AVal.bool.injEq]at h1;rw[h1]
    |raw i n=>simp only[VR]at h1;obtain⟨_,_,ho⟩:=h1;exact absurd ho Opq.no_bool
    |_=>simp[VR]at h1
   subst ha
   have h:(bif want==want then ldBoxE env op else true)=true:=h
   rw[beq_self_eq_true,cond_true]at h
   exact ldBox_rep hE hp h
  |box a=>rw[he]at hx;obtain⟨_,_,hh⟩:=hx.box_inv;cases hh
  |lptr s' o'=>rw[he]at hx;have:=hx.lptr_inv;cases this
theorem drawnS_sound (hc:∀f,CallOk P f (call f)) (hr:r≠.bad) {W:List Nat}:∀{l:List (Nat × AOper)} {ρ:Names} {V:VS} {σ:Store} {env:VE} {e':Env},(∀o∈l,o.2.op.plainB=true)→KS R ρ V k r K→Rel R ρ V σ→EnvR ρ env e'→drawnS call W l k env V=r→vcD P W l K e' σ
 | [],ρ,V,σ,env,e',_,hk,hR,hE,h=>hk ρ env V e' σ (.refl _) (.refl _) hR hE h
 |(κ,o)::l,ρ,V,σ,env,e',hp,hk,hR,hE,h=>by
  have h:kindE call W κ o (drawnS call W l k) env V=r:=h
  have hp0:=hp _ (List.mem_cons_self ..)
  have hk':KS R ρ V (drawnS call W l k) r (vcD P W l K):=by
   intro ρ' env' V' e'' σ' h1 h2 h3 h4 h5
   exact drawnS_sound hc hr (fun x hx=>hp x (List.mem_cons_of_mem _ hx)) (hk.next h1 h2) h3 h4 h5
  unfold vcD
  match κ,h with
  |0,h=>exact operD_sound hc hk' hr hR hE hp0 h
  |1,h=>exact operD_sound hc hk' hr hR hE hp0 h
  |2,h=>
   obtain⟨h1,h2⟩:=okK_out h hr
   exact⟨stOk_rep hE hp0 h1,operE_sound hc hk' hr hR hE hp0 h2⟩
  |3,h=>exact operE_sound hc hk' hr hR hE hp0 h
  |4,h=>
   obtain⟨h1,h2⟩:=okK_out h hr
   simp only[Bool.and_eq_true]at h1
   exact⟨stOk_rep hE hp0 h1.1,stBox_rep hE hp0 h1.2,operE_sound hc hk' hr hR hE hp0 h2⟩
  |5,h=>
   obtain⟨h1,h2⟩:=okK_out h hr
   exact⟨ldBoxG_rep hE hp0 h1,operD_sound hc hk' hr hR hE hp0 h2⟩
  |6,h=>
   obtain⟨h1,h2⟩:=okK_out h hr
   exact⟨ldBoxG_rep hE hp0 h1,operD_sound hc hk' hr hR hE hp0 h2⟩
  |n+7,h=>
   rw[if_neg (by omega),if_neg (by omega),if_neg (by omega),if_neg (by omega),if_neg (by omega)]
   exact operD_sound hc hk' hr hR hE hp0 h
theorem killK_rep {B:List Nat} {x:Ent} {t:Nat} (hx:EntR ρ x (e' t)):EntR ρ (killK B x) (e'.killAll B t):=by
 unfold Env.killAll
 cases x with
 |val a=>obtain⟨b,h1,h2⟩:=hx.val_inv;rw[h2];exact⟨b,h1,rfl⟩
 |box cs=>obtain⟨b,h1,h2⟩:=hx.box_inv;rw[h2];exact⟨b,h1,rfl⟩
 |lptr s o=>
  rw[hx.lptr_inv]
  show EntR ρ (bif hasE B s then .val .top else .lptr s o) (bif B.contains s then .val .top else .lptr s o)
  rw[hasE_eq]
  cases B.contains s with
  |true=>exact .top
  |false=>exact rfl
theorem forget_rep (hE:EnvR ρ env e') (l:List (Nat × AOper)):EnvR ρ (forgetE l env) (e'.forget l):=by
 unfold forgetE Env.forget
 cases newBoxes l with
 |nil=>exact hE
 |cons b B=>
  intro t
  show EntR ρ (eat (mapTr (killK (b::B)) env) t) _
  rw[eat_mapTr rfl]
  exact killK_rep (hE t)
theorem drawnE_sound (hc:∀f,CallOk P f (call f)) (hr:r≠.bad) {W:List Nat} {l:List (Nat × AOper)} (hp:∀o∈l,o.2.op.plainB=true) (hk:KS R ρ V k r K) (hR:Rel R ρ V σ) (hE:EnvR ρ env e') (h:drawnE call W l k env V=r):vcD P W l K (e'.forget l) σ:=
 drawnS_sound hc hr hp hk hR (forget_rep hE l) h
end
def ACode.plainB:ACode→Bool
 |.region l=>l.all fun o=>o.op.plainB
 |.drawn _ l=>l.all fun o=>o.2.op.plainB
 |.seq a b=>a.plainB&&b.plainB
 |.cond c a b=>c.plain&&(a.plainB&&b.plainB)
 |.block _ b=>b.plainB
 |.loop b=>b.plainB
 |_=>true
def FOk (P:Program) (f:Nat):FE→Prop
 |.none=>True
 |.code af=>∃fn esc,P.funcs[f]? =some fn∧ofFunc P esc fn=some af∧(fn.body.isSome&&fn.name != "runtime.NumGoroutine")=true∧af.body.plainB=true
 |.told g=>CallOk P f g
def TOk (P:Program) (T:FT):Prop:=∀f,FOk P f (Tr.get .none T f)
def Post (R:Store) (ρ:Names) (V:VS) (x:Ex) (env:VE) (V':VS):Ex→Env→Store→Prop:=fun y e' σ=>
 y=x∧∃ρ',ρ.Le ρ'∧Gd V V'∧Rel R ρ' V' σ∧EnvR ρ' env e'
theorem dim_self {K:Env→Store→Prop} {env:Env} {σ:Store} (h:K env σ):Dim K env σ:=⟨env,σ,fun _=>.inr (.inl rfl),.refl _,h⟩
section
variable {P:Program} {T:FT}
def CodeOk (P:Program) (c:Option AVal→EC) (b:ACode):Prop:=b.plainB=true→
 (∀(env:VE) (V:VS) (x:Ex) (env1:VE) (V1:VS),c none env V=.done x env1 V1→∀(R:Store) (ρ:Names) (σ:Store) (e':Env),Rel R ρ V σ→EnvR ρ env e'→vc P b (Post R ρ V x env1 V1) e' σ)∧
 (∀(d:Option Nat) (s:Nat) (l:List AOper) (q:ACode),b=.seq (.region (⟨d,none,.next (.tmp s)⟩::l)) q→∀(v:AVal) (env:VE) (V:VS) (x:Ex) (env1:VE) (V1:VS),c (some v) env V=.done x env1 V1→
  ∀(R:Store) (ρ:Names) (σ:Store) (e':Env) (v':AVal),Rel R ρ V σ→EnvR ρ env e'→VR ρ v v'→vcOps P l (vc P q (Post R ρ V x env1 V1)) (e'.set d (.val v')) σ)
theorem Post.next {R:Store} {ρ ρ':Names} {V V':VS} {x y:Ex} {env:VE} {V1:VS} {e':Env} {σ:Store} (hle:ρ.Le ρ') (hg:Gd V V') (h:Post R ρ' V' x env V1 y e' σ):Post R ρ V x env V1 y e' σ:=by
 obtain⟨h1,ρ2,h2,h3,h4⟩:=h
 exact⟨h1,ρ2,hle.trans h2,hg.trans h3,h4⟩
theorem resE_rep {R:Store} {ρ:Names} {V:VS} {σ:Store} {env:VE} {e':Env} (hR:Rel R ρ V σ) (hE:EnvR ρ env e') {q:ARes} {a:AVal} (h:resE env V q=some a):∃b,VR ρ a b∧∀k:AVal→Prop,k b→resV e' σ q k:=by
 cases q with
 |tmp t=>
  have hx:=eo_rep hE (x:=.tmp t) rfl
  simp only[resE]at h
  split at h
  ·rename_i v heq
   cases h
   rw[heq]at hx;obtain⟨b,h1,h2⟩:=hx.val_inv
   exact⟨b,h1,fun k hk=>by simp only[resV,h2];exact hk⟩
  ·cases h
 |cell agg n t=>
  have hx:=eo_rep hE (x:=.tmp t) rfl
  simp only[resE]at h
  split at h
  ·rename_i s o heq
   rw[heq]at hx;have h2:=hx.lptr_inv
   obtain⟨cs,m1,m2,m3⟩:=loadB_rep (hE s) h
   exact⟨_,m3,fun k hk=>by simp only[resV,h2,m1];exact⟨m2,hk⟩⟩
  ·rename_i i o heq
   rw[heq]at hx;obtain⟨b,h1,h2⟩:=hx.val_inv;simp only[VR]at h1;obtain⟨z,hz,rfl⟩:=h1
   obtain⟨x,cs,m1,m2,m3,m4⟩:=loadC_rep hR h
   rw[hz]at m1;cases m1
   exact⟨_,m4,fun k hk=>by simp only[resV,h2];exact⟨cs,m2,m3,hk⟩⟩
  ·cases h
theorem ressE_rep {R:Store} {ρ:Names} {V:VS} {σ:Store} {env:VE} {e':Env} (hR:Rel R ρ V σ) (hE:EnvR ρ env e'):∀{qs:List ARes} {as:List AVal},ressE env V qs=some as→∃bs,VRs ρ as bs∧∀k:List AVal→Prop,k bs→resVs e' σ qs k
 | [],as,h=>by
  have h:some []=some as:=h
  cases h;exact⟨[],.nil,fun k hk=>hk⟩
 |q::qs,as,h=>by
  have h:resC (resE env V q) (ressE env V qs)=some as:=h
  cases hq:resE env V q with
  |none=>rw[hq]at h;cases h
  |some a=>
   rw[hq]at h
   obtain⟨as',h1,rfl⟩:=consO_some (o:=ressE env V qs) h
   obtain⟨b,b1,b2⟩:=resE_rep hR hE hq
   obtain⟨bs,c1,c2⟩:=ressE_rep hR hE h1
   exact⟨b::bs,.cons b1 c1,fun k hk=>b2 _ (c2 _ hk)⟩
theorem argsE_eat:∀(as:List AVal) (i:Nat) (env:VE) (t:Nat),eat (argsE as i env) t=match(if i≤t then as[t-i]? else none)with|some a=>.val a|none=>eat env t
 | [],i,env,t=>by simp[argsE]
 |a::as,i,env,t=>by
  show eat (argsE as (i+1) (eput env i (.val a))) t=_
  rw[argsE_eat as (i+1),eat_eput]
  by_cases h1:i+1≤t
  ·have e:t-i=(t-(i+1))+1:=by omega
   have a1:i≤t:=by omega
   have a2:¬i=t:=by omega
   simp only[h1,a1,a2,if_true,if_false,e,List.getElem?_cons_succ]
  ·rw[if_neg h1]
   by_cases h2:i=t
   ·subst h2;simp
   ·have a1:¬i≤t:=by omega
    simp only[a1,h2,if_false]
theorem args_rep {ρ:Names} {as bs:List AVal} (h:VRs ρ as bs):EnvR ρ (argsE as 0 .lf) (Env.args bs):=by
 intro t
 rw[argsE_eat,eat_lf]
 unfold Env.args
 simp only[Nat.zero_le,if_true,Nat.sub_zero]
 have hl:=h.length
 cases he:as[t]? with
 |some a=>
  obtain⟨b,h1,h2⟩:=h.get he
  rw[h1];exact⟨b,h2,rfl⟩
 |none=>
  have:bs[t]? =none:=by rw[List.getElem?_eq_none_iff]at he⊢;omega
  rw[this];exact .top
theorem seqK_out {b:EC} {r:ER} {x:Ex} {env1:VE} {V1:VS} (h:seqK b r=.done x env1 V1):(∃env V,r=.done .normal env V∧b env V=.done x env1 V1)∨(r=.done x env1 V1∧x≠.normal):=by
 cases r with
 |bad=>cases h
 |done y env V=>
  cases y with
  |normal=>exact .inl ⟨env,V,rfl,h⟩
  |exit i=>cases h;exact .inr ⟨rfl,by intro hh;cases hh⟩
  |ret=>cases h;exact .inr ⟨rfl,by intro hh;cases hh⟩
theorem nextSlot_some {b:ACode} {s:Nat} (h:nextSlot b=some s):∃d l q,b=.seq (.region (⟨d,none,.next (.tmp s)⟩::l)) q:=by
 unfold nextSlot at h
 split at h
 ·unfold nextSlot2 at h
  split at h
  ·unfold nextSlot0 at h
   split at h
   ·unfold nextSlot1 at h
    split at h
    ·cases h;exact⟨_,_,_,rfl⟩
    ·cases h
   ·cases h
  ·cases h
 ·cases h
theorem eqI_true {a b:Int} (h:eqI a b=true):a=b:=by rw[eqI_eq]at h;simpa using h
theorem beq_true {a b:Nat} (h:Nat.beq a b=true):a=b:=Nat.eq_of_beq_eq_true h
mutual
theorem eqA_true:∀(a b:AVal),eqA a b=true→a=b
 |.top,b,h=>by cases b<;>first|rfl|exact(Bool.false_ne_true h).elim
 |.nilP,b,h=>by cases b<;>first|rfl|exact(Bool.false_ne_true h).elim
 |.nilI,b,h=>by cases b<;>first|rfl|exact(Bool.false_ne_true h).elim
 |.nilF,b,h=>by cases b<;>first|rfl|exact(Bool.false_ne_true h).elim
 |.raw _ _,b,h=>by cases b<;>exact(Bool.false_ne_true h).elim
 |.func (.func f) xs ys,b,h=>by
  cases b<;>first|exact(Bool.false_ne_true h).elim|skip
  rename_i fn zs ws
  cases fn<;>first|exact(Bool.false_ne_true h).elim|skip
  rename_i g
  have h:(Nat.beq f g&&(eqAs xs zs&&eqAs ys ws))=true:=h
  simp only[Bool.and_eq_true]at h
  have h1:f=g:=beq_true h.1
  rw[h1,eqAs_true xs zs h.2.1,eqAs_true ys ws h.2.2]
 |.func (.method _) xs ys,b,h=>by cases b<;>exact(Bool.false_ne_true h).elim
 |.func (.methodOf _ _) xs ys,b,h=>by cases b<;>exact(Bool.false_ne_true h).elim
 |.func (.via _ _ _ _) xs ys,b,h=>by cases b<;>exact(Bool.false_ne_true h).elim
 |.func (.yield _) xs ys,b,h=>by cases b<;>exact(Bool.false_ne_true h).elim
 |.bool x,b,h=>by
  cases b<;>first|exact(Bool.false_ne_true h).elim|skip
  rename_i y
  have h:(x==y)=true:=h
  rw[beq_iff_eq.1 h]
 |.int k n,b,h=>by
  cases b<;>first|exact(Bool.false_ne_true h).elim|skip
  rename_i k' m
  have h:(bif kEqF k k' then eqI n m else false)=true:=h
  rw[kEqF_eq]at h
  by_cases hk:k=k'
  ·rw[decide_eq_true hk,cond_true]at h
   rw[hk,eqI_true h]
  ·rw[decide_eq_false hk]at h;cases h
 |.str s,b,h=>by
  cases b<;>first|exact(Bool.false_ne_true h).elim|skip
  rename_i y
  have h:eqB s y=true:=h
  rw[eqB_eq]at h
  rw[beq_iff_eq.1 h]
 |.ptr a o,b,h=>by
  cases b<;>first|exact(Bool.false_ne_true h).elim|skip
  rename_i a2 o2
  have h:(Nat.beq a a2&&Nat.beq o o2)=true:=h
  simp only[Bool.and_eq_true]at h
  rw[beq_true h.1,beq_true h.2]
 |.ref a o n c,b,h=>by
  cases b<;>first|exact(Bool.false_ne_true h).elim|skip
  rename_i a2 o2 n2 c2
  have h:(Nat.beq a a2&&(Nat.beq o o2&&(Nat.beq n n2&&Nat.beq c c2)))=true:=h
  simp only[Bool.and_eq_true]at h
  rw[beq_true h.1,beq_true h.2.1,beq_true h.2.2.1,beq_true h.2.2.2]
 |.slice xs nl (some g),b,h=>by
  cases b<;>first|exact(Bool.false_ne_true h).elim|skip
  rename_i ys nl2 t2
  cases t2<;>first|exact(Bool.false_ne_true h).elim|skip
  rename_i g2
  have h:(Nat.beq g g2&&((nl==nl2)&&eqAs xs ys))=true:=h
  simp only[Bool.and_eq_true,beq_iff_eq]at h
  rw[beq_true h.1,h.2.1,eqAs_true xs ys h.2.2]
 |.slice xs nl none,b,h=>by
  cases b<;>first|exact(Bool.false_ne_true h).elim|skip
  rename_i ys nl2 t2
  cases t2<;>first|exact(Bool.false_ne_true h).elim|skip
  have h:((nl==nl2)&&eqAs xs ys)=true:=h
  simp only[Bool.and_eq_true,beq_iff_eq]at h
  rw[h.1,eqAs_true xs ys h.2]
 |.agg xs,b,h=>by
  cases b<;>first|exact(Bool.false_ne_true h).elim|skip
  rename_i ys
  rw[eqAs_true xs ys h]
 |.sptr xs,b,h=>by
  cases b<;>first|exact(Bool.false_ne_true h).elim|skip
  rename_i ys
  rw[eqAs_true xs ys h]
 |.tuple xs,b,h=>by
  cases b<;>first|exact(Bool.false_ne_true h).elim|skip
  rename_i ys
  rw[eqAs_true xs ys h]
 |.iface t v,b,h=>by
  cases b<;>first|exact(Bool.false_ne_true h).elim|skip
  rename_i u w
  have h:(Nat.beq t u&&eqA v w)=true:=h
  simp only[Bool.and_eq_true]at h
  have h1:t=u:=beq_true h.1
  rw[h1,eqA_true v w h.2]
 |.map none,b,h=>by
  cases b<;>first|exact(Bool.false_ne_true h).elim|skip
  rename_i n
  cases n<;>first|rfl|exact(Bool.false_ne_true h).elim
 |.map (some p),b,h=>by
  cases b<;>first|exact(Bool.false_ne_true h).elim|skip
  rename_i n
  cases n<;>first|exact(Bool.false_ne_true h).elim|skip
  rename_i q
  have h:Nat.beq p q=true:=h
  rw[beq_true h]
theorem eqAs_true:∀(as bs:List AVal),eqAs as bs=true→as=bs
 | [],[],_=>rfl
 | [],_::_,h=>(Bool.false_ne_true h).elim
 |_::_,[],h=>(Bool.false_ne_true h).elim
 |x::xs,y::ys,h=>by
  have h:(bif eqA x y then eqAs xs ys else false)=true:=h
  cases he:eqA x y with
  |false=>rw[he]at h;cases h
  |true=>rw[he,cond_true]at h;rw[eqA_true x y he,eqAs_true xs ys h]
end
theorem eqEn_true {a b:Ent} (h:eqEn a b=true):a=b:=by
 cases a<;>cases b<;>first|exact(Bool.false_ne_true h).elim|skip
 ·rw[eqA_true _ _ h]
 ·rw[eqAs_true _ _ h]
 ·rename_i s o t p
  have h:(Nat.beq s t&&Nat.beq o p)=true:=h
  simp only[Bool.and_eq_true]at h
  rw[beq_true h.1,beq_true h.2]
theorem meetE_both (a b:Ent):(meetE a b=a∨meetE a b=.val .top)∧(meetE a b=b∨meetE a b=.val .top):=by
 unfold meetE
 cases h:eqEn a b with
 |false=>exact⟨.inr rfl,.inr rfl⟩
 |true=>rw[←eqEn_true h];exact⟨.inl rfl,.inl rfl⟩
theorem meetT_both:∀(p:Pa) (a b:VE),(Tr.getP (.val .top) p (meetT a b)=Tr.getP (.val .top) p a∨Tr.getP (.val .top) p (meetT a b)=.val .top)∧(Tr.getP (.val .top) p (meetT a b)=Tr.getP (.val .top) p b∨Tr.getP (.val .top) p (meetT a b)=.val .top)
 |_,.lf,_=>⟨.inr (Tr.getP_lf _ _),.inr (Tr.getP_lf _ _)⟩
 |_,.nd _ _ _,.lf=>⟨.inr (Tr.getP_lf _ _),.inr (Tr.getP_lf _ _)⟩
 |.z,.nd v _ _,.nd w _ _=>meetE_both v w
 |.a p,.nd _ l _,.nd _ m _=>meetT_both p l m
 |.b p,.nd _ _ r,.nd _ _ s=>meetT_both p r s
theorem eqM_true:∀{a b:List (AVal × AVal)},eqM a b=true→a=b
 | [],[],_=>rfl
 | [],_::_,h=>(Bool.false_ne_true h).elim
 |_::_,[],h=>(Bool.false_ne_true h).elim
 |x::xs,y::ys,h=>by
  have h:(eqA x.1 y.1&&(eqA x.2 y.2&&eqM xs ys))=true:=h
  simp only[Bool.and_eq_true]at h
  obtain⟨x1,x2⟩:=x;obtain⟨y1,y2⟩:=y
  have h1:x1=y1:=eqA_true _ _ h.1
  have h2:x2=y2:=eqA_true _ _ h.2.1
  rw[h1,h2,eqM_true h.2.2]
theorem eqKo_true {a b:Option KeyK} (h:eqKo a b=true):a=b:=by
 cases a<;>cases b<;>first|rfl|exact(Bool.false_ne_true h).elim|skip
 exact congrArg _ (kkEq_eq h)
theorem eqCur_true {a b:Option (AVal × AVal)} (h:eqCur a b=true):a=b:=by
 cases a<;>cases b<;>first|rfl|exact(Bool.false_ne_true h).elim|skip
 rename_i x y
 have h:(eqA x.1 y.1&&eqA x.2 y.2)=true:=h
 simp only[Bool.and_eq_true]at h
 obtain⟨x1,x2⟩:=x;obtain⟨y1,y2⟩:=y
 have h1:x1=y1:=eqA_true _ _ h.1
 have h2:x2=y2:=eqA_true _ _ h.2
 rw[h1,h2]
theorem eqO_true {a b:VObj} (h:eqO a b=true):a=b:=by
 unfold eqO at h
 split at h
 ·rfl
 ·rw[eqAs_true _ _ h]
 ·simp only[Bool.and_eq_true]at h;rw[beq_true h.1,eqAs_true _ _ h.2]
 ·simp only[Bool.and_eq_true]at h;rw[beq_true h.1,beq_true h.2.1,beq_true h.2.2]
 ·simp only[Bool.and_eq_true]at h;rw[eqKo_true h.1,eqM_true h.2]
 ·simp only[Bool.and_eq_true]at h;rw[beq_true h.1,eqKo_true h.2.1,eqM_true h.2.2.1,eqM_true h.2.2.2.1,eqCur_true h.2.2.2.2]
 ·rfl
 ·cases h
def RLe (a b:RS):Prop:=(∀t,eat b.1 t=eat a.1 t∨eat b.1 t=.val .top)∧a.2.1≤b.2.1∧a.2.2=b.2.2
theorem RLe.refl (a:RS):RLe a a:=⟨fun _=>.inl rfl,Nat.le_refl _,rfl⟩
theorem RLe.trans {a b c:RS} (h:RLe a b) (k:RLe b c):RLe a c:=by
 refine⟨fun t=> ?_,Nat.le_trans h.2.1 k.2.1,h.2.2.trans k.2.2⟩
 rcases k.1 t with k1|k1
 ·rcases h.1 t with h1|h1
  ·exact .inl (k1.trans h1)
  ·exact .inr (k1.trans h1)
 ·exact .inr k1
theorem meetL_all:∀{l:List RR} {Rt:RS},meetL l=some Rt→∀r∈l,∃a,r=some a∧RLe a Rt
 | [],Rt,h,r,hr=>by cases hr
 | [r0],Rt,h,r,hr=>by
  rw[List.mem_singleton]at hr;subst hr
  exact⟨Rt,h,.refl _⟩
 |r0::s::l,Rt,h,r,hr=>by
  have h:meetR r0 (meetL (s::l))=some Rt:=h
  cases h0:r0 with
  |none=>rw[h0]at h;cases h
  |some a=>
   cases h1:meetL (s::l)with
   |none=>rw[h0,h1]at h;cases h
   |some b=>
    rw[h0,h1]at h
    have h:(bif eqO a.2.2 b.2.2 then some (meetT a.1 b.1,maxN a.2.1 b.2.1,a.2.2)else none)=some Rt:=h
    cases ho:eqO a.2.2 b.2.2 with
    |false=>rw[ho]at h;cases h
    |true=>
    rw[ho,cond_true]at h
    cases h
    have ho:=eqO_true ho
    have hm:a.2.1≤maxN a.2.1 b.2.1∧b.2.1≤maxN a.2.1 b.2.1:=by
     unfold maxN
     rw[ble_eq]
     by_cases hab:a.2.1≤b.2.1
     ·rw[decide_eq_true hab,cond_true];exact⟨hab,Nat.le_refl _⟩
     ·rw[decide_eq_false hab,cond_false];exact⟨Nat.le_refl _,by omega⟩
    rcases List.mem_cons.1 hr with rfl|hr
    ·exact⟨a,h0,⟨fun t=>(meetT_both _ a.1 b.1).1,hm.1,rfl⟩⟩
    ·obtain⟨c,c1,c2⟩:=meetL_all h1 r hr
     exact⟨c,c1,c2.trans ⟨fun t=>(meetT_both _ a.1 b.1).2,hm.2,ho.symm⟩⟩
theorem picks_mem:∀{l:List (AVal × AVal)} {j:Nat} {e:AVal × AVal},l[j]? =some e→(e,l.eraseIdx j)∈picks l
 | [],j,e,h=>by simp at h
 |x::r,0,e,h=>by
  simp only[List.getElem?_cons_zero,Option.some.injEq]at h;subst h
  exact List.mem_cons_self ..
 |x::r,j+1,e,h=>by
  rw[List.getElem?_cons_succ]at h
  refine List.mem_cons_of_mem _ (List.mem_map.2 ⟨_,picks_mem h,rfl⟩)
theorem MR.at {ρ:Names}:∀{es es':List (AVal × AVal)},MR ρ es es'→∀{j:Nat} {e0:AVal × AVal},es'[j]? =some e0→∃e,es[j]? =some e∧e0.1=e.1∧VR ρ e.2 e0.2
 | [],_,h,j,e0,hj=>by cases h;simp at hj
 |x::r,_,⟨v,ys,h1,h2,h3⟩,0,e0,hj=>by
  subst h3
  simp only[List.getElem?_cons_zero,Option.some.injEq]at hj;subst hj
  exact⟨x,rfl,rfl,h1⟩
 |x::r,_,⟨v,ys,h1,h2,h3⟩,j+1,e0,hj=>by
  subst h3
  rw[List.getElem?_cons_succ]at hj
  obtain⟨e,k1,k2⟩:=h2.at hj
  exact⟨e,by rw[List.getElem?_cons_succ];exact k1,k2⟩
theorem MR.erase {ρ:Names}:∀{es es':List (AVal × AVal)},MR ρ es es'→∀(j:Nat),MR ρ (es.eraseIdx j) (es'.eraseIdx j)
 | [],_,h,j=>by cases h;exact rfl
 |x::r,_,⟨v,ys,h1,h2,h3⟩,0=>by subst h3;exact h2
 |x::r,_,⟨v,ys,h1,h2,h3⟩,j+1=>by subst h3;exact⟨v,_,h1,h2.erase j,rfl⟩
theorem Rel.less {R:Store} {ρ:Names} {V V':VS} {σ:Store} (h:Rel R ρ V σ) (hg:V'.g≤V'.n) (hn:V.n≤V'.n) (ha:∀i,V'.at i=V.at i∨V'.at i=.dead):Rel R ρ V' σ:=by
 have live:∀i,V'.at i≠.dead→V'.at i=V.at i:=fun i hi=>(ha i).resolve_right hi
 have live2:∀i,V'.at i≠.dead→V.at i≠.dead:=fun i hi=>by rw[←live i hi];exact hi
 refine⟨hg,fun i x hx=>Nat.lt_of_lt_of_le (h.dom i x hx) hn,fun i hi=> ?_,fun i j x y hi hj hx hy e=>h.inj i j x y (live2 i hi) (live2 j hj) hx hy e,h.sub⟩
 rw[live i hi];exact h.obj i (live2 i hi)
theorem Rel.dead_ge {R:Store} {ρ:Names} {V:VS} {σ:Store} (h:Rel R ρ V σ) {i:Nat} (hi:V.n≤i):V.at i=.dead:=by
 by_cases hd:V.at i=.dead
 ·exact hd
 ·obtain⟨x,h1,_⟩:=h.obj i hd
  have:=h.dom i x h1
  omega
theorem isPtr_true {i:Nat} {e:Ent} (h:isPtr i e=true):e=.val (.ptr i 0):=by
 unfold isPtr at h
 split at h
 ·rw[beq_true h]
 ·cases h
theorem tmp_ptr {ρ:Names} {env:VE} {e:Env} (hE:EnvR ρ env e) {s i:Nat} (h:eat env s=.val (.ptr i 0)):∃z,ρ i=some z∧evalOpd e (.tmp s)=.val (.ptr z.b 0):=by
 have hs:=hE s
 rw[h]at hs
 obtain⟨v,k1,k2⟩:=hs.val_inv;simp only[VR]at k1;obtain⟨z,hz,rfl⟩:=k1
 exact⟨z,hz,by show(match e s with|.box _=>Ent.lptr s 0|e=>e)=_;rw[k2]⟩
theorem EnvR.less {ρ:Names} {env env2:VE} {e:Env} (hE:EnvR ρ env e) (h:∀t,eat env2 t=eat env t∨eat env2 t=.val .top):∃e2,e.Le e2∧EnvR ρ env2 e2:=by
 refine⟨fun t=>open Classical in if eat env2 t=eat env t then e t else .val .top,fun t=> ?_,fun t=> ?_⟩
 ·by_cases ht:eat env2 t=eat env t
  ·simp only[ht,if_true];exact .inr (.inl rfl)
  ·simp only[ht,if_false];exact .inl rfl
 ·by_cases ht:eat env2 t=eat env t
  ·simp only[ht,if_true];exact hE t
  ·simp only[ht,if_false]
   rw[(h t).resolve_left ht];exact .top
theorem roundT_at (tr:Tr VObj) (i:Nat) (o it:VObj) (j:Nat):Tr.get .dead (roundT tr i o it) j=if i=j then it else if i-1=j then o else Tr.get .dead tr j:=by
 unfold roundT
 rw[Tr.get_set,Tr.get_set]
 rfl
theorem range_loop {run:Option AVal→EC} {b:ACode} (hrun:CodeOk P run b) (hp:b.plainB=true) {d:Option Nat} {s:Nat} {l:List AOper} {q:ACode} (hb:b=.seq (.region (⟨d,none,.next (.tmp s)⟩::l)) q)
  {env:VE} {V:VS} {x:Ex} {env1:VE} {V1:VS} (h:loopS run s env V (eat env s)=.done x env1 V1) {R:Store} {ρ:Names} {σ:Store} {e':Env} (hR:Rel R ρ V σ) (hE:EnvR ρ env e'):vc P (.loop b) (Post R ρ V x env1 V1) e' σ:=by
 have hnx:=(hrun hp).2 d s l q hb
 unfold loopS at h
 split at h
 case h_2=>cases h
 rename_i i hs
 unfold loopI at h
 split at h
 case h_2=>cases h
 rename_i m ko es left hat
 obtain⟨hg,h⟩:=bif_bad h (by intro hh;cases hh)
 unfold roundOk at hg
 simp only[Bool.and_eq_true,ble_eq,blt_eq,beq_eq,decide_eq_true_eq,Bool.not_eq_true',decide_eq_false_iff_not]at hg
 obtain⟨hgi,hgm,hlent,hVn,hmj⟩:=hg
 have hVn:V.n=i+1:=hVn
 have hmj:¬m=i-1:=hmj
 have hlent:V.at m=.lent:=by
  unfold isLent at hlent
  split at hlent
  ·assumption
  ·cases hlent
 have hmi:i≠m:=by rintro rfl;rw[hat]at hlent;cases hlent
 cases hrg:rangeE run s i m ko es V.t (left.length+1) left env V.n (V.at (Nat.sub i 1))with
 |none=>rw[hrg]at h;cases h
 |some Rf=>
 rw[hrg]at h
 have h:(bif isPtr i (eat Rf.1 s)then notNormal (run (some (.tuple [.bool false])) Rf.1 ((((VS.mk Rf.2.1 V.g V.t).put (i-1) Rf.2.2).put i .dead).put m (.map ko es)))else .bad)=.done x env1 V1:=h
 obtain⟨hptr,h⟩:=bif_bad h (by intro hh;cases hh)
 have hptr:=isPtr_true hptr
 have hend:run (some (.tuple [.bool false])) Rf.1 ((((VS.mk Rf.2.1 V.g V.t).put (i-1) Rf.2.2).put i .dead).put m (.map ko es))=.done x env1 V1∧x≠.normal:=by
  unfold notNormal at h
  split at h
  ·cases h
  ·rename_i hne;exact⟨h,fun hx=>hne _ _ (by rw[h,hx])⟩
 obtain⟨hend,hx⟩:=hend
 obtain⟨St,hSt⟩:∃St:Nat→List (AVal × AVal)→Option (AVal × AVal)→VObj→VS,St=fun n0 left cur o=>⟨n0,V.g,roundT V.t i o (.iter m ko es left cur)⟩:=⟨_,rfl⟩
 have atSt:∀n0 left cur o j,(St n0 left cur o).at j=if i=j then .iter m ko es left cur else if i-1=j then o else V.at j:=by
  intro n0 left cur o j;rw[hSt];exact roundT_at _ _ _ _ _
 obtain⟨Inv,hInv⟩:∃Inv:Nat→Env→Store→Prop,Inv=fun k e σ=>∃left env n0 ρ' cur o,k=left.length∧ρ.Le ρ'∧V.n≤n0∧Rel R ρ' (St n0 left cur o) σ∧EnvR ρ' env e∧eat env s=.val (.ptr i 0)∧
   ((left=[]∧env=Rf.1∧n0≤Rf.2.1∧o=Rf.2.2)∨(left≠[]∧∃Rt,rangeE run s i m ko es V.t (left.length+1) left env n0 o=some Rt∧RLe Rt Rf)):=⟨_,rfl⟩
 have enter:∀left env n0 ρ' cur o e σ Rt,ρ.Le ρ'→V.n≤n0→Rel R ρ' (St n0 left cur o) σ→EnvR ρ' env e→rangeE run s i m ko es V.t (left.length+1) left env n0 o=some Rt→RLe Rt Rf→Dim (Inv left.length) e σ:=by
  intro left env n0 ρ' cur o e σ Rt h1 h2 h3 h4 h5 h6
  cases left with
  |nil=>
   have h5:some (env,n0,o)=some Rt:=h5
   cases h5
   obtain⟨e2,e3,e4⟩:=h4.less h6.1
   refine⟨e2,σ,e3,.refl _,?_⟩
   rw[hInv]
   exact⟨[],Rf.1,n0,ρ',cur,o,rfl,h1,h2,h3,e4,hptr,.inl ⟨rfl,rfl,h6.2.1,h6.2.2⟩⟩
  |cons e0 r=>
   have hpt:eat env s=.val (.ptr i 0):=by
    have h5:(bif isPtr i (eat env s)then meetL ((picks (e0::r)).map (roundE run i m ko es V.t env n0 o (rangeE run s i m ko es V.t ((e0::r).length))))else none)=some Rt:=h5
    cases hq:isPtr i (eat env s)with
    |false=>rw[hq]at h5;cases h5
    |true=>exact isPtr_true hq
   refine dim_self ?_
   rw[hInv]
   exact⟨_,env,n0,ρ',cur,o,rfl,h1,h2,h3,h4,hpt,.inr ⟨by simp,Rt,h5,h6⟩⟩
 refine⟨Inv,⟨left.length,enter left env V.n ρ none (V.at (i-1)) e' σ Rf (.refl _) (Nat.le_refl _) ?_ hE hrg (.refl _)⟩,?_⟩
 ·refine hR.less (by rw[hSt];exact hR.gn) (by rw[hSt];exact Nat.le_refl _) fun j=>.inl ?_
  rw[atSt]
  by_cases hij:i=j
  ·subst hij;rw[if_pos rfl,hat]
  ·rw[if_neg hij]
   by_cases hj:i-1=j
   ·subst hj;rw[if_pos rfl]
   ·rw[if_neg hj]
 intro k e σ hI
 have hI':=hI
 rw[hInv]at hI
 obtain⟨left,env,n0,ρ',cur,o,hk,hle,hn,hR',hE',hpt,hcase⟩:=hI
 obtain⟨z,hz,hz2⟩:=tmp_ptr hE' hpt
 obtain⟨y,es',left',cur',q1,q2,q3,q4,o1,o2,o3,q5,q6⟩:=iter_get hR' (i:=i) (by rw[atSt,if_pos rfl]) hz
 have hlm:(St n0 left cur o).at m=.lent:=by rw[atSt,if_neg hmi,if_neg (fun hh=>hmj hh.symm),hlent]
 obtain⟨y2,y3,y4,_⟩:=hR'.get hlm (by intro hh;cases hh)
 rw[q1]at y3;cases y3
 obtain⟨l1,l2,l3⟩:=blk_inv (show σ.blk y.b=(none,none,some .lent)from y4)
 subst hb
 show vcOp P (.next (.tmp s)) d (vcOps P l (vc P q (Ex.then (Dim fun env' σ'=>∃m,m<k∧Inv m env' σ') (Post R ρ V x env1 V1)))) e σ
 simp only[vcOp,hz2]
 refine⟨some y.b,es',left',cur',o3,fun r hr=>by cases hr;exact l3,fun hl=> ?_,fun j e0 hj=> ?_⟩
 ·have hleft:left=[]:=by
   have:=q3.length
   rw[hl]at this
   exact List.length_eq_zero_iff.1 this.symm
  rcases hcase with⟨_,henv,hn0,ho0⟩|⟨hne,_⟩
  case inr=>exact absurd hleft hne
  subst henv
  have live_i:(St n0 left cur o).at i≠.dead:=by rw[atSt,if_pos rfl];intro hh;cases hh
  obtain⟨a1,a2⟩:=hR'.put (σ':=σ.setMap z.b .lent) hz live_i (by rw[hSt];exact Nat.le_of_lt hgi) (but_setMap σ z.b _) (o:=.dead) trivial
  have hyz:y.b≠z.b:=by intro hh;rw[hh,o3]at l3;cases l3
  have hblk:=blk_inv (but_setMap σ z.b .lent y.b hyz)
  obtain⟨b1,b2⟩:=a1.put (σ':=(σ.setMap z.b .lent).setMap y.b (.map es')) q1 (by rw[at_put,if_neg hmi,hlm];intro hh;cases hh) (by rw[hSt];exact hgm) (but_setMap _ y.b _) (o:=.map ko es)
   ⟨es',q2,by rw[blk_setMap,hblk.1,hblk.2.1,l1,l2],q5,q6⟩
  have hRel:Rel R ρ' ((((VS.mk Rf.2.1 V.g V.t).put (i-1) Rf.2.2).put i .dead).put m (.map ko es)) ((σ.setMap z.b .lent).setMap y.b (.map es')):=by
   refine b1.less ?_ ?_ fun j=>.inl ?_
   ·show V.g≤Rf.2.1
    have:=hR.gn;omega
   ·show(St n0 left cur o).n≤Rf.2.1
    rw[hSt];exact hn0
   ·rw[at_put,at_put,at_put,at_put,at_put,atSt]
    by_cases h1:m=j
    ·rw[if_pos h1,if_pos h1]
    ·rw[if_neg h1,if_neg h1]
     by_cases h2:i=j
     ·rw[if_pos h2,if_pos h2]
     ·rw[if_neg h2,if_neg h2,if_neg h2]
      by_cases h3:i-1=j
      ·rw[if_pos h3,if_pos h3,ho0]
      ·rw[if_neg h3,if_neg h3];rfl
  have hGd:Gd V ((((VS.mk Rf.2.1 V.g V.t).put (i-1) Rf.2.2).put i .dead).put m (.map ko es)):=by
   refine⟨rfl,Nat.le_trans hn hn0,fun j hj=> ?_⟩
   rw[at_put,at_put,at_put,if_neg (by omega),if_neg (by omega),if_neg (by omega)];rfl
  refine vcOps_mono (fun e σ hv=>vc_mono hv fun w e σ hw=> ?_) (hnx _ _ _ _ _ _ hend R ρ' _ e (.tuple [.bool false]) hRel hE' (VR.of_plain _ rfl))
  have hwx:=hw.1
  subst hwx
  cases w with
  |normal=>exact absurd rfl hx
  |exit id=>exact hw.next hle hGd
  |ret=>exact hw.next hle hGd
 ·obtain⟨e1,j1,j2,j3⟩:=q3.at hj
  rcases hcase with⟨hnil,_⟩|⟨hne,Rt,hrt,hRt⟩
  case inl=>rw[hnil]at j1;simp at j1
  obtain⟨f,r,hfr⟩:∃f r,left=f::r:=by
   cases left with
   |nil=>exact absurd rfl hne
   |cons f r=>exact⟨f,r,rfl⟩
  have hrt2:(bif isPtr i (eat env s)then meetL ((picks left).map (roundE run i m ko es V.t env n0 o (rangeE run s i m ko es V.t left.length)))else none)=some Rt:=by
   rw[hfr]at hrt⊢;exact hrt
  have hpt':isPtr i (eat env s)=true:=by rw[hpt];exact Nat.beq_refl i
  rw[hpt',cond_true]at hrt2
  obtain⟨Rp,p1,p2⟩:=meetL_all hrt2 _ (List.mem_map.2 ⟨_,picks_mem j1,rfl⟩)
  unfold roundE at p1
  cases hpl:e1.1.plain with
  |false=>simp only[hpl]at p1;cases p1
  |true=>
  simp only[hpl,cond_true]at p1
  unfold roundK at p1
  split at p1
  case h_2=>cases p1
  rename_i env2 V2 hrn
  cases hei:eqO (V2.at i) (.iter m ko es (left.eraseIdx j) (some e1))with
  |false=>rw[hei]at p1;cases p1
  |true=>
  rw[hei,cond_true]at p1
  have hei:=eqO_true hei
  have hpos:0<left.length:=by rw[hfr];simp
  have hjl:j<left.length:=(List.getElem?_eq_some_iff.1 j1).1
  have hlen:(left.eraseIdx j).length+1=left.length:=by rw[List.length_eraseIdx_of_lt hjl];omega
  have live_i:(St n0 left cur o).at i≠.dead:=by rw[atSt,if_pos rfl];intro hh;cases hh
  obtain⟨a1,a2⟩:=hR'.put (σ':=σ.setMap z.b (.iter (some y.b) es' (left'.eraseIdx j) (some e0))) hz live_i (by rw[hSt];exact Nat.le_of_lt hgi) (but_setMap σ z.b _) (o:=.iter m ko es (left.eraseIdx j) (some e1))
   ⟨y,es',_,_,q1,q2,q3.erase j,⟨e0.2,j3,by rw[←j2]⟩,by rw[blk_setMap,o1,o2],q5,q6⟩
  have hRel:Rel R ρ' ⟨n0,i-1,roundT V.t i o (.iter m ko es (left.eraseIdx j) (some e1))⟩ (σ.setMap z.b (.iter (some y.b) es' (left'.eraseIdx j) (some e0))):=by
   refine a1.less (by show i-1≤n0;omega) (by show(St n0 left cur o).n≤n0;rw[hSt];exact Nat.le_refl _) fun w=>.inl ?_
   rw[at_put,atSt]
   show Tr.get .dead (roundT V.t i o _) w=_
   rw[roundT_at]
   by_cases h2:i=w
   ·rw[if_pos h2,if_pos h2]
   ·rw[if_neg h2,if_neg h2,if_neg h2];rfl
  have hv:VR ρ' (.tuple [.bool true,e1.1,e1.2]) (.tuple [.bool true,e0.1,e0.2]):=by
   rw[j2];exact VR.pair hpl rfl j3
  refine vcOps_mono (fun e σ hv=>vc_mono hv fun w e σ hw=> ?_) (hnx _ _ _ _ _ _ hrn R ρ' _ e _ hRel hE' hv)
  obtain⟨rfl,ρ3,w1,w2,w3,w4⟩:=hw
  refine(?_:Dim (fun env' σ'=>∃m,m<k∧Inv m env' σ') e σ)
  have hn2:n0≤V2.n:=w2.n
  obtain⟨eF,σF,f1,f2,f3⟩:=enter (left.eraseIdx j) env2 V2.n ρ3 (some e1) (V2.at (i-1)) e σ Rp (hle.trans w1) (Nat.le_trans hn hn2) (by
   refine w3.less ?_ ?_ fun w=> ?_
   ·rw[hSt]
    show V.g≤V2.n
    have:=hR.gn;omega
   ·rw[hSt];exact Nat.le_refl _
   ·rw[atSt]
    by_cases h2:i=w
    ·subst h2;rw[if_pos rfl,hei];exact .inl rfl
    ·rw[if_neg h2]
     by_cases h3:i-1=w
     ·subst h3;rw[if_pos rfl];exact .inl rfl
     ·rw[if_neg h3]
      by_cases hw:w<i-1
      ·left
       have:=w2.keep w hw
       rw[this]
       show _=Tr.get .dead (roundT V.t i o _) w
       rw[roundT_at,if_neg h2,if_neg h3]
       rfl
      ·exact .inr (hR.dead_ge (by omega))) w4 (by rw[hlen];exact p1) (p2.trans hRt)
  exact⟨eF,σF,f1,f2,_,by omega,f3⟩
theorem code_ok {call:Nat→Callee'} (hc:∀f,CallOk P f (call f)) (n:Nat):∀b:ACode,CodeOk P (codeR b call n) b
 |.skip=>fun _=>⟨fun env V x env1 V1 h R ρ σ e' hR hE=>by cases h;exact⟨rfl,ρ,.refl _,.refl _,hR,hE⟩,fun d s l q hb=>by cases hb⟩
 |.exit id=>fun _=>⟨fun env V x env1 V1 h R ρ σ e' hR hE=>by cases h;exact⟨rfl,ρ,.refl _,.refl _,hR,hE⟩,fun d s l q hb=>by cases hb⟩
 |.ret=>fun _=>⟨fun env V x env1 V1 h R ρ σ e' hR hE=>by cases h;exact⟨rfl,ρ,.refl _,.refl _,hR,hE⟩,fun d s l q hb=>by cases hb⟩
 |.region ops=>fun hp=>⟨fun env V x env1 V1 h R ρ σ e' hR hE=>by
   have h:opsE call ops (.done .normal) env V=.done x env1 V1:=h
   refine opsE_sound hc (by intro hh;cases hh) (fun o ho=>List.all_eq_true.1 hp o ho) ?_ hR hE h
   intro ρ' env V' e' σ h1 h2 h3 h4 h5
   cases h5
   exact⟨rfl,ρ',h1,h2,h3,h4⟩,fun d s l q hb=>by cases hb⟩
 |.drawn W ops=>fun hp=>⟨fun env V x env1 V1 h R ρ σ e' hR hE=>by
   have h:drawnE call W ops (.done .normal) env V=.done x env1 V1:=h
   refine drawnE_sound hc (by intro hh;cases hh) (fun o ho=>List.all_eq_true.1 hp o ho) ?_ hR hE h
   intro ρ' env V' e' σ h1 h2 h3 h4 h5
   cases h5
   exact⟨rfl,ρ',h1,h2,h3,h4⟩,fun d s l q hb=>by cases hb⟩
 |.seq a b=>fun hp=>by
  simp only[ACode.plainB,Bool.and_eq_true]at hp
  have iha:=code_ok hc n a hp.1
  have ihb:=code_ok hc n b hp.2
  refine⟨fun env V x env1 V1 h R ρ σ e' hR hE=> ?_,fun d s l q hb v env V x env1 V1 h R ρ σ e' v' hR hE hv=> ?_⟩
  ·have h:seqK (codeR b call n none) (codeR a call n none env V)=.done x env1 V1:=h
   show vc P a (Ex.then (vc P b (Post R ρ V x env1 V1)) (Post R ρ V x env1 V1)) e' σ
   rcases seqK_out h with⟨env2,V2,ha,hb⟩|⟨ha,hx⟩
   ·refine vc_mono (iha.1 _ _ _ _ _ ha R ρ σ e' hR hE) ?_
    rintro z e3 σ3 ⟨rfl,ρ3,h1,h2,h3,h4⟩
    exact vc_mono (ihb.1 _ _ _ _ _ hb R ρ3 σ3 e3 h3 h4) fun z e σ hz=>hz.next h1 h2
   ·refine vc_mono (iha.1 _ _ _ _ _ ha R ρ σ e' hR hE) ?_
    intro z e3 σ3 hz
    have:=hz.1
    subst this
    cases z with
    |normal=>exact absurd rfl hx
    |exit id=>exact hz
    |ret=>exact hz
  ·cases hb
   have h:seqK (codeR b call n none) (opsE call l (.done .normal) (setd d (.val v) env) V)=.done x env1 V1:=h
   have hpl:∀o∈l,o.op.plainB=true:=fun o ho=>List.all_eq_true.1 hp.1 o (List.mem_cons_of_mem _ ho)
   rcases seqK_out h with⟨env2,V2,ha,hb⟩|⟨ha,hx⟩
   ·refine opsE_sound hc (by intro hh;cases hh) hpl ?_ hR (hE.set d (.ofV hv)) ha
    intro ρ' env V' e' σ h1 h2 h3 h4 h5
    cases h5
    exact vc_mono (ihb.1 _ _ _ _ _ hb R ρ' σ e' h3 h4) fun z e σ hz=>hz.next h1 h2
   ·refine opsE_sound hc (by intro hh;cases hh) hpl ?_ hR (hE.set d (.ofV hv)) ha
    intro ρ' env V' e' σ h1 h2 h3 h4 h5
    cases h5
    exact absurd rfl hx
 |.cond c a b=>fun hp=>by
  simp only[ACode.plainB,Bool.and_eq_true]at hp
  have iha:=code_ok hc n a hp.2.1
  have ihb:=code_ok hc n b hp.2.2
  refine⟨fun env V x env1 V1 h R ρ σ e' hR hE=> ?_,fun d s l q hb=>by cases hb⟩
  have h:condT (eo c env) (codeR a call n none) (codeR b call n none) env V=.done x env1 V1:=h
  have hx:=eo_rep hE hp.1
  cases he:eo c env with
  |box cs=>rw[he]at h;cases h
  |lptr s o=>rw[he]at h;cases h
  |val v=>
   rw[he]at h hx
   cases v<;>first|cases h|skip
   rename_i t
   obtain⟨v,k1,k2⟩:=hx.val_inv;simp only[VR]at k1;subst k1
   unfold vc
   simp only[k2]
   cases t with
   |true=>exact⟨fun _=>iha.1 _ _ _ _ _ h R ρ σ e' hR hE,fun hh=>(by cases hh)⟩
   |false=>exact⟨fun hh=>(by cases hh),fun _=>ihb.1 _ _ _ _ _ h R ρ σ e' hR hE⟩
 |.block id b=>fun hp=>by
  have ih:=code_ok hc n b hp
  refine⟨fun env V x env1 V1 h R ρ σ e' hR hE=> ?_,fun d s l q hb=>by cases hb⟩
  have h:blockK id (codeR b call n none env V)=.done x env1 V1:=h
  cases ha:codeR b call n none env V with
  |bad=>rw[ha]at h;cases h
  |done y e2 V2=>
   rw[ha]at h
   show vc P b (Ex.inBlock id (Post R ρ V x env1 V1)) e' σ
   refine vc_mono (ih.1 _ _ _ _ _ ha R ρ σ e' hR hE) ?_
   rintro z e3 σ3 ⟨rfl,ρ3,h1,h2,h3,h4⟩
   cases z with
   |normal=>cases h;exact⟨rfl,ρ3,h1,h2,h3,h4⟩
   |exit i=>
    have h:(bif Nat.beq i id then ER.done .normal e2 V2 else .done (.exit i) e2 V2)=.done x env1 V1:=h
    show(bif i==id then Post R ρ V x env1 V1 .normal else Post R ρ V x env1 V1 (.exit i)) e3 σ3
    rw[beq_eq]at h
    by_cases hi:i=id
    ·rw[decide_eq_true hi]at h
     have:(i==id)=true:=by simpa using hi
     rw[this]
     cases h;exact⟨rfl,ρ3,h1,h2,h3,h4⟩
    ·rw[decide_eq_false hi]at h
     have:(i==id)=false:=by simpa using hi
     rw[this]
     cases h;exact⟨rfl,ρ3,h1,h2,h3,h4⟩
   |ret=>cases h;exact⟨rfl,ρ3,h1,h2,h3,h4⟩
 |.loop b=>fun hp=>by
  have ih:=code_ok hc n b
  refine⟨fun env V x env1 V1 h R ρ σ e' hR hE=> ?_,fun d s l q hb=>by cases hb⟩
  have h:loopR (nextSlot b) (codeR b call n) n env V=.done x env1 V1:=h
  cases hs:nextSlot b with
  |some s=>
   rw[hs]at h
   obtain⟨d,l,q,hb⟩:=nextSlot_some hs
   exact range_loop ih hp hb h hR hE
  |none=>
   rw[hs]at h
   have h:loopN (codeR b call n none) n env V=.done x env1 V1:=h
   refine⟨fun m e σ=>∃ρ' env V',ρ.Le ρ'∧Gd V V'∧Rel R ρ' V' σ∧EnvR ρ' env e∧loopN (codeR b call n none) m env V'=.done x env1 V1,⟨n,dim_self ⟨ρ,env,V,.refl _,.refl _,hR,hE,h⟩⟩,?_⟩
   rintro m e σ ⟨ρ',env',V',h1,h2,h3,h4,h5⟩
   cases m with
   |zero=>cases h5
   |succ m=>
    have h5:seqK (loopN (codeR b call n none) m) (codeR b call n none env' V')=.done x env1 V1:=h5
    rcases seqK_out h5 with⟨env2,V2,ha,hb⟩|⟨ha,hx⟩
    ·refine vc_mono ((ih hp).1 _ _ _ _ _ ha R ρ' σ e h3 h4) ?_
     rintro z e3 σ3 ⟨rfl,ρ3,k1,k2,k3,k4⟩
     exact dim_self ⟨m,Nat.lt_succ_self m,ρ3,env2,V2,h1.trans k1,h2.trans k2,k3,k4,hb⟩
    ·refine vc_mono ((ih hp).1 _ _ _ _ _ ha R ρ' σ e h3 h4) ?_
     intro z e3 σ3 hz
     have:=hz.1
     subst this
     cases z with
     |normal=>exact absurd rfl hx
     |exit id=>exact hz.next h1 h2
     |ret=>exact hz.next h1 h2
theorem run_sound (hm:P.follows .mixedOrders=true) {call:Nat→Callee'} (hc:∀f,CallOk P f (call f)) {f:Nat} {fn:Func} {esc:List Nat} {af:AFun} (hf:P.funcs[f]? =some fn) (ha:ofFunc P esc fn=some af) (hn:(fn.body.isSome&&fn.name != "runtime.NumGoroutine")=true) (hp:af.body.plainB=true):CallOk P f (runF call af):=by
 intro as V a V' h
 refine⟨⟨fn,hf,hn⟩,fun R ρ σ bs hR hv=> ?_⟩
 unfold runF at h
 cases hlen:Nat.ble (lenF as 0) af.n with
 |false=>rw[hlen]at h;cases h
 |true=>
  rw[hlen,cond_true]at h
  rw[ble_eq,lenF_eq,Nat.zero_add,decide_eq_true_eq]at hlen
  cases he:codeR af.body call rounds none (argsE as 0 .lf) V with
  |bad=>rw[he]at h;cases h
  |done x env1 V1=>
   rw[he]at h
   refine acall_of hm hf ha (by rw[hv.length];exact hlen) (vc_mono ((code_ok hc rounds af.body hp).1 _ _ _ _ _ he R ρ σ _ hR (args_rep hv)) ?_)
   rintro y e2 σ2 ⟨rfl,ρ2,h1,h2,h3,h4⟩
   have fin:finK V1 (ressE env1 V1 af.res)=.got a V'→resAll e2 σ2 af.res fun b=>∃ρ',ρ.Le ρ'∧Gd V V'∧Rel R ρ' V' σ2∧VR ρ' a b:=by
    intro hfin
    cases hr:ressE env1 V1 af.res with
    |none=>rw[hr]at hfin;cases hfin
    |some rs=>
     rw[hr]at hfin
     cases hfin
     obtain⟨bs',c1,c2⟩:=ressE_rep h3 h4 hr
     refine c2 _ ?_
     match rs,bs',c1 with
     | [],bs',c1=>
      rw[c1.nil_inv]
      exact⟨ρ2,h1,h2,h3,VR.of_plain _ rfl⟩
     | [r1],bs',c1=>
      obtain⟨y,ys,d1,d2,rfl⟩:=c1.cons_inv
      rw[d2.nil_inv]
      exact⟨ρ2,h1,h2,h3,d1⟩
     |r1::r2::rs,bs',c1=>
      have c1':=c1
      obtain⟨y,ys,d1,d2,rfl⟩:=c1.cons_inv
      obtain⟨z,zs,d3,d4,rfl⟩:=d2.cons_inv
      exact⟨ρ2,h1,h2,h3,by show VR ρ2 (.tuple (r1::r2::rs)) (.tuple (y::z::zs));simp only[VR];exact⟨_,c1',rfl⟩⟩
   cases y with
   |exit id=>cases h
   |normal=>exact fin h
   |ret=>exact fin h
theorem callF_sound (hm:P.follows .mixedOrders=true) (hT:TOk P T) {call:Nat→Callee'} (hc:∀f,CallOk P f (call f)) (f:Nat):CallOk P f (callF call (Tr.get .none T f)):=by
 have:=hT f
 cases hg:Tr.get .none T f with
 |none=>intro as V a V' h;cases h
 |told g=>rw[hg]at this;exact this
 |code af=>
  rw[hg]at this
  obtain⟨fn,esc,h1,h2,h3,h4⟩:=this
  exact run_sound hm hc h1 h2 h3 h4
theorem callN_sound (hm:P.follows .mixedOrders=true) (hT:TOk P T):∀n f,CallOk P f (callN T n f)
 |0,f=>fun as V a V' h=>by cases h
 |n+1,f=>callF_sound hm hT (callN_sound hm hT n) f
theorem CallOk.plain {f:Nat} {c:Callee'} (hc:CallOk P f c) {as bs:List AVal} {a:AVal} {V':VS} (h:c as ⟨0,0,.lf⟩=.got a V') (hv:VRs (fun _=>none) as bs) (hp:a.shut.plain=true) (σ:Store):
  ACall P f bs σ fun b τ=>b=a.shut∧τ=σ:=by
 have hR:Rel σ (fun _=>none) ⟨0,0,.lf⟩ σ:=by
  have dead:∀i,VS.at ⟨0,0,.lf⟩ i=.dead:=fun i=>Tr.get_lf _ _
  exact⟨Nat.le_refl _,fun i x hx=>(by cases hx),fun i hi=>absurd (dead i) hi,fun i j x y hi=>absurd (dead i) hi,.refl _⟩
 refine((hc as _ a V' h).2 σ _ σ bs hR hv).weak ?_
 rintro b τ ⟨ρ',_,_,h3,h4⟩
 refine⟨a.shut,σ,?_,h3.sub,rfl,rfl⟩
 rw[←VR.prim (VR.shut a h4) hp]
 exact AVal.le_shut b
end
end Go.AL
