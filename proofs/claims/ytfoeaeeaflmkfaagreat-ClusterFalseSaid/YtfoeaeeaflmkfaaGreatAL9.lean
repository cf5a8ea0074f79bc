/-
  AN ABSTRACT LOGIC OVER THE MODEL, part 9: a region whose order is drawn: one order is enough.
-/
import Derived.Test.YtfoeaeeaflmkfaaGreatAL7
namespace Go.AL
open Go.RowKit
section
variable {P:Program} {W:List Nat} {env env':Env} {σ σ':Store}
def Same (env env':Env) (d:Option Nat):Prop:=∀x,some x≠d→evalOpd env' (.tmp x)=evalOpd env (.tmp x)
theorem evalOpd_set (env:Env) (d:Option Nat) (e:Ent) (x:Opd) (h:∀t,x=.tmp t→d≠some t):evalOpd (env.set d e) x=evalOpd env x:=by
 cases x with
 |const a=>rfl
 |tmp t=>
  cases d with
  |none=>rfl
  |some d=>
   have:¬t=d:=fun h2=>h t rfl (by rw[h2])
   simp only[evalOpd,Env.set_some,this,if_false]
theorem Env.set_comm (env:Env) {d d':Option Nat} (e e':Ent) (h:d=none∨d≠d'):(env.set d e).set d' e'=(env.set d' e').set d e:=by
 cases d with
 |none=>rfl
 |some d=>
  cases d' with
  |none=>rfl
  |some d'=>
   have hne:d≠d':=by
    rcases h with h|h
    ·cases h
    ·exact fun h2=>h (by rw[h2])
   funext t
   simp only[Env.set_some]
   by_cases h1:t=d
   ·subst h1;simp[hne]
   ·simp[h1]
theorem map_congr {f g:Opd→Ent} {l:List Opd} (h:∀x∈l,f x=g x):l.map f=l.map g:=List.map_congr_left h
theorem partV_congr {f g:Opd→Ent}:∀{l:List (Nat × Nat × Opd)},(∀x∈l.map (fun p=>p.2.2),f x=g x)→partV f l=partV g l
 | [],_=>rfl
 |(o,n,x)::r,h=>by
  have h1:=h x (by simp)
  have h2:=partV_congr (f:=f) (g:=g) (l:=r) (fun y hy=>h y (List.mem_cons_of_mem _ hy))
  simp only[partV,h1,h2]
theorem setAll_congr {sz:Nat} {f g:Opd→Ent}:∀{l:List (Nat × Opd)} {xs:List AVal},(∀x∈l.map (fun p=>p.2),f x=g x)→setAll sz xs f l=setAll sz xs g l
 | [],_,_=>rfl
 |(i,x)::r,xs,h=>by
  have h1:=h x (by simp)
  simp only[setAll,h1]
  split
  ·split
   ·exact setAll_congr (fun y hy=>h y (List.mem_cons_of_mem _ hy))
   ·rfl
  ·rfl
theorem bound_congr {d:Nat} {x:Option Opd} {K:Nat→Prop} (h:∀y∈x.toList,evalOpd env' y=evalOpd env y):bound env' d x K=bound env d x K:=by
 cases x with
 |none=>rfl
 |some y=>simp only[bound,h y (by simp)]
theorem rel_local (o:AOp) (e:Ent) (h:∀x∈o.opds,evalOpd env' x=evalOpd env x) (hk:o.kind=0∨(σ'=σ∧∀s,W.contains s=false→env' s=env s)) (hr:rel P W o env σ e):rel P W o env' σ' e:=by
 cases o with
 |pick c a b=>
  have h1:=h c (by simp[AOp.opds])
  have h2:=h a (by simp[AOp.opds])
  have h3:=h b (by simp[AOp.opds])
  simp only[rel,h1,h2,h3]at hr⊢
  exact hr
 |bslice own sz et n z ps=>
  have:=setAll_congr (sz:=sz) (xs:=List.replicate n z) (f:=evalOpd env') (g:=evalOpd env) (l:=ps) h
  simp only[rel,this]at hr⊢
  exact hr
 |load agg n x=>
  have h1:=h x (by simp[AOp.opds])
  rcases hk with hk|⟨hs,hb⟩
  ·simp[AOp.kind]at hk
  subst hs
  simp only[rel,h1]at hr⊢
  generalize evalOpd env x=ex at hr⊢
  cases ex with
  |box c=>exact hr
  |val v=>cases v<;>exact hr
  |lptr s off=>
   simp only[]at hr⊢
   obtain⟨g1,g2⟩:=hr
   refine⟨g1,?_⟩
   rw[hb s g1]
   exact g2
 |mark x=>simp only[rel]at hr
 |neg x=>simp only[rel,pureV,h x (by simp[AOp.opds])]at hr⊢;exact hr
 |aget m n agg x i=>simp only[rel,pureV,h x (by simp[AOp.opds]),h i (by simp[AOp.opds])]at hr⊢;exact hr
 |tassert t x=>simp only[rel,pureV,h x (by simp[AOp.opds])]at hr⊢;exact hr
 |arr n x=>simp only[rel,pureV,h x (by simp[AOp.opds])]at hr⊢;exact hr
 |mmap=>exact hr.elim
 |mget kk z ok x i=>
  rcases hk with hk|⟨hs,hb⟩
  ·simp[AOp.kind]at hk
  subst hs
  simp only[rel,h x (by simp[AOp.opds]),h i (by simp[AOp.opds])]at hr⊢;exact hr
 |mset kk x i v=>exact hr.elim
 |mdel kk x i=>exact hr.elim
 |mlen x=>
  rcases hk with hk|⟨hs,hb⟩
  ·simp[AOp.kind]at hk
  subst hs
  simp only[rel,h x (by simp[AOp.opds])]at hr⊢;exact hr
 |range x=>exact hr.elim
 |next x=>exact hr.elim
 |entry x=>exact hr.elim
 |bytesStr x=>simp only[rel,h x (by simp[AOp.opds])]at hr⊢;exact hr
 |strBytes q x=>simp only[rel,h x (by simp[AOp.opds])]at hr⊢;exact hr
 |cut sz x lo hi=>
  have h1:=h x (by simp[AOp.opds])
  have h2:∀y∈lo.toList,evalOpd env' y=evalOpd env y:=fun y hy=>h y (by simp[AOp.opds]at hy⊢;simp[hy])
  have h3:∀y∈hi.toList,evalOpd env' y=evalOpd env y:=fun y hy=>h y (by simp[AOp.opds]at hy⊢;simp[hy])
  simp only[rel,h1,bound_congr h2,bound_congr h3]at hr⊢;exact hr
 |cut3 sz x lo hi mx=>
  have h1:=h x (by simp[AOp.opds])
  have h2:∀y∈lo.toList,evalOpd env' y=evalOpd env y:=fun y hy=>h y (by simp[AOp.opds]at hy⊢;simp[hy])
  have h3:∀y∈(some hi).toList,evalOpd env' y=evalOpd env y:=fun y hy=>h y (by simp[AOp.opds]at hy⊢;simp[hy])
  have h4:∀y∈(some mx).toList,evalOpd env' y=evalOpd env y:=fun y hy=>h y (by simp[AOp.opds]at hy⊢;simp[hy])
  simp only[rel,h1,bound_congr h2,bound_congr h3,bound_congr h4]at hr⊢;exact hr
 |cutStr x lo hi=>
  have h1:=h x (by simp[AOp.opds])
  have h2:∀y∈lo.toList,evalOpd env' y=evalOpd env y:=fun y hy=>h y (by simp[AOp.opds]at hy⊢;simp[hy])
  have h3:∀y∈hi.toList,evalOpd env' y=evalOpd env y:=fun y hy=>h y (by simp[AOp.opds]at hy⊢;simp[hy])
  simp only[rel,h1,bound_congr h2,bound_congr h3]at hr⊢;exact hr
 |iaddr sz x i=>simp only[rel,h x (by simp[AOp.opds]),h i (by simp[AOp.opds])]at hr⊢;exact hr
 |istr x i=>simp only[rel,h x (by simp[AOp.opds]),h i (by simp[AOp.opds])]at hr⊢;exact hr
 |call f as=>
  rcases hk with hk|⟨hs,hb⟩
  ·simp[AOp.kind]at hk
  subst hs
  have h':as.map (evalOpd env')=as.map (evalOpd env):=map_congr h
  simp only[rel,h']at hr⊢
  exact hr
 |box cs=>exact hr.elim
 |boxv x=>exact hr.elim
 |obj cs=>exact hr.elim
 |objv x=>exact hr.elim
 |store n x v=>exact hr.elim
 |callv f as=>
  rcases hk with hk|⟨hs,hb⟩
  ·simp[AOp.kind]at hk
  subst hs
  have h1:=h f (by simp[AOp.opds])
  have h':as.map (evalOpd env')=as.map (evalOpd env):=map_congr fun x hx=>h x (by simp[AOp.opds,hx])
  simp only[rel,h1,h']at hr⊢
  exact hr
 |inv tbl x as=>
  rcases hk with hk|⟨hs,hb⟩
  ·simp[AOp.kind]at hk
  subst hs
  have h1:=h x (by simp[AOp.opds])
  have h':as.map (evalOpd env')=as.map (evalOpd env):=map_congr fun x hx=>h x (by simp[AOp.opds,hx])
  simp only[rel,h1,h']at hr⊢
  exact hr
 |clearS sz z x=>exact hr.elim
 |clearM x=>exact hr.elim
 |aidx n sz x i=>simp only[rel,pureV,h x (by simp[AOp.opds]),h i (by simp[AOp.opds])]at hr⊢;exact hr
 |append sz et by_ x y=>exact hr.elim
 |appendZ sz et by_ x y=>exact hr.elim
 |appendM sz et by_ x y=>exact hr.elim
 |mslice sz et n z ps=>exact hr.elim
 |cap x=>exact hr.elim
 |dead=>exact hr.elim
 |mv x=>simp only[rel,pureV,h x (by simp[AOp.opds])]at hr⊢;exact hr
 |build z ps=>simp only[rel,pureV,partV_congr (f:=evalOpd env') (g:=evalOpd env) (l:=ps) h]at hr⊢;exact hr
 |nilCheck x=>simp only[rel,pureV,h x (by simp[AOp.opds])]at hr⊢;exact hr
 |bin op q x y=>simp only[rel,pureV,h x (by simp[AOp.opds]),h y (by simp[AOp.opds])]at hr⊢;exact hr
 |not x=>simp only[rel,pureV,h x (by simp[AOp.opds])]at hr⊢;exact hr
 |convInt q x=>simp only[rel,pureV,h x (by simp[AOp.opds])]at hr⊢;exact hr
 |same x=>simp only[rel,pureV,h x (by simp[AOp.opds])]at hr⊢;exact hr
 |iface t x=>simp only[rel,pureV,h x (by simp[AOp.opds])]at hr⊢;exact hr
 |mkFunc fn f c=>
  have h1:f.map (evalOpd env')=f.map (evalOpd env):=map_congr fun x hx=>h x (by simp[AOp.opds,hx])
  have h2:c.map (evalOpd env')=c.map (evalOpd env):=map_congr fun x hx=>h x (by simp[AOp.opds,hx])
  simp only[rel,pureV,h1,h2]at hr⊢;exact hr
 |foff off x=>simp only[rel,pureV,h x (by simp[AOp.opds])]at hr⊢;exact hr
 |field off n agg x=>simp only[rel,pureV,h x (by simp[AOp.opds])]at hr⊢;exact hr
 |extract x i=>simp only[rel,pureV,h x (by simp[AOp.opds])]at hr⊢;exact hr
 |len x=>simp only[rel,pureV,h x (by simp[AOp.opds])]at hr⊢;exact hr
 |lenStr x=>simp only[rel,pureV,h x (by simp[AOp.opds])]at hr⊢;exact hr
 |min x y=>simp only[rel,pureV,h x (by simp[AOp.opds]),h y (by simp[AOp.opds])]at hr⊢;exact hr
 |max3 x y z=>simp only[rel,pureV,h x (by simp[AOp.opds]),h y (by simp[AOp.opds]),h z (by simp[AOp.opds])]at hr⊢;exact hr
 |max x y=>simp only[rel,pureV,h x (by simp[AOp.opds]),h y (by simp[AOp.opds])]at hr⊢;exact hr
theorem slots_opd {o:AOper} {d:Option Nat} (h:∀x,d=some x→x∉o.slots) {x:Opd} (hx:x∈o.op.opds) (t:Nat) (ht:x=.tmp t):d≠some t:=by
 intro hd
 refine h t hd ?_
 unfold AOper.slots
 refine List.mem_append_right _ (List.mem_filterMap.2 ⟨x,hx,?_⟩)
 rw[ht]
theorem slots_guard {o:AOper} {j:Nat} {want:Bool} (h:o.guard=some (j,want)):j∈o.slots:=by
 unfold AOper.slots
 rw[h]
 simp
theorem relG_local (o:AOper) (e:Ent) {d:Option Nat} {e1:Ent} (h:∀x,d=some x→x∉o.slots) (hW:∀x,d=some x→x∈W) (hr:relG P W o (env.set d e1) σ e):relG P W o env σ e:=by
 have hops:∀x∈o.op.opds,evalOpd env x=evalOpd (env.set d e1) x:=fun x hx=>(evalOpd_set env d e1 x (slots_opd h hx)).symm
 have hb:∀s,W.contains s=false→env s=env.set d e1 s:=by
  intro s hs
  cases d with
  |none=>rfl
  |some d=>
   have:¬s=d:=by rintro rfl;have:=hW s rfl;simp at hs;exact hs this
   rw[Env.set_some,if_neg this]
 unfold relG at hr⊢
 cases hg:o.guard with
 |none=>rw[hg]at hr;exact rel_local o.op e hops (.inr ⟨rfl,hb⟩) hr
 |some p=>
  obtain⟨j,want⟩:=p
  rw[hg]at hr
  have hj:env.set d e1 j=env j:=by
   cases d with
   |none=>rfl
   |some d=>rw[Env.set_some,if_neg (by rintro rfl;exact h _ rfl (slots_guard hg))]
  simp only[hj]at hr⊢
  split at hr
  ·exact⟨fun ht=>rel_local o.op e hops (.inr ⟨rfl,hb⟩) (hr.1 ht),hr.2⟩
  ·exact hr
  ·exact hr.elim
theorem relG_local' (o:AOper) (e:Ent) {d:Option Nat} {e1:Ent} (h:∀x,d=some x→x∉o.slots) (hW:∀x,d=some x→x∈W) (hr:relG P W o env σ e):relG P W o (env.set d e1) σ e:=by
 have hops:∀x∈o.op.opds,evalOpd (env.set d e1) x=evalOpd env x:=fun x hx=>evalOpd_set env d e1 x (slots_opd h hx)
 have hb:∀s,W.contains s=false→env.set d e1 s=env s:=by
  intro s hs
  cases d with
  |none=>rfl
  |some d=>
   have:¬s=d:=by rintro rfl;have:=hW s rfl;simp at hs;exact hs this
   rw[Env.set_some,if_neg this]
 unfold relG at hr⊢
 cases hg:o.guard with
 |none=>rw[hg]at hr;exact rel_local o.op e hops (.inr ⟨rfl,hb⟩) hr
 |some p=>
  obtain⟨j,want⟩:=p
  rw[hg]at hr
  have hj:env.set d e1 j=env j:=by
   cases d with
   |none=>rfl
   |some d=>rw[Env.set_some,if_neg (by rintro rfl;exact h _ rfl (slots_guard hg))]
  simp only[hj]at hr⊢
  split at hr
  ·exact⟨fun ht=>rel_local o.op e hops (.inr ⟨rfl,hb⟩) (hr.1 ht),hr.2⟩
  ·exact hr
  ·exact hr.elim
theorem bound_elim {d:Nat} {x:Option Opd} {K:Nat→Prop} (h:bound env d x K):∃n,K n:=by
 cases x with
 |none=>exact⟨_,h⟩
 |some y=>
  simp only[bound]at h
  split at h
  ·exact⟨_,h.2⟩
  ·exact h.elim
theorem bound_mono {d:Nat} {x:Option Opd} {K K':Nat→Prop} (hK:∀n,K n→K' n) (h:bound env d x K):bound env d x K':=by
 cases x with
 |none=>exact hK _ h
 |some y=>
  simp only[bound]at h⊢
  split at h
  ·exact⟨h.1,hK _ h.2⟩
  ·exact h.elim
theorem rel_noBox {o:AOp} {e:Ent} (h:rel P W o env σ e):¬e.isBox:=by
 have hev:∀x:Opd,¬(evalOpd env x).isBox:=by
  intro x
  cases x with
  |const a=>exact id
  |tmp t=>
   simp only[evalOpd]
   cases h:env t with
   |val a=>exact id
   |box c=>exact id
   |lptr s o=>exact id
 have hpure:∀{o:AOp} {e:Ent},pureV env o=some e→¬e.isBox:=by
  intro o e h
  cases o<;>simp only[pureV]at h
  case mv x=>simp only[Option.some.injEq]at h;subst h;exact hev x
  all_goals
   repeat' (split at h)
   all_goals first
    |cases h;done
    |(simp only[Option.some.injEq]at h;subst h;exact id)
 cases o<;>simp only[rel]at h
 case pick c a b=>
  split at h
  ·rename_i t _
   subst h
   cases t
   ·exact hev b
   ·exact hev a
  ·exact h.elim
 case bslice=>
  split at h
  ·obtain⟨_,rfl⟩:=h;exact id
  ·exact h.elim
 case load=>
  split at h
  ·obtain⟨_,_,_,rfl⟩:=h;exact id
  ·obtain⟨_,rfl⟩:=h;exact id
  ·obtain⟨_,h⟩:=h
   split at h
   ·obtain⟨_,rfl⟩:=h;exact id
   ·exact h.elim
  ·exact h.elim
 case bytesStr=>
  split at h
  ·obtain⟨_,_,rfl⟩:=h;exact id
  ·exact h.elim
 case strBytes=>
  split at h
  ·obtain⟨_,rfl⟩:=h;exact id
  ·exact h.elim
 case cut=>
  split at h
  ·obtain⟨_,h⟩:=h
   obtain⟨_,_,h⟩:=bound_elim h
   obtain⟨_,_,rfl⟩:=bound_elim h
   exact id
  ·obtain⟨_,_,h⟩:=bound_elim h
   obtain⟨_,_,rfl⟩:=bound_elim h
   exact id
  ·exact h.elim
 case cut3=>
  split at h
  ·obtain⟨_,h⟩:=h
   obtain⟨_,_,h⟩:=bound_elim h
   obtain⟨_,_,h⟩:=bound_elim h
   obtain⟨_,_,rfl⟩:=bound_elim h
   exact id
  ·exact h.elim
 case cutStr=>
  split at h
  ·obtain⟨_,_,h⟩:=bound_elim h
   obtain⟨_,_,rfl⟩:=bound_elim h
   exact id
  ·exact h.elim
 case iaddr=>
  split at h
  ·split at h
   ·obtain⟨_,_,_,_,rfl⟩:=h;exact id
   ·obtain⟨_,_,rfl⟩:=h;exact id
   ·exact h.elim
  ·exact h.elim
 case istr=>
  split at h
  ·obtain⟨_,_,_,rfl⟩:=h;exact id
  ·exact h.elim
 case call=>
  split at h
  ·obtain⟨_,_,rfl⟩:=h;exact id
  ·exact h.elim
 case callv=>
  split at h
  ·obtain⟨_,_,_,rfl⟩:=h;exact id
  ·exact h.elim
 case inv=>
  split at h
  ·obtain⟨_,_,_,_,rfl⟩:=h;exact id
  ·exact h.elim
 case mget=>
  split at h
  ·obtain⟨_,rfl⟩:=h;exact id
  ·obtain⟨_,_,_,rfl⟩:=h;exact id
  ·exact h.elim
 case mlen=>
  split at h
  ·subst h;exact id
  ·obtain⟨_,_,rfl⟩:=h;exact id
  ·exact h.elim
 all_goals exact hpure h
theorem relG_noBox {o:AOper} {e:Ent} (h:relG P W o env σ e):¬e.isBox:=by
 unfold relG at h
 split at h
 ·exact rel_noBox h
 ·rename_i j want hg
  split at h
  ·rename_i t _
   cases t<;>cases want
   ·exact rel_noBox (h.1 rfl)
   ·rw[h.2 rfl];exact id
   ·rw[h.2 rfl];exact id
   ·exact rel_noBox (h.1 rfl)
  ·rw[h];exact id
  ·exact h.elim
def noL (env:Env) (d:Nat):Prop:=∀t q,env t≠.lptr d q
structure TF (W:List Nat) (o:AOp) (d:Option Nat) (env:Env) (σ:Store) (env':Env) (σ':Store):Prop where
 same:Same env env' d
 loc:stOk W env o→∀s,some s≠d→W.contains s=false→env' s=env s
 app:o.isAppend=true→σ'.obj=σ.obj
 obj:o.isObj=true→σ'=σ∨∃b cs,σ.fresh b∧σ'=σ.setObj b cs
 bst:stBox env o→σ'=σ
 lp:∀t s q,env' t=.lptr s q→env t=.lptr s q
theorem turn_frame {W:List Nat} (o:AOp) (ht:o.mayTurn=true) {d d1:Option Nat} {e1:Ent} (hb:¬e1.isBox∨∃x,d1=some x∧noL env x) (hs:∀x∈o.opds,∀t,x=.tmp t→d1≠some t) (hd:d1=none∨d1≠d) {K K':Env→Store→Prop}
  (hK:∀env' σ',TF W o d env σ env' σ'→K (env'.set d1 e1) σ'→K' env' σ') (h:vcOp P o d K (env.set d1 e1) σ):vcOp P o d K' env σ:=by
 have hev:∀x∈o.opds,evalOpd (env.set d1 e1) x=evalOpd env x:=fun x hx=>evalOpd_set env d1 e1 x (hs x hx)
 have hsame:∀v:AVal,Same env (env.set d (.val v)) d:=fun v x hx=>evalOpd_set env d _ (.tmp x) (fun t ht=>by cases ht;exact fun h=>hx h.symm)
 have hlp:∀(env0:Env) (v:AVal),∀t s q,(env0.set d (.val v)) t=.lptr s q→env0 t=.lptr s q:=fun env0 v t s q h=>by
  cases d with
  |none=>exact h
  |some x=>
   rw[Env.set_some]at h
   split at h
   ·cases h
   ·exact h
 have hc:d=none∨d≠d1:=by
  rcases hd with h|h
  ·subst h
   cases d with
   |none=>exact .inl rfl
   |some x=>exact .inr (by simp)
  ·exact .inr fun h2=>h h2.symm
 have put:∀(v:AVal) (τ:Store),((o.isAppend=true→τ.obj=σ.obj)∧(o.isObj=true→τ=σ∨∃b cs,σ.fresh b∧τ=σ.setObj b cs)∧(stBox env o→τ=σ))→K ((env.set d1 e1).set d (.val v)) τ→K' (env.set d (.val v)) τ:=fun v τ hap h=>hK _ _ ⟨hsame v,fun _ s hs _=>by
   cases d with
   |none=>rfl
   |some q=>rw[Env.set_some,if_neg (fun h=>hs (by rw[h]))],hap.1,hap.2.1,hap.2.2,hlp env v⟩ (by rw[Env.set_comm env (.val v) e1 hc];exact h)
 cases o
 case bslice own sz et n z ps=>
  cases own with
  |false=>cases ht
  |true=>
   have h1:=setAll_congr (sz:=sz) (xs:=List.replicate n z) (f:=evalOpd (env.set d1 e1)) (g:=evalOpd env) (l:=ps) hev
   simp only[vcOp,h1]at h⊢
   split at h
   ·simp only[if_true]at h⊢
    exact fun g hg=>put _ _ ⟨fun _=>rfl,fun ha=>(by cases ha),fun hb=>False.elim hb⟩ (h g hg)
   ·exact h.elim
 all_goals simp only[AOp.mayTurn,Bool.false_eq_true]at ht
 case load agg n x=>
  have h1:=hev x (by simp[AOp.opds])
  simp only[vcOp,h1]at h⊢
  generalize hex:evalOpd env x=ex at h⊢
  split at h
  ·obtain⟨cs,g1,g2,h⟩:=h
   exact⟨cs,g1,g2,put _ _ ⟨fun ha=>(by cases ha),fun _=>.inl rfl,fun hb=>False.elim hb⟩ h⟩
  ·exact⟨h.1,put _ _ ⟨fun ha=>(by cases ha),fun _=>.inl rfl,fun hb=>False.elim hb⟩ h.2⟩
  ·rename_i s off
   split at h
   ·rename_i cs hcs
    have hne:d1≠some s:=by
     rintro rfl
     rcases hb with hb|⟨y,hy,hno⟩
     ·rw[Env.set_some,if_pos rfl]at hcs
      rw[hcs]at hb;exact hb trivial
     ·cases hy
      cases x with
      |const a=>cases hex
      |tmp t=>
       have hts:¬t=s:=fun hh=>hs (.tmp t) (by simp[AOp.opds]) t rfl (by rw[hh])
       simp only[evalOpd]at hex
       cases hq:env t with
       |val a=>rw[hq]at hex;cases hex
       |box c=>rw[hq]at hex;cases hex;exact hts rfl
       |lptr s' q=>rw[hq]at hex;cases hex;exact hno t _ hq
    have hcs':env s=.box cs:=by
     cases d1 with
     |none=>exact hcs
     |some q=>rw[Env.set_some,if_neg (fun h=>hne (by rw[h]))]at hcs;exact hcs
    simp only[hcs']
    exact⟨h.1,put _ _ ⟨fun ha=>(by cases ha),fun _=>.inl rfl,fun hb=>False.elim hb⟩ h.2⟩
   ·exact h.elim
  ·exact h.elim
 case obj cs=>
  simp only[vcOp]at h⊢
  exact fun b hbf=>put _ _ ⟨fun ha=>(by cases ha),fun _=>.inr ⟨b,_,hbf,rfl⟩,fun hb=>False.elim hb⟩ (h b hbf)
 case objv x=>
  have h1:=hev x (by simp[AOp.opds])
  simp only[vcOp,h1]at h⊢
  split at h
  ·exact⟨h.1,fun b hbf=>put _ _ ⟨fun ha=>(by cases ha),fun _=>.inr ⟨b,_,hbf,rfl⟩,fun hb=>False.elim hb⟩ (h.2 b hbf)⟩
  ·exact h.elim
 case store n x v=>
  have h1:=hev x (by simp[AOp.opds])
  have h2:=hev v (by simp[AOp.opds])
  simp only[vcOp,h1,h2]at h⊢
  generalize evalOpd env v=ev at h⊢
  generalize hex:evalOpd env x=ex at h⊢
  split at h
  ·obtain⟨g1,g2,h⟩:=h
   refine⟨g1,g2,?_⟩
   split at h
   ·obtain⟨cs,g3,g4,h⟩:=h
    exact⟨cs,g3,g4,put _ _ ⟨fun ha=>(by cases ha),fun ha=>(by cases ha),fun⟨s,q,hb⟩=>(by rw[hex]at hb;cases hb)⟩ h⟩
   ·rename_i s off
    split at h
    ·rename_i cs hcs
     have hne:d1≠some s:=by
      rintro rfl
      rcases hb with hb|⟨y,hy,hno⟩
      ·rw[Env.set_some,if_pos rfl]at hcs
       rw[hcs]at hb;exact hb trivial
      ·cases hy
       cases x with
       |const a=>cases hex
       |tmp t=>
        have hts:¬t=s:=fun hh=>hs (.tmp t) (by simp[AOp.opds]) t rfl (by rw[hh])
        simp only[evalOpd]at hex
        cases hq:env t with
        |val a=>rw[hq]at hex;cases hex
        |box c=>rw[hq]at hex;cases hex;exact hts rfl
        |lptr s' q=>rw[hq]at hex;cases hex;exact hno t _ hq
     have hcs':env s=.box cs:=by
      cases d1 with
      |none=>exact hcs
      |some q=>rw[Env.set_some,if_neg (fun h=>hne (by rw[h]))]at hcs;exact hcs
     simp only[hcs']
     obtain⟨g4,h⟩:=h
     refine⟨g4,hK _ _ ⟨fun x hx=> ?_,fun hw s' hs' hW=> ?_,fun ha=>(by cases ha),fun ha=>(by cases ha),fun _=>rfl,fun t s' q hl=> ?_⟩ ?_⟩
     ·rw[evalOpd_set _ d _ (.tmp x) (fun t ht=>by cases ht;exact fun h=>hx h.symm)]
      simp only[evalOpd,Env.setBox]
      by_cases hxs:x=s
      ·subst hxs;simp[hcs']
      ·have:(x==s)=false:=by simpa using hxs
       simp[this]
     ·have hsW:=hw s off hex
      have hne':¬s'=s:=fun hh=>by rw[hh,hsW]at hW;cases hW
      have hset:∀env0:Env,(env0.set d (.val .top)) s'=env0 s':=fun env0=>by
       cases d with
       |none=>rfl
       |some q=>rw[Env.set_some,if_neg (fun h=>hs' (by rw[h]))]
      rw[hset]
      simp only[Env.setBox]
      have:(s'==s)=false:=by simpa using hne'
      simp[this]
     ·have:=hlp _ _ t s' q hl
      simp only[Env.setBox]at this
      by_cases hts:t=s
      ·subst hts;simp at this
      ·have hb:(t==s)=false:=by simpa using hts
       simpa[hb]using this
     ·have e2:∀c,(env.set d1 e1).setBox s c=(env.setBox s c).set d1 e1:=by
       intro c
       cases d1 with
       |none=>rfl
       |some q=>
        have hq:¬s=q:=fun h=>hne (by rw[h])
        funext t
        simp only[Env.setBox,Env.set_some]
        by_cases ht:t=s
        ·subst ht;simp[hq]
        ·have:(t==s)=false:=by simpa using ht
         simp[this]
      rw[e2]at h
      rw[Env.set_comm _ (.val .top) e1 hc]
      exact h
    ·exact h.elim
   ·exact h.elim
  ·exact h.elim
 case append sz et by_ x y=>
  have h1:=hev x (by simp[AOp.opds])
  have h2:=hev y (by simp[AOp.opds])
  simp only[vcOp,h1,h2]at h⊢
  split at h
  ·generalize evalOpd env y=ey at h⊢
   split at h
   ·obtain⟨g1,g2,g3,g4,h⟩:=h
    exact⟨g1,g2,g3,g4,fun a σ' hr=>(h a σ' hr).mono fun b τ ho hk=>put _ _ ⟨fun _=>by
     rw[ho]
     rcases hr with⟨_,_,rfl⟩|⟨_,g,_,rfl,_⟩<;>rfl,fun ha=>(by cases ha),fun hb=>False.elim hb⟩ hk⟩
   ·obtain⟨g0,cs,q1,q2,g1,g2,g3,g4,h⟩:=h
    exact⟨g0,cs,q1,q2,g1,g2,g3,g4,fun a σ' hr=>(h a σ' hr).mono fun b τ ho hk=>put _ _ ⟨fun _=>by
     rw[ho]
     rcases hr with⟨_,_,rfl⟩|⟨_,g,_,rfl,_⟩<;>rfl,fun ha=>(by cases ha),fun hb=>False.elim hb⟩ hk⟩
   ·exact h.elim
  ·exact h.elim
 case appendZ sz et by_ x y=>
  have h1:=hev x (by simp[AOp.opds])
  have h2:=hev y (by simp[AOp.opds])
  simp only[vcOp,h1,h2]at h⊢
  split at h
  ·obtain⟨g1,g2,g3,g4,g5⟩:=h
   exact⟨g1,g2,g3,fun h0=>put _ _ ⟨fun ha=>(by cases ha),fun ha=>(by cases ha),fun hb=>False.elim hb⟩ (g4 h0),fun h0 g hg=>put _ _ ⟨fun ha=>(by cases ha),fun ha=>(by cases ha),fun hb=>False.elim hb⟩ (g5 h0 g hg)⟩
  ·exact h.elim
 case cap x=>
  have h1:=hev x (by simp[AOp.opds])
  simp only[vcOp,h1]at h⊢
  split at h
  ·exact fun c hc hm hn=>put _ _ ⟨fun ha=>(by cases ha),fun ha=>(by cases ha),fun hb=>False.elim hb⟩ (h c hc hm hn)
  ·exact h.elim
 case appendM sz et by_ x y=>
  have h1:=hev x (by simp[AOp.opds])
  have h2:=hev y (by simp[AOp.opds])
  simp only[vcOp,h1,h2]at h⊢
  obtain⟨m,L,hsrc,h⟩:=h
  refine⟨m,L,hsrc,?_⟩
  generalize evalOpd env x=ex at h⊢
  split at h
  ·obtain⟨cs,g1,g2,g3,g4,g5,g6,g7⟩:=h
   exact⟨cs,g1,g2,g3,g4,fun h0=>put _ _ ⟨fun ha=>(by cases ha),fun ha=>(by cases ha),fun hb=>False.elim hb⟩ (g5 h0),fun h0 h9 g c hg h1 h2=>put _ _ ⟨fun ha=>(by cases ha),fun ha=>(by cases ha),fun hb=>False.elim hb⟩ (g6 h0 h9 g c hg h1 h2),fun h0 h9=>put _ _ ⟨fun ha=>(by cases ha),fun ha=>(by cases ha),fun hb=>False.elim hb⟩ (g7 h0 h9)⟩
  ·obtain⟨g1,g2,g5,g6⟩:=h
   exact⟨g1,g2,fun h0=>put _ _ ⟨fun ha=>(by cases ha),fun ha=>(by cases ha),fun hb=>False.elim hb⟩ (g5 h0),fun h0 g c hg h1 h2=>put _ _ ⟨fun ha=>(by cases ha),fun ha=>(by cases ha),fun hb=>False.elim hb⟩ (g6 h0 g c hg h1 h2)⟩
  ·exact h.elim
 case mslice sz et n z ps=>
  have h1:=setAll_congr (sz:=sz) (xs:=List.replicate n z) (f:=evalOpd (env.set d1 e1)) (g:=evalOpd env) (l:=ps) hev
  simp only[vcOp,h1]at h⊢
  split at h
  ·exact fun b hb=>put _ _ ⟨fun ha=>(by cases ha),fun ha=>(by cases ha),fun hb=>False.elim hb⟩ (h b hb)
  ·exact h.elim
 case mmap=>
  simp only[vcOp]at h⊢
  exact fun b hb=>put _ _ ⟨fun ha=>(by cases ha),fun ha=>(by cases ha),fun hb=>False.elim hb⟩ (h b hb)
 case mget kk z ok x i=>
  have h1:=hev x (by simp[AOp.opds])
  have h2:=hev i (by simp[AOp.opds])
  simp only[vcOp,h1,h2]at h⊢
  split at h
  ·exact⟨h.1,put _ _ ⟨fun ha=>(by cases ha),fun ha=>(by cases ha),fun hb=>False.elim hb⟩ h.2⟩
  ·obtain⟨es,g1,g2,h⟩:=h
   exact⟨es,g1,g2,put _ _ ⟨fun ha=>(by cases ha),fun ha=>(by cases ha),fun hb=>False.elim hb⟩ h⟩
  ·exact h.elim
 case mset kk x i v=>
  have h1:=hev x (by simp[AOp.opds])
  have h2:=hev i (by simp[AOp.opds])
  have h3:=hev v (by simp[AOp.opds])
  simp only[vcOp,h1,h2,h3]at h⊢
  split at h
  ·obtain⟨es,g1,g2,h⟩:=h
   exact⟨es,g1,g2,put _ _ ⟨fun ha=>(by cases ha),fun ha=>(by cases ha),fun hb=>False.elim hb⟩ h⟩
  ·exact h.elim
 case mdel kk x i=>
  have h1:=hev x (by simp[AOp.opds])
  have h2:=hev i (by simp[AOp.opds])
  simp only[vcOp,h1,h2]at h⊢
  split at h
  ·obtain⟨es,g1,g2,h⟩:=h
   exact⟨es,g1,g2,put _ _ ⟨fun ha=>(by cases ha),fun ha=>(by cases ha),fun hb=>False.elim hb⟩ h⟩
  ·exact h.elim
 case mlen x=>
  have h1:=hev x (by simp[AOp.opds])
  simp only[vcOp,h1]at h⊢
  split at h
  ·exact put _ _ ⟨fun ha=>(by cases ha),fun ha=>(by cases ha),fun hb=>False.elim hb⟩ h
  ·obtain⟨es,g1,h⟩:=h
   exact⟨es,g1,put _ _ ⟨fun ha=>(by cases ha),fun ha=>(by cases ha),fun hb=>False.elim hb⟩ h⟩
  ·exact h.elim
 case range x=>
  have h1:=hev x (by simp[AOp.opds])
  simp only[vcOp,h1]at h⊢
  split at h
  ·exact fun b hb=>put _ _ ⟨fun ha=>(by cases ha),fun ha=>(by cases ha),fun hb=>False.elim hb⟩ (h b hb)
  ·obtain⟨es,g1,h⟩:=h
   exact⟨es,g1,fun b hb=>put _ _ ⟨fun ha=>(by cases ha),fun ha=>(by cases ha),fun hb=>False.elim hb⟩ (h b hb)⟩
  ·exact h.elim
 case next x=>
  have h1:=hev x (by simp[AOp.opds])
  simp only[vcOp,h1]at h⊢
  split at h
  ·obtain⟨m,es,left,cur,g1,g2,g3,g4⟩:=h
   exact⟨m,es,left,cur,g1,g2,fun h0=>put _ _ ⟨fun ha=>(by cases ha),fun ha=>(by cases ha),fun hb=>False.elim hb⟩ (g3 h0),fun j e hj=>put _ _ ⟨fun ha=>(by cases ha),fun ha=>(by cases ha),fun hb=>False.elim hb⟩ (g4 j e hj)⟩
  ·exact h.elim
 case entry x=>
  have h1:=hev x (by simp[AOp.opds])
  simp only[vcOp,h1]at h⊢
  split at h
  ·obtain⟨r,es,left,e,g1,h⟩:=h
   exact⟨r,es,left,e,g1,put _ _ ⟨fun ha=>(by cases ha),fun ha=>(by cases ha),fun hb=>False.elim hb⟩ h⟩
  ·exact h.elim
 case dead=>exact h.elim
 case mark x=>
  have h1:=hev x (by simp[AOp.opds])
  simp only[vcOp,h1]at h⊢
  split at h
  ·exact⟨h.1,put _ _ ⟨fun ha=>(by cases ha),fun ha=>(by cases ha),fun hb=>False.elim hb⟩ h.2⟩
  ·exact h.elim
 case call f as=>
  have h1:as.map (evalOpd (env.set d1 e1))=as.map (evalOpd env):=map_congr hev
  simp only[vcOp,h1]at h⊢
  split at h
  ·exact h.mono fun a σ' hk=>put _ _ ⟨fun ha=>(by cases ha),fun ha=>(by cases ha),fun hb=>False.elim hb⟩ hk
  ·exact h.elim
 case callv f as=>
  have h1:=hev f (by simp[AOp.opds])
  have h2:as.map (evalOpd (env.set d1 e1))=as.map (evalOpd env):=map_congr fun x hx=>hev x (by simp[AOp.opds,hx])
  simp only[vcOp,h1,h2]at h⊢
  split at h
  ·exact⟨h.1,h.2.mono fun a σ' hk=>put _ _ ⟨fun ha=>(by cases ha),fun ha=>(by cases ha),fun hb=>False.elim hb⟩ hk⟩
  ·exact h.elim
 case inv tbl x as=>
  have h1:=hev x (by simp[AOp.opds])
  have h2:as.map (evalOpd (env.set d1 e1))=as.map (evalOpd env):=map_congr fun x hx=>hev x (by simp[AOp.opds,hx])
  simp only[vcOp,h1,h2]at h⊢
  split at h
  ·obtain⟨f,h0,h⟩:=h;exact⟨f,h0,h.mono fun a σ' hk=>put _ _ ⟨fun ha=>(by cases ha),fun ha=>(by cases ha),fun hb=>False.elim hb⟩ hk⟩
  ·exact h.elim
 case clearS sz z x=>
  have h1:=hev x (by simp[AOp.opds])
  simp only[vcOp,h1]at h⊢
  generalize evalOpd env x=ex at h⊢
  split at h
  ·exact put _ _ ⟨fun ha=>(by cases ha),fun ha=>(by cases ha),fun hb=>False.elim hb⟩ h
  ·obtain⟨cs,g1,g2,h⟩:=h
   exact⟨cs,g1,g2,put _ _ ⟨fun ha=>(by cases ha),fun ha=>(by cases ha),fun hb=>False.elim hb⟩ h⟩
  ·exact h.elim
 case clearM x=>
  have h1:=hev x (by simp[AOp.opds])
  simp only[vcOp,h1]at h⊢
  generalize evalOpd env x=ex at h⊢
  split at h
  ·exact put _ _ ⟨fun ha=>(by cases ha),fun ha=>(by cases ha),fun hb=>False.elim hb⟩ h
  ·obtain⟨es,g1,h⟩:=h
   exact⟨es,g1,put _ _ ⟨fun ha=>(by cases ha),fun ha=>(by cases ha),fun hb=>False.elim hb⟩ h⟩
  ·exact h.elim
theorem set_lit (env:Env) {j:Nat} {t:Bool} (h:env j=.val (.bool t)):env.set (some j) (.val (.bool t))=env:=by
 rw[←h];exact Env.set_self env j
theorem oper_frame {W:List Nat} (o:AOper) (ht:o.op.mayTurn=true) {d1:Option Nat} {e1:Ent} (hb:¬e1.isBox∨∃x,d1=some x∧noL env x) (hs:∀x,d1=some x→x∉o.slots) (hd:d1=none∨d1≠o.dst) {K K':Env→Store→Prop}
  (hK:∀env' σ',TF W o.op o.dst env σ env' σ'→K (env'.set d1 e1) σ'→K' env' σ') (h:vcOper P o K (env.set d1 e1) σ):vcOper P o K' env σ:=by
 have hops:∀x∈o.op.opds,∀t,x=.tmp t→d1≠some t:=fun x hx t ht=>slots_opd hs hx t ht
 unfold vcOper at h⊢
 cases hg:o.guard with
 |none=>rw[hg]at h;exact turn_frame o.op ht hb hops hd hK h
 |some p=>
  obtain⟨j,want⟩:=p
  rw[hg]at h
  have hj:env.set d1 e1 j=env j:=by
   cases d1 with
   |none=>rfl
   |some d=>rw[Env.set_some,if_neg (by rintro rfl;exact hs _ rfl (slots_guard hg))]
  simp only[hj]at h⊢
  have hundone:K ((env.set d1 e1).set o.dst undone) σ→K' (env.set o.dst undone) σ:=fun this=>by
   refine hK _ _ ⟨fun x hx=>evalOpd_set env o.dst _ (.tmp x) (fun t ht=>by cases ht;exact fun h=>hx h.symm),fun _ s hs _=>by
    cases hq:o.dst with
    |none=>rfl
    |some q=>rw[Env.set_some,if_neg (fun h=>hs (by rw[hq,h]))],fun _=>rfl,fun _=>.inl rfl,fun _=>rfl,fun t s q h=>by
    cases hq:o.dst with
    |none=>rw[hq]at h;exact h
    |some x=>
     rw[hq,Env.set_some]at h
     split at h
     ·cases h
     ·exact h⟩ ?_
   rw[Env.set_comm env undone e1 (by
    rcases hd with h|h
    ·subst h
     cases o.dst with
     |none=>exact .inl rfl
     |some x=>exact .inr (by simp)
    ·exact .inr fun h2=>h h2.symm)]
   exact this
  split at h
  case h_3=>exact h.elim
  case h_2=>exact hundone h
  rename_i t hej
  refine⟨fun htw=> ?_,fun htw=> ?_⟩
  ·have:=h.1 htw
   subst htw
   rw[set_lit _ (hj.trans hej)]at this
   rw[set_lit _ hej]
   exact turn_frame o.op ht hb hops hd hK this
  ·have:=h.2 htw
   rw[←htw,set_lit _ (hj.trans hej)]at this
   rw[←htw,set_lit _ hej]
   exact hundone this
theorem oper_mono (o:AOper) (ht:o.op.mayTurn=true) {K K':Env→Store→Prop} (hK:∀env σ,K env σ→K' env σ) (h:vcOper P o K env σ):vcOper P o K' env σ:=
 oper_frame (W:=[]) o ht (d1:=none) (e1:=.val .top) (.inl id) (fun x hx=>by cases hx) (.inl rfl) (fun env' σ' _ h=>hK _ _ h) h
def boxOf (env:Env) (o:AOp) (cs:List AVal):Prop:=
 match o with
 |.box c=>cs=c
 |.boxv x=>∃a,evalOpd env x=.val a∧a.cells.all AVal.one=true∧cs=a.cells
 |_=>False
def vcR (P:Program) (W:List Nat):List (Nat × AOper)→(Env→Store→Prop)→Env→Store→Prop
 | [],k,env,σ=>k env σ
 |(κ,o)::os,k,env,σ=>
  if κ=2 then stOk W env o.op∧vcOper P o (vcR P W os k) env σ
  else if κ=3 then∃d cs,o.dst=some d∧boxOf env o.op cs∧vcR P W os k (env.set (some d) (.box cs)) σ
  else if κ=4 then stOk W env o.op∧stBox env o.op∧vcOper P o (vcR P W os k) env σ
  else if κ=5 then ldBoxG env o∧∃e,relG P W o env σ e∧vcR P W os k (env.set o.dst e) σ
  else if κ=6 then ldBoxG env o∧∃e,relG P (cutW W) o env σ e∧vcR P W os k (env.set o.dst e) σ
  else∃e,relG P W o env σ e∧vcR P W os k (env.set o.dst e) σ
theorem bound_ex {d:Nat} {x:Option Opd} {K:Nat→Prop} {K':Nat→Ent→Prop} {k:Ent→Prop} (hK:∀n,K n→∃e,K' n e∧k e) (h:bound env d x K):∃e,bound env d x (fun n=>K' n e)∧k e:=by
 cases x with
 |none=>exact hK _ h
 |some y=>
  simp only[bound]at h⊢
  split at h
  ·obtain⟨e,h1,h2⟩:=hK _ h.2;exact⟨e,⟨h.1,h1⟩,h2⟩
  ·exact h.elim
theorem rel_of_vcOpD {o:AOp} {d:Option Nat} {k:Env→Store→Prop} (hk:o.kind≤1) (h:vcOpD P W o d k env σ):∃e,rel P W o env σ e∧k (env.set d e) σ:=by
 by_cases hp:o.isPure=true
 ·have h':vcOp P o d k env σ:=by cases o<;>first|exact h|exact absurd hp (by simp[AOp.isPure])
  rw[vcOp_pure P o d _ env σ hp]at h'
  cases hq:pureV env o with
  |none=>rw[hq]at h';exact h'.elim
  |some e=>
   rw[hq]at h'
   exact⟨e,by cases o<;>first|exact hq|exact absurd hp (by simp[AOp.isPure]),h'⟩
 cases o<;>first|exact absurd rfl hp|(exfalso;simp[AOp.kind]at hk;done)|skip
 case pick c a b=>
  simp only[vcOpD,vcOp]at h
  simp only[rel]
  split at h
  ·rename_i t _
   cases t
   ·exact⟨_,rfl,h.2 rfl⟩
   ·exact⟨_,rfl,h.1 rfl⟩
  ·exact h.elim
 case bslice own sz et n z ps=>
  cases own with
  |true=>exfalso;simp[AOp.kind]at hk
  |false=>
   simp only[vcOpD,vcOp]at h
   simp only[rel]
   split at h
   ·simp only[Bool.false_eq_true,if_false]at h
    exact⟨_,⟨trivial,rfl⟩,h⟩
   ·exact h.elim
 case load agg n x=>
  simp only[vcOpD]at h
  simp only[rel]
  generalize evalOpd env x=ex at h⊢
  split at h
  ·obtain⟨cs,h1,h2,h3⟩:=h;exact⟨_,⟨cs,h1,h2,rfl⟩,h3⟩
  ·exact⟨_,⟨h.1,rfl⟩,h.2⟩
  ·obtain⟨h1,h⟩:=h
   split at h
   ·exact⟨_,⟨h1,h.1,rfl⟩,h.2⟩
   ·exact h.elim
  ·exact h.elim
 case bytesStr x=>
  simp only[vcOpD,vcOp]at h
  simp only[rel]
  split at h
  ·obtain⟨l,h1,h2⟩:=h;exact⟨_,⟨l,h1,rfl⟩,h2⟩
  ·exact h.elim
 case strBytes q x=>
  simp only[vcOpD,vcOp]at h
  simp only[rel]
  split at h
  ·exact⟨_,⟨h.1,rfl⟩,h.2⟩
  ·exact h.elim
 case cut sz x lo hi=>
  simp only[vcOpD]at h
  simp only[rel]
  split at h
  ·obtain⟨h1,h2⟩:=h
   obtain⟨e,g1,g2⟩:=bound_ex (K':=fun h e=>h≤_∧bound env 0 lo fun l=>l≤h∧e=_) (k:=fun e=>k (env.set d e) σ) (fun n hn=>by
    obtain⟨e,g1,g2⟩:=bound_ex (K':=fun l e=>l≤n∧e=_) (k:=fun e=>k (env.set d e) σ) (fun l hl=>⟨_,⟨hl.1,rfl⟩,hl.2⟩) hn.2
    exact⟨e,⟨hn.1,g1⟩,g2⟩) h2
   exact⟨e,⟨h1,g1⟩,g2⟩
  ·obtain⟨e,g1,g2⟩:=bound_ex (K':=fun h e=>h≤_∧bound env 0 lo fun l=>l≤h∧e=_) (k:=fun e=>k (env.set d e) σ) (fun n hn=>by
    obtain⟨e,g1,g2⟩:=bound_ex (K':=fun l e=>l≤n∧e=_) (k:=fun e=>k (env.set d e) σ) (fun l hl=>⟨_,⟨hl.1,rfl⟩,hl.2⟩) hn.2
    exact⟨e,⟨hn.1,g1⟩,g2⟩) h
   exact⟨e,g1,g2⟩
  ·exact h.elim
 case cut3 sz x lo hi mx=>
  simp only[vcOpD,vcOp]at h
  simp only[rel]
  split at h
  ·obtain⟨h1,h2⟩:=h
   obtain⟨e,g1,g2⟩:=bound_ex (K':=fun m e=>m≤_∧bound env 0 (some hi) fun h=>h≤m∧bound env 0 lo fun l=>l≤h∧e=_) (k:=fun e=>k (env.set d e) σ) (fun m hm=>by
    obtain⟨e,g1,g2⟩:=bound_ex (K':=fun h e=>h≤m∧bound env 0 lo fun l=>l≤h∧e=_) (k:=fun e=>k (env.set d e) σ) (fun n hn=>by
     obtain⟨e,g1,g2⟩:=bound_ex (K':=fun l e=>l≤n∧e=_) (k:=fun e=>k (env.set d e) σ) (fun l hl=>⟨_,⟨hl.1,rfl⟩,hl.2⟩) hn.2
     exact⟨e,⟨hn.1,g1⟩,g2⟩) hm.2
    exact⟨e,⟨hm.1,g1⟩,g2⟩) h2
   exact⟨e,⟨h1,g1⟩,g2⟩
  ·exact h.elim
 case cutStr x lo hi=>
  simp only[vcOpD,vcOp]at h
  simp only[rel]
  split at h
  ·obtain⟨e,g1,g2⟩:=bound_ex (K':=fun h e=>h≤_∧bound env 0 lo fun l=>l≤h∧e=_) (k:=fun e=>k (env.set d e) σ) (fun n hn=>by
    obtain⟨e,g1,g2⟩:=bound_ex (K':=fun l e=>l≤n∧e=_) (k:=fun e=>k (env.set d e) σ) (fun l hl=>⟨_,⟨hl.1,rfl⟩,hl.2⟩) hn.2
    exact⟨e,⟨hn.1,g1⟩,g2⟩) h
   exact⟨e,g1,g2⟩
  ·exact h.elim
 case iaddr sz x i=>
  simp only[vcOpD,vcOp]at h
  simp only[rel]
  generalize evalOpd env x=ex at h⊢
  split at h
  ·split at h
   ·obtain⟨h1,a,h2,h3,h4⟩:=h;exact⟨_,⟨h1,a,h2,h3,rfl⟩,h4⟩
   ·exact⟨_,⟨h.1,h.2.1,rfl⟩,h.2.2⟩
   ·exact h.elim
  ·exact h.elim
 case istr x i=>
  simp only[vcOpD,vcOp]at h
  simp only[rel]
  split at h
  ·obtain⟨h1,a,h2,h4⟩:=h;exact⟨_,⟨h1,a,h2,rfl⟩,h4⟩
  ·exact h.elim
 case call f as=>
  simp only[vcOpD]at h
  simp only[rel]
  split at h
  ·obtain⟨c,h1,h2⟩:=h;exact⟨_,⟨c,h1,rfl⟩,h2⟩
  ·exact h.elim
 case callv f as=>
  simp only[vcOpD]at h
  simp only[rel]
  split at h
  ·obtain⟨h0,c,h1,h2⟩:=h;exact⟨_,⟨h0,c,h1,rfl⟩,h2⟩
  ·exact h.elim
 case inv tbl x as=>
  simp only[vcOpD]at h
  simp only[rel]
  split at h
  ·obtain⟨f,h0,c,h1,h2⟩:=h;exact⟨_,⟨f,h0,c,h1,rfl⟩,h2⟩
  ·exact h.elim
 case mget kk z ok x i=>
  simp only[vcOpD,vcOp]at h
  simp only[rel]
  split at h
  ·exact⟨_,⟨h.1,rfl⟩,h.2⟩
  ·obtain⟨es,h1,h2,h3⟩:=h;exact⟨_,⟨es,h1,h2,rfl⟩,h3⟩
  ·exact h.elim
 case mlen x=>
  simp only[vcOpD,vcOp]at h
  simp only[rel]
  split at h
  ·exact⟨_,rfl,h⟩
  ·obtain⟨es,h1,h3⟩:=h;exact⟨_,⟨es,h1,rfl⟩,h3⟩
  ·exact h.elim
theorem relG_of_vcOperD {o:AOper} {k:Env→Store→Prop} (hk:o.op.kind≤1) (h:vcOperD P W o k env σ):∃e,relG P W o env σ e∧k (env.set o.dst e) σ:=by
 unfold vcOperD at h
 unfold relG
 split at h
 ·exact rel_of_vcOpD hk h
 ·rename_i j want hg
  split at h
  case h_3=>exact h.elim
  case h_2=>exact⟨undone,rfl,h⟩
  rename_i t hej
  by_cases htw:t=want
  ·have h1:=h.1 htw
   rw[←htw,set_lit _ hej]at h1
   obtain⟨e,h2,h3⟩:=rel_of_vcOpD hk h1
   exact⟨e,⟨fun _=>h2,fun h4=>by subst htw;cases t<;>simp at h4⟩,h3⟩
  ·have h3:t= !want:=by cases t<;>cases want<;>simp_all
   have h2:=h.2 h3
   rw[←h3,set_lit _ hej]at h2
   exact⟨undone,⟨fun h4=>absurd h4 htw,fun _=>rfl⟩,h2⟩
theorem noL_set {env:Env} {d:Nat} (h:noL env d) {x:Option Nat} {e:Ent} (he:∀q,e≠.lptr d q):noL (env.set x e) d:=fun t q ht=>by
 cases x with
 |none=>exact h t q ht
 |some x=>
  rw[Env.set_some]at ht
  split at ht
  ·exact he q ht
  ·exact h t q ht
theorem opd_lptr {x:Opd} {s q:Nat} (h:evalOpd env x=.lptr s q):∃t,x=.tmp t∧(t=s∨env t=.lptr s q):=by
 cases x with
 |const a=>cases h
 |tmp t=>
  refine⟨t,rfl,?_⟩
  simp only[evalOpd]at h
  cases hq:env t with
  |val a=>rw[hq]at h;cases h
  |box c=>rw[hq]at h;cases h;exact .inl rfl
  |lptr s' q'=>rw[hq]at h;cases h;exact .inr rfl
theorem rel_lptr {o:AOp} {s q:Nat} (h:rel P W o env σ (.lptr s q)):∃x∈o.opds,∃q',evalOpd env x=.lptr s q':=by
 have hpure:∀{o:AOp},pureV env o=some (.lptr s q)→∃x∈o.opds,∃q',evalOpd env x=.lptr s q':=by
  intro o h
  cases o<;>simp only[pureV]at h
  case mv x=>simp only[Option.some.injEq]at h;exact⟨x,by simp[AOp.opds],q,h⟩
  case nilCheck x=>
   split at h<;>first|cases h;done|skip
   rename_i s' o' he
   simp only[Option.some.injEq,Ent.lptr.injEq]at h
   obtain⟨rfl,rfl⟩:=h
   exact⟨x,by simp[AOp.opds],_,he⟩
  case foff off x=>
   split at h<;>first|cases h;done|skip
   rename_i s' o' he
   simp only[Option.some.injEq,Ent.lptr.injEq]at h
   obtain⟨rfl,rfl⟩:=h
   exact⟨x,by simp[AOp.opds],_,he⟩
  case aidx n sz x i=>
   split at h<;>first|cases h;done|skip
   split at h<;>first|cases h;done|skip
   split at h<;>first|cases h;done|skip
   rename_i s' o' he
   simp only[Option.some.injEq,Ent.lptr.injEq]at h
   obtain⟨rfl,rfl⟩:=h
   exact⟨x,by simp[AOp.opds],_,he⟩
  all_goals
   repeat' (split at h)
   all_goals first
    |cases h;done
    |(simp only[Option.some.injEq,reduceCtorEq]at h;done)
 cases o<;>simp only[rel]at h
 case pick c a b=>
  split at h
  ·rename_i t _
   cases t
   ·exact⟨b,by simp[AOp.opds],q,h.symm⟩
   ·exact⟨a,by simp[AOp.opds],q,h.symm⟩
  ·exact h.elim
 case bslice=>split at h<;>simp_all
 case load=>
  split at h
  ·obtain⟨_,_,_,h⟩:=h;cases h
  ·obtain⟨_,h⟩:=h;cases h
  ·obtain⟨_,h⟩:=h
   split at h
   ·obtain⟨_,h⟩:=h;cases h
   ·exact h.elim
  ·exact h.elim
 case bytesStr=>
  split at h
  ·obtain⟨_,_,h⟩:=h;cases h
  ·exact h.elim
 case strBytes=>
  split at h
  ·obtain⟨_,h⟩:=h;cases h
  ·exact h.elim
 case cut=>
  split at h
  ·obtain⟨_,h⟩:=h
   obtain⟨_,_,h⟩:=bound_elim h
   obtain⟨_,_,h⟩:=bound_elim h
   cases h
  ·obtain⟨_,_,h⟩:=bound_elim h
   obtain⟨_,_,h⟩:=bound_elim h
   cases h
  ·exact h.elim
 case cut3=>
  split at h
  ·obtain⟨_,h⟩:=h
   obtain⟨_,_,h⟩:=bound_elim h
   obtain⟨_,_,h⟩:=bound_elim h
   obtain⟨_,_,h⟩:=bound_elim h
   cases h
  ·exact h.elim
 case cutStr=>
  split at h
  ·obtain⟨_,_,h⟩:=bound_elim h
   obtain⟨_,_,h⟩:=bound_elim h
   cases h
  ·exact h.elim
 case iaddr=>
  split at h
  ·split at h
   ·obtain⟨_,_,_,_,h⟩:=h;cases h
   ·obtain⟨_,_,h⟩:=h;cases h
   ·exact h.elim
  ·exact h.elim
 case istr=>
  split at h
  ·obtain⟨_,_,_,h⟩:=h;cases h
  ·exact h.elim
 case call=>
  split at h
  ·obtain⟨_,_,h⟩:=h;cases h
  ·exact h.elim
 case callv=>
  split at h
  ·obtain⟨_,_,_,h⟩:=h;cases h
  ·exact h.elim
 case inv=>
  split at h
  ·obtain⟨_,_,_,_,h⟩:=h;cases h
  ·exact h.elim
 case mget=>
  split at h
  ·obtain⟨_,h⟩:=h;cases h
  ·obtain⟨_,_,_,h⟩:=h;cases h
  ·exact h.elim
 case mlen=>
  split at h
  ·cases h
  ·obtain⟨_,_,h⟩:=h;cases h
  ·exact h.elim
 all_goals exact hpure h
theorem relG_lptr {o:AOper} {s q:Nat} (h:relG P W o env σ (.lptr s q)):∃t∈o.slots,t=s∨∃q',env t=.lptr s q':=by
 have fin:rel P W o.op env σ (.lptr s q)→∃t∈o.slots,t=s∨∃q',env t=.lptr s q':=fun h=>by
  obtain⟨x,hx,q',hq⟩:=rel_lptr h
  obtain⟨t,rfl,ht⟩:=opd_lptr hq
  refine⟨t,?_,ht.imp_right fun h=>⟨_,h⟩⟩
  unfold AOper.slots
  exact List.mem_append_right _ (List.mem_filterMap.2 ⟨.tmp t,hx,rfl⟩)
 unfold relG at h
 split at h
 ·exact fin h
 ·rename_i j want hg
  split at h
  ·rename_i t _
   cases t<;>cases want
   ·exact fin (h.1 rfl)
   ·have:=h.2 rfl;cases this
   ·have:=h.2 rfl;cases this
   ·exact fin (h.1 rfl)
  ·cases h
  ·exact h.elim
theorem relG_noL {o:AOper} {e:Ent} {d:Nat} (h:relG P W o env σ e) (hn:noL env d) (hd:d∉o.slots):∀q,e≠.lptr d q:=fun q he=>by
 subst he
 obtain⟨t,ht,h1|⟨q',h1⟩⟩:=relG_lptr h
 ·exact hd (h1▸ht)
 ·exact hn t q' h1
theorem newBox_eq {env:Env} {d:Nat} (h:noL env d) (cs:List AVal):env.newBox d cs=env.set (some d) (.box cs):=by
 funext t
 rw[Env.set_some]
 unfold Env.newBox
 by_cases ht:t=d
 ·subst ht;simp
 ·have:(t==d)=false:=by simpa using ht
  rw[this,if_neg ht]
  cases he:env t with
  |val a=>rfl
  |box c=>rfl
  |lptr s q=>
   show(bif s==d then Ent.val .top else .lptr s q)=.lptr s q
   have:(s==d)=false:=by
    cases hq:s==d with
    |false=>rfl
    |true=>exact absurd he (by rw[eq_of_beq hq];exact h t q)
   rw[this];rfl
def NoB (l:List (Nat × AOper)) (env:Env):Prop:=∀p∈l,p.1=3→∀d,p.2.dst=some d→noL env d
theorem stOk_congr {o:AOp} (h:∀x∈o.opds,evalOpd env' x=evalOpd env x):stOk W env' o↔stOk W env o:=by
 cases o<;>simp only[stOk]
 rename_i n x v
 rw[h x (by simp[AOp.opds])]
theorem stBox_congr {o:AOp} (h:∀x∈o.opds,evalOpd env' x=evalOpd env x):stBox env' o↔stBox env o:=by
 cases o<;>simp only[stBox]
 rename_i n x v
 rw[h x (by simp[AOp.opds])]
theorem ldBox_congr {o:AOp} (h:∀x∈o.opds,evalOpd env' x=evalOpd env x):ldBox env' o↔ldBox env o:=by
 cases o<;>simp only[ldBox]
 rename_i agg n x
 rw[h x (by simp[AOp.opds])]
abbrev BxOk (x y:Nat × AOper):Prop:=y.1=3→∀d,y.2.dst=some d→d∉x.2.slots∧x.2.dst≠some d
theorem NoB.tail {x:Nat × AOper} {l:List (Nat × AOper)} (h:NoB (x::l) env):NoB l env:=fun p hp=>h p (List.mem_cons_of_mem _ hp)
theorem NoB.quiet {o:AOper} {e:Ent} {l:List (Nat × AOper)} {κ:Nat} (h:NoB l env) (hr:relG P W o env σ e) (hb:∀y∈l,BxOk (κ,o) y):NoB l (env.set o.dst e):=
 fun p hp h3 d hd=>noL_set (h p hp h3 d hd) (relG_noL hr (h p hp h3 d hd) (hb p hp h3 d hd).1)
theorem NoB.box {l:List (Nat × AOper)} (h:NoB l env) (d:Nat) (cs:List AVal):NoB l (env.set (some d) (.box cs)):=
 fun p hp h3 d' hd'=>noL_set (h p hp h3 d' hd') (fun q he=>by cases he)
theorem NoB.tf {o:AOp} {d:Option Nat} {l:List (Nat × AOper)} (h:NoB l env) (tf:TF W o d env σ env' σ'):NoB l env':=
 fun p hp h3 d' hd' t q he=>h p hp h3 d' hd' t q (tf.lp t d' q he)
theorem boxesOk_pw:∀{l:List (Nat × AOper)},boxesOk l=true→l.Pairwise BxOk
 | [],_=>.nil
 |x::r,h=>by
  unfold boxesOk at h
  simp only[Bool.and_eq_true]at h
  refine List.pairwise_cons.2 ⟨fun y hy h3 d hd=> ?_,boxesOk_pw h.2⟩
  have:=List.all_eq_true.1 h.1 y hy
  simpa[h3,hd]using this
theorem vcR_of_vcD:∀(l:List (Nat × AOper)) (k:Env→Store→Prop) (env:Env) (σ:Store),(∀p∈l,kindOk p=true)→l.Pairwise BxOk→NoB l env→vcD P W l k env σ→vcR P W l k env σ
 | [],k,env,σ,_,_,_,h=>h
 |(κ,o)::os,k,env,σ,ht,hb,hn,h=>by
  obtain⟨hb1,hb2⟩:=List.pairwise_cons.1 hb
  have ih:=fun env σ hn=>vcR_of_vcD os k env σ (fun p hp=>ht p (List.mem_cons_of_mem _ hp)) hb2 hn
  have hk0:=ht (κ,o) (by simp)
  simp only[kindOk,Bool.or_eq_true,Bool.and_eq_true,beq_iff_eq]at hk0
  have hn':NoB os env:=fun p hp h3 d hd=>hn p (List.mem_cons_of_mem _ hp) h3 d hd
  have turn:o.op.mayTurn=true→vcOper P o (vcD P W os k) env σ→vcOper P o (vcR P W os k) env σ:=fun hm h=>
   oper_frame (W:=W) o hm (d1:=none) (e1:=.val .top) (.inl id) (fun x hx=>by cases hx) (.inl rfl) (fun env' σ' tf h=>ih env' σ' (fun p hp h3 d hd t q he=>hn' p hp h3 d hd t q (tf.lp t d q he)) h) h
  have quiet:∀{W'},o.op.kind≤1→vcOperD P W' o (vcD P W os k) env σ→∃e,relG P W' o env σ e∧vcR P W os k (env.set o.dst e) σ:=fun hm h=>by
   obtain⟨e,h1,h2⟩:=relG_of_vcOperD hm h
   exact⟨e,h1,ih _ _ (hn'.quiet (κ:=κ) h1 hb1) h2⟩
  simp only[vcD]at h
  simp only[vcR]
  by_cases h2:κ=2
  ·subst h2
   rw[if_pos rfl]at h⊢
   exact⟨h.1,turn (by simpa using hk0) h.2⟩
  rw[if_neg h2]at h⊢
  by_cases h3:κ=3
  ·subst h3
   rw[if_pos rfl]at h⊢
   have hbx:(o.op.isBox=true∧o.guard.isNone=true)∧o.dst.isSome=true:=by simpa using hk0
   obtain⟨⟨hbx,hg⟩,hds⟩:=hbx
   obtain⟨d,hd⟩:=Option.isSome_iff_exists.1 hds
   have hnd:=hn (3,o) (by simp) rfl d hd
   have hNoB:∀cs,NoB os (env.set (some d) (.box cs)):=fun cs p hp h3 d' hd'=>noL_set (hn' p hp h3 d' hd') (fun q he=>by cases he)
   unfold vcOper at h
   rw[Option.isNone_iff_eq_none.1 hg]at h
   dsimp only at h
   cases ho:o.op<;>rw[ho]at hbx h<;>first|(cases hbx;done)|skip
   ·rename_i cs
    simp only[vcOp,hd]at h
    rw[newBox_eq hnd]at h
    exact⟨d,cs,hd,rfl,ih _ _ (hNoB _) h⟩
   ·rename_i x
    simp only[vcOp,hd]at h
    split at h
    ·rename_i d' a hd' ha
     cases hd'
     obtain⟨h1,h4⟩:=h
     rw[newBox_eq hnd]at h4
     exact⟨d,_,hd,⟨a,ha,h1,rfl⟩,ih _ _ (hNoB _) h4⟩
    ·exact h.elim
  rw[if_neg h3]at h⊢
  by_cases h4:κ=4
  ·subst h4
   rw[if_pos rfl]at h⊢
   have hst:(o.op.isStore=true∧o.guard.isNone=true)∧o.dst.isNone=true:=by simpa using hk0
   exact⟨h.1,h.2.1,turn (by cases ho:o.op<;>rw[ho]at hst<;>simp[AOp.isStore]at hst<;>rfl) h.2.2⟩
  rw[if_neg h4]at h⊢
  by_cases h5:κ=5
  ·subst h5
   rw[if_pos rfl]at h⊢
   have hld:o.op.isLoad=true:=by simpa using hk0
   exact⟨h.1,quiet (by cases ho:o.op<;>rw[ho]at hld<;>first|(cases hld;done)|exact Nat.le_refl _) h.2⟩
  rw[if_neg h5]at h⊢
  by_cases h6:κ=6
  ·subst h6
   rw[if_pos rfl]at h⊢
   have hld:o.op.isLoad=true:=by simpa using hk0
   exact⟨h.1,quiet (by cases ho:o.op<;>rw[ho]at hld<;>first|(cases hld;done)|exact Nat.le_refl _) h.2⟩
  rw[if_neg h6]at h⊢
  refine quiet ?_ h
  simp[h2,h3,h4,h5,h6]at hk0
  omega
theorem kind_store {o:AOper} (h:(o.op.isStore=true∧o.guard.isNone=true)∧o.dst.isNone=true):o.op.mayTurn=true:=by
 cases ho:o.op<;>rw[ho]at h<;>simp[AOp.isStore]at h<;>rfl
def Wk (κ:Nat) (W:List Nat):List Nat:=if κ=6 then cutW W else W
theorem cutW_sub {W:List Nat} {x:Nat} (h:x∈cutW W):x∈W:=by
 induction W with
 |nil=>cases h
 |cons y r ih=>
  have h:x∈(bif Nat.beq y 888888 then []else y::cutW r):=h
  cases hb:Nat.beq y 888888 with
  |true=>rw[hb]at h;cases h
  |false=>
   rw[hb]at h
   rcases List.mem_cons.1 h with rfl|h
   ·simp
   ·exact List.mem_cons_of_mem _ (ih h)
theorem mem_Wk {κ:Nat} {W:List Nat} {x:Nat} (h:x∈cutW W):x∈Wk κ W:=by
 unfold Wk;split
 ·exact h
 ·exact cutW_sub h
theorem Wk_ne {κ:Nat} {W:List Nat} (h:κ≠6):Wk κ W=W:=if_neg h
theorem qk_cases {κ:Nat}:qk κ=true↔κ=0∨κ=1∨κ=5∨κ=6:=by
 simp[qk,or_assoc]
theorem vcR_quiet {κ:Nat} {o:AOper} {os:List (Nat × AOper)} {k:Env→Store→Prop} (h:qk κ=true):
  vcR P W ((κ,o)::os) k env σ↔∃e,(κ=5∨κ=6→ldBoxG env o)∧relG P (Wk κ W) o env σ e∧vcR P W os k (env.set o.dst e) σ:=by
 have hq:=qk_cases.1 h
 simp only[vcR]
 rw[if_neg (by omega),if_neg (by omega),if_neg (by omega)]
 by_cases h5:κ=5
 ·rw[if_pos h5,Wk_ne (by omega)]
  exact⟨fun⟨g,e,h1,h2⟩=>⟨e,fun _=>g,h1,h2⟩,fun⟨e,g,h1,h2⟩=>⟨g (.inl h5),e,h1,h2⟩⟩
 rw[if_neg h5]
 by_cases h6:κ=6
 ·rw[if_pos h6,Wk,if_pos h6]
  exact⟨fun⟨g,e,h1,h2⟩=>⟨e,fun _=>g,h1,h2⟩,fun⟨e,g,h1,h2⟩=>⟨g (.inr h6),e,h1,h2⟩⟩
 ·rw[if_neg h6,Wk_ne h6]
  exact⟨fun⟨e,h1,h2⟩=>⟨e,fun h=>by omega,h1,h2⟩,fun⟨e,_,h1,h2⟩=>⟨e,h1,h2⟩⟩
theorem vcR_turn {κ:Nat} {o:AOper} {os:List (Nat × AOper)} {k:Env→Store→Prop} (h:κ=2∨κ=4):
  vcR P W ((κ,o)::os) k env σ↔stOk W env o.op∧(κ=4→stBox env o.op)∧vcOper P o (vcR P W os k) env σ:=by
 simp only[vcR]
 rcases h with rfl|rfl
 ·rw[if_pos rfl]
  exact⟨fun⟨a,b⟩=>⟨a,fun h=>(by cases h),b⟩,fun⟨a,_,b⟩=>⟨a,b⟩⟩
 ·rw[if_neg (by omega),if_neg (by omega),if_pos rfl]
  exact⟨fun⟨a,b,c⟩=>⟨a,fun _=>b,c⟩,fun⟨a,b,c⟩=>⟨a,b rfl,c⟩⟩
theorem vcR_box {o:AOper} {os:List (Nat × AOper)} {k:Env→Store→Prop}:
  vcR P W ((3,o)::os) k env σ↔∃d cs,o.dst=some d∧boxOf env o.op cs∧vcR P W os k (env.set (some d) (.box cs)) σ:=by
 simp only[vcR]
 rw[if_neg (by omega),if_pos trivial]
theorem kindOk_cases {κ:Nat} {o:AOper} (h:kindOk (κ,o)=true):(qk κ=true∧o.op.kind≤1∧(κ=0→o.op.kind=0)∧(κ=5∨κ=6→o.op.isLoad=true))∨((κ=2∨κ=4)∧o.op.mayTurn=true∧(κ=4→o.op.isStore=true∧o.dst=none))∨(κ=3∧o.op.isBox=true∧o.guard=none∧∃d,o.dst=some d):=by
 simp only[kindOk,Bool.or_eq_true,Bool.and_eq_true,beq_iff_eq]at h
 rcases h with((((((h|h)|h)|h)|h)|h)|h)
 ·exact .inl ⟨by rw[h.1];rfl,by omega,fun _=>h.2,fun h5=>(by omega)⟩
 ·exact .inl ⟨by rw[h.1];rfl,by omega,fun h0=>(by omega),fun h5=>(by omega)⟩
 ·exact .inr (.inl ⟨.inl h.1,h.2,fun h4=>(by omega)⟩)
 ·exact .inr (.inr ⟨h.1.1.1,h.1.1.2,Option.isNone_iff_eq_none.1 h.1.2,Option.isSome_iff_exists.1 h.2⟩)
 ·exact .inr (.inl ⟨.inr h.1.1.1,kind_store ⟨⟨h.1.1.2,h.1.2⟩,h.2⟩,fun _=>⟨h.1.1.2,Option.isNone_iff_eq_none.1 h.2⟩⟩)
 ·have hk:o.op.kind≤1:=by
   cases ho:o.op<;>rw[ho]at h<;>first|(simp[AOp.isLoad]at h;done)|exact Nat.le_refl _
  exact .inl ⟨by rw[h.1];rfl,hk,fun h0=>(by omega),fun _=>h.2⟩
 ·have hk:o.op.kind≤1:=by
   cases ho:o.op<;>rw[ho]at h<;>first|(simp[AOp.isLoad]at h;done)|exact Nat.le_refl _
  exact .inl ⟨by rw[h.1];rfl,hk,fun h0=>(by omega),fun _=>h.2⟩
theorem vcR_cons {κ:Nat} {o:AOper} {l l':List (Nat × AOper)} {k:Env→Store→Prop} (ht:kindOk (κ,o)=true) (hb:∀y∈l,BxOk (κ,o) y) (hn:NoB l env)
  (h:∀env σ,NoB l env→vcR P W l k env σ→vcR P W l' k env σ) (hv:vcR P W ((κ,o)::l) k env σ):vcR P W ((κ,o)::l') k env σ:=by
 rcases kindOk_cases ht with⟨hq,_⟩|⟨hq,hm,_⟩|⟨rfl,_⟩
 ·rw[vcR_quiet hq]at hv⊢
  obtain⟨e,h1,h2,h3⟩:=hv
  exact⟨e,h1,h2,h _ _ (hn.quiet (κ:=κ) h2 hb) h3⟩
 ·rw[vcR_turn hq]at hv⊢
  exact⟨hv.1,hv.2.1,oper_frame (W:=W) o hm (d1:=none) (e1:=.val .top) (.inl id) (fun x hx=>by cases hx) (.inl rfl) (fun env' σ' tf hk=>h _ _ (hn.tf tf) hk) hv.2.2⟩
 ·rw[vcR_box]at hv⊢
  obtain⟨d,cs,h1,h2,h3⟩:=hv
  exact⟨d,cs,h1,h2,h _ _ (hn.box d cs) h3⟩
def isOn (env:Env) (o:AOper):Prop:=match o.guard with
 |none=>True
 |some (j,want)=>env j=.val (.bool want)
theorem slots_same {o:AOper} (h:∀x∈o.slots,evalOpd env' (.tmp x)=evalOpd env (.tmp x)):∀x∈o.op.opds,evalOpd env' x=evalOpd env x:=by
 intro x hx
 cases x with
 |const a=>rfl
 |tmp t=>
  refine h t ?_
  unfold AOper.slots
  exact List.mem_append_right _ (List.mem_filterMap.2 ⟨.tmp t,hx,rfl⟩)
theorem slot_bool {j:Nat} {t:Bool} (h:evalOpd env' (.tmp j)=evalOpd env (.tmp j)) (hj:env j=.val (.bool t)):env' j=.val (.bool t):=by
 simp only[evalOpd,hj]at h
 cases hq:env' j with
 |val v=>rw[hq]at h;exact h
 |box c=>rw[hq]at h;cases h
 |lptr s q=>rw[hq]at h;cases h
theorem slot_undone {j:Nat} (h:evalOpd env' (.tmp j)=evalOpd env (.tmp j)) (hj:env j=.val (.tuple [])):env' j=.val (.tuple []):=by
 simp only[evalOpd,hj]at h
 cases hq:env' j with
 |val v=>rw[hq]at h;exact h
 |box c=>rw[hq]at h;cases h
 |lptr s q=>rw[hq]at h;cases h
theorem relG_move {o:AOper} {e:Ent} (hs:∀x∈o.slots,evalOpd env' (.tmp x)=evalOpd env (.tmp x)) (h:isOn env o→rel P W o.op env σ e→rel P W o.op env' σ' e) (hr:relG P W o env σ e):relG P W o env' σ' e:=by
 unfold relG at hr⊢
 unfold isOn at h
 cases hg:o.guard with
 |none=>rw[hg]at hr h;exact h trivial hr
 |some p=>
  obtain⟨j,want⟩:=p
  rw[hg]at hr h
  simp only[]at hr h⊢
  split at hr
  case h_3=>exact hr.elim
  case h_2=>
   rename_i hej
   have hej':=slot_undone (hs j (slots_guard hg)) hej
   simp only[hej']
   exact hr
  rename_i t hej
  have hej':=slot_bool (hs j (slots_guard hg)) hej
  simp only[hej']
  exact⟨fun ht=>h (by rw[hej,ht]) (hr.1 ht),hr.2⟩
theorem ldBoxG_move {o:AOper} (hs:∀x∈o.slots,evalOpd env' (.tmp x)=evalOpd env (.tmp x)) (h:ldBoxG env o):ldBoxG env' o:=by
 unfold ldBoxG at h⊢
 cases hg:o.guard with
 |none=>rw[hg]at h;exact(ldBox_congr (slots_same hs)).2 h
 |some p=>
  obtain⟨j,want⟩:=p
  rw[hg]at h
  simp only[]at h⊢
  exact fun hj=>(ldBox_congr (slots_same hs)).2 (h (slot_bool (hs j (slots_guard hg)).symm hj))
theorem ldBox_on {o:AOper} (h:ldBoxG env o) (hon:isOn env o):ldBox env o.op:=by
 unfold ldBoxG at h
 unfold isOn at hon
 cases hg:o.guard with
 |none=>rw[hg]at h;exact h
 |some p=>rw[hg]at h hon;exact h hon
theorem boxOf_move {o:AOp} {cs:List AVal} (h:∀x∈o.opds,evalOpd env' x=evalOpd env x) (hb:boxOf env o cs):boxOf env' o cs:=by
 cases o<;>simp only[boxOf]at hb⊢
 ·exact hb
 ·obtain⟨a,h1,h2,h3⟩:=hb
  exact⟨a,by rw[h _ (by simp[AOp.opds])];exact h1,h2,h3⟩
theorem acall_beside {f:FuncId} {av:List AVal} {c:AVal} {b:Nat} {cs:List AVal} (h:ACall P f av σ fun a σ'=>a=c∧σ'=σ) (hf:σ.fresh b):
  ACall P f av (σ.setObj b cs) fun a σ'=>a=c∧σ'=σ.setObj b cs:=by
 have hne:∀x,x≠b→(σ.setObj b cs).obj x=σ.obj x:=fun x hx=>by
  have:(x==b)=false:=by simpa using hx
  simp[Store.setObj,this]
 have heq:(σ.setObj b cs).obj b=some cs:=by simp[Store.setObj]
 have hsub:σ.Sub (σ.setObj b cs):=⟨fun x y hy=>by
  rw[hne x (by rintro rfl;rw[hf.1]at hy;cases hy)];exact hy,fun _ _ h=>h,fun _ _ h=>h⟩
 intro I w vs m hs hr
 refine(h I w vs (m.sub hsub) hs hr).mono fun e w' ⟨v,a,I',σ',he,hr',m',ev,hq⟩=> ?_
 obtain⟨rfl,rfl⟩:=hq
 obtain⟨os,T,k1,k2,k3,k4,k5⟩:=m.obj b cs heq
 have hlt:=lt_of_heap k1
 obtain⟨q1,q2,q3,q4⟩:=ev.keep b hlt hf
 refine⟨v,a,I',σ'.setObj b cs,he,hr',⟨m'.cell,m'.cap,fun x as hx=> ?_,fun x n sz t hx=> ?_,fun x mo hx=> ?_⟩,⟨ev.le,ev.size,ev.os,ev.tape,ev.output,fun x hx hfx=> ?_⟩,rfl,rfl⟩
 ·by_cases hxb:x=b
  ·subst hxb
   rw[heq]at hx
   cases hx
   exact⟨os,T,by rw[q1];exact k1,k2,fun j=>(k3 j).mono ev.le,fun o=>by rw[q3];exact k4 o,by rw[q4];exact k5⟩
  ·rw[hne x hxb]at hx
   exact m'.obj x as hx
 ·obtain⟨g1,g2⟩:=m'.opn x n sz t hx
  refine⟨?_,g2⟩
  rw[hne x (by rintro rfl;have:=hf.2.1;rw[show(σ'.setObj x cs).opn x=σ'.opn x from rfl]at hx;rw[this]at hx;cases hx)]
  exact g1
 ·obtain⟨g1,g2⟩:=m'.mp x mo hx
  refine⟨?_,g2⟩
  rw[hne x (by rintro rfl;have:=hf.2.2;rw[show(σ'.setObj x cs).mp x=σ'.mp x from rfl]at hx;rw[this]at hx;cases hx)]
  exact g1
 ·have hxb:x≠b:=by
   rintro rfl
   have h1:=hfx.1
   rw[heq]at h1;cases h1
  have hfx':σ'.fresh x:=⟨by rw[←hne x hxb];exact hfx.1,hfx.2.1,hfx.2.2⟩
  obtain⟨p1,p2,p3,p4⟩:=ev.keep x hx hfx'
  exact⟨p1,⟨by rw[hne x hxb];exact p2.1,p2.2.1,p2.2.2⟩,p3,p4⟩
theorem rel_obj {o:AOp} {e:Ent} {b:Nat} {cs:List AVal} (hf:σ.fresh b) (hk:o.kind≤1) (hs:∀x∈o.opds,evalOpd env' x=evalOpd env x) (hb:∀s,W.contains s=false→env' s=env s)
  (hr:rel P W o env σ e):rel P W o env' (σ.setObj b cs) e:=by
 have h1:rel P W o env' σ e:=rel_local o e hs (.inr ⟨rfl,hb⟩) hr
 have hne:∀x y,σ.obj x=some y→(σ.setObj b cs).obj x=some y:=fun x y hy=>by
  have:(x==b)=false:=by
   cases hq:x==b with
   |false=>rfl
   |true=>rw[eq_of_beq hq,hf.1]at hy;cases hy
  simp[Store.setObj,this,hy]
 cases o
 case load agg n x=>
  simp only[rel]at h1⊢
  generalize evalOpd env' x=ex at h1⊢
  split at h1
  ·obtain⟨ds,g1,g2,g3⟩:=h1;exact⟨ds,hne _ _ g1,g2,g3⟩
  ·exact h1
  ·exact h1
  ·exact h1.elim
 case call f av=>
  simp only[rel]at h1⊢
  generalize vals (av.map (evalOpd env'))=q at h1⊢
  split at h1
  ·obtain⟨c,g1,g2⟩:=h1;exact⟨c,acall_beside g1 hf,g2⟩
  ·exact h1.elim
 case callv f av=>
  simp only[rel]at h1⊢
  generalize vals (av.map (evalOpd env'))=q at h1⊢
  generalize evalOpd env' f=ef at h1⊢
  split at h1
  ·obtain⟨g0,c,g1,g2⟩:=h1;exact⟨g0,c,acall_beside g1 hf,g2⟩
  ·exact h1.elim
 case inv tbl x av=>
  simp only[rel]at h1⊢
  generalize vals (av.map (evalOpd env'))=q at h1⊢
  generalize evalOpd env' x=ex at h1⊢
  split at h1
  ·obtain⟨f,g0,c,g1,g2⟩:=h1;exact⟨f,g0,c,acall_beside g1 hf,g2⟩
  ·exact h1.elim
 case mget=>exact h1
 case mlen=>exact h1
 all_goals first
  |exact rel_local _ e (fun _ _=>rfl) (.inl rfl) h1
  |(simp[AOp.kind]at hk;done)
  |exact h1
theorem vcR_swap {κ1 κ2:Nat} {o1 o2:AOper} {l:List (Nat × AOper)} {k:Env→Store→Prop} (hf:AOper.free κ1 o1 κ2 o2=true) (ht1:kindOk (κ1,o1)=true) (ht2:kindOk (κ2,o2)=true)
  (hC1:∀x,o1.dst=some x→x∈cutW W) (hC2:∀x,o2.dst=some x→x∈cutW W) (hn:NoB ((κ1,o1)::(κ2,o2)::l) env) (hv:vcR P W ((κ1,o1)::(κ2,o2)::l) k env σ):vcR P W ((κ2,o2)::(κ1,o1)::l) k env σ:=by
 unfold AOper.free at hf
 simp only[Bool.and_eq_true]at hf
 obtain⟨⟨hk,hd1⟩,hd2⟩:=hf
 have n1:∀x,o1.dst=some x→x∉o2.slots∧o2.dst≠some x:=by
  intro x hx
  rw[hx]at hd1
  simpa using hd1
 have n2:∀x,o2.dst=some x→x∉o1.slots:=by
  intro x hx
  rw[hx]at hd2
  simpa using hd2
 have hne:o1.dst=none∨o1.dst≠o2.dst:=by
  cases h:o1.dst with
  |none=>exact .inl rfl
  |some x=>exact .inr fun h2=>(n1 x h).2 h2.symm
 have sl2:∀e1,∀x∈o2.slots,evalOpd (env.set o1.dst e1) (.tmp x)=evalOpd env (.tmp x):=fun e1 x hx=>evalOpd_set env o1.dst e1 (.tmp x) fun t ht h=>by cases ht;exact(n1 x h).1 hx
 have sl1:∀e2,∀x∈o1.slots,evalOpd (env.set o2.dst e2) (.tmp x)=evalOpd env (.tmp x):=fun e2 x hx=>evalOpd_set env o2.dst e2 (.tmp x) fun t ht h=>by cases ht;exact n2 x h hx
 have sl1':∀{env'},Same env env' o2.dst→∀x∈o1.slots,evalOpd env' (.tmp x)=evalOpd env (.tmp x):=fun hs x hx=>hs x fun h=>n2 x h.symm hx
 have hW1:∀κ x,o1.dst=some x→x∈Wk κ W:=fun κ x h=>mem_Wk (hC1 x h)
 have hW2:∀κ x,o2.dst=some x→x∈Wk κ W:=fun κ x h=>mem_Wk (hC2 x h)
 have inW:∀{x:Nat} {W:List Nat},x∈W→W.contains x=true:=fun h=>by simpa using h
 have locW:∀{env' σ'},TF W o2.op o2.dst env σ env' σ'→stOk W env o2.op→∀s,W.contains s=false→env' s=env s:=fun tf hst s hs=>tf.loc hst s (fun h=>by
  have:=inW (cutW_sub (hC2 s h.symm));rw[hs]at this;cases this) hs
 rcases kindOk_cases ht1 with⟨q1,hk1,h10,h15⟩|⟨q1,_⟩|⟨rfl,hbx,hg1,d,hd⟩
 ·rw[vcR_quiet q1]at hv
  obtain⟨e1,l1,g1,hv⟩:=hv
  rcases kindOk_cases ht2 with⟨q2,_⟩|⟨q2,hm2,h24⟩|⟨rfl,_⟩
  ·
   rw[vcR_quiet q2]at hv
   obtain⟨e2,l2,g2,hv⟩:=hv
   rw[vcR_quiet q2]
   refine⟨e2,fun h=>ldBoxG_move (fun x hx=>(sl2 e1 x hx).symm) (l2 h),relG_local o2 e2 (fun x hx=>(n1 x hx).1) (hW1 _) g2,?_⟩
   rw[vcR_quiet q1]
   refine⟨e1,fun h=>ldBoxG_move (sl1 e2) (l1 h),relG_local' o1 e1 n2 (hW2 _) g1,?_⟩
   rw[Env.set_comm env e1 e2 hne]at hv
   exact hv
  ·
   rw[vcR_turn q2]at hv⊢
   obtain⟨s1,s2,hv⟩:=hv
   have hops2:=slots_same (sl2 e1)
   have s1':=(stOk_congr hops2).1 s1
   have s2':=fun h=>(stBox_congr hops2).1 (s2 h)
   by_cases h6:κ1=6
   ·
    have h2:κ2=2∧o2.op.isStore=false:=by
     rcases q2 with rfl|rfl<;>simp[qk,h6]at hk
     exact⟨rfl,hk⟩
    refine⟨s1',s2',oper_frame (W:=cutW W) o2 hm2 (.inl (relG_noBox g1)) (fun x hx=>(n1 x hx).1) hne (fun env' σ' tf hk'=> ?_) hv⟩
    rw[vcR_quiet q1]
    have hsl:=sl1' tf.same
    refine⟨e1,fun h=>ldBoxG_move hsl (l1 h),relG_move hsl (fun hon hr=> ?_) g1,hk'⟩
    have hops:=slots_same hsl
    have hst:stOk (cutW W) env o2.op:=by
     have:=h2.2
     cases ho:o2.op<;>first|trivial|(rw[ho]at this;cases this)
    have hld:=ldBox_on (l1 (.inr h6)) hon
    cases ho:o1.op<;>rw[ho]at hld<;>first|(exact hld.elim)|skip
    rename_i agg n x
    rw[ho]at hr hops
    obtain⟨s,q,hx⟩:=hld
    have hx':=hops x (by simp[AOp.opds])
    simp only[Wk,if_pos h6]at hr⊢
    simp only[rel,hx',hx]at hr⊢
    obtain⟨g1,g2⟩:=hr
    refine⟨g1,?_⟩
    rw[tf.loc hst s (fun h=>by have:=inW (hC2 s h.symm);rw[g1]at this;cases this) g1]
    exact g2
   rw[Wk_ne h6]at g1
   refine⟨s1',s2',oper_frame (W:=W) o2 hm2 (.inl (relG_noBox g1)) (fun x hx=>(n1 x hx).1) hne (fun env' σ' tf hk'=> ?_) hv⟩
   rw[vcR_quiet q1,Wk_ne h6]
   have hsl:=sl1' tf.same
   refine⟨e1,fun h=>ldBoxG_move hsl (l1 h),relG_move hsl (fun hon hr=> ?_) g1,hk'⟩
   have hops:=slots_same hsl
   by_cases h0:o1.op.kind=0
   ·exact rel_local o1.op e1 hops (.inl h0) hr
   have hκ0:κ1≠0:=fun h=>h0 (h10 h)
   by_cases h4:κ2=4
   ·exact rel_local o1.op e1 hops (.inr ⟨tf.bst (s2' h4),locW tf s1'⟩) hr
   have h2:κ2=2:=by omega
   subst h2
   by_cases h5:κ1=5
   ·have hld:=ldBox_on (l1 (.inl h5)) hon
    cases ho:o1.op<;>rw[ho]at hld<;>first|(exact hld.elim)|skip
    rename_i agg n x
    rw[ho]at hr hops
    obtain⟨s,q,hx⟩:=hld
    have hx':=hops x (by simp[AOp.opds])
    simp only[rel,hx',hx]at hr⊢
    obtain⟨g1,g2⟩:=hr
    refine⟨g1,?_⟩
    rw[locW tf s1' s g1]
    exact g2
   have h1:κ1=1:=by have:=qk_cases.1 q1;omega
   subst h1
   have hk':(o1.op.isLoad=true∧o2.op.isAppend=true)∨o2.op.isObj=true:=by
    simpa[qk,AOp.isStore]using hk
   rcases hk' with⟨kl,ka⟩|ko
   ·have ha1:=tf.app ka
    cases hq:o1.op with
    |load agg n x=>
     rw[hq]at hr hops
     have h1:=hops x (by simp[AOp.opds])
     simp only[rel,h1,ha1]at hr⊢
     generalize evalOpd env x=ex at hr⊢
     cases ex with
     |box c=>exact hr
     |val v=>cases v<;>exact hr
     |lptr s off=>
      simp only[]at hr⊢
      obtain⟨q1,q2⟩:=hr
      refine⟨q1,?_⟩
      rw[locW tf s1' s q1]
      exact q2
    |_=>rw[hq]at kl;cases kl
   ·rcases tf.obj ko with hσ|⟨b,cs,hfb,hσ⟩
    ·exact rel_local o1.op e1 hops (.inr ⟨hσ,locW tf s1'⟩) hr
    ·rw[hσ]
     exact rel_obj hfb hk1 hops (locW tf s1') hr
  ·rw[vcR_box]at hv⊢
   obtain⟨d2,cs,hd2,hbo,hv⟩:=hv
   refine⟨d2,cs,hd2,boxOf_move (fun x hx=>(slots_same (sl2 e1) x hx).symm) hbo,?_⟩
   rw[vcR_quiet q1]
   rw[←hd2]
   refine⟨e1,fun h=>ldBoxG_move (sl1 _) (l1 h),relG_local' o1 e1 n2 (hW2 _) g1,?_⟩
   rw[←hd2,Env.set_comm env e1 _ hne]at hv
   exact hv
 ·exfalso
  rcases q1 with rfl|rfl<;>simp[qk]at hk
 ·
  rw[vcR_box]at hv
  obtain⟨d',cs,hd',hbo,hv⟩:=hv
  rw[hd]at hd'
  cases hd'
  rcases kindOk_cases ht2 with⟨q2,_⟩|⟨q2,hm2,h24⟩|⟨rfl,_⟩
  ·rw[vcR_quiet q2]at hv
   obtain⟨e2,l2,g2,hv⟩:=hv
   rw[vcR_quiet q2]
   rw[←hd]at hv l2 g2
   refine⟨e2,fun h=>ldBoxG_move (fun x hx=>(sl2 _ x hx).symm) (l2 h),relG_local o2 e2 (fun x hx=>(n1 x hx).1) (hW1 _) g2,?_⟩
   rw[vcR_box]
   refine⟨d,cs,hd,boxOf_move (slots_same (sl1 e2)) hbo,?_⟩
   rw[Env.set_comm env _ e2 hne,hd]at hv
   exact hv
  ·rw[vcR_turn q2]at hv⊢
   rw[←hd]at hv
   obtain⟨s1,s2,hv⟩:=hv
   have hops2:=slots_same (sl2 (.box cs))
   refine⟨(stOk_congr hops2).1 s1,fun h=>(stBox_congr hops2).1 (s2 h),oper_frame (W:=W) o2 hm2 (.inr ⟨d,hd,hn (3,o1) (by simp) rfl d hd⟩) (fun x hx=>(n1 x hx).1) hne (fun env' σ' tf hk'=> ?_) hv⟩
   rw[vcR_box]
   exact⟨d,cs,hd,boxOf_move (slots_same (sl1' tf.same)) hbo,by rw[←hd];exact hk'⟩
  ·rw[vcR_box]at hv
   obtain⟨d2,cs2,hd2',hbo2,hv⟩:=hv
   rw[vcR_box]
   rw[←hd]at hbo2 hv
   refine⟨d2,cs2,hd2',boxOf_move (fun x hx=>(slots_same (sl2 _) x hx).symm) hbo2,?_⟩
   rw[vcR_box]
   refine⟨d,cs,hd,boxOf_move (by rw[←hd2'];exact slots_same (sl1 _)) hbo,?_⟩
   rw[Env.set_comm env _ _ (by rw[←hd2'];exact hne),hd]at hv
   exact hv
theorem vcR_front {x:Nat × AOper} {r:List (Nat × AOper)} {k:Env→Store→Prop}:∀(l:List (Nat × AOper)) {env:Env} {σ:Store},(∀y∈l,AOper.free y.1 y.2 x.1 x.2=true)→
  (∀y∈x::l,kindOk y=true∧(∀d,y.2.dst=some d→d∈cutW W))→(l++x::r).Pairwise BxOk→NoB (l++x::r) env→vcR P W (l++x::r) k env σ→vcR P W (x::(l++r)) k env σ
 | [],env,σ,_,_,_,_,h=>h
 |y::l,env,σ,hf,hp,hb,hn,h=>by
  have hy:=hp y (by simp)
  have hx:=hp x (by simp)
  obtain⟨hb1,hb2⟩:=List.pairwise_cons.1 hb
  have h1:vcR P W (y::x::(l++r)) k env σ:=
   vcR_cons hy.1 hb1 hn.tail (fun env σ hn' h=>vcR_front l (fun z hz=>hf z (List.mem_cons_of_mem _ hz)) (fun z hz=>hp z (by rcases List.mem_cons.1 hz with rfl|hz<;>simp[*])) hb2 hn' h) h
  refine vcR_swap (hf y (by simp)) hy.1 hx.1 hy.2 hx.2 (fun p hp' h3 d hd=>hn p ?_ h3 d hd) h1
  rcases List.mem_cons.1 hp' with rfl|hp'
  ·simp
  rcases List.mem_cons.1 hp' with rfl|hp'
  ·simp
  ·rcases List.mem_append.1 hp' with hq|hq<;>simp[hq]
theorem rel_vcOp {o:AOp} {d:Option Nat} {e:Ent} {k:Env→Store→Prop} (hr:rel P W o env σ e) (hk:k (env.set d e) σ):vcOp P o d (Dim k) env σ:=by
 have dim:∀{env:Env} {σ:Store},k env σ→Dim k env σ:=fun h=>⟨_,_,fun s=>.inr (.inl rfl),.refl _,h⟩
 by_cases hp:o.isPure=true
 ·rw[vcOp_pure P o d _ env σ hp]
  have:pureV env o=some e:=by cases o<;>first|exact hr|exact absurd hp (by simp[AOp.isPure])
  rw[this]
  exact dim hk
 cases o<;>first|exact absurd rfl hp|skip
 case pick c a b=>
  simp only[rel]at hr
  simp only[vcOp]
  split at hr
  ·rename_i t _
   subst hr
   cases t
   ·exact⟨fun h=>(by cases h),fun _=>dim hk⟩
   ·exact⟨fun _=>dim hk,fun h=>(by cases h)⟩
  ·exact hr.elim
 case bslice own sz et n z ps=>
  simp only[rel]at hr
  simp only[vcOp]
  split at hr
  ·obtain⟨rfl,rfl⟩:=hr
   simp only[Bool.false_eq_true,if_false]
   exact dim hk
  ·exact hr.elim
 case load agg n x=>
  simp only[rel]at hr
  simp only[vcOp]
  generalize evalOpd env x=ex at hr⊢
  split at hr
  ·obtain⟨cs,h1,h2,rfl⟩:=hr;exact⟨cs,h1,h2,dim hk⟩
  ·obtain⟨h2,rfl⟩:=hr;exact⟨h2,dim hk⟩
  ·obtain⟨_,hr⟩:=hr
   split at hr
   ·rename_i cs hcs
    obtain⟨h2,rfl⟩:=hr
    exact⟨h2,dim hk⟩
   ·exact hr.elim
  ·exact hr.elim
 case bytesStr x=>
  simp only[rel]at hr
  simp only[vcOp]
  split at hr
  ·obtain⟨l,h1,rfl⟩:=hr;exact⟨l,h1,dim hk⟩
  ·exact hr.elim
 case strBytes q x=>
  simp only[rel]at hr
  simp only[vcOp]
  split at hr
  ·obtain⟨h1,rfl⟩:=hr;exact⟨h1,dim hk⟩
  ·exact hr.elim
 case cut sz x lo hi=>
  simp only[rel]at hr
  simp only[vcOp]
  generalize evalOpd env x=ex at hr⊢
  split at hr
  ·exact⟨hr.1,bound_mono (fun n h=>⟨h.1,bound_mono (fun m h=>⟨h.1,by rw[h.2]at hk;exact dim hk⟩) h.2⟩) hr.2⟩
  ·exact bound_mono (fun n h=>⟨h.1,bound_mono (fun m h=>⟨h.1,by rw[h.2]at hk;exact dim hk⟩) h.2⟩) hr
  ·exact hr.elim
 case cut3 sz x lo hi mx=>
  simp only[rel]at hr
  simp only[vcOp]
  split at hr
  ·exact⟨hr.1,bound_mono (fun n h=>⟨h.1,bound_mono (fun m h=>⟨h.1,bound_mono (fun q h=>⟨h.1,by rw[h.2]at hk;exact dim hk⟩) h.2⟩) h.2⟩) hr.2⟩
  ·exact hr.elim
 case cutStr x lo hi=>
  simp only[rel]at hr
  simp only[vcOp]
  split at hr
  ·exact bound_mono (fun n h=>⟨h.1,bound_mono (fun m h=>⟨h.1,by rw[h.2]at hk;exact dim hk⟩) h.2⟩) hr
  ·exact hr.elim
 case iaddr sz x i=>
  simp only[rel]at hr
  simp only[vcOp]
  generalize evalOpd env x=ex at hr⊢
  split at hr
  ·split at hr
   ·obtain⟨h1,a,h2,h3,rfl⟩:=hr;exact⟨h1,a,h2,h3,dim hk⟩
   ·obtain⟨h1,h2,rfl⟩:=hr;exact⟨h1,h2,dim hk⟩
   ·exact hr.elim
  ·exact hr.elim
 case istr x i=>
  simp only[rel]at hr
  simp only[vcOp]
  split at hr
  ·obtain⟨h1,a,h2,rfl⟩:=hr;exact⟨h1,a,h2,dim hk⟩
  ·exact hr.elim
 case call f as=>
  simp only[rel]at hr
  simp only[vcOp]
  split at hr
  ·obtain⟨c,h1,rfl⟩:=hr
   exact h1.mono fun a σ' h=>by obtain⟨rfl,rfl⟩:=h;exact dim hk
  ·exact hr.elim
 case callv f as=>
  simp only[rel]at hr
  simp only[vcOp]
  split at hr
  ·obtain⟨h0,c,h1,rfl⟩:=hr
   exact⟨h0,h1.mono fun a σ' h=>by obtain⟨rfl,rfl⟩:=h;exact dim hk⟩
  ·exact hr.elim
 case inv tbl x as=>
  simp only[rel]at hr
  simp only[vcOp]
  split at hr
  ·obtain⟨f,h0,c,h1,rfl⟩:=hr
   exact⟨f,h0,h1.mono fun a σ' h=>by obtain⟨rfl,rfl⟩:=h;exact dim hk⟩
  ·exact hr.elim
 case mget kk z ok x i=>
  simp only[rel]at hr
  simp only[vcOp]
  split at hr
  ·obtain⟨h1,rfl⟩:=hr;exact⟨h1,dim hk⟩
  ·obtain⟨es,h1,h2,rfl⟩:=hr;exact⟨es,h1,h2,dim hk⟩
  ·exact hr.elim
 case mlen x=>
  simp only[rel]at hr
  simp only[vcOp]
  split at hr
  ·subst hr;exact dim hk
  ·obtain⟨es,h1,rfl⟩:=hr;exact⟨es,h1,dim hk⟩
  ·exact hr.elim
 all_goals exact hr.elim
theorem relG_vcOper {o:AOper} {e:Ent} {k:Env→Store→Prop} (hr:relG P W o env σ e) (hk:k (env.set o.dst e) σ):vcOper P o (Dim k) env σ:=by
 unfold relG at hr
 unfold vcOper
 split at hr
 ·exact rel_vcOp hr hk
 ·rename_i j want hg
  split at hr
  case h_3=>exact hr.elim
  case h_2=>
   rw[hr]at hk
   exact⟨_,_,fun s=>.inr (.inl rfl),.refl _,hk⟩
  rename_i t hej
  refine⟨fun h=> ?_,fun h=> ?_⟩
  ·rw[←h,set_lit _ hej]
   exact rel_vcOp (hr.1 h) hk
  ·rw[←h,set_lit _ hej]
   have:=hr.2 h
   rw[this]at hk
   exact⟨_,_,fun s=>.inr (.inl rfl),.refl _,hk⟩
end
section
variable {P:Program}
theorem maskOf_bit {acc:List Nat} {j:Nat}:∀(l:List Edge) (s:Nat),(l.foldl (fun s e=>if Region.binds .any e then s|||2^e.on|||acc.getD e.on 0 else s) s).testBit j=true→
  s.testBit j=true∨∃e∈l,Region.binds .any e=true∧(e.on=j∨(acc.getD e.on 0).testBit j=true)
 | [],s,h=>.inl h
 |e::r,s,h=>by
  rw[List.foldl_cons]at h
  rcases maskOf_bit r _ h with h1|⟨e',h1,h2⟩
  ·split at h1
   ·rename_i hb
    simp only[Nat.testBit_or,Bool.or_eq_true]at h1
    rcases h1 with(h1|h1)|h1
    ·exact .inl h1
    ·rw[Nat.testBit_two_pow]at h1
     exact .inr ⟨e,by simp,hb,.inl (by simpa using h1)⟩
    ·exact .inr ⟨e,by simp,hb,.inr h1⟩
   ·exact .inl h1
  ·exact .inr ⟨e',List.mem_cons_of_mem _ h1,h2⟩
theorem masks_good (ops:List Oper) (L:Nat→Prop) (hcl:∀x o,ops[x]? =some o→L x→∀e∈o.after.toList,Region.binds .any e=true→L e.on):
  ∀(r pre:List Oper) (acc:List Nat),ops=pre++r→acc.length=pre.length→
   (∀i j o,i<acc.length→ops[i]? =some o→(∀e∈o.after.toList,Region.binds .any e=true→L e.on)→(acc.getD i 0).testBit j=true→L j)→
   ∀i j o,ops[i]? =some o→(∀e∈o.after.toList,Region.binds .any e=true→L e.on)→((masks r acc).getD i 0).testBit j=true→L j
 | [],pre,acc,ho,hl,hg,i,j,o,hi,he,hb=>by
  have hlt:i<acc.length:=by
   rw[hl]
   have:=(List.getElem?_eq_some_iff.1 hi).1
   rw[ho]at this
   simpa using this
  exact hg i j o hlt hi he hb
 |q::r,pre,acc,ho,hl,hg,i,j,o,hi,he,hb=>by
  simp only[masks]at hb
  refine masks_good ops L hcl r (pre++[q]) (acc++[maskOf acc q]) (by simp[ho]) (by simp[hl]) (fun i j o hlt hi he hb=> ?_) i j o hi he hb
  by_cases h:i<acc.length
  ·rw[List.getD_eq_getElem?_getD,List.getElem?_append_left h,←List.getD_eq_getElem?_getD]at hb
   exact hg i j o h hi he hb
  ·have hie:i=acc.length:=by simp at hlt;omega
   subst hie
   have hq:q=o:=by
    rw[ho,hl,List.getElem?_append_right (Nat.le_refl _)]at hi
    simpa using hi
   subst hq
   rw[List.getD_eq_getElem?_getD,List.getElem?_append_right (Nat.le_refl _)]at hb
   simp only[Nat.sub_self,List.getElem?_cons_zero,Option.getD_some]at hb
   rcases maskOf_bit _ _ hb with h1|⟨e,h1,h2,h3⟩
   ·simp at h1
   ·rcases h3 with rfl|h3
    ·exact he e h1 h2
    ·have hlt':e.on<acc.length:=by
      rcases Nat.lt_or_ge e.on acc.length with h|h
      ·exact h
      ·rw[List.getD_eq_getElem?_getD,List.getElem?_eq_none h]at h3;simp at h3
     have hex:∃o',ops[e.on]? =some o':=by
      have:e.on<ops.length:=by rw[ho];simp;omega
      exact⟨_,List.getElem?_eq_getElem this⟩
     obtain⟨o',ho'⟩:=hex
     exact hg e.on j o' hlt' ho' (hcl e.on o' ho' (he e h1 h2)) h3
theorem backEdges_spec:∀(l:List Oper) (k:Nat),backEdges k l=true→∀i o,l[i]? =some o→∀e∈o.after.toList,Region.binds .any e=true→e.on<k+i
 | [],k,_,i,o,hi=>by simp at hi
 |q::r,k,h,i,o,hi=>by
  simp only[backEdges,Bool.and_eq_true]at h
  cases i with
  |zero=>
   simp only[List.getElem?_cons_zero,Option.some.injEq]at hi
   subst hi
   intro e he hb
   have:=List.all_eq_true.1 h.1 e he
   simpa[hb]using this
  |succ i=>
   simp only[List.getElem?_cons_succ]at hi
   intro e he hb
   have:=backEdges_spec r (k+1) h.2 i o hi e he hb
   omega
structure DInv (P:Program) (esc:List Nat) (n:Nat) (ops:Array Oper) (W:List Nat) (m:List Nat) (listed:Array Bool) (R:List (Nat × Nat × AOper)):Prop where
 size:listed.size=ops.size
 left:∀i,i<ops.size→(listed.getD i true=false↔∃x∈R,x.1=i)
 closed:∀(x:Nat) (o:Oper),ops[x]? =some o→listed.getD x false=true→∀e∈o.after.toList,Region.binds .any e=true→listed.getD e.on false=true
 pairs:R.Pairwise fun y x=>(m.getD x.1 0).testBit y.1=true∨AOper.free y.2.1 y.2.2 x.2.1 x.2.2=true
 nodup:(R.map (·.1)).Nodup
 each:∀x∈R,∃o,ops[x.1]? =some o∧ofOper P esc n ops o=some x.2.2
 kinds:∀x∈R,kindOk x.2=true∧(∀d,x.2.2.dst=some d→d∈cutW W)
 boxes:R.Pairwise fun x y=>BxOk x.2 y.2
theorem getD_bool {a:Array Bool} {i:Nat} (h:i<a.size) (d d':Bool):a.getD i d=a.getD i d':=by
 simp[Array.getD,h]
variable {E:Entry} {k:Env→Store→Prop} {Q:Exit→Act→World→Prop}
theorem drawn_sound {esc:List Nat} {ops:Array Oper} {W:List Nat} (hQ:∀a w,Up E k a w→Q .normal a w) (hback:backEdges 0 ops.toList=true):
  ∀(fuel:Nat) (listed:Array Bool) (R:List (Nat × Nat × AOper)) (a:Act) (w:World),DInv P esc E.n ops W (masks ops.toList []) listed R→R.length≤fuel→
   Up E (fun env σ=>NoB (R.map (·.2)) env∧vcR P W (R.map (·.2)) k env σ) a w→wpAny P .any ops Q fuel listed a w:=by
 have noReady:∀(listed:Array Bool) (R:List (Nat × Nat × AOper)),DInv P esc E.n ops W (masks ops.toList []) listed R→Region.ready .any ops listed=[]→R=[]:=by
  intro listed R inv hr
  cases R with
  |nil=>rfl
  |cons x0 r0=>
   exfalso
   have hex:∃i,∃x∈(x0::r0),x.1=i:=⟨x0.1,x0,by simp,rfl⟩
   have least:∀N i,i≤N→(∃x∈(x0::r0),x.1=i)→∃i,(∃x∈(x0::r0),x.1=i)∧∀j,j<i→¬∃x∈(x0::r0),x.1=j:=by
    intro N
    induction N with
    |zero=>intro i hi h;exact⟨i,h,fun j hj=>by omega⟩
    |succ N ih=>
     intro i hi h
     by_cases hlow:∃j,j<i∧∃x∈(x0::r0),x.1=j
     ·obtain⟨j,hj,h'⟩:=hlow;exact ih j (by omega) h'
     ·exact⟨i,h,fun j hj h'=>hlow ⟨j,hj,h'⟩⟩
   obtain⟨i,hi,hmin⟩:=least x0.1 x0.1 (Nat.le_refl _) ⟨x0,by simp,rfl⟩
   obtain⟨x,hx,rfl⟩:=hi
   obtain⟨o,ho,_⟩:=inv.each x hx
   have hlt:x.1<ops.size:=(Array.getElem?_eq_some_iff.1 ho).1
   have hmem:x.1∈Region.ready .any ops listed:=by
    unfold Region.ready
    refine List.mem_filter.2 ⟨List.mem_range.2 hlt,?_⟩
    have h1:listed.getD x.1 true=false:=(inv.left x.1 hlt).2 ⟨x,hx,rfl⟩
    simp only[h1,Bool.not_false,Bool.true_and,ho,Option.map_some,Option.getD_some]
    rw[←Array.all_toList]
    refine List.all_eq_true.2 fun e he=> ?_
    cases hb:Region.binds .any e with
    |false=>rfl
    |true=>
     simp only[Bool.not_true,Bool.false_or]
     have hon:=backEdges_spec ops.toList 0 hback x.1 o (by simpa using ho) e he hb
     have hon':e.on<x.1:=by omega
     have hs:e.on<ops.size:=by omega
     have:=inv.left e.on hs
     cases hq:listed.getD e.on true with
     |false=>exact absurd (this.1 hq) (hmin e.on hon')
     |true=>rw[getD_bool (by rw[inv.size];exact hs) false true];exact hq
   rw[hr]at hmem
   cases hmem
 intro fuel
 induction fuel with
 |zero=>
  intro listed R a w inv hl h
  have:R=[]:=List.eq_nil_of_length_eq_zero (by omega)
  subst this
  refine⟨?_,hQ a w (h.mono fun _ _ h=>h.2)⟩
  unfold Region.ready
  refine List.filter_eq_nil_iff.2 fun i hi=> ?_
  have hlt:=List.mem_range.1 hi
  cases hq:listed.getD i true with
  |true=>simp
  |false=>
   obtain⟨x,hx,_⟩:=(inv.left i hlt).1 hq
   cases hx
 |succ fuel ih=>
  intro listed R a w inv hl h
  refine⟨fun hr=> ?_,fun i hi=> ?_⟩
  ·have:=noReady listed R inv hr
   subst this
   exact hQ a w (h.mono fun _ _ h=>h.2)
  ·unfold Region.ready at hi
   obtain⟨hi1,hi2⟩:=List.mem_filter.1 hi
   have hlt:=List.mem_range.1 hi1
   simp only[Bool.and_eq_true,Bool.not_eq_true']at hi2
   obtain⟨hil,hie⟩:=hi2
   obtain⟨x,hx,rfl⟩:=(inv.left i hlt).1 hil
   obtain⟨o,ho,hao⟩:=inv.each x hx
   have hedges:∀e∈o.after.toList,Region.binds .any e=true→listed.getD e.on false=true:=by
    intro e he hb
    rw[ho]at hie
    simp only[Option.map_some,Option.getD_some]at hie
    rw[←Array.all_toList]at hie
    have:=List.all_eq_true.1 hie e he
    simpa[hb]using this
   obtain⟨R1,R2,hR⟩:=List.append_of_mem hx
   subst hR
   have hnd:=inv.nodup
   rw[List.map_append,List.map_cons]at hnd
   have hnot:∀y∈R1++R2,y.1≠x.1:=by
    intro y hy he
    rw[List.nodup_append]at hnd
    obtain⟨_,n2,n3⟩:=hnd
    rcases List.mem_append.1 hy with hy|hy
    ·exact n3 y.1 (List.mem_map_of_mem hy) x.1 (by simp) he
    ·rw[List.nodup_cons]at n2
     exact n2.1 (he▸List.mem_map_of_mem hy)
   have hfree:∀y∈R1.map (·.2),AOper.free y.1 y.2 x.2.1 x.2.2=true:=by
    intro y hy
    obtain⟨z,hz,rfl⟩:=List.mem_map.1 hy
    have hp:=(List.pairwise_append.1 inv.pairs).2.2 z hz x (by simp)
    rcases hp with hp|hp
    ·exfalso
     have hL:=masks_good ops.toList (fun j=>listed.getD j false=true) (fun q o' ho' hq=>inv.closed q o' (by simpa using ho') hq) ops.toList [] [] rfl rfl (fun i j o hlt=>by simp at hlt) x.1 z.1 o (by simpa using ho) hedges hp
     obtain⟨oz,hoz,_⟩:=inv.each z (by simp[hz])
     have hzl:z.1<ops.size:=(Array.getElem?_eq_some_iff.1 hoz).1
     have:listed.getD z.1 true=false:=(inv.left z.1 hzl).2 ⟨z,by simp[hz],rfl⟩
     rw[getD_bool (by rw[inv.size];exact hzl) true false]at this
     rw[this]at hL
     cases hL
    ·exact hp
   have hbx:(R1.map (·.2)++x.2::R2.map (·.2)).Pairwise BxOk:=by
    have:=List.pairwise_map.2 inv.boxes
    rwa [List.map_append,List.map_cons]at this
   have hfront:Up E (fun env σ=>NoB (x.2::(R1++R2).map (·.2)) env∧vcR P W (x.2::(R1++R2).map (·.2)) k env σ) a w:=h.mono fun env σ ⟨hn,hv⟩=>by
    rw[List.map_append,List.map_cons]at hv hn
    have:=vcR_front (W:=W) (x:=x.2) (r:=R2.map (·.2)) (R1.map (·.2)) hfree (fun y hy=>by
     rcases List.mem_cons.1 hy with rfl|hy
     ·exact inv.kinds x (by simp)
     ·obtain⟨z,hz,rfl⟩:=List.mem_map.1 hy
      exact inv.kinds z (by simp[hz])) hbx hn hv
    rw[List.map_append]
    refine⟨fun p hp=>hn p ?_,this⟩
    rcases List.mem_cons.1 hp with rfl|hp
    ·simp
    ·rcases List.mem_append.1 hp with hp|hp<;>simp[hp]
   have hbx2:∀y∈(R1++R2).map (·.2),BxOk x.2 y:=by
    intro y hy
    rw[List.map_append]at hy
    rcases List.mem_append.1 hy with hy|hy
    ·intro h3 d hd
     have hf:=hfree y hy
     unfold AOper.free at hf
     simp only[Bool.and_eq_true]at hf
     have:=hf.1.2
     rw[hd]at this
     simpa using this
    ·exact(List.pairwise_cons.1 (List.pairwise_append.1 hbx).2.1).1 y hy
   have inv':DInv P esc E.n ops W (masks ops.toList []) (listed.setIfInBounds x.1 true) (R1++R2):=by
    refine⟨by simp[inv.size],fun j hj=> ?_,fun q o' ho' hq e he hb=> ?_,?_,?_,fun y hy=>inv.each y ?_,fun y hy=>inv.kinds y ?_,?_⟩
    ·by_cases hjx:j=x.1
     ·subst hjx
      have h1:(listed.setIfInBounds x.1 true).getD x.1 true=true:=by
       rw[Array.getD_eq_getD_getElem?,Array.getElem?_setIfInBounds];simp[inv.size,hlt]
      rw[h1]
      refine⟨fun h=>(by cases h),fun⟨y,hy,hye⟩=>absurd hye (hnot y hy)⟩
     ·rw[getD_set_ne true (fun h=>hjx h.symm),inv.left j hj]
      refine⟨fun⟨y,hy,hye⟩=>⟨y,?_,hye⟩,fun⟨y,hy,hye⟩=>⟨y,?_,hye⟩⟩
      ·rcases List.mem_append.1 hy with hy|hy
       ·exact List.mem_append_left _ hy
       ·rcases List.mem_cons.1 hy with rfl|hy
        ·exact absurd hye.symm hjx
        ·exact List.mem_append_right _ hy
      ·rcases List.mem_append.1 hy with hy|hy
       ·exact List.mem_append_left _ hy
       ·exact List.mem_append_right _ (List.mem_cons_of_mem _ hy)
    ·by_cases hqx:q=x.1
     ·subst hqx
      rw[ho]at ho'
      cases ho'
      exact getD_set_true (hedges e he hb)
     ·rw[getD_set_ne false (fun h=>hqx h.symm)]at hq
      exact getD_set_true (inv.closed q o' ho' hq e he hb)
    ·have:=inv.pairs
     rw[List.pairwise_append]at this⊢
     obtain⟨p1,p2,p3⟩:=this
     exact⟨p1,(List.pairwise_cons.1 p2).2,fun y hy z hz=>p3 y hy z (List.mem_cons_of_mem _ hz)⟩
    ·rw[List.map_append]
     rw[List.nodup_append]at hnd⊢
     obtain⟨n1,n2,n3⟩:=hnd
     exact⟨n1,(List.nodup_cons.1 n2).2,fun y hy z hz=>n3 y hy z (List.mem_cons_of_mem _ hz)⟩
    ·rcases List.mem_append.1 hy with hy|hy<;>simp[hy]
    ·rcases List.mem_append.1 hy with hy|hy<;>simp[hy]
    ·have:=inv.boxes
     rw[List.pairwise_append]at this⊢
     obtain⟨p1,p2,p3⟩:=this
     exact⟨p1,(List.pairwise_cons.1 p2).2,fun y hy z hz=>p3 y hy z (List.mem_cons_of_mem _ hz)⟩
   have hlen:(R1++R2).length≤fuel:=by simp at hl⊢;omega
   have next:∀a w,Up E (fun env σ=>NoB ((R1++R2).map (·.2)) env∧vcR P W ((R1++R2).map (·.2)) k env σ) a w→wpAny P .any ops Q fuel (listed.setIfInBounds x.1 true) a w:=fun a w h=>ih _ _ a w inv' hlen h
   obtain⟨I,σ,env,bx,st,hn,hv⟩:=hfront
   have hkx:=(inv.kinds x (by simp)).1
   obtain⟨xi,κ,ao⟩:=x
   unfold wpOp
   simp only[ho]
   have hcont:∀a w,Up E (Dim fun env σ=>NoB ((R1++R2).map (·.2)) env∧vcR P W ((R1++R2).map (·.2)) k env σ) a w→wpAny P .any ops Q fuel (listed.setIfInBounds xi true) a w:=fun a w h=>next a w (Up.dim h)
   have dim:∀{K:Env→Store→Prop} env σ,K env σ→Dim K env σ:=fun env σ h=>⟨_,_,fun s=>.inr (.inl rfl),.refl _,h⟩
   have hstep:vcOper P ao (Dim fun env σ=>NoB ((R1++R2).map (·.2)) env∧vcR P W ((R1++R2).map (·.2)) k env σ) env σ:=by
    rcases kindOk_cases hkx with⟨hq,_⟩|⟨hq,hm,_⟩|⟨rfl,hbx',hg,d,hd⟩
    ·rw[vcR_quiet hq]at hv
     obtain⟨e,_,h1,h2⟩:=hv
     exact relG_vcOper h1 (k:=fun env σ=>NoB ((R1++R2).map (·.2)) env∧vcR P W ((R1++R2).map (·.2)) k env σ) ⟨hn.tail.quiet (κ:=κ) h1 hbx2,h2⟩
    ·rw[vcR_turn hq]at hv
     exact oper_frame (W:=W) ao hm (d1:=none) (e1:=.val .top) (.inl id) (fun x hx=>by cases hx) (.inl rfl) (fun env' σ' tf hk=>dim _ _ ⟨hn.tail.tf tf,hk⟩) hv.2.2
    ·rw[vcR_box]at hv
     obtain⟨d',cs,hd',hbo,hv⟩:=hv
     rw[hd]at hd'
     cases hd'
     have hnd:=hn (3,ao) (by simp) rfl d hd
     have fin:=dim (K:=fun env σ=>NoB ((R1++R2).map (·.2)) env∧vcR P W ((R1++R2).map (·.2)) k env σ) _ _ ⟨hn.tail.box d cs,hv⟩
     rw[←newBox_eq hnd]at fin
     unfold vcOper
     rw[hg]
     dsimp only
     cases hop:ao.op<;>rw[hop]at hbx' hbo<;>first|(cases hbx';done)|skip
     ·simp only[boxOf]at hbo
      subst hbo
      simp only[vcOp,hd]
      exact fin
     ·simp only[boxOf]at hbo
      obtain⟨v,h1,h2,rfl⟩:=hbo
      simp only[vcOp,hd,h1]
      exact⟨h2,fin⟩
   have:=oper_sound (Q:=Q) st hao hstep
   split at this
   ·rename_i hw
    rw[if_pos hw]
    exact .inl (Oper.wp_mono hcont this)
   ·rename_i hw
    rw[if_neg hw]
    exact hcont _ _ this
end
end Go.AL
