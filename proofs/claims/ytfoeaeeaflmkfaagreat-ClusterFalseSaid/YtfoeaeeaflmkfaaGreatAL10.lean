/-
  AN ABSTRACT LOGIC OVER THE MODEL, part 10: a function's code; a function.
-/
import Derived.Test.YtfoeaeeaflmkfaaGreatAL9
namespace Go.AL
open Go.RowKit
section
variable {P:Program} {E:Entry} {I:Sealed} {σ:Store} {env:Env} {bx:Nat→Nat} {a:Act} {w:World} {o:Oper}
variable {k:Env→Store→Prop} {Q:Exit→Act→World→Prop}
def UpX (E:Entry) (K:Ex→Env→Store→Prop):Exit→Act→World→Prop
 |.normal,a,w=>Up E (K .normal) a w
 |.exit id,a,w=>Up E (K (.exit id)) a w
 |.ret,a,w=>Up E (K .ret) a w
 |_,_,_=>False
theorem wp_loop_ix {c:Code} {Q:Exit→Act→World→Prop} (Inv:Nat→Act→World→Prop) {n:Nat} (h₀:Inv n a w)
  (round:∀n a w,Inv n a w→c.wp P (Exit.then (fun a' w'=>∃m,m<n∧Inv m a' w') Q) a w):(Code.loop c).wp P Q a w:=by
 intro b k cs
 have key:∀n a w,Inv n a w→∃e a' w',Q e a' w'∧Arrives P (lone (b.at a (.code c::.inLoop c::k)) cs w) b k cs e a' w':=by
  intro n
  induction n using Nat.strongRecOn with
  |_ n ih=>
   intro a w hI
   obtain⟨e,a₁,w₁,hq,harr⟩:=round n a w hI b (.inLoop c::k) cs
   cases e with
   |normal=>
    obtain⟨m,hlt,hI₁⟩:=hq
    obtain⟨e₂,a₂,w₂,hq₂,harr₂⟩:=ih m hlt a₁ w₁ hI₁
    exact⟨e₂,a₂,w₂,hq₂,.of_steps (Steps.trans harr (.one step_inLoop)) harr₂⟩
   |exit id=>exact⟨_,a₁,w₁,hq,.pass (x:=.inLoop c) rfl (fun _ _=>.inl (by simp)) harr⟩
   |goto l=>exact⟨_,a₁,w₁,hq,.pass (x:=.inLoop c) rfl (fun _ _=>.inl (by simp)) harr⟩
   |ret=>exact⟨_,a₁,w₁,hq,.pass (x:=.inLoop c) rfl (fun _ _=>.inl (by simp)) harr⟩
   |panic ch=>exact⟨_,a₁,w₁,hq,.pass (x:=.inLoop c) rfl (fun _ _=>.inl (by simp)) harr⟩
   |outgrown=>exact⟨_,a₁,w₁,hq,.pass (x:=.inLoop c) rfl (fun _ _=>.inl (by simp)) harr⟩
 obtain⟨e,a',w',hq,harr⟩:=key n a w h₀
 exact⟨e,a',w',hq,.of_steps (.one step_loop) harr⟩
theorem wp_cond_up {c:Operand} {c':Opd} {x y:Code} {Q:Exit→Act→World→Prop} (hc:ofOpd c=some c') {A B:Env→Store→Prop}
  (h:Up E (fun env σ=>match evalOpd env c' with
   |.val (.bool t)=>(t=true→A env σ)∧(t=false→B env σ)
   |_=>False) a w) (hx:∀a w,Up E A a w→x.wp P Q a w) (hy:∀a w,Up E B a w→y.wp P Q a w):(Code.cond c x y).wp P Q a w:=by
 obtain⟨I,σ,env,bx,st,h⟩:=h
 have hv:=st.opd hc
 generalize evalOpd env c'=e at hv h
 split at h
 case h_2=>exact h.elim
 rename_i t
 have he:=RepC.bool_inv hv
 cases t with
 |true=>exact wp_cond_true he (hx _ _ ⟨I,σ,env,bx,st,h.1 rfl⟩)
 |false=>exact wp_cond_false he (hy _ _ ⟨I,σ,env,bx,st,h.2 rfl⟩)
theorem UpX.then_ {K:Ex→Env→Store→Prop} {next:Env→Store→Prop} {nx:Act→World→Prop} (h:∀a w,Up E next a w→nx a w) (e:Exit) (a:Act) (w:World) (u:UpX E (Ex.then next K) e a w):
  Exit.then nx (UpX E K) e a w:=by
 cases e with
 |normal=>exact h a w u
 |exit id=>exact u
 |ret=>exact u
 |goto l=>exact u.elim
 |panic c=>exact u.elim
 |outgrown=>exact u.elim
theorem killAll_le (B:List Nat) (env:Env):env.Le (env.killAll B):=fun s=>by
 unfold Env.killAll
 cases env s with
 |val a=>exact .inr (.inl rfl)
 |box c=>exact .inr (.inl rfl)
 |lptr s' o=>
  dsimp only
  cases B.contains s' with
  |true=>exact .inl rfl
  |false=>exact .inr (.inl rfl)
theorem forget_le (l:List (Nat × AOper)) (env:Env):env.Le (env.forget l):=by
 unfold Env.forget
 split
 ·exact fun s=>.inr (.inl rfl)
 ·exact killAll_le _ _
theorem killAll_no {B:List Nat} {env:Env} {d:Nat} (hd:d∈B):noL (env.killAll B) d:=fun t q ht=>by
 unfold Env.killAll at ht
 cases he:env t with
 |val a=>rw[he]at ht;cases ht
 |box c=>rw[he]at ht;cases ht
 |lptr s o=>
  rw[he]at ht
  dsimp only at ht
  cases hc:B.contains s with
  |true=>rw[hc]at ht;cases ht
  |false=>
   rw[hc]at ht
   cases ht
   have:B.contains d=true:=by simpa using hd
   rw[this]at hc;cases hc
theorem forget_noB (l:List (Nat × AOper)) (env:Env):NoB l (env.forget l):=by
 intro p hp h3 d hd
 have hmem:d∈newBoxes l:=List.mem_filterMap.2 ⟨p,hp,by rw[if_pos h3];exact hd⟩
 unfold Env.forget
 generalize newBoxes l=B at hmem
 cases B with
 |nil=>cases hmem
 |cons x r=>exact killAll_no hmem
theorem drawn_region {esc:List Nat} {ops:Array Oper} {id:Nat} {l:List AOper} {W:List Nat} {l':List (Nat × AOper)} (hm:P.follows .mixedOrders=true) (hl:ofOpers P esc E.n ops ops.toList=some l) (hd:drawnOf esc ops.toList l=some (W,l'))
  {Q:Exit→Act→World→Prop} {k:Env→Store→Prop} (hQ:∀a w,Up E k a w→Q .normal a w) (h:Up E (fun env σ=>vcD P W l' k (env.forget l') σ) a w):(Code.region id ops true).wp P Q a w:=by
 unfold drawnOf at hd
 simp only[]at hd
 split at hd
 case isFalse=>cases hd
 rename_i hc
 obtain⟨c0,c1,c2,c3,c4,c5,c6,c7⟩:=hc
 simp only[Option.some.injEq,Prod.mk.injEq]at hd
 generalize hall:(canon (masks ops.toList []) ((List.range l.length).map (kindIn esc (masks ops.toList []) l)) l.length 0 (List.range l.length)).filterMap (fun i=>match l[i]? with
  |some o=>some (i,((List.range l.length).map (kindIn esc (masks ops.toList []) l)).getD i 0,o)
  |none=>none)=all at*
 obtain⟨hW,rfl⟩:=hd
 rw[hW]at c7
 have hlen:∀(xs:List Oper) (ys:List AOper),ofOpers P esc E.n ops xs=some ys→ys.length=xs.length∧∀(i:Nat) (y:AOper),ys[i]? =some y→∃o,xs[i]? =some o∧ofOper P esc E.n ops o=some y:=by
  intro xs
  induction xs with
  |nil=>intro ys h;simp only[ofOpers,Option.some.injEq]at h;subst h;exact⟨rfl,fun i y h=>by simp at h⟩
  |cons x r ih=>
   intro ys h
   simp only[ofOpers]at h
   split at h
   ·rename_i y ys' hy hys
    simp only[Option.some.injEq]at h
    subst h
    obtain⟨h1,h2⟩:=ih ys' hys
    refine⟨by simp[h1],fun i z hz=> ?_⟩
    cases i with
    |zero=>simp only[List.getElem?_cons_zero,Option.some.injEq]at hz;subst hz;exact⟨x,rfl,hy⟩
    |succ i=>exact h2 i z hz
   ·cases h
 obtain⟨hl1,hl2⟩:=hlen ops.toList l hl
 have hn:l.length=ops.size:=by simpa using hl1
 have hmem:∀x∈all,l[x.1]? =some x.2.2:=by
  intro x hx
  rw[←hall]at hx
  obtain⟨i,_,hi⟩:=List.mem_filterMap.1 hx
  split at hi
  ·simp only[Option.some.injEq]at hi;subst hi;assumption
  ·cases hi
 have hpairs:∀(r:List (Nat × Nat × AOper)),pairsOk (masks ops.toList []) r=true→r.Pairwise fun y x=>((masks ops.toList []).getD x.1 0).testBit y.1=true∨AOper.free y.2.1 y.2.2 x.2.1 x.2.2=true:=by
  intro r
  induction r with
  |nil=>intro _;exact .nil
  |cons y r ih=>
   intro h
   obtain⟨j,kj,oj⟩:=y
   simp only[pairsOk,Bool.and_eq_true]at h
   refine List.pairwise_cons.2 ⟨fun x hx=> ?_,ih h.2⟩
   have:=List.all_eq_true.1 h.1 x hx
   simpa using this
 have inv:DInv P esc E.n ops W (masks ops.toList []) (Array.replicate ops.size false) all:=by
  refine⟨by simp,fun i hi=> ?_,fun x o _ h=> ?_,hpairs all c3,c1,fun x hx=> ?_,fun x hx=>⟨List.all_eq_true.1 c4 x hx,fun d hd=> ?_⟩,List.pairwise_map.1 (boxesOk_pw c6)⟩
  ·have h1:(Array.replicate ops.size false).getD i true=false:=by simp[hi]
   rw[h1]
   have:=List.all_eq_true.1 c2 i (List.mem_range.2 (by omega))
   obtain⟨x,hx,hxi⟩:=List.any_eq_true.1 this
   exact⟨fun _=>⟨x,hx,by simpa using hxi⟩,fun _=>rfl⟩
  ·have:(Array.replicate ops.size false).getD x false=false:=by
    rw[Array.getD_eq_getD_getElem?,Array.getElem?_replicate];split<;>rfl
   rw[this]at h;cases h
  ·obtain⟨o,ho,hao⟩:=hl2 x.1 x.2.2 (hmem x hx)
   exact⟨o,by simpa using ho,hao⟩
  ·have:=List.all_eq_true.1 c7 x hx
   rw[hd]at this
   simpa using this
 refine wp_region_any hm ?_
 refine drawn_sound hQ c5 ops.size _ all a w.drew inv (by omega) ?_
 have h':Up E (fun env σ=>NoB (all.map (·.2)) env∧vcD P W (all.map (·.2)) k env σ) a w:=by
  refine Up.dim (h.mono fun env σ h=>⟨env.forget (all.map (·.2)),σ,forget_le _ _,.refl _,forget_noB _ _,h⟩)
 obtain⟨I,σ,env,bx,st,hn,h⟩:=h'
 refine⟨I,σ,env,bx,st.world Evo.drew st.models.drew,hn,vcR_of_vcD _ _ _ _ (fun p hp=> ?_) (boxesOk_pw c6) hn h⟩
 obtain⟨x,hx,rfl⟩:=List.mem_map.1 hp
 exact List.all_eq_true.1 c4 x hx
theorem code_sound (hm:P.follows .mixedOrders=true) {esc:List Nat}:∀(c:Code) (ac:ACode),ofCode P esc E.n c=some ac→∀(K:Ex→Env→Store→Prop) (a:Act) (w:World),Up E (vc P ac K) a w→c.wp P (UpX E K) a w
 |.skip,ac,hc,K,a,w,h=>by
  simp only[ofCode,Option.some.injEq]at hc;subst hc
  exact wp_skip h
 |.label _,ac,hc,K,a,w,h=>by
  simp only[ofCode,Option.some.injEq]at hc;subst hc
  exact wp_label h
 |.region id ops draw,ac,hc,K,a,w,h=>by
  simp only[ofCode]at hc
  split at hc
  ·rename_i l hl
   cases draw with
   |true=>
    simp only[if_true]at hc
    split at hc
    ·rename_i W l' hd
     simp only[Option.some.injEq]at hc;subst hc
     exact drawn_region hm hl hd (k:=K .normal) (fun a w h=>h) h
    ·cases hc
   |false=>
    simp only[Bool.false_eq_true,if_false,Option.some.injEq]at hc;subst hc
    refine wp_region ?_
    have:=ops_sound (P:=P) (E:=E) (k:=K .normal) (Q:=UpX E K) (esc:=esc) (ops:=ops) (fun a w h=>h) ops.toList 0 l a w rfl hl h
    simpa using this
  ·cases hc
 |.seq x y,ac,hc,K,a,w,h=>by
  simp only[ofCode]at hc
  split at hc
  ·rename_i x' y' hx hy
   simp only[Option.some.injEq]at hc;subst hc
   exact wp_seq (wp_mono (code_sound hm x x' hx _ a w h) (UpX.then_ fun a w h=>code_sound hm y y' hy K a w h))
  ·cases hc
 |.cond c x y,ac,hc,K,a,w,h=>by
  simp only[ofCode]at hc
  split at hc
  ·rename_i c' x' y' hcc hx hy
   simp only[Option.some.injEq]at hc;subst hc
   exact wp_cond_up hcc (A:=vc P x' K) (B:=vc P y' K) (h.mono fun env σ h=>by simp only[vc]at h;exact h) (fun a w h=>code_sound hm x x' hx K a w h) (fun a w h=>code_sound hm y y' hy K a w h)
  ·cases hc
 |.block id x,ac,hc,K,a,w,h=>by
  simp only[ofCode]at hc
  split at hc
  ·rename_i x' hx
   simp only[Option.some.injEq]at hc;subst hc
   refine wp_block (wp_mono (code_sound hm x x' hx _ a w h) fun e a w u=> ?_)
   cases e with
   |exit id'=>
    by_cases hid:id'=id
    ·subst hid
     have:Ex.inBlock id' K (.exit id')=K .normal:=by simp[Ex.inBlock]
     simp only[UpX,this]at u
     simp only[Exit.inBlock,if_true]
     exact u
    ·have hb:(id'==id)=false:=by simpa using hid
     have:Ex.inBlock id K (.exit id')=K (.exit id'):=by simp[Ex.inBlock,hb]
     simp only[UpX,this]at u
     simp only[Exit.inBlock,hid,if_false]
     exact u
   |normal=>exact u
   |ret=>exact u
   |goto l=>exact u.elim
   |panic c=>exact u.elim
   |outgrown=>exact u.elim
  ·cases hc
 |.loop x,ac,hc,K,a,w,h=>by
  simp only[ofCode]at hc
  split at hc
  ·rename_i x' hx
   simp only[Option.some.injEq]at hc;subst hc
   obtain⟨I,σ,env,bx,st,Inv,⟨n,h0⟩,hr⟩:=h
   refine wp_loop_ix (fun n a w=>Up E (Inv n) a w) (n:=n) (Up.dim ⟨I,σ,env,bx,st,h0⟩) fun n a w hI=> ?_
   refine wp_mono (code_sound hm x x' hx (Ex.then (Dim fun env' σ'=>∃m,m<n∧Inv m env' σ') K) a w (hI.mono fun env σ h=>hr n env σ h)) fun e a w u=> ?_
   refine UpX.then_ (fun a w h=> ?_) e a w u
   obtain⟨I,σ,env,bx,st,m,hm,hi⟩:=Up.dim h
   exact⟨m,hm,I,σ,env,bx,st,hi⟩
  ·cases hc
 |.exit id,ac,hc,K,a,w,h=>by
  simp only[ofCode,Option.some.injEq]at hc;subst hc
  exact wp_exit h
 |.ret,ac,hc,K,a,w,h=>by
  simp only[ofCode,Option.some.injEq]at hc;subst hc
  exact wp_ret h
 |.rangeFunc _ _ _ _,ac,hc,K,a,w,h=>by simp[ofCode]at hc
 |.scope _,ac,hc,K,a,w,h=>by simp[ofCode]at hc
 |.goto _,ac,hc,K,a,w,h=>by simp[ofCode]at hc
 |.refuse _,ac,hc,K,a,w,h=>by simp[ofCode]at hc
theorem St.resV (st:St E I σ env bx a w) {r:ResultVar} {ar:ARes} {l:List ResultVar} {al:List ARes} (h:ofRes P (r::l)=some (ar::al)) {k:AVal→Prop} (hk:resV env σ ar k):
  ∃v x,((match r with
   |.tmp t=>pure (a.tmps.getD t undef)
   |.cell q t=>do loadVar t (←asAddr (a.tmps.getD q undef)):Sem Value)).run P w=.ok v w∧RepC I v x∧k x:=by
 cases r with
 |tmp t=>
  simp only[ofRes]at h
  split at h
  case h_2=>cases h
  simp only[Option.some.injEq,List.cons.injEq]at h
  obtain⟨rfl,_⟩:=h
  have hv:=st.opd (x:=.tmp t) (y:=.tmp t) rfl
  simp only[AL.resV]at hk
  generalize evalOpd env (.tmp t)=e at hv hk
  split at hk
  ·exact⟨_,_,rfl,hv,hk⟩
  ·exact hk.elim
 |cell q t=>
  simp only[ofRes]at h
  split at h
  case h_2=>cases h
  rename_i agg n l' hl _
  simp only[Option.some.injEq,List.cons.injEq]at h
  obtain⟨rfl,_⟩:=h
  have hv:=st.opd (x:=.tmp q) (y:=.tmp q) rfl
  have hn:=lay_one hl
  simp only[AL.resV]at hk
  generalize evalOpd env (.tmp q)=e at hv hk
  have hrun:∀(b off:Nat) (f:Nat→Value),a.eval (.tmp q)=.pointer (some ⟨b,off,none⟩)→(∀j,j<n→w.cell? ⟨b,off+j,none⟩=some (f j))→
    (do loadVar t (←asAddr (a.tmps.getD q undef)):Sem Value).run P w=.ok (bif agg then .agg ((List.range n).map f).toArray else f 0) w:=by
   intro b off f hz hc
   have hz':a.tmps.getD q undef=.pointer (some ⟨b,off,none⟩):=hz
   rw[hz']
   simp[asAddr,run_loadVar_lay hl f hc]
  split at hk
  ·rename_i s off
   split at hk
   ·rename_i cs hs
    obtain⟨h2,h3⟩:=hk
    have hb:=st.ents s
    rw[hs]at hb
    obtain⟨_,vs,T,k1,k2,k3,_⟩:=hb
    obtain⟨c1,c2,c3⟩:=cells_known k2 k3 h2
    exact⟨_,_,hrun (bx s) off _ hv (fun j hj=>by rw[cell_of_heap k1];exact c1 j hj),rep_load hn c2 c3,h3⟩
   ·exact hk.elim
  ·rename_i b off
   obtain⟨cs,h1,h2,h3⟩:=hk
   obtain⟨vs,T,k1,k2,k3,_⟩:=st.models.obj b cs h1
   obtain⟨c1,c2,c3⟩:=cells_known k2 k3 h2
   exact⟨_,_,hrun b off _ (RepC.ptr_inv hv) (fun j hj=>by rw[cell_of_heap k1];exact c1 j hj),rep_load hn c2 c3,h3⟩
  ·exact hk.elim
theorem ofRes_cons {r:ResultVar} {l:List ResultVar} {al:List ARes} (h:ofRes P (r::l)=some al):∃ar al',al=ar::al'∧ofRes P l=some al':=by
 cases r with
 |tmp t=>
  simp only[ofRes]at h
  split at h
  ·simp only[Option.some.injEq]at h;exact⟨_,_,h.symm,‹_›⟩
  ·cases h
 |cell q t=>
  simp only[ofRes]at h
  split at h
  ·simp only[Option.some.injEq]at h;exact⟨_,_,h.symm,‹_›⟩
  ·cases h
theorem St.resVs (st:St E I σ env bx a w):∀(l:List ResultVar) (al:List ARes),ofRes P l=some al→∀(k:List AVal→Prop),resVs env σ al k→
  ∃vs as,(l.mapM fun r=>(match r with
   |.tmp t=>pure (a.tmps.getD t undef)
   |.cell q t=>do loadVar t (←asAddr (a.tmps.getD q undef)):Sem Value)).run P w=.ok vs w∧vs.length=as.length∧(∀j,RepC I (vs.getD j undef) (as.getD j .top))∧k as
 | [],al,h,k,hk=>by
  simp only[ofRes,Option.some.injEq]at h;subst h
  exact⟨[],[],by simp,rfl,fun j=>by simpa using RepC.top _,hk⟩
 |r::l,al,h,k,hk=>by
  obtain⟨ar,al',rfl,hl⟩:=ofRes_cons h
  simp only[AL.resVs]at hk
  obtain⟨v,x,h1,h2,h3⟩:=st.resV h hk
  obtain⟨vs,as,g1,g2,g3,g4⟩:=St.resVs st l al' hl _ h3
  refine⟨v::vs,x::as,?_,by simp[g2],fun j=> ?_,g4⟩
  ·rw[List.mapM_cons,Sem.run_bind,h1,Result.andThen_ok,Sem.run_bind,g1]
   rfl
  ·cases j with
   |zero=>exact h2
   |succ j=>simpa using g3 j
theorem acall_of (hm:P.follows .mixedOrders=true) {f:FuncId} {fn:Func} {esc:List Nat} {af:AFun} {as:List AVal} {σ:Store} {Q:AVal→Store→Prop} (hf:P.funcs[f]? =some fn) (ha:ofFunc P esc fn=some af) (hn:as.length≤af.n)
  (h:vc P af.body (retPost af.res Q) (Env.args as) σ):ACall P f as σ Q:=by
 intro I w vs m hs hr
 unfold ofFunc at ha
 split at ha
 ·cases ha
 rename_i c hb
 split at ha
 case h_2=>cases ha
 rename_i r b hres hcode
 simp only[Option.some.injEq]at ha
 subst ha
 have hn:as.length≤fn.ntmps:=hn
 let E:Entry:=⟨I,σ,w,fn.ntmps⟩
 have st:St E I σ (Env.args as) (fun _=>0) {tmps:=vs++Array.replicate (fn.ntmps-vs.size) undef,defers:=[]} w:=by
  have henv:∀s,∃x,Env.args as s=.val x:=by
   intro s;unfold Env.args;cases as[s]? <;>exact⟨_,rfl⟩
  refine⟨m,fun s=> ?_,fun s s' h=> ?_,fun s h=> ?_,.refl _ _ _,?_,rfl⟩
  ·unfold Env.args
   cases hq:as[s]? with
   |none=>exact RepC.top _
   |some x=>
    have hlt:=(List.getElem?_eq_some_iff.1 hq).1
    have:=hr s
    rw[List.getD_eq_getElem?_getD,hq]at this
    simp only[Option.getD_some]at this
    show RepC I _ x
    rw[Array.getD_eq_getD_getElem?,Array.getElem?_append_left (by omega),←Array.getD_eq_getD_getElem?]
    exact this
  ·obtain⟨x,hx⟩:=henv s;rw[hx]at h;exact h.elim
  ·obtain⟨x,hx⟩:=henv s;rw[hx]at h;exact h.elim
  ·simp only[Array.size_append,Array.size_replicate,E];omega
 refine calls_of_wp hf hb (wp_mono (code_sound hm (E:=E) c b hcode (retPost r Q) _ w ⟨I,σ,_,_,st,h⟩) fun e a w' u=> ?_)
 have fin:Up E (fun env σ=>resAll env σ r fun x=>Q x σ) a w'→a.defers=[]∧∃v,(results fn a.tmps).run P w'=.ok v w'∧∃v' x I' σ',Ending.returned v=.returned v'∧RepC I' v' x∧Models I' σ' w'∧Evo I σ w I' σ' w'∧Q x σ':=by
  rintro⟨I',σ',env,bx,st',hq⟩
  obtain⟨us,xs,g1,g2,g3,g4⟩:=st'.resVs fn.results.toList r hres _ hq
  refine⟨st'.defers,?_⟩
  have hres:(results fn a.tmps).run P w'=.ok (if h:us.length=1 then us[0]else .tuple us.toArray) w':=by
   unfold results
   rw[Array.mapM_eq_mapM_toList,map_eq_pure_bind]
   simp only[Sem.run_bind]
   erw [g1]
   simp
  refine⟨_,hres,?_⟩
  clear g1 hres
  match xs,us,g2,g3,g4 with
  | [x],[v],_,g3,g4=>exact⟨v,x,I',σ',rfl,g3 0,st'.models,st'.evo,g4⟩
  | [],[],_,_,g4=>exact⟨_,_,I',σ',rfl,RepC.tuple #[] [] rfl (fun j=>by simpa using RepC.top _),st'.models,st'.evo,g4⟩
  |x::y::r',v::u::r2,g2,g3,g4=>
   refine⟨_,_,I',σ',rfl,?_,st'.models,st'.evo,g4⟩
   rw[dif_neg (by simp)]
   exact RepC.tuple _ _ (by simpa using g2) (fun j=>by simpa[Array.getD_eq_getD_getElem?,List.getD_eq_getElem?_getD]using g3 j)
 cases e with
 |normal=>exact fin u
 |ret=>exact fin u
 |exit id=>obtain⟨_,_,_,_,_,hq⟩:=u;exact hq.elim
 |goto l=>exact u.elim
 |panic c=>exact u.elim
 |outgrown=>exact u.elim
end
end Go.AL
