/-
  AN ABSTRACT LOGIC OVER THE MODEL, part 25: a function's run step by step, so that it may be cut anywhere: what is left to do lies on a stack.
-/
import Derived.Test.YtfoeaeeaflmkfaaGreatAL24
namespace Go.AL
open Go.RowKit
noncomputable section
def vcL (P:Program) (b:ACode) (K:Ex→Env→Store→Prop):Nat→Env→Store→Prop
 |0,_,_=>False
 |m+1,e,σ=>vc P b (Ex.then (vcL P b K m) K) e σ
theorem vcL_loop {P:Program} {b:ACode} {K:Ex→Env→Store→Prop} {m:Nat} {e:Env} {σ:Store} (h:vcL P b K m e σ):vc P (.loop b) K e σ:=by
 refine⟨fun k e σ=>vcL P b K k e σ,⟨m,dim_self h⟩,fun k e σ hk=> ?_⟩
 cases k with
 |zero=>exact hk.elim
 |succ k=>
  refine vc_mono hk fun x e σ hx=> ?_
  cases x with
  |normal=>exact dim_self ⟨k,Nat.lt_succ_self k,hx⟩
  |exit id=>exact hx
  |ret=>exact hx
inductive Fr where
 |seq (b:ACode)
 |block (id:Nat)
 |loop (b:ACode) (m:Nat)
def onK (P:Program) (Q:Ex→Env→Store→Prop):List Fr→Ex→Env→Store→Prop
 | []=>Q
 |.seq b::K=>Ex.then (vc P b (onK P Q K)) (onK P Q K)
 |.block id::K=>Ex.inBlock id (onK P Q K)
 |.loop b m::K=>Ex.then (vcL P b (onK P Q K) m) (onK P Q K)
inductive Cf where
 |go (c:ACode) (K:List Fr) (env:VE) (V:VS)
 |back (x:Ex) (K:List Fr) (env:VE) (V:VS)
 |bad
def Cf.Means (P:Program) (Q:Ex→Env→Store→Prop):Cf→Prop
 |.go c K env V=>∀ρ σ e,Rel Store.empty ρ V σ→EnvR ρ env e→vc P c (onK P Q K) e σ
 |.back x K env V=>∀ρ σ e,Rel Store.empty ρ V σ→EnvR ρ env e→onK P Q K x e σ
 |.bad=>True
def leafR (K:List Fr):ER→Cf
 |.done x env V=>.back x K env V
 |.bad=>.bad
def condM (a b:ACode) (K:List Fr) (env:VE) (V:VS):Ent→Cf
 |.val (.bool t)=>bif t then .go a K env V else .go b K env V
 |_=>.bad
def goM (call:Nat→Callee') (n:Nat) (K:List Fr) (env:VE) (V:VS):ACode→Cf
 |.seq a b=>.go a (.seq b::K) env V
 |.block id b=>.go b (.block id::K) env V
 |.loop b=>.go b (.loop b n::K) env V
 |.cond c a b=>condM a b K env V (eo c env)
 |c=>leafR K (codeR c call n none env V)
def backM (x:Ex) (env:VE) (V:VS):List Fr→Cf
 | []=>.back x [] env V
 |.seq b::K=>match x with
  |.normal=>.go b K env V
  |x=>.back x K env V
 |.block id::K=>match x with
  |.exit i=>bif Nat.beq i id then .back .normal K env V else .back (.exit i) K env V
  |x=>.back x K env V
 |.loop b m::K=>match x,m with
  |.normal,m+1=>.go b (.loop b m::K) env V
  |.normal,0=>.bad
  |x,_=>.back x K env V
def stepM (call:Nat→Callee') (n:Nat):Cf→Cf
 |.go c K env V=>goM call n K env V c
 |.back x K env V=>backM x env V K
 |.bad=>.bad
def stepsM (call:Nat→Callee') (n:Nat) (k:Nat):Cf→Cf:= @Nat.rec (fun _=>Cf→Cf) (fun c=>c) (fun _ ih c=>ih (stepM call n c)) k
def Cf.plainB:Cf→Bool
 |.go c K _ _=>c.plainB&&K.all fun f=>match f with
  |.seq b=>b.plainB
  |.loop b _=>b.plainB
  |.block _=>true
 |.back _ K _ _=>K.all fun f=>match f with
  |.seq b=>b.plainB
  |.loop b _=>b.plainB
  |.block _=>true
 |.bad=>true
variable {P:Program} {Q:Ex→Env→Store→Prop} {call:Nat→Callee'} {n:Nat}
theorem leaf_sound (hc:∀f,CallOk P f (call f)) {c:ACode} (hp:c.plainB=true) {K:List Fr} {env:VE} {V:VS} (hb:leafR K (codeR c call n none env V)≠.bad) (h:(leafR K (codeR c call n none env V)).Means P Q):(Cf.go c K env V).Means P Q:=by
 intro ρ σ e hR hE
 cases hr:codeR c call n none env V with
 |bad=>rw[hr]at hb;exact absurd rfl hb
 |done x env1 V1=>
  rw[hr]at h
  refine vc_mono ((code_ok hc n c hp).1 _ _ _ _ _ hr Store.empty ρ σ e hR hE) ?_
  rintro y e2 σ2 ⟨rfl,ρ2,_,_,h3,h4⟩
  exact h ρ2 σ2 e2 h3 h4
theorem step_sound (hc:∀f,CallOk P f (call f)):∀{c:Cf},c.plainB=true→stepM call n c≠.bad→(stepM call n c).Means P Q→c.Means P Q
 |.bad,_,hb,_=>absurd rfl hb
 |.go c K env V,hp,hb,h=>by
  simp only[Cf.plainB,Bool.and_eq_true]at hp
  cases c with
  |seq a b=>exact fun ρ σ e hR hE=>h ρ σ e hR hE
  |block id b=>exact fun ρ σ e hR hE=>h ρ σ e hR hE
  |loop b=>
   intro ρ σ e hR hE
   exact vcL_loop (m:=n+1) (h ρ σ e hR hE)
  |cond c a b=>
   intro ρ σ e hR hE
   have hb:condM a b K env V (eo c env)≠.bad:=hb
   have h:(condM a b K env V (eo c env)).Means P Q:=h
   have hp1:=hp.1
   simp only[ACode.plainB,Bool.and_eq_true]at hp1
   have hx:=eo_rep hE hp1.1
   cases he:eo c env with
   |box cs=>rw[he]at hb;exact absurd rfl hb
   |lptr s o=>rw[he]at hb;exact absurd rfl hb
   |val v=>
    rw[he]at h hb hx
    cases v<;>first|exact absurd rfl hb|skip
    rename_i t
    have h:(bif t then Cf.go a K env V else .go b K env V).Means P Q:=h
    obtain⟨v,k1,k2⟩:=hx.val_inv;simp only[VR]at k1;subst k1
    unfold vc
    simp only[k2]
    cases t with
    |true=>exact⟨fun _=>h ρ σ e hR hE,fun hh=>(by cases hh)⟩
    |false=>exact⟨fun hh=>(by cases hh),fun _=>h ρ σ e hR hE⟩
  |skip=>exact leaf_sound (n:=n) hc hp.1 hb h
  |region ops=>exact leaf_sound (n:=n) hc hp.1 hb h
  |drawn W ops=>exact leaf_sound (n:=n) hc hp.1 hb h
  |exit id=>exact leaf_sound (n:=n) hc hp.1 hb h
  |ret=>exact leaf_sound (n:=n) hc hp.1 hb h
 |.back x K env V,hp,hb,h=>by
  intro ρ σ e hR hE
  cases K with
  |nil=>exact h ρ σ e hR hE
  |cons f K=>
   cases f with
   |seq b=>
    cases x with
    |normal=>exact h ρ σ e hR hE
    |exit i=>exact h ρ σ e hR hE
    |ret=>exact h ρ σ e hR hE
   |block id=>
    cases x with
    |normal=>exact h ρ σ e hR hE
    |exit i=>
     have h:(bif Nat.beq i id then Cf.back .normal K env V else .back (.exit i) K env V).Means P Q:=h
     show(bif i==id then onK P Q K .normal else onK P Q K (.exit i)) e σ
     rw[beq_eq]at h
     by_cases hi:i=id
     ·rw[decide_eq_true hi]at h
      have:(i==id)=true:=by simpa using hi
      rw[this];exact h ρ σ e hR hE
     ·rw[decide_eq_false hi]at h
      have:(i==id)=false:=by simpa using hi
      rw[this];exact h ρ σ e hR hE
    |ret=>exact h ρ σ e hR hE
   |loop b m=>
    cases x with
    |normal=>
     cases m with
     |zero=>exact absurd rfl hb
     |succ m=>exact h ρ σ e hR hE
    |exit i=>cases m<;>exact h ρ σ e hR hE
    |ret=>cases m<;>exact h ρ σ e hR hE
theorem step_plain {c:Cf} (h:c.plainB=true):(stepM call n c).plainB=true:=by
 cases c with
 |bad=>rfl
 |go c K env V=>
  have h':=h
  simp only[Cf.plainB,Bool.and_eq_true]at h
  have leaf:∀r:ER,(leafR K r).plainB=true:=by
   intro r
   cases r with
   |bad=>rfl
   |done x e v=>exact h.2
  cases c with
  |seq a b=>
   have h1:=h.1
   simp only[ACode.plainB,Bool.and_eq_true]at h1
   show(Cf.go a (.seq b::K) env V).plainB=true
   simp only[Cf.plainB,List.all_cons,Bool.and_eq_true]
   exact⟨h1.1,h1.2,h.2⟩
  |block id b=>
   show(Cf.go b (.block id::K) env V).plainB=true
   simp only[Cf.plainB,List.all_cons,Bool.and_eq_true]
   exact⟨h.1,trivial,h.2⟩
  |loop b=>
   show(Cf.go b (.loop b n::K) env V).plainB=true
   simp only[Cf.plainB,List.all_cons,Bool.and_eq_true]
   exact⟨h.1,h.1,h.2⟩
  |cond c a b=>
   have h1:=h.1
   simp only[ACode.plainB,Bool.and_eq_true]at h1
   show(condM a b K env V (eo c env)).plainB=true
   unfold condM
   split
   ·rename_i t _
    cases t
    ·show(Cf.go b K env V).plainB=true
     simp only[Cf.plainB,Bool.and_eq_true];exact⟨h1.2.2,h.2⟩
    ·show(Cf.go a K env V).plainB=true
     simp only[Cf.plainB,Bool.and_eq_true];exact⟨h1.2.1,h.2⟩
   ·rfl
  |skip=>exact leaf (codeR .skip call n none env V)
  |region ops=>exact leaf (codeR (.region ops) call n none env V)
  |drawn W ops=>exact leaf (codeR (.drawn W ops) call n none env V)
  |exit id=>exact leaf (codeR (.exit id) call n none env V)
  |ret=>exact leaf (codeR .ret call n none env V)
 |back x K env V=>
  cases K with
  |nil=>exact h
  |cons f K=>
   simp only[Cf.plainB,List.all_cons,Bool.and_eq_true]at h
   have bk:∀y,(Cf.back y K env V).plainB=true:=fun y=>h.2
   cases f with
   |seq b=>
    cases x with
    |normal=>
     show(Cf.go b K env V).plainB=true
     simp only[Cf.plainB,Bool.and_eq_true];exact h
    |exit i=>exact bk _
    |ret=>exact bk _
   |block id=>
    cases x with
    |normal=>exact bk _
    |exit i=>
     show(bif Nat.beq i id then Cf.back .normal K env V else .back (.exit i) K env V).plainB=true
     cases Nat.beq i id
     ·exact bk _
     ·exact bk _
    |ret=>exact bk _
   |loop b m=>
    cases x with
    |normal=>
     cases m with
     |zero=>rfl
     |succ m=>
      show(Cf.go b (.loop b m::K) env V).plainB=true
      simp only[Cf.plainB,List.all_cons,Bool.and_eq_true];exact⟨h.1,h⟩
    |exit i=>cases m<;>exact bk _
    |ret=>cases m<;>exact bk _
theorem steps_bad:∀k,stepsM call n k .bad=.bad
 |0=>rfl
 |k+1=>steps_bad k
theorem steps_sound (hc:∀f,CallOk P f (call f)):∀(k:Nat) {c:Cf},c.plainB=true→stepsM call n k c≠.bad→(stepsM call n k c).Means P Q→c.Means P Q
 |0,c,_,_,h=>h
 |k+1,c,hp,hb,h=>by
  have hb:stepsM call n k (stepM call n c)≠.bad:=hb
  have h:(stepsM call n k (stepM call n c)).Means P Q:=h
  have h1:=steps_sound hc k (step_plain hp) hb h
  refine step_sound hc hp (fun hh=> ?_) h1
  rw[hh,steps_bad]at hb;exact hb rfl
def comes (E:List (Nat × Ent)) (N:Nat) (L:List (Nat × VObj)):Cf→Bool
 |.go _ _ env V=>sameT (envL E) env&&(Nat.ble V.n N&&allO V L)
 |.back _ _ env V=>sameT (envL E) env&&(Nat.ble V.n N&&allO V L)
 |.bad=>false
def Cf.at (E:List (Nat × Ent)) (N:Nat) (L:List (Nat × VObj)):Cf→Cf
 |.go c K _ _=>.go c K (envL E) (stL N L)
 |.back x K _ _=>.back x K (envL E) (stL N L)
 |.bad=>.bad
theorem env_same {ρ:Names} {env1 env2:VE} {e:Env} (h:∀t,eat env2 t=eat env1 t) (hE:EnvR ρ env1 e):EnvR ρ env2 e:=fun t=>by rw[h t];exact hE t
theorem comes_sound {E:List (Nat × Ent)} {N:Nat} {L:List (Nat × VObj)} {c:Cf} (h:comes E N L c=true) (k:(c.at E N L).Means P Q):c.Means P Q:=by
 cases c with
 |bad=>cases h
 |go c K env V=>
  have h:(sameT (envL E) env&&(Nat.ble V.n N&&allO V L))=true:=h
  simp only[Bool.and_eq_true,ble_eq,decide_eq_true_eq]at h
  intro ρ σ e hR hE
  exact k ρ σ e (hR.less (V':=stL N L) (Nat.zero_le _) h.2.1 (allO_true h.2.2)) (env_same (fun t=>sameT_true h.1 _) hE)
 |back x K env V=>
  have h:(sameT (envL E) env&&(Nat.ble V.n N&&allO V L))=true:=h
  simp only[Bool.and_eq_true,ble_eq,decide_eq_true_eq]at h
  intro ρ σ e hR hE
  exact k ρ σ e (hR.less (V':=stL N L) (Nat.zero_le _) h.2.1 (allO_true h.2.2)) (env_same (fun t=>sameT_true h.1 _) hE)
theorem cut_sound (hc:∀f,CallOk P f (call f)) (k:Nat) {c c2:Cf} (hp:c.plainB=true) {E:List (Nat × Ent)} {N:Nat} {L:List (Nat × VObj)} (h:comes E N L (stepsM call n k c)=true) (h2:(stepsM call n k c).at E N L=c2) (k2:c2.Means P Q):c.Means P Q:=by
 subst h2
 refine steps_sound hc k hp (fun hh=> ?_) (comes_sound h k2)
 rw[hh]at h;cases h
def allT (Q:Nat→FE→Prop):FT→(Nat→Nat)→Prop
 |.lf,_=>True
 |.nd v l r,g=>Q (g 0) v∧allT Q l (fun m=>g (2*m+1))∧allT Q r (fun m=>g (2*m+2))
theorem allT_get {Q:Nat→FE→Prop} (hn:∀n,Q n .none):∀(p:Pa) (t:FT) (g:Nat→Nat),allT Q t g→Q (g p.num) (Tr.getP .none p t)
 |p,.lf,g,_=>by rw[Tr.getP_lf];exact hn _
 |.z,.nd v l r,g,h=>h.1
 |.a p,.nd v l r,g,h=>allT_get hn p l _ h.2.1
 |.b p,.nd v l r,g,h=>allT_get hn p r _ h.2.2
theorem tOk_of {T:FT} (h:allT (FOk P) T id):TOk P T:=by
 intro f
 have:=allT_get (Q:=FOk P) (fun _=>trivial) (pathOf f) T id h
 rw[pathOf_num]at this
 exact this
theorem rel_empty (σ:Store):Rel Store.empty (fun _=>none) ⟨0,0,.lf⟩ σ:=by
 have dead:∀i,VS.at ⟨0,0,.lf⟩ i=.dead:=fun i=>Tr.get_lf _ _
 exact⟨Nat.le_refl _,fun i x hx=>(by cases hx),fun i hi=>absurd (dead i) hi,fun i j x y hi=>absurd (dead i) hi,⟨fun b cs h=>(by cases h),fun b cs h=>(by cases h),fun b cs h=>(by cases h)⟩⟩
def endsIn (f:AFun) (a:AVal):Cf→Bool
 |.back (.exit _) _ _ _=>false
 |.back _ [] env V=>(match finK V (ressE env V f.res)with
  |.got b _=>eqA a b&&a.plain
  |.fail=>false)
 |_=>false
theorem ends_sound {f:AFun} {a:AVal} {c:Cf} (h:endsIn f a c=true):c.Means P (retPost f.res fun b _=>b=a):=by
 have key:∀env V,(match finK V (ressE env V f.res)with|.got b _=>eqA a b&&a.plain|.fail=>false)=true→∀ρ σ e,Rel Store.empty ρ V σ→EnvR ρ env e→resAll e σ f.res fun b=>b=a:=by
  intro env V h ρ σ e hR hE
  cases hr:ressE env V f.res with
  |none=>rw[hr]at h;cases h
  |some rs=>
   rw[hr]at h
   have h:(eqA a (tupO rs)&&a.plain)=true:=h
   simp only[Bool.and_eq_true]at h
   have ha:a=tupO rs:=eqA_true _ _ h.1
   obtain⟨bs,c1,c2⟩:=ressE_rep hR hE hr
   refine c2 _ ?_
   match rs,bs,c1,ha with
   | [],bs,c1,ha=>rw[c1.nil_inv];exact ha.symm
   | [r1],bs,c1,ha=>
    obtain⟨y,ys,d1,d2,rfl⟩:=c1.cons_inv
    rw[d2.nil_inv]
    have ha:a=r1:=ha
    subst ha
    exact d1.prim h.2
   |r1::r2::rs,bs,c1,ha=>
    have ha:a=.tuple (r1::r2::rs):=ha
    have hp:=h.2
    rw[ha]at hp
    have hb:=VRs.det _ c1 (VRs.of_plain _ hp)
    subst hb
    exact ha.symm
 unfold endsIn at h
 split at h
 ·cases h
 ·rename_i x env V hx
  intro ρ σ e hR hE
  have:=key env V h ρ σ e hR hE
  cases x with
  |normal=>exact this
  |exit i=>exact(hx i rfl).elim
  |ret=>exact this
 ·cases h
theorem call_start (hm:P.follows .mixedOrders=true) {f:FuncId} {fn:Func} {esc:List Nat} {af:AFun} (hf:P.funcs[f]? =some fn) (ha:ofFunc P esc fn=some af) {as:List AVal} (hn:as.length≤af.n) (hp:plains as=true) {a:AVal}
  (h:(Cf.go af.body [] (argsE as 0 .lf) ⟨0,0,.lf⟩).Means P (retPost af.res fun b _=>b=a)) (σ:Store):ACall P f as σ fun b _=>b=a:=
 acall_of hm hf ha hn (h _ σ _ (rel_empty σ) (args_rep (VRs.of_plain as hp)))
end
end Go.AL
