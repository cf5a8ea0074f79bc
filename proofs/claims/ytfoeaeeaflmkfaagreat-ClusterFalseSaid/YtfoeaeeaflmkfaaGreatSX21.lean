/-
  A WALKER OF CODE IN SMALL, part 21: an anchor in the midst; new values of given ones.
-/
import Derived.Test.YtfoeaeeaflmkfaaGreatSX17
set_option linter.unusedSectionVars false
set_option linter.unusedVariables false
set_option linter.unusedSimpArgs false
namespace Go.AL.SX
variable {T:Tab} [TabOk T] {E:En} {ρ ρ':Val} {G G':Nat→Cl} {W:SW} {V:VS} {se:SE} {env:VE}
def anchor (E:En) (G:Nat→Cl) (V:VS):En:=⟨V,G,fun i=>E.V.n≤i∨E.Tc i⟩
theorem anchor_ok (hE:EnOk E) (h:Sat T E ρ G W V):EnOk (anchor E G V)∧Sat T (anchor E G V) ρ G W V:=by
 refine⟨⟨?_,?_,?_,h.sto.out⟩,⟨h.ok,h.clo,⟨h.sto.wf,h.sto.cells,fun p hp=> ?_,h.sto.dis,fun v hv i hi=>.inr (h.sto.wr v hv i hi),fun c hc i hi=> ?_,h.sto.out,Nat.le_refl _,rfl,fun _ _ _=>⟨rfl,rfl⟩,fun _ _ _=>Iff.rfl,fun _ _ _ _ hg=>.inl hg,h.sto.tkw⟩⟩⟩
 ·show V.g≤V.n
  rw[h.sto.g];exact Nat.le_trans hE.g h.sto.n
 ·rintro i (hi|hi)
  ·show V.g≤i
   rw[h.sto.g];exact Nat.le_trans hE.g hi
  ·show V.g≤i
   rw[h.sto.g];exact hE.tcg i hi
 ·intro g i j hg
  refine⟨h.sto.tkw g i j hg,fun hi=> ?_⟩
  rcases Nat.lt_or_ge g E.V.n with hlt|hge
  ·rcases h.sto.tok g hlt i j hg with h1|h1
   ·obtain⟨h2,h3⟩:=hE.tct g i j h1
    rcases hi with hi|hi
    ·omega
    ·exact .inr (h3 hi)
   ·exact .inr h1
  ·exact .inl hge
 ·rcases h.sto.live p hp with h1|⟨xs,nl,g,h1,h2,h3,h4,h5⟩
  ·exact .inl h1
  ·exact .inr ⟨xs,nl,g,h1,h2,h3,.inr h4,h5⟩
 ·have hi:G i=.cls c:=hi
  show E.V.n≤i∨E.Tc i
  rcases Nat.lt_or_ge i E.V.n with hlt|hge
  ·exact .inr (h.sto.M c hc i ((h.sto.cls i hlt c).1 hi))
  ·exact .inl hge
theorem unanchor (hE:EnOk E) {W0:SW} {ρ0:Val} (h0:Sat T E ρ0 G W0 V) {V':VS} (h:Sat T (anchor E G V) ρ' G' W V'):Sat T E ρ' G' W V':=by
 have hor:∀i,(V.n≤i∨(E.V.n≤i∨E.Tc i))→E.V.n≤i∨E.Tc i:=fun i hi=>hi.elim (fun h1=>.inl (Nat.le_trans h0.sto.n h1)) id
 refine⟨h.ok,h.clo,⟨h.sto.wf,h.sto.cells,fun p hp=> ?_,h.sto.dis,fun v hv i hi=>hor i (h.sto.wr v hv i hi),fun c hc i hi=> ?_,h.sto.out,Nat.le_trans h0.sto.n h.sto.n,?_,fun x hx hnt=> ?_,fun x hx c=> ?_,fun g hlt i j hg=> ?_,h.sto.tkw⟩⟩
 ·rcases h.sto.live p hp with h1|⟨xs,nl,g,h1,h2,h3,h4,h5⟩
  ·exact .inl h1
  ·exact .inr ⟨xs,nl,g,h1,h2,h3,hor g h4,h5⟩
 ·rcases Nat.lt_or_ge i E.V.n with hlt|hge
  ·have h1:G i=.cls c:=(h0.sto.cls i hlt c).2 hi
   have h2:E.V.n≤i∨E.Tc i:=h.sto.M c hc i h1
   exact h2.elim (fun hh=>by omega) id
  ·rw[hE.out i hge]at hi;cases hi
 ·have h1:V'.g=V.g:=h.sto.g
  rw[h1];exact h0.sto.g
 ·have hxV:x<V.n:=Nat.lt_of_lt_of_le hx h0.sto.n
  have hnt':¬(anchor E G V).Tc x:=fun hh=>hh.elim (fun h1=>by omega) hnt
  obtain⟨k1,k2⟩:=h.sto.fr x hxV hnt'
  obtain⟨m1,m2⟩:=h0.sto.fr x hx hnt
  exact⟨k1.trans m1,k2.trans m2⟩
 ·have hxV:x<V.n:=Nat.lt_of_lt_of_le hx h0.sto.n
  exact(h.sto.cls x hxV c).trans (h0.sto.cls x hx c)
 ·have hgV:g<V.n:=Nat.lt_of_lt_of_le hlt h0.sto.n
  rcases h.sto.tok g hgV i j hg with h1|h1
  ·exact h0.sto.tok g hlt i j h1
  ·exact .inr (h1.elim (fun hh=>by omega) id)
mutual
theorem freshTy_live {D:Nat→Ty}:∀{t:Ty} {a:AVal} {W W1:SW} {s:SV},HasTy D G t a→freshTy W t=(s,W1)→W.live=W1.live
 |.agg l,a,W,W1,s,ht,hf=>by
  simp only[freshTy]at hf
  cases hg:freshTys W l with
  |mk x W2=>
   rw[hg]at hf;cases hf
   cases ht with
   |agg _ cs hl hx=>exact freshTys_live hl hx hg
 |.tup l,a,W,W1,s,ht,hf=>by
  simp only[freshTy]at hf
  cases hg:freshTys W l with
  |mk x W2=>
   rw[hg]at hf;cases hf
   cases ht with
   |tup _ cs hl hx=>exact freshTys_live hl hx hg
 |.own _ _ _ _ _,a,W,W1,s,ht,hf=>by cases ht
 |.int _ _ _,a,W,W1,s,ht,hf=>by cases hf;rfl
 |.inu _,a,W,W1,s,ht,hf=>by cases hf;rfl
 |.bool,a,W,W1,s,ht,hf=>by cases hf;rfl
 |.any,a,W,W1,s,ht,hf=>by cases hf;rfl
 |.str _,a,W,W1,s,ht,hf=>by cases hf;rfl
 |.sl _ _ _,a,W,W1,s,ht,hf=>by cases hf;rfl
 |.ptr _ _,a,W,W1,s,ht,hf=>by cases hf;rfl
 |.map _ _,a,W,W1,s,ht,hf=>by cases hf;rfl
 |.ifc _ _,a,W,W1,s,ht,hf=>by cases hf;rfl
 |.fn _ _,a,W,W1,s,ht,hf=>by cases hf;rfl
 |.nm _,a,W,W1,s,ht,hf=>by cases hf;rfl
 |.con _,a,W,W1,s,ht,hf=>by cases hf;rfl
theorem freshTys_live {D:Nat→Ty}:∀{l:List Ty} {cs:List AVal} {W W1:SW} {ss:List SV},l.length=cs.length→(∀(j:Nat) (t:Ty) (c:AVal),l[j]? =some t→cs[j]? =some c→HasTy D G t c)→freshTys W l=(ss,W1)→W.live=W1.live
 | [],cs,W,W1,ss,_,_,hf=>by cases hf;rfl
 |t::l,[],W,W1,ss,hl,_,_=>by cases hl
 |t::l,c::cs,W,W1,ss,hl,hx,hf=>by
  simp only[freshTys]at hf
  cases h1:freshTy W t with
  |mk s W2=>
   rw[h1]at hf
   simp only at hf
   cases h2:freshTys W2 l with
   |mk ss2 W3=>
    rw[h2]at hf
    cases hf
    exact(freshTy_live (hx 0 t c rfl rfl) h1).trans (freshTys_live (by simpa using hl) (fun j t c ht hc=>hx (j+1) t c (by simpa using ht) (by simpa using hc)) h2)
end
theorem freshTys_gives:∀(ts:List Ty) {ρ:Val} {W:SW} (_:Sat T E ρ G W V) {as:List AVal} {ss:List SV} {W':SW},ts.length=as.length→
  (∀(j:Nat) (t:Ty) (a:AVal),ts[j]? =some t→as[j]? =some a→Gives T E G V t a)→(gtoks ts as).Nodup→(∀g∈gtoks ts as,∀p∈W.live,tokOf (ρ p.1)≠some g)→
  freshTys W ts=(ss,W')→∃ρ',Later ρ W ρ' W'∧Sat T E ρ' G W' V∧evs ρ' ss=as∧cls W'.nv ss=true
 | [],ρ,W,h,as,ss,W',hl,_,_,_,he=>by
  simp only[freshTys]at he
  cases he
  cases as with
  |nil=>exact⟨ρ,.refl _ _,h,rfl,rfl⟩
  |cons c cs=>cases hl
 |t::ts,ρ,W,h,as,ss,W',hl,hg,hn,hd,he=>by
  cases as with
  |nil=>cases hl
  |cons a as=>
   simp only[freshTys]at he
   cases hf:freshTy W t with
   |mk s W1=>
    rw[hf]at he
    simp only at he
    cases hf2:freshTys W1 ts with
    |mk ss1 W2=>
     rw[hf2]at he
     cases he
     have h0:=hg 0 t a rfl rfl
     have hnd:=List.nodup_append.1 hn
     have first:∃ρ1,Later ρ W ρ1 W1∧Sat T E ρ1 G W1 V∧s.ev ρ1=a∧s.cl W1.nv=true∧∀p∈W1.live,p∈W.live∨(tokOf (ρ1 p.1)=tokOf a∧ownT t=true):=by
      by_cases ht:∃t' sz e lo hi,t=.own t' sz e lo hi
      ·obtain⟨t',sz,e,lo,hi,rfl⟩:=ht
       obtain⟨q1,q2,q3,q4,q5⟩:=freshOwn_ok h h0.1 (h0.2 _ _ _ _ _ rfl) (fun p hp g hga=>hd g (List.mem_append_left _ (by simp[gtok,ownT,hga])) p hp) hf
       refine⟨_,q3,q4,by rw[q1];exact q5,by rw[q1,q2];exact ltB (Nat.lt_succ_self _),fun p hp=> ?_⟩
       rw[q2]at hp
       rcases List.mem_cons.1 hp with rfl|hp
       ·exact .inr ⟨by rw[q5],rfl⟩
       ·exact .inl hp
      ·have e2:readT t=t:=by cases t<;>first|rfl|exact absurd ⟨_,_,_,_,_,rfl⟩ ht
       have hty:=h0.1
       rw[e2]at hty
       obtain⟨ρ1,q1,q2,q3,q4⟩:=freshTy_ok t h hty hf
       refine⟨ρ1,q1,q2,q3,q4,fun p hp=>.inl ?_⟩
       have:W1.live=W.live:=by rw[←freshTy_live hty hf]
       rw[←this];exact hp
     obtain⟨ρ1,k1,k2,k3,k4,k5⟩:=first
     obtain⟨ρ2,m1,m2,m3,m4⟩:=freshTys_gives ts k2 (by simpa using hl) (fun j t a ht ha=>hg (j+1) t a (by simpa using ht) (by simpa using ha)) hnd.2.1 (fun g hgm p hp=>by
      rcases k5 p hp with hp'|⟨hp',ho⟩
      ·rw[←k1.agr _ (h.clo.live p hp')]
       exact hd g (List.mem_append_right _ hgm) p hp'
      ·rw[hp']
       intro hq
       exact hnd.2.2 g (by simp[gtok,ho,hq]) g hgm rfl) hf2
     obtain⟨n1,n2⟩:=m1.ev k4
     exact⟨ρ2,k1.trans m1,m2,by simp only[evs,n1,k3,m3],by simp only[cls,n2,m4];rfl⟩
end Go.AL.SX
namespace Go.AL.SX
variable {T:Tab} [TabOk T] {E:En} {ρ ρ':Val} {G G':Nat→Cl} {W:SW} {V:VS} {se:SE} {env:VE}
def EndsIn (T:Tab) (E:En) (ρ:Val) (W:SW) (outs:List OUT) (er:ER):Prop:=
 ∃x env' V' se' W' ρ' G',er=.done x env' V'∧(x,se',W')∈outs∧Later ρ W ρ' W'∧Sat T E ρ' G' W' V'∧SatE ρ' W'.nv se' env'
def CodeOk (T:Tab) (f:SE→SW→RC) (run:EC):Prop:=
 ∀(E:En),EnOk E→∀(ρ:Val) (G:Nat→Cl) (W:SW) (V:VS) (se:SE) (env:VE) (outs:List OUT),Sat T E ρ G W V→SatE ρ W.nv se env→f se W=some outs→EndsIn T E ρ W outs (run env V)
theorem EndsIn.mem {outs outs':List OUT} {er:ER} (h:EndsIn T E ρ W outs er) (hs:∀p∈outs,p∈outs'):EndsIn T E ρ W outs' er:=
 let⟨x,env',V',se',W',ρ',G',h1,h2,h3⟩:=h;⟨x,env',V',se',W',ρ',G',h1,hs _ h2,h3⟩
theorem EndsIn.later {W1:SW} {ρ1:Val} {outs:List OUT} {er:ER} (h:EndsIn T E ρ1 W1 outs er) (hl:Later ρ W ρ1 W1):EndsIn T E ρ W outs er:=
 let⟨x,env',V',se',W',ρ',G',h1,h2,h3,h4⟩:=h;⟨x,env',V',se',W',ρ',G',h1,h2,hl.trans h3,h4⟩
theorem outN_ok {r:RN} {run:EK→ER} {outs:List OUT} (h:RNok T E ρ W r run) (ho:outN r=some outs):EndsIn T E ρ W outs (run (.done .normal)):=by
 cases r with
 |none=>cases ho
 |some l=>
  cases ho
  exact h l rfl _ _ fun p hp ρ' G' env' V' h1 h2 h3=>⟨.normal,env',V',p.1,p.2,ρ',G',rfl,List.mem_map.2 ⟨p,hp,rfl⟩,h1,h2,h3⟩
theorem bindC_ok {k:SE→SW→RC}:∀{l outs:List OUT},bindC k l=some outs→∀x e W,(x,e,W)∈l→(x=.normal→∃o,k e W=some o∧∀q∈o,q∈outs)∧(x≠.normal→(x,e,W)∈outs)
 | [],outs,_,x,e,W,h=>by cases h
 |(x0,e0,W0)::l,outs,hb,x,e,W,h=>by
  by_cases hx:x0=.normal
  ·subst hx
   simp only[bindC]at hb
   obtain⟨a,b,h1,h2,h3⟩:=cat_ok hb
   rcases List.mem_cons.1 h with h|h
   ·cases h
    exact⟨fun _=>⟨a,h1,fun q hq=>by rw[h3];exact List.mem_append_left _ hq⟩,fun hh=>absurd rfl hh⟩
   ·obtain⟨q1,q2⟩:=bindC_ok h2 x e W h
    exact⟨fun hn=>let⟨o,z1,z2⟩:=q1 hn;⟨o,z1,fun q hq=>by rw[h3];exact List.mem_append_right _ (z2 q hq)⟩,fun hn=>by rw[h3];exact List.mem_append_right _ (q2 hn)⟩
  ·have hb':∃r,bindC k l=some r∧outs=(x0,e0,W0)::r:=by
    cases x0 with
    |normal=>exact absurd rfl hx
    |exit i=>
     simp only[bindC]at hb
     split at hb
     ·rename_i r hr;cases hb;exact⟨r,hr,rfl⟩
     ·cases hb
    |ret=>
     simp only[bindC]at hb
     split at hb
     ·rename_i r hr;cases hb;exact⟨r,hr,rfl⟩
     ·cases hb
   obtain⟨r,h1,h2⟩:=hb'
   rcases List.mem_cons.1 h with h|h
   ·cases h
    exact⟨fun hn=>absurd hn hx,fun _=>by rw[h2];exact List.mem_cons_self ..⟩
   ·obtain⟨q1,q2⟩:=bindC_ok h1 x e W h
    exact⟨fun hn=>let⟨o,z1,z2⟩:=q1 hn;⟨o,z1,fun q hq=>by rw[h2];exact List.mem_cons_of_mem _ (z2 q hq)⟩,fun hn=>by rw[h2];exact List.mem_cons_of_mem _ (q2 hn)⟩
theorem seqC_ok {f k:SE→SW→RC} {run run2:EC} (h1:CodeOk T f run) (h2:CodeOk T k run2):CodeOk T (fun se W=>seqC (f se W) k) (fun env V=>seqK run2 (run env V)):=by
 intro E hE ρ G W V se env outs hS hE2 ho
 cases hf:f se W with
 |none=>simp only[hf,seqC]at ho;cases ho
 |some l=>
  simp only[hf,seqC]at ho
  obtain⟨x,env',V',se',W',ρ',G',q1,q2,q3,q4,q5⟩:=h1 E hE ρ G W V se env l hS hE2 hf
  obtain⟨b1,b2⟩:=bindC_ok ho x se' W' q2
  show EndsIn T E ρ W outs (seqK run2 (run env V))
  rw[q1]
  cases x with
  |normal=>
   obtain⟨o,z1,z2⟩:=b1 rfl
   exact((h2 E hE ρ' G' W' V' se' env' o q4 q5 z1).mem z2).later q3
  |exit i=>exact⟨.exit i,env',V',se',W',ρ',G',rfl,b2 (fun h=>by cases h),q3,q4,q5⟩
  |ret=>exact⟨.ret,env',V',se',W',ρ',G',rfl,b2 (fun h=>by cases h),q3,q4,q5⟩
theorem blockC_ok {id:Nat}:∀{l:List OUT} {x:Ex} {e:SE} {W:SW},(x,e,W)∈l→(x≠.exit id→(x,e,W)∈blockC id l)∧(x=.exit id→(.normal,e,W)∈blockC id l)
 | [],x,e,W,h=>by cases h
 |(x0,e0,W0)::l,x,e,W,h=>by
  have ih:=fun hh=>blockC_ok (id:=id) (l:=l) (x:=x) (e:=e) (W:=W) hh
  have hcons:∃y,blockC id ((x0,e0,W0)::l)=y::blockC id l∧(x0≠.exit id→y=(x0,e0,W0))∧(x0=.exit id→y=(.normal,e0,W0)):=by
   cases x0 with
   |normal=>exact⟨_,rfl,fun _=>rfl,fun hh=>by cases hh⟩
   |ret=>exact⟨_,rfl,fun _=>rfl,fun hh=>by cases hh⟩
   |exit i=>
    refine⟨_,rfl,fun hn=> ?_,fun hh=> ?_⟩
    ·have:Nat.beq i id=false:=by rw[beq_eq];exact decide_eq_false (fun e=>hn (by rw[e]))
     rw[this];rfl
    ·cases hh
     have:Nat.beq id id=true:=by rw[beq_eq];exact decide_eq_true rfl
     rw[this];rfl
  obtain⟨y,h1,h2,h3⟩:=hcons
  rw[h1]
  rcases List.mem_cons.1 h with h|h
  ·cases h
   exact⟨fun hn=>by rw[h2 hn];exact List.mem_cons_self ..,fun hh=>by rw[h3 hh];exact List.mem_cons_self ..⟩
  ·obtain⟨q1,q2⟩:=ih h
   exact⟨fun hn=>List.mem_cons_of_mem _ (q1 hn),fun hh=>List.mem_cons_of_mem _ (q2 hh)⟩
theorem block_ok {id:Nat} {f:SE→SW→RC} {run:EC} (h:CodeOk T f run):CodeOk T (fun se W=>match f se W with|some l=>some (blockC id l)|none=>none) (fun env V=>blockK id (run env V)):=by
 intro E hE ρ G W V se env outs hS hE2 ho
 simp only at ho
 split at ho
 ·rename_i l hl
  cases ho
  obtain⟨x,env',V',se',W',ρ',G',q1,q2,q3,q4,q5⟩:=h E hE ρ G W V se env l hS hE2 hl
  obtain⟨b1,b2⟩:=blockC_ok (id:=id) q2
  show EndsIn T E ρ W _ (blockK id (run env V))
  rw[q1]
  cases x with
  |normal=>exact⟨.normal,env',V',se',W',ρ',G',rfl,b1 (fun h=>by cases h),q3,q4,q5⟩
  |ret=>exact⟨.ret,env',V',se',W',ρ',G',rfl,b1 (fun h=>by cases h),q3,q4,q5⟩
  |exit i=>
   by_cases hi:i=id
   ·subst hi
    refine⟨.normal,env',V',se',W',ρ',G',?_,b2 rfl,q3,q4,q5⟩
    show(bif Nat.beq i i then ER.done .normal env' V' else .done (.exit i) env' V')=_
    rw[beq_eq,decide_eq_true rfl];rfl
   ·refine⟨.exit i,env',V',se',W',ρ',G',?_,b1 (fun h=>by cases h;exact hi rfl),q3,q4,q5⟩
    show(bif Nat.beq i id then ER.done .normal env' V' else .done (.exit i) env' V')=_
    rw[beq_eq,decide_eq_false hi];rfl
 ·cases ho
theorem unroll_ok {f:SE→SW→RC} {run:EC} (h:CodeOk T f run):∀(m n:Nat),m≤n→CodeOk T (unroll f m) (loopN run n)
 |0,n,_=>fun E hE ρ G W V se env outs hS hE2 ho=>by cases ho
 |m+1,0,hle=>by omega
 |m+1,n+1,hle=>seqC_ok h (unroll_ok h m n (by omega))
theorem eqLit_ok {a b:Lit} (h:eqLit a b=true):a=b:=by
 unfold eqLit at h
 split at h
 ·rw[eq_of_beq h]
 ·obtain⟨h1,h2⟩:=and2 h;rw[beqN h1,eq_of_beq h2]
 ·obtain⟨h1,h2⟩:=and2 h;rw[beqN h1,eq_of_beq h2]
 ·rw[eqLin_ok h]
 ·obtain⟨h1,h2⟩:=and2 h;rw[eqLin_ok h1,eq_of_beq h2]
 ·cases h
theorem eqSV_ok:∀{f:Nat} {a b:SV},eqSV f a b=true→a=b
 |0,a,b,h=>by cases h
 |f+1,a,b,h=>by
  have ih:∀a b,eqSV f a b=true→a=b:=fun a b h=>eqSV_ok h
  unfold eqSV at h
  split at h
  ·rw[eqAV_ok h]
  ·obtain⟨h1,h2⟩:=and2 h;rw[kEq_eq h1,eqLin_ok h2]
  ·rw[eqLit_ok h]
  ·rw[beqN h]
  ·obtain⟨h1,h2⟩:=and2 h;rw[beqN h1,beqN h2]
  ·rw[all2_eq ih h]
  ·rw[all2_eq ih h]
  ·rw[all2_eq ih h]
  ·rw[all2_eq ih h]
  ·obtain⟨h1,h2⟩:=and2 h;rw[beqN h1,ih _ _ h2]
  ·obtain⟨h1,h2⟩:=and2 h
   obtain⟨h2,h3⟩:=and2 h2
   rw[beqN h1,all2_eq ih h2,all2_eq ih h3]
  ·cases h
theorem subE_ok {x y:SEnt} {e:Ent} (h:subE x y=true) (hy:EntOk ρ y e):EntOk ρ x e:=by
 unfold subE at h
 split at h
 ·trivial
 ·rw[eqSV_ok h];exact hy
 ·rw[all2_eq (fun _ _ h=>eqSV_ok h) h];exact hy
 ·obtain⟨h1,h2⟩:=and2 h;rw[beqN h1,beqN h2];exact hy
 ·cases h
theorem subEnv_ok:∀{a b:SE},subEnv a b=true→∀p:Pa,subE (tg .un p a) (tg .un p b)=true
 |.lf,b,_,p=>by rw[tg_lf];rfl
 |.nd v l r,.nd w m s,h,p=>by
  obtain⟨h1,h2⟩:=and2 h
  obtain⟨h2,h3⟩:=and2 h2
  cases p with
  |z=>exact h1
  |a p=>exact subEnv_ok h2 p
  |b p=>exact subEnv_ok h3 p
 |.nd v l r,.lf,h,p=>by
  obtain⟨h1,h2⟩:=and2 h
  obtain⟨h2,h3⟩:=and2 h2
  cases p with
  |z=>exact h1
  |a p=>have:=subEnv_ok h2 p;rwa [tg_lf]at this
  |b p=>have:=subEnv_ok h3 p;rwa [tg_lf]at this
theorem all2_eqSV {f:Nat}:∀{a b:List SV},all2 (eqSV f) a b=true→a=b
 | [],[],_=>rfl
 | [],_::_,h=>by cases h
 |_::_,[],h=>by cases h
 |x::a,y::b,h=>by
  obtain⟨h1,h2⟩:=and2 h
  rw[eqSV_ok h1,all2_eqSV h2]
end Go.AL.SX
namespace Go.AL.SX
variable {T:Tab} [TabOk T] {E:En} {ρ ρ':Val} {G G':Nat→Cl} {W:SW} {V:VS} {se:SE} {env:VE}
noncomputable def pathV (V:VS):List Nat→AVal→AVal
 | [],a=>a
 |o::r,a=>match a with
  |.ptr i 0=>(match V.at i with
   |.obj cs=>pathV V r ((cs[o]?).getD .top)
   |_=>.top)
  |_=>.top
theorem ptrVar_cl {s:SV} {v n:Nat} (h:ptrVar s=some v) (hc:s.cl n=true):v<n:=by
 unfold ptrVar at h
 split at h
 ·cases h;exact bltN hc
 ·simp only[Option.some.injEq]at h;subst h;exact bltN hc
 ·cases h
theorem ptrVar_ev {s:SV} {v i:Nat} (h:ptrVar s=some v) (hv:ρ v=.ptr i 0):s.ev ρ=.ptr i 0:=by
 unfold ptrVar at h
 split at h
 ·cases h;exact hv
 ·simp only[Option.some.injEq]at h;subst h
  simp only[SV.ev,hv,offP]
 ·cases h
theorem readPath_ok:∀{p:List Nat} {s x:SV} {ρ:Val} {W W':SW},Sat T E ρ G W V→s.cl W.nv=true→readPath T p s W=some (x,W')→∃ρ',Later ρ W ρ' W'∧Sat T E ρ' G W' V∧x.ev ρ'=pathV V p (s.ev ρ)∧x.cl W'.nv=true
 | [],s,x,ρ,W,W',h,hc,hr=>by cases hr;exact⟨ρ,.refl _ _,h,rfl,hc⟩
 |o::r,s,x,ρ,W,W',h,hc,hr=>by
  simp only[readPath]at hr
  split at hr
  ·rename_i w hw
   have hwn:=ptrVar_cl hw hc
   split at hr
   ·rename_i c hcl
    obtain⟨i,hi,hg⟩:=classOf_ok h hcl
    split at hr
    ·rename_i t' ht
     rw[nthS_eq]at ht
     obtain⟨ts',cs,hk,hat,hlen,hcell⟩:=celT_ok (h.sto.wf i c hg).2 ht
     rw[hk]at ht
     simp only[celT]at ht
     obtain⟨a',ha'⟩:=get_of_len (l:=cs) (r:=ts') hlen.symm ht
     cases hld:load1 W w o t' with
     |mk y W1=>
      rw[hld]at hr
      obtain⟨ρ1,k1,k2,k3,k4⟩:=load1_ok h hwn hi hat ha' hg (hcell _ t' a' ht ha').1 hld
      obtain⟨ρ2,m1,m2,m3,m4⟩:=readPath_ok k2 k4 hr
      refine⟨ρ2,k1.trans m1,m2,?_,m4⟩
      rw[m3,k3,ptrVar_ev hw hi]
      simp only[pathV]
      rw[hat]
      simp only
      rw[ha']
      rfl
    ·cases hr
   ·cases hr
  ·cases hr
noncomputable def valE (env:VE) (s:Nat):AVal:=match eat env s with
 |.val a=>a
 |_=>.top
noncomputable def cellsE (env:VE) (V:VS) (ce:List (Nat × List Nat)):List AVal:=ce.map fun p=>pathV V p.2 (valE env p.1)
noncomputable def semAt (env:VE) (cs:List AVal) (v:Nat):AVal:=if v<100000 then valE env v else(cs[v/100000-1]?).getD .top
noncomputable def semA (env:VE) (cs:List AVal):At→Int
 |.i v=>intOf (semAt env cs v)
 |.l v=>lenOf (semAt env cs v)
noncomputable def semT (env:VE) (cs:List AVal):List (Int × At)→Int
 | []=>0
 |(k,a)::r=>k*semA env cs a+semT env cs r
noncomputable def semLin (env:VE) (cs:List AVal) (l:Lin):Int:=l.c+semT env cs l.t
theorem valE_ok {n:Nat} (he:SatE ρ n se env) {s:Nat} {x:SV} (hx:sat se s=.val x):valE env s=x.ev ρ∧x.cl n=true:=by
 have h1:=he.ent s
 have h2:=he.cl s
 rw[hx]at h1 h2
 simp only[EntOk]at h1
 unfold valE
 rw[h1]
 exact⟨rfl,h2⟩
theorem readSl_ok:∀{ce:List (Nat × List Nat)} {xs:List SV} {ρ:Val} {W W':SW},Sat T E ρ G W V→SatE ρ W.nv se env→readSl T se ce W=some (xs,W')→∃ρ',Later ρ W ρ' W'∧Sat T E ρ' G W' V∧evs ρ' xs=cellsE env V ce∧cls W'.nv xs=true
 | [],xs,ρ,W,W',h,he,hr=>by cases hr;exact⟨ρ,.refl _ _,h,rfl,rfl⟩
 |(k,p)::r,xs,ρ,W,W',h,he,hr=>by
  simp only[readSl]at hr
  split at hr
  ·rename_i s hs
   obtain⟨v1,v2⟩:=valE_ok he hs
   split at hr
   ·rename_i x W1 h1
    split at hr
    ·rename_i ys W2 h2
     cases hr
     obtain⟨ρ1,k1,k2,k3,k4⟩:=readPath_ok h v2 h1
     obtain⟨ρ2,m1,m2,m3,m4⟩:=readSl_ok k2 (he.later k1) h2
     obtain⟨q1,q2⟩:=m1.ev k4
     refine⟨ρ2,k1.trans m1,m2,?_,by simp only[cls,q2,m4];rfl⟩
     simp only[evs,q1,m3,k3]
     simp only[cellsE,List.map_cons]
     rw[v1]
    ·cases hr
   ·cases hr
  ·cases hr
theorem slotAt_ok {n:Nat} (he:SatE ρ n se env) {xs:List SV} (hc:cls n xs=true) {v:Nat} {s:SV} (hs:slotAt se xs v=some s):semAt env (evs ρ xs) v=s.ev ρ∧s.cl n=true:=by
 unfold slotAt at hs
 unfold semAt
 rw[blt_eq]at hs
 by_cases hv:v<100000
 ·rw[decide_eq_true hv]at hs
  rw[if_pos hv]
  simp only[cond_true]at hs
  split at hs
  ·rename_i x hx
   cases hs
   exact valE_ok he hx
  ·cases hs
 ·rw[decide_eq_false hv]at hs
  rw[if_neg hv]
  simp only[cond_false]at hs
  have hd:Nat.sub (Nat.div v 100000) 1=v/100000-1:=rfl
  rw[hd,nthS_eq]at hs
  rw[evs_get hs]
  exact⟨rfl,cls_get hs hc⟩
theorem atLin_ok (h:Sat T E ρ G W V) (he:SatE ρ W.nv se env) {xs:List SV} (hc:cls W.nv xs=true) {a:At} {l:Lin} (hl:atLin W se xs a=some l):l.ev ρ=semA env (evs ρ xs) a∧l.cl W.nv=true:=by
 cases a with
 |i v=>
  simp only[atLin]at hl
  split at hl
  ·rename_i s hs
   obtain⟨e1,c1⟩:=slotAt_ok he hc hs
   split at hl
   ·rename_i k x hx
    cases hl
    obtain⟨e2,c2⟩:=toI_ok (ρ:=ρ) hx
    exact⟨by simp only[semA,e1,e2,intOf],c2 _ c1⟩
   ·cases hl
  ·cases hl
 |l v=>
  simp only[atLin]at hl
  split at hl
  ·rename_i s hs
   obtain⟨e1,c1⟩:=slotAt_ok he hc hs
   split at hl
   ·rename_i x hx
    cases hl
    obtain⟨⟨ys,nl,tok,e2,e3⟩,c2⟩:=toLen_ok h hx
    exact⟨by simp only[semA,e1,e2,lenOf,e3],c2 c1⟩
   ·obtain⟨⟨ys,e2,e3⟩,c2⟩:=toSlen_ok h hl
    exact⟨by simp only[semA,e1,e2,lenOf,e3],c2 c1⟩
  ·cases hl
theorem sumLin_ok (h:Sat T E ρ G W V) (he:SatE ρ W.nv se env) {xs:List SV} (hc:cls W.nv xs=true):∀{t:List (Int × At)} {l:Lin},sumLin W se xs t=some l→l.ev ρ=semT env (evs ρ xs) t∧l.cl W.nv=true
 | [],l,hl=>by cases hl;exact⟨by simp[semT],rfl⟩
 |(k,a)::r,l,hl=>by
  simp only[sumLin]at hl
  split at hl
  ·rename_i x y hx hy
   cases hl
   obtain⟨h1,h2⟩:=atLin_ok h he hc hx
   obtain⟨h3,h4⟩:=sumLin_ok h he hc hy
   exact⟨by rw[ev_add,ev_mul,h1,h3];rfl,cl_add (cl_mul h2) h4⟩
  ·cases hl
theorem slotLin_ok (h:Sat T E ρ G W V) (he:SatE ρ W.nv se env) {xs:List SV} (hc:cls W.nv xs=true) {l x:Lin} (hl:slotLin W se xs l=some x):x.ev ρ=semLin env (evs ρ xs) l∧x.cl W.nv=true:=by
 unfold slotLin at hl
 split at hl
 ·rename_i y hy
  cases hl
  obtain⟨h1,h2⟩:=sumLin_ok h he hc hy
  exact⟨by rw[ev_addc,h1];simp only[semLin];omega,cl_addc h2⟩
 ·cases hl
theorem slotLins_ok (h:Sat T E ρ G W V) (he:SatE ρ W.nv se env) {xs:List SV} (hc:cls W.nv xs=true):∀{l x:List Lin},slotLins W se xs l=some x→x.map (Lin.ev ρ)=l.map (semLin env (evs ρ xs))∧∀y∈x,y.cl W.nv=true
 | [],x,hl=>by cases hl;exact⟨rfl,fun y hy=>by cases hy⟩
 |a::l,x,hl=>by
  simp only[slotLins]at hl
  split at hl
  ·rename_i y z hy hz
   cases hl
   obtain⟨h1,h2⟩:=slotLin_ok h he hc hy
   obtain⟨h3,h4⟩:=slotLins_ok h he hc hz
   exact⟨by simp only[List.map_cons,h1,h3],fun w hw=>(List.mem_cons.1 hw).elim (fun e=>e▸h2) (h4 w)⟩
  ·cases hl
theorem geAll_ok (h:Sat T E ρ G W V):∀{l:List Lin},geAll W l=true→∀x∈l,0≤x.ev ρ
 | [],_,x,hx=>by cases hx
 |a::l,hl,x,hx=>by
  obtain⟨h1,h2⟩:=and2 hl
  rcases List.mem_cons.1 hx with rfl|hx
  ·exact geq_ok h.ok h1
  ·exact geAll_ok h h2 x hx
theorem Sat.addGe (h:Sat T E ρ G W V) {l:Lin} (hl:0≤l.ev ρ) (hc:l.cl W.nv=true):Sat T E ρ G (W.addGe l) V:=
 ⟨h.ok.addGe hl,⟨fun x hx=>(List.mem_cons.1 hx).elim (fun e=>e▸hc) (h.clo.ge x),h.clo.fx,h.clo.ln,h.clo.cells,h.clo.live,h.clo.bro,h.clo.wr,h.clo.pr⟩,h.sto.same rfl rfl rfl rfl rfl⟩
theorem addGes_ok:∀{l:List Lin} {W:SW},Sat T E ρ G W V→(∀x∈l,0≤x.ev ρ∧x.cl W.nv=true)→Sat T E ρ G (addGes l W) V∧(addGes l W).nv=W.nv
 | [],W,h,_=>⟨h,rfl⟩
 |a::l,W,h,hx=>by
  obtain⟨h1,h2⟩:=hx a (List.mem_cons_self ..)
  obtain⟨k1,k2⟩:=addGes_ok (l:=l) (h.addGe h1 h2) (fun x hm=>hx x (List.mem_cons_of_mem _ hm))
  exact⟨k1,k2⟩
theorem hasPr_ok (hO:Ok T G ρ W) {k:Nat} {as:List SV} (h:hasPr T W k as=true):phi T k (evs ρ as):=by
 unfold hasPr at h
 rw[Bool.or_eq_true,List.any_eq_true]at h
 rcases h with⟨p,hp,h⟩|h
 ·obtain⟨h1,h2⟩:=and2 h
  have h1:=beqN h1
  have h2:=all2_eqSV h2
  rw[h1,h2];exact hO.pr p hp
 ·exact TabOk.prv hO h
theorem prAll_ok (hO:Ok T G ρ W):∀{q:List (Nat × List SV)},prAll T W q=true→∀p∈q,phi T p.1 (evs ρ p.2)
 | [],_,p,hp=>by cases hp
 |(k,as)::r,h,p,hp=>by
  obtain⟨h1,h2⟩:=and2 h
  rcases List.mem_cons.1 hp with rfl|hp
  ·exact hasPr_ok hO h1
  ·exact prAll_ok hO h2 p hp
theorem addPrs_ok:∀{q:List (Nat × List SV)} {W:SW},Sat T E ρ G W V→(∀p∈q,phi T p.1 (evs ρ p.2)∧cls W.nv p.2=true)→Sat T E ρ G (addPrs q W) V∧(addPrs q W).nv=W.nv
 | [],W,h,_=>⟨h,rfl⟩
 |(k,as)::r,W,h,hq=>by
  obtain⟨h1,h2⟩:=hq _ (List.mem_cons_self ..)
  exact addPrs_ok (q:=r) (h.addPr h2 h1) fun p hp=>hq p (List.mem_cons_of_mem _ hp)
noncomputable def semPr (env:VE) (ys:List AVal) (p:Nat × List Nat):Nat × List AVal:=(p.1,p.2.map (semAt env ys))
theorem slotSVs_ok {n:Nat} (he:SatE ρ n se env) {xs:List SV} (hc:cls n xs=true):∀{l:List Nat} {r:List SV},slotSVs se xs l=some r→evs ρ r=l.map (semAt env (evs ρ xs))∧cls n r=true
 | [],r,h=>by cases h;exact⟨rfl,rfl⟩
 |v::l,r,h=>by
  simp only[slotSVs]at h
  split at h
  ·rename_i s q hs hq
   cases h
   obtain⟨h1,h2⟩:=slotAt_ok he hc hs
   obtain⟨h3,h4⟩:=slotSVs_ok he hc hq
   exact⟨by simp only[evs,List.map_cons,h1,h3],by simp only[cls,h2,h4];rfl⟩
  ·cases h
theorem slotPrs_ok {n:Nat} (he:SatE ρ n se env) {xs:List SV} (hc:cls n xs=true):∀{l:List (Nat × List Nat)} {q:List (Nat × List SV)},slotPrs se xs l=some q→q.map (fun p=>(p.1,evs ρ p.2))=l.map (semPr env (evs ρ xs))∧∀p∈q,cls n p.2=true
 | [],q,h=>by cases h;exact⟨rfl,fun p hp=>by cases hp⟩
 |(k,l)::r,q,h=>by
  simp only[slotPrs]at h
  split at h
  ·rename_i s q' hs hq
   cases h
   obtain⟨h1,h2⟩:=slotSVs_ok he hc hs
   obtain⟨h3,h4⟩:=slotPrs_ok he hc hq
   exact⟨by simp only[List.map_cons,h1,h3,semPr],fun p hp=>(List.mem_cons.1 hp).elim (fun e=>e▸h2) (h4 p)⟩
  ·cases h
theorem slotPrs_pos {n:Nat} (hO:Ok T G ρ W) (he:SatE ρ n se env) {xs:List SV} (hc:cls n xs=true) {l:List (Nat × List Nat)} {q:List (Nat × List SV)} (hq:slotPrs se xs l=some q) (hp:prAll T W q=true):
  ∀p∈l,phi T (semPr env (evs ρ xs) p).1 (semPr env (evs ρ xs) p).2:=by
 intro p hm
 have:semPr env (evs ρ xs) p∈l.map (semPr env (evs ρ xs)):=List.mem_map.2 ⟨p,hm,rfl⟩
 rw[←(slotPrs_ok he hc hq).1]at this
 obtain⟨y,hy,e⟩:=List.mem_map.1 this
 rw[←e];exact prAll_ok hO hp y hy
theorem slotPrs_add {n:Nat} (he:SatE ρ n se env) {xs:List SV} (hc:cls n xs=true) {l:List (Nat × List Nat)} {q:List (Nat × List SV)} (hq:slotPrs se xs l=some q) (hp:∀p∈l,phi T (semPr env (evs ρ xs) p).1 (semPr env (evs ρ xs) p).2):
  ∀p∈q,phi T p.1 (evs ρ p.2)∧cls n p.2=true:=by
 intro p hm
 obtain⟨h1,h2⟩:=slotPrs_ok he hc hq
 refine⟨?_,h2 p hm⟩
 have:(p.1,evs ρ p.2)∈q.map (fun p=>(p.1,evs ρ p.2)):=List.mem_map.2 ⟨p,hm,rfl⟩
 rw[h1]at this
 obtain⟨y,hy,e⟩:=List.mem_map.1 this
 have:=hp y hy
 rw[e]at this;exact this
theorem giveTys_append:∀{a b:List SV} {ts us:List Ty} {W W1:SW},giveTys T W a ts=some W1→giveTys T W (a++b) (ts++us)=giveTys T W1 b us
 | [],b,[],us,W,W1,h=>by cases h;rfl
 | [],b,_::_,us,W,W1,h=>by cases h
 |_::_,b,[],us,W,W1,h=>by cases h
 |x::a,b,t::ts,us,W,W1,h=>by
  simp only[giveTys]at h
  split at h
  ·rename_i W2 h2
   simp only[List.cons_append,giveTys,h2]
   exact giveTys_append h
  ·cases h
theorem freshTys_append:∀{a b:List Ty} {W:SW},freshTys W (a++b)=((freshTys W a).1++(freshTys (freshTys W a).2 b).1,(freshTys (freshTys W a).2 b).2)
 | [],b,W=>rfl
 |t::a,b,W=>by
  simp only[List.cons_append,freshTys]
  rw[freshTys_append]
theorem freshTys_len:∀{a:List Ty} {W:SW},(freshTys W a).1.length=a.length
 | [],W=>rfl
 |t::a,W=>by
  simp only[freshTys,List.length_cons]
  rw[freshTys_len]
def BoxAt (env:VE):List (Nat × List Ty)→List AVal→Prop
 | [],_=>True
 |(s,ts)::r,as=>eat env s=.box (as.take ts.length)∧BoxAt env r (as.drop ts.length)
def tysLA (la:LA):List Ty:=la.sl.map (·.2)++la.bx.flatMap (·.2)
def HoldsLA (la:LA) (env:VE) (as:List AVal):Prop:=(∀(j:Nat) (p:Nat × Ty) (a:AVal),la.sl[j]? =some p→as[j]? =some a→eat env p.1=.val a)∧BoxAt env la.bx (as.drop la.sl.length)
theorem giveSl_ok:∀{sl:List (Nat × Ty)} {W W':SW},giveSl T se sl W=some W'→∃vs:List SV,vs.length=sl.length∧(∀(j:Nat) (p:Nat × Ty) (v:SV),sl[j]? =some p→vs[j]? =some v→sat se p.1=.val v)∧giveTys T W vs (sl.map (·.2))=some W'
 | [],W,W',h=>by cases h;exact⟨[],rfl,fun j p v hp=>by simp at hp,rfl⟩
 |(s,t)::r,W,W',h=>by
  simp only[giveSl]at h
  split at h
  ·rename_i v hv
   split at h
   ·rename_i W1 h1
    obtain⟨vs,k1,k2,k3⟩:=giveSl_ok h
    refine⟨v::vs,by simp[k1],fun j p w hp hw=> ?_,?_⟩
    ·cases j with
     |zero=>
      simp only[List.getElem?_cons_zero,Option.some.injEq]at hp hw
      subst hp;subst hw;exact hv
     |succ j=>exact k2 j p w (by simpa using hp) (by simpa using hw)
    ·simp only[List.map_cons,giveTys,h1];exact k3
   ·cases h
  ·cases h
theorem giveTys_len:∀{a:List SV} {ts:List Ty} {W W1:SW},giveTys T W a ts=some W1→a.length=ts.length
 | [],[],_,_,_=>rfl
 | [],_::_,W,W1,h=>by cases h
 |_::_,[],W,W1,h=>by cases h
 |x::a,t::ts,W,W1,h=>by
  simp only[giveTys]at h
  split at h
  ·simp[giveTys_len h]
  ·cases h
theorem giveBx_ok {n:Nat} (he:SatE ρ n se env):∀{bx:List (Nat × List Ty)} {W W':SW},giveBx T se bx W=some W'→∃vs:List SV,BoxAt env bx (evs ρ vs)∧giveTys T W vs (bx.flatMap (·.2))=some W'
 | [],W,W',h=>by cases h;exact⟨[],trivial,rfl⟩
 |(s,ts)::r,W,W',h=>by
  simp only[giveBx]at h
  split at h
  ·rename_i l hl
   split at h
   ·rename_i W1 h1
    obtain⟨vs,k1,k2⟩:=giveBx_ok he h
    have hlen:=giveTys_len h1
    have h2:=he.ent s
    rw[hl]at h2
    simp only[EntOk]at h2
    have e1:evs ρ (l++vs)=evs ρ l++evs ρ vs:=by simp only[evs_eq,List.map_append]
    have e2:(evs ρ l).length=ts.length:=by rw[evs_len,hlen]
    refine⟨l++vs,⟨?_,?_⟩,?_⟩
    ·rw[e1,←e2,List.take_left']
     ·exact h2
     ·rfl
    ·rw[e1,←e2,List.drop_left']
     ·exact k1
     ·rfl
    ·simp only[List.flatMap_cons]
     rw[giveTys_append h1];exact k2
   ·cases h
  ·cases h
theorem giveLA_ok {n:Nat} (he:SatE ρ n se env) {la:LA} {W W':SW} (h:giveLA T la se W=some W'):∃vs:List SV,HoldsLA la env (evs ρ vs)∧giveTys T W vs (tysLA la)=some W':=by
 unfold giveLA at h
 split at h
 ·rename_i W1 h1
  obtain⟨vs,k1,k2,k3⟩:=giveSl_ok h1
  obtain⟨ws,m1,m2⟩:=giveBx_ok he h
  have e1:evs ρ (vs++ws)=evs ρ vs++evs ρ ws:=by simp only[evs_eq,List.map_append]
  have e2:(evs ρ vs).length=la.sl.length:=by rw[evs_len,k1]
  refine⟨vs++ws,⟨fun j p a hp ha=> ?_,?_⟩,?_⟩
  ·have hj:j<la.sl.length:=(List.getElem?_eq_some_iff.1 hp).1
   rw[e1,List.getElem?_append_left (by rw[e2];exact hj),evs_eq,List.getElem?_map]at ha
   cases hvj:vs[j]? with
   |none=>rw[hvj]at ha;cases ha
   |some v=>
    rw[hvj]at ha
    cases ha
    have h1:=he.ent p.1
    rw[k2 j p v hp hvj]at h1
    exact h1
  ·rw[e1,←e2,List.drop_left']
   ·exact m1
   ·rfl
  ·unfold tysLA
   rw[giveTys_append k3];exact m2
 ·cases h
def putAll:List (Nat × Ty)→List SV→SE→SE
 |(s,_)::r,v::vs,env=>putAll r vs (sput env s (.val v))
 |_,_,env=>env
def putBx:List (Nat × List Ty)→List SV→SE→SE
 | [],_,env=>env
 |(s,ts)::r,vs,env=>putBx r (vs.drop ts.length) (sput env s (.box (vs.take ts.length)))
def putLA (la:LA) (vs:List SV) (env:SE):SE:=putBx la.bx (vs.drop la.sl.length) (putAll la.sl vs env)
theorem newSl_eq:∀{l:List (Nat × Ty)} {env:SE} {W:SW},newSl l env W=(putAll l (freshTys W (l.map (·.2))).1 env,(freshTys W (l.map (·.2))).2)
 | [],env,W=>rfl
 |(s,t)::r,env,W=>by
  simp only[newSl,List.map_cons,freshTys]
  cases hf:freshTy W t with
  |mk v W1=>
   simp only
   rw[newSl_eq]
   cases hg:freshTys W1 (r.map (·.2))with
   |mk ss W2=>simp only[putAll]
theorem newBx_eq:∀{l:List (Nat × List Ty)} {env:SE} {W:SW},newBx l env W=(putBx l (freshTys W (l.flatMap (·.2))).1 env,(freshTys W (l.flatMap (·.2))).2)
 | [],env,W=>rfl
 |(s,ts)::r,env,W=>by
  have e1:∀x:List SV,((freshTys W ts).1++x).take ts.length=(freshTys W ts).1:=fun x=>List.take_left' freshTys_len
  have e2:∀x:List SV,((freshTys W ts).1++x).drop ts.length=x:=fun x=>List.drop_left' freshTys_len
  simp only[newBx,List.flatMap_cons]
  rw[freshTys_append]
  simp only[putBx,e1,e2]
  rw[newBx_eq]
theorem putAll_app:∀{l:List (Nat × Ty)} {a b:List SV} {env:SE},a.length=l.length→putAll l (a++b) env=putAll l a env
 | [],a,b,env,h=>by
  have:a=[]:=List.eq_nil_of_length_eq_zero h
  subst this
  cases b<;>rfl
 |(s,t)::r,[],b,env,h=>by cases h
 |(s,t)::r,v::a,b,env,h=>by
  simp only[List.cons_append,putAll]
  exact putAll_app (by simpa using h)
theorem newLA_eq {la:LA} {env:SE} {W:SW}:newLA la env W=(putLA la (freshTys W (tysLA la)).1 env,(freshTys W (tysLA la)).2):=by
 unfold newLA tysLA putLA
 rw[newSl_eq]
 simp only
 rw[newBx_eq,freshTys_append]
 have hl:(freshTys W (la.sl.map (·.2))).1.length=la.sl.length:=by rw[freshTys_len,List.length_map]
 simp only
 rw[putAll_app hl,List.drop_left' hl]
theorem putAll_ok {n:Nat} {P:Nat→Prop}:∀{l:List (Nat × Ty)} {ss:List SV} {env0:SE} {env:VE},(∀s,(∀p∈l,p.1≠s)→P s→EntOk ρ (sat env0 s) (eat env s)∧(sat env0 s).cl n=true)→l.length≤ss.length→cls n ss=true→
  (∀(j:Nat) (p:Nat × Ty) (v:SV),l[j]? =some p→ss[j]? =some v→eat env p.1=.val (v.ev ρ))→∀s,P s→EntOk ρ (sat (putAll l ss env0) s) (eat env s)∧(sat (putAll l ss env0) s).cl n=true
 | [],ss,env0,env,h0,hl,_,_=>by
  have:putAll [] ss env0=env0:=by cases ss<;>rfl
  rw[this]
  exact fun s hs=>h0 s (fun p hp=>by cases hp) hs
 |(s,t)::r,[],env0,env,_,hl,_,_=>by exact absurd hl (by simp)
 |(s,t)::r,v::vs,env0,env,h0,hl,hc,hv=>by
  refine putAll_ok (l:=r) (ss:=vs) (fun s' hs' hP=> ?_) (by simpa using hl) (and2 hc).2 (fun j p w hp hw=>hv (j+1) p w (by simpa using hp) (by simpa using hw))
  rw[sat_sput]
  by_cases he:s=s'
  ·subst he
   rw[if_pos rfl]
   exact⟨hv 0 (s,t) v rfl rfl,(and2 hc).1⟩
  ·rw[if_neg he]
   exact h0 s' (fun p hp=>(List.mem_cons.1 hp).elim (fun e=>by rw[e];exact he) (hs' p)) hP
theorem cls_take {n:Nat}:∀{l:List SV} (k:Nat),cls n l=true→cls n (l.take k)=true∧cls n (l.drop k)=true
 | [],k,_=>by cases k<;>exact⟨rfl,rfl⟩
 |x::l,0,h=>⟨rfl,h⟩
 |x::l,k+1,h=>by
  obtain⟨h1,h2⟩:=and2 h
  obtain⟨h3,h4⟩:=cls_take (l:=l) k h2
  exact⟨by simp only[List.take_succ_cons,cls,h1,h3];rfl,h4⟩
theorem putBx_ok {n:Nat}:∀{l:List (Nat × List Ty)} {ss:List SV} {env0:SE} {env:VE},(∀s,(∀p∈l,p.1≠s)→EntOk ρ (sat env0 s) (eat env s)∧(sat env0 s).cl n=true)→cls n ss=true→BoxAt env l (evs ρ ss)→
  SatE ρ n (putBx l ss env0) env
 | [],ss,env0,env,h0,_,_=>⟨fun s=>(h0 s (fun p hp=>by cases hp)).1,fun s=>(h0 s (fun p hp=>by cases hp)).2⟩
 |(s,ts)::r,ss,env0,env,h0,hc,hb=>by
  obtain⟨b1,b2⟩:=hb
  obtain⟨c1,c2⟩:=cls_take ts.length hc
  have e1:evs ρ (ss.drop ts.length)=(evs ρ ss).drop ts.length:=by simp only[evs_eq,List.map_drop]
  have e2:evs ρ (ss.take ts.length)=(evs ρ ss).take ts.length:=by simp only[evs_eq,List.map_take]
  refine putBx_ok (l:=r) (fun s' hs'=> ?_) c2 (by rw[e1];exact b2)
  rw[sat_sput]
  by_cases he:s=s'
  ·subst he
   rw[if_pos rfl]
   exact⟨by simp only[EntOk];rw[e2];exact b1,c1⟩
  ·rw[if_neg he]
   exact h0 s' (fun p hp=>(List.mem_cons.1 hp).elim (fun e=>by rw[e];exact he) (hs' p))
def inLA (la:LA) (s:Nat):Prop:=(∀p∈la.sl,p.1≠s)∧∀p∈la.bx,p.1≠s
theorem putLA_ok {n:Nat} {la:LA} {ss:List SV} {env0:SE} {env:VE} (h0:∀s,inLA la s→EntOk ρ (sat env0 s) (eat env s)∧(sat env0 s).cl n=true) (hl:la.sl.length≤ss.length) (hc:cls n ss=true) (hv:HoldsLA la env (evs ρ ss)):SatE ρ n (putLA la ss env0) env:=by
 refine putBx_ok (fun s hs=> ?_) (cls_take _ hc).2 (by
  have:=hv.2
  simp only[evs_eq,List.map_drop]at this⊢;exact this)
 exact putAll_ok (P:=fun s=>∀p∈la.bx,p.1≠s) (fun s' h1 h2=>h0 s' ⟨h1,h2⟩) hl hc (fun j p v hp hw=>hv.1 j p _ hp (evs_get hw)) s hs
theorem sat_unAll:∀{l:List Nat} {env:SE} {s:Nat},sat (unAll l env) s=.un∨sat (unAll l env) s=sat env s
 | [],env,s=>.inr rfl
 |a::l,env,s=>by
  rcases sat_unAll (l:=l) (env:=sput env a .un) (s:=s)with h|h
  ·exact .inl h
  ·simp only[unAll]
   rw[h,sat_sput]
   by_cases he:a=s
   ·rw[if_pos he];exact .inl rfl
   ·rw[if_neg he];exact .inr rfl
theorem sat_unSl:∀{l:List (Nat × Ty)} {env:SE} {s:Nat},(∀p∈l,p.1≠s)→sat (unSl l env) s=sat env s
 | [],env,s,_=>rfl
 |(a,t)::l,env,s,h=>by
  simp only[unSl]
  rw[sat_unSl (fun p hp=>h p (List.mem_cons_of_mem _ hp)),sat_sput,if_neg (h (a,t) (List.mem_cons_self ..))]
theorem sat_unBx:∀{l:List (Nat × List Ty)} {env:SE} {s:Nat},(∀p∈l,p.1≠s)→sat (unBx l env) s=sat env s
 | [],env,s,_=>rfl
 |(a,t)::l,env,s,h=>by
  simp only[unBx]
  rw[sat_unBx (fun p hp=>h p (List.mem_cons_of_mem _ hp)),sat_sput,if_neg (h (a,t) (List.mem_cons_self ..))]
theorem sat_putAll:∀{l:List (Nat × Ty)} {ss:List SV} {env:SE} {s:Nat},(∀p∈l,p.1≠s)→sat (putAll l ss env) s=sat env s
 | [],ss,env,s,_=>by cases ss<;>rfl
 |(a,t)::l,[],env,s,h=>rfl
 |(a,t)::l,v::vs,env,s,h=>by
  simp only[putAll]
  rw[sat_putAll (fun p hp=>h p (List.mem_cons_of_mem _ hp)),sat_sput,if_neg (h (a,t) (List.mem_cons_self ..))]
theorem sat_putBx:∀{l:List (Nat × List Ty)} {ss:List SV} {env:SE} {s:Nat},(∀p∈l,p.1≠s)→sat (putBx l ss env) s=sat env s
 | [],ss,env,s,_=>rfl
 |(a,t)::l,ss,env,s,h=>by
  simp only[putBx]
  rw[sat_putBx (fun p hp=>h p (List.mem_cons_of_mem _ hp)),sat_sput,if_neg (h (a,t) (List.mem_cons_self ..))]
theorem sat_unLA {la:LA} {env:SE} {s:Nat} (h:inLA la s):sat (unLA la env) s=sat env s:=by
 unfold unLA;rw[sat_unBx h.2,sat_unSl h.1]
theorem sat_putLA {la:LA} {ss:List SV} {env:SE} {s:Nat} (h:inLA la s):sat (putLA la ss env) s=sat env s:=by
 unfold putLA;rw[sat_putBx h.2,sat_putAll h.1]
theorem keepP_mem {cells:List (Nat × Nat × SV)}:∀{l:List Nat} {a:SV} {p:Nat × Nat × SV},p∈keepP cells l a→p∈cells
 | [],a,p,h=>by cases h
 |o::r,a,p,h=>by
  simp only[keepP]at h
  split at h
  ·split at h
   ·rename_i x hx
    rcases List.mem_cons.1 h with rfl|h
    ·exact findC_ok hx
    ·exact keepP_mem h
   ·cases h
  ·cases h
theorem keepC_mem {cells:List (Nat × Nat × SV)}:∀{l:List (Nat × List Nat)} {p:Nat × Nat × SV},p∈keepC se cells l→p∈cells
 | [],p,h=>by cases h
 |(s,o)::r,p,h=>by
  simp only[keepC]at h
  cases hb:Nat.beq s 999999 with
  |true=>rw[hb]at h;exact(List.mem_filter.1 h).1
  |false=>
   rw[hb]at h
   simp only[cond_false]at h
   split at h
   ·rcases List.mem_append.1 h with h|h
    ·exact keepP_mem h
    ·exact keepC_mem h
   ·exact keepC_mem h
theorem roundsC_ok {ok:SE→SW→Bool}:∀{l outs:List OUT},roundsC ok l=some outs→∀x e W,(x,e,W)∈l→(x=.normal→ok e W=true)∧(x≠.normal→(x,e,W)∈outs)
 | [],outs,_,x,e,W,h=>by cases h
 |(x0,e0,W0)::l,outs,hb,x,e,W,h=>by
  by_cases hx:x0=.normal
  ·subst hx
   simp only[roundsC]at hb
   obtain⟨h1,h2⟩:=cond_some hb
   rcases List.mem_cons.1 h with h|h
   ·cases h;exact⟨fun _=>h1,fun hh=>absurd rfl hh⟩
   ·exact roundsC_ok h2 x e W h
  ·have hb':∃r,roundsC ok l=some r∧outs=(x0,e0,W0)::r:=by
    cases x0 with
    |normal=>exact absurd rfl hx
    |exit i=>
     simp only[roundsC]at hb
     split at hb
     ·rename_i r hr;cases hb;exact⟨r,hr,rfl⟩
     ·cases hb
    |ret=>
     simp only[roundsC]at hb
     split at hb
     ·rename_i r hr;cases hb;exact⟨r,hr,rfl⟩
     ·cases hb
   obtain⟨r,h1,h2⟩:=hb'
   rcases List.mem_cons.1 h with h|h
   ·cases h;exact⟨fun hn=>absurd hn hx,fun _=>by rw[h2];exact List.mem_cons_self ..⟩
   ·obtain⟨q1,q2⟩:=roundsC_ok h1 x e W h
    exact⟨q1,fun hn=>by rw[h2];exact List.mem_cons_of_mem _ (q2 hn)⟩
theorem loopN_inv {body:EC} {Inv:Nat→VE→VS→Prop} {Q:ER→Prop}
  (hb:∀m env V,Inv m env V→∃x env' V',body env V=.done x env' V'∧(x≠.normal→Q (.done x env' V'))∧(x=.normal→∃m',m'<m∧Inv m' env' V')):
  ∀(n m:Nat) (env:VE) (V:VS),m<n→Inv m env V→Q (loopN body n env V)
 |0,m,env,V,hm,_=>by omega
 |n+1,m,env,V,hm,hi=>by
  obtain⟨x,env',V',h1,h2,h3⟩:=hb m env V hi
  show Q (seqK (loopN body n) (body env V))
  rw[h1]
  cases x with
  |normal=>
   obtain⟨m',q1,q2⟩:=h3 rfl
   exact loopN_inv hb n m' env' V' (by omega) q2
  |exit i=>exact h2 (fun h=>by cases h)
  |ret=>exact h2 (fun h=>by cases h)
theorem head_ok {la:LA} {body:ACode} {W1 HB HW:SW} {hse:SE} {vs:List AVal} (hB:Sat T E ρ G HB V) (hHB:HB= {W1 with cells:=HB.cells})
  (hslots:∀s,inLA la s→EntOk ρ (sat (unAll (fills body) se) s) (eat env s)∧(sat (unAll (fills body) se) s).cl HB.nv=true)
  (hlen:(tysLA la).length=vs.length) (hval:HoldsLA la env vs)
  (hg:∀(j:Nat) (t:Ty) (a:AVal),(tysLA la)[j]? =some t→vs[j]? =some a→Gives T E G V t a) (hnd:(gtoks (tysLA la) vs).Nodup)
  (hd:∀g∈gtoks (tysLA la) vs,∀p∈HB.live,tokOf (ρ p.1)≠some g) {e3:SE} {W3:SW} (h3:newLA la (unAll (fills body) se) HB=(e3,W3)) {W4:SW} {ys:List SV} (h4:readSl T e3 la.ce W3=some (ys,W4)) {l:List Lin} (hl:slotLins W4 e3 ys la.inv=some l)
  (hinv:∀x∈la.inv,0≤semLin env (cellsE env V la.ce) x) {q:List (Nat × List SV)} (hq:slotPrs e3 ys la.pi=some q) (hpr:∀p∈la.pi,phi T (semPr env (cellsE env V la.ce) p).1 (semPr env (cellsE env V la.ce) p).2) (hhe:hse=e3) (hHW:HW=addPrs q (addGes l W4)):
  ∃ρh,Later ρ HB ρh HW∧Sat T E ρh G HW V∧SatE ρh HW.nv hse env∧evs ρh ys=cellsE env V la.ce∧cls HW.nv ys=true:=by
 rw[newLA_eq]at h3
 cases hf:freshTys HB (tysLA la)with
 |mk ss W3'=>
  rw[hf]at h3
  simp only[Prod.mk.injEq]at h3
  obtain⟨rfl,rfl⟩:=h3
  obtain⟨ρh,k1,k2,k3,k4⟩:=freshTys_gives _ hB hlen hg hnd hd hf
  have hss:la.sl.length≤ss.length:=by
   have:=congrArg List.length k3
   rw[evs_len]at this
   rw[this,←hlen]
   simp[tysLA]
  have hE:SatE ρh W3'.nv (putLA la ss (unAll (fills body) se)) env:=by
   refine putLA_ok (fun s hs=> ?_) hss k4 (by rw[k3];exact hval)
   obtain⟨q1,q2⟩:=hslots s hs
   exact⟨q1.agree k1.agr q2,SEnt.mono k1.n q2⟩
  obtain⟨ρr,r1,r2,r3,r4⟩:=readSl_ok k2 hE h4
  have hE':=hE.later r1
  obtain⟨l1,l2⟩:=slotLins_ok r2 hE' r4 hl
  have hall:∀x∈l,0≤x.ev ρr:=by
   intro x hx
   have:x.ev ρr∈l.map (Lin.ev ρr):=List.mem_map.2 ⟨x,hx,rfl⟩
   rw[l1]at this
   obtain⟨y,hy,he⟩:=List.mem_map.1 this
   rw[←he,r3];exact hinv y hy
  obtain⟨a1,a2⟩:=addGes_ok r2 (fun x hx=>⟨hall x hx,l2 x hx⟩)
  obtain⟨b1,b2⟩:=addPrs_ok a1 (fun p hp=>by rw[a2];exact slotPrs_add hE' r4 hq (by rw[r3];exact hpr) p hp)
  rw[a2]at b2
  subst hhe;subst hHW
  have k:=k1.trans r1
  exact⟨ρr,⟨by rw[b2];exact k.n,k.agr⟩,b1,by rw[b2];exact hE',r3,by rw[b2];exact r4⟩
end Go.AL.SX
namespace Go.AL.SX
variable {T:Tab} [TabOk T] {E:En} {ρ ρ':Val} {G G':Nat→Cl} {W:SW} {V:VS} {se:SE} {env:VE}
theorem Sat.lessCells (h:Sat T E ρ G W V) {l:List (Nat × Nat × SV)} (hs:∀p∈l,p∈W.cells):Sat T E ρ G {W with cells:=l} V:=
 ⟨⟨h.ok.ty,h.ok.top,h.ok.ge,h.ok.fx,h.ok.ln,h.ok.pr⟩,⟨h.clo.ge,h.clo.fx,h.clo.ln,fun p hp=>h.clo.cells p (hs p hp),h.clo.live,h.clo.bro,h.clo.wr,h.clo.pr⟩,
  ⟨h.sto.wf,fun p hp=>h.sto.cells p (hs p hp),h.sto.live,h.sto.dis,h.sto.wr,h.sto.M,h.sto.out,h.sto.n,h.sto.g,h.sto.fr,h.sto.cls,h.sto.tok,h.sto.tkw⟩⟩
theorem wf_less {X X':Nat→Nat→Prop} (hx:∀i j,X i j→X' i j) {i:Nat} {d:CD} (h:ObjOk T G V X i d):ObjOk T G V X' i d:=by
 cases d with
 |none=>exact h
 |map kk t=>exact h
 |obj ts=>
  obtain⟨cs,h1,h2,h3⟩:=h
  exact⟨cs,h1,h2,fun j t a ht ha=>let⟨g1,g2⟩:=h3 j t a ht ha;⟨g1,fun t' sz e lo hi he hn=>g2 t' sz e lo hi he (fun hh=>hn (hx i j hh))⟩⟩
theorem base_back {G0:Nat→Cl} {V0:VS} {ρ0:Val} {HB W':SW} {V':VS} (h0:Sat T (anchor E G0 V0) ρ0 G0 HB V0) (h':Sat T (anchor E G0 V0) ρ' G' W' V') (ha:Agree HB.nv ρ0 ρ')
  (hk:HB.cells.all (keptC W'.cells)=true) (hl:∀p∈HB.live,p∈W'.live) (hb:W'.bro.all (fun p=>inBro p.1 p.2 HB.bro)=true):Sat T (anchor E G0 V0) ρ' G' HB V':=by
 have hmono:∀i c,G0 i=.cls c→G' i=.cls c:=fun i c hi=>(h'.sto.cls i (h0.sto.wf i c hi).1 c).2 hi
 refine⟨(h0.ok.mono hmono).agree h0.clo ha,h0.clo,⟨fun i c hi=> ?_,fun p hp=> ?_,fun p hp=>h'.sto.live p (hl p hp),(h0.sto.agree h0.clo ha).dis,(h0.sto.agree h0.clo ha).wr,h0.sto.M,h'.sto.out,h'.sto.n,h'.sto.g,h'.sto.fr,h'.sto.cls,h'.sto.tok,h'.sto.tkw⟩⟩
 ·obtain⟨k1,k2⟩:=h'.sto.wf i c hi
  refine⟨k1,wf_less (fun i j ⟨p,hp,q1,q2⟩=> ?_) k2⟩
  have:=List.all_eq_true.1 hb p hp
  simp only[inBro,List.any_eq_true]at this
  obtain⟨q,hq,he⟩:=this
  obtain⟨e1,e2⟩:=and2 he
  exact⟨q,hq,by rw[←beqN e1];exact q1,by rw[←beqN e2];exact q2⟩
 ·have:=List.all_eq_true.1 hk p hp
  unfold keptC at this
  split at this
  ·rename_i x hx
   have hm:=findC_ok hx
   obtain⟨i,cs,c,k1,k2,k3,k4⟩:=h'.sto.cells _ hm
   have hxe:=eqSV_ok this
   exact⟨i,cs,c,k1,k2,by rw[hxe];exact k3,k4⟩
  ·cases this
theorem hasLive_ok {p:Nat × Nat × Nat} {l:List (Nat × Nat × Nat)} (h:hasLive p l=true):p∈l:=by
 simp only[hasLive,List.any_eq_true]at h
 obtain⟨q,hq,he⟩:=h
 obtain⟨h1,h2⟩:=and2 he
 obtain⟨h2,h3⟩:=and2 h2
 have e:p=q:=by
  obtain⟨a,b,c⟩:=p
  obtain⟨a',b',c'⟩:=q
  have:=beqN h1;have:=beqN h2;have:=beqN h3
  simp_all
 rw[e];exact hq
theorem EndsIn.unanchor (hE:EnOk E) {ρ0:Val} {W0:SW} {G0:Nat→Cl} {V0:VS} (h0:Sat T E ρ0 G0 W0 V0) {outs:List OUT} {er:ER} (h:EndsIn T (anchor E G0 V0) ρ W outs er):EndsIn T E ρ W outs er:=
 let⟨x,env',V',se',W',ρ',G',h1,h2,h3,h4,h5⟩:=h
 ⟨x,env',V',se',W',ρ',G',h1,h2,h3,SX.unanchor hE h0 h4,h5⟩
theorem loop0S_ok {la:LA} {code:ACode} {body:SE→SW→RC} {run:EC} (hb:CodeOk T body run):∀(E:En),EnOk E→∀(ρ0:Val) (G0:Nat→Cl) (W0:SW) (V0:VS) (se:SE) (env0:VE) (outs:List OUT) (xs:List SV),Sat T E ρ0 G0 W0 V0→SatE ρ0 W0.nv se env0→evs ρ0 xs=cellsE env0 V0 la.ce→cls W0.nv xs=true→loop0S T la code body xs se W0=some outs→EndsIn T E ρ0 W0 outs (loopN run rounds env0 V0):=by
 intro E hE ρ0 G0 W0 V0 se env0 outs xs hS hSE hxs hxc ho
 unfold loop0S at ho
 ·split at ho
  ·rename_i hse HW W1 ys hh
   split at ho
   ·rename_i m m0 hm hm0
    obtain⟨hc,ho2⟩:=cond_some ho
    clear ho
    split at ho2
    ·rename_i l hl
     obtain⟨c1,c2⟩:=and2 hc
     obtain⟨hE1,hS1⟩:=anchor_ok hE hS
     unfold headS at hh
     split at hh
     ·rename_i W1x lin0 q0 hg0 hi0 hq0
      obtain⟨hga,hh⟩:=cond_some hh
      obtain⟨hga,hgq⟩:=and2 hga
      cases hns:newLA la (unAll (fills code) se) {W1x with cells:=keepC se W0.cells la.kp}with
      |mk e3 W3=>
       rw[hns]at hh
       simp only at hh
       split at hh
       ·rename_i ys' W4 hrd
        split at hh
        case h_2=>cases hh
        rename_i l3 q3 hl3 hq3
        simp only[Option.some.injEq,Prod.mk.injEq]at hh
        obtain⟨rfl,rfl,rfl,rfl⟩:=hh
        obtain⟨vs0,v2,v3⟩:=giveLA_ok hSE hg0
        obtain⟨lv,rfl,k2,k3,k4,k5,k6⟩:=giveTys_ok hS1 v3
        generalize hHB:({W0 with live:=lv,cells:=keepC se W0.cells la.kp}:SW)=HB at*
        have hHBe:({({W0 with live:=lv}:SW)with cells:=keepC se W0.cells la.kp}:SW)=HB:=by rw[←hHB]
        have hnv:HB.nv=W0.nv:=by rw[←hHB]
        have hliv:HB.live=lv:=by rw[←hHB]
        have hbro:HB.bro=W0.bro:=by rw[←hHB]
        have hcel:HB.cells=keepC se W0.cells la.kp:=by rw[←hHB]
        have hB0:Sat T (anchor E G0 V0) ρ0 G0 HB V0:=by
         rw[←hHB]
         exact(hS1.lessLive k2).lessCells fun p hp=>keepC_mem hp
        have hHBself:HB= {({W0 with live:=lv}:SW)with cells:=HB.cells}:=by rw[hcel];exact hHBe.symm
        have hcl:∀s,(sat (unAll (fills code) se) s).cl HB.nv=true:=by
         intro s
         rw[hnv]
         rcases sat_unAll (l:=fills code) (env:=se) (s:=s)with h|h
         ·rw[h];rfl
         ·rw[h];exact hSE.cl s
        have hinv0:∀x∈la.inv,0≤semLin env0 (cellsE env0 V0 la.ce) x:=by
         obtain⟨q1,_⟩:=slotLins_ok hS1 hSE hxc hi0
         rw[hxs]at q1
         intro x hx
         have hmem:semLin env0 (cellsE env0 V0 la.ce) x∈la.inv.map (semLin env0 (cellsE env0 V0 la.ce)):=List.mem_map.2 ⟨x,hx,rfl⟩
         rw[←q1]at hmem
         obtain⟨y,hy,he⟩:=List.mem_map.1 hmem
         rw[←he];exact geAll_ok hS1 hga y hy
        have hpr0:∀p∈la.pi,phi T (semPr env0 (cellsE env0 V0 la.ce) p).1 (semPr env0 (cellsE env0 V0 la.ce) p).2:=by
         have:=slotPrs_pos hS1.ok hSE hxc hq0 hgq
         rw[hxs]at this;exact this
        have hInv0:∃ρh,Later ρ0 HB ρh (addPrs q3 (addGes l3 W4))∧Sat T (anchor E G0 V0) ρh G0 (addPrs q3 (addGes l3 W4)) V0∧SatE ρh (addPrs q3 (addGes l3 W4)).nv e3 env0∧evs ρh ys'=cellsE env0 V0 la.ce∧cls (addPrs q3 (addGes l3 W4)).nv ys'=true:=by
         refine head_ok (la:=la) (body:=code) (se:=se) (W1:= {W0 with live:=lv}) hB0 hHBself (fun s _=>⟨?_,hcl s⟩) (vs:=evs ρ0 vs0) (by rw[evs_len];exact k3) v2 k4 k5 (fun g hg p hp=>(k6 g hg).2 p (by rw[hliv]at hp;exact hp)) hns hrd hl3 hinv0 hq3 hpr0 rfl rfl
         rcases sat_unAll (l:=fills code) (env:=se) (s:=s)with h|h
         ·rw[h];trivial
         ·rw[h];exact hSE.ent s
        have hsat3:∀s,inLA la s→sat e3 s=sat (unAll (fills code) se) s:=by
         intro s hs
         rw[newLA_eq]at hns
         simp only[Prod.mk.injEq]at hns
         rw[←hns.1,sat_putLA hs]
        refine EndsIn.unanchor hE hS ?_
        have hm0v:m0.ev ρ0=semLin env0 (cellsE env0 V0 la.ce) la.ms:=by rw[←hxs];exact(slotLin_ok hS1 hSE hxc hm0).1
        have t1:=geq_ok hS1.ok c1
        have t2:=geq_ok hS1.ok c2
        simp only[ev_addc,ev_neg]at t1
        rw[hm0v]at t1 t2
        obtain⟨mn,hmn⟩:∃mn:Nat,semLin env0 (cellsE env0 V0 la.ce) la.ms=(mn:Int):=⟨(semLin env0 (cellsE env0 V0 la.ce) la.ms).toNat,by omega⟩
        refine loopN_inv (Inv:=fun m' env V=>∃ρh Gh,Agree HB.nv ρ0 ρh∧Sat T (anchor E G0 V0) ρh Gh (addPrs q3 (addGes l3 W4)) V∧SatE ρh (addPrs q3 (addGes l3 W4)).nv e3 env∧evs ρh ys'=cellsE env V la.ce∧cls (addPrs q3 (addGes l3 W4)).nv ys'=true∧semLin env (cellsE env V la.ce) la.ms=(m':Int)) (Q:=EndsIn T (anchor E G0 V0) ρ0 W0 outs) ?_ rounds mn env0 V0 ?_ ?_
        ·rintro m' env V ⟨ρh,Gh,i1,i2,i3,i5,i6,i4⟩
         have hnv5:HB.nv≤(addPrs q3 (addGes l3 W4)).nv:=let⟨_,q,_,_,_,_⟩:=hInv0;q.n
         obtain⟨x,env',V',se',W',ρ',G',b1,b2,b3,b4,b5⟩:=hb _ hE1 ρh Gh _ V e3 env l i2 i3 hl
         obtain⟨r1,r2⟩:=roundsC_ok ho2 x se' W' b2
         have hagr:Agree HB.nv ρ0 ρ':=i1.trans (b3.agr.less hnv5) (Nat.le_refl _)
         refine⟨x,env',V',b1,fun hx=> ?_,fun hx=> ?_⟩
         ·exact⟨x,env',V',se',W',ρ',G',rfl,r2 hx,⟨by rw[←hnv];exact Nat.le_trans hnv5 b3.n,by rw[←hnv];exact hagr⟩,b4,b5⟩
         ·have hbk:=r1 hx
          unfold backS at hbk
          split at hbk
          case h_2=>cases hbk
          rename_i zs Wr hrr
          obtain⟨ρr,rr1,rr2,hzs,hzc⟩:=readSl_ok b4 b5 hrr
          have b3:=b3.trans rr1
          have b4:=rr2
          have b5:=b5.later rr1
          have hagr:Agree HB.nv ρ0 ρr:=i1.trans (b3.agr.less hnv5) (Nat.le_refl _)
          clear hrr rr1 rr2
          generalize ρr=ρ' at*
          generalize Wr=W' at*
          split at hbk
          ·rename_i W1b lin' m'' qb hgb hib hmb hqb
           obtain⟨z1,hbk⟩:=and2 hbk
           obtain⟨z1,zq⟩:=and2 z1
           obtain⟨z2,hbk⟩:=and2 hbk
           obtain⟨z3,hbk⟩:=and2 hbk
           obtain⟨z4,hbk⟩:=and2 hbk
           obtain⟨z5,hbk⟩:=and2 hbk
           obtain⟨z6,z7⟩:=and2 hbk
           obtain⟨vsb,w2,w3⟩:=giveLA_ok b5 hgb
           obtain⟨lvb,rfl,y2,y3,y4,y5,y6⟩:=giveTys_ok b4 w3
           have hlb:∀p∈HB.live,p∈lvb:=by
            rw[hliv]
            intro p hp
            exact hasLive_ok (List.all_eq_true.1 z4 p hp)
           have hBb:Sat T (anchor E G0 V0) ρ' G' HB V':=base_back hB0 b4 hagr (by rw[hcel];exact z2) (fun p hp=>y2.subset (hlb p hp)) (by rw[hbro];exact z5)
           have hinvb:∀x∈la.inv,0≤semLin env' (cellsE env' V' la.ce) x:=by
            obtain⟨q1,_⟩:=slotLins_ok b4 b5 hzc hib
            rw[hzs]at q1
            intro x hx
            have hmem:semLin env' (cellsE env' V' la.ce) x∈la.inv.map (semLin env' (cellsE env' V' la.ce)):=List.mem_map.2 ⟨x,hx,rfl⟩
            rw[←q1]at hmem
            obtain⟨y,hy,he⟩:=List.mem_map.1 hmem
            rw[←he];exact geAll_ok b4 z1 y hy
           have hprb:∀p∈la.pi,phi T (semPr env' (cellsE env' V' la.ce) p).1 (semPr env' (cellsE env' V' la.ce) p).2:=by
            have:=slotPrs_pos b4.ok b5 hzc hqb zq
            rw[hzs]at this;exact this
           have hhead:=head_ok (env:=env') (la:=la) (body:=code) (se:=se) (W1:= {W0 with live:=lv}) (HW:=addPrs q3 (addGes l3 W4)) (hse:=e3) hBb hHBself (fun s hs=>⟨by
             have h1:=subEnv_ok z3 (pathOf s)
             have h2:sat (unLA la e3) s=sat (unAll (fills code) se) s:=by rw[sat_unLA hs,hsat3 s hs]
             have h3:subE (sat (unLA la e3) s) (sat se' s)=true:=h1
             rw[h2]at h3
             exact subE_ok h3 (b5.ent s),hcl s⟩) (vs:=evs ρ' vsb) (by rw[evs_len];exact y3) w2 y4 y5 (fun g hg p hp=>(y6 g hg).2 p (hlb p hp)) hns hrd hl3 hinvb hq3 hprb rfl rfl
           obtain⟨ρb,f1,f2,f3,f4,f5⟩:=hhead
           obtain⟨e1,e2⟩:=slotLin_ok b4 b5 hzc hmb
           rw[hzs]at e1
           obtain⟨e3',e4⟩:=slotLin_ok i2 i3 i6 hm
           rw[i5]at e3'
           have d1:=geq_ok b4.ok z6
           have d2:=geq_ok b4.ok z7
           have em:m.ev ρ'=m.ev ρh:=(lin_agree b3.agr e4).symm
           have eneg:Int.negSucc 0= -1:=rfl
           simp only[ev_addc,ev_sub,eneg]at d1
           rw[em,e3',i4,e1]at d1
           rw[e1]at d2
           refine⟨(semLin env' (cellsE env' V' la.ce) la.ms).toNat,by omega,ρb,G',hagr.trans f1.agr (Nat.le_refl _),f2,f3,f4,f5,by omega⟩
          ·cases hbk
        ·rw[hmn]at t1
         have:(mn:Int)≤4611686018427387000:=by simp only[topN,Int.ofNat_eq_natCast]at t1;omega
         show mn<4611686018427387904
         omega
        ·obtain⟨ρh,q1,q2,q3,q4,q5⟩:=hInv0
         exact⟨ρh,G0,q1.agr,q2,q3,q4,q5,hmn⟩
       ·cases hh
     ·cases hh
    ·cases ho2
   ·cases ho
  ·cases ho
theorem firstL_some {α β:Type} {k:α→Option β} {r:β}:∀{l:List α},firstL k l=some r→∃a,k a=some r
 | [],h=>by cases h
 |a::l,h=>by
  simp only[firstL]at h
  split at h
  ·rename_i q hq
   cases h;exact⟨a,hq⟩
  ·exact firstL_some h
theorem loopS_ok {la:LA} {code:ACode} {body:SE→SW→RC} {run:EC} (hb:CodeOk T body run):CodeOk T (loopS T la code body) (loopN run rounds):=by
 intro E hE ρ0 G0 W0 V0 se env0 outs hS hSE ho
 unfold loopS at ho
 split at ho
 ·split at ho
  ·rename_i xs W1 hr
   obtain⟨ρ1,k1,k2,k3,k4⟩:=readSl_ok hS hSE hr
   obtain⟨sl,ho⟩:=firstL_some ho
   exact(loop0S_ok (la:= {la with sl:=sl}) hb E hE ρ1 G0 W1 V0 se env0 outs xs k2 (hSE.later k1) k3 k4 ho).later k1
  ·cases ho
 ·rename_i n _
  obtain⟨hn,ho⟩:=cond_some ho
  have:=bleN hn
  exact unroll_ok hb (n+1) rounds (by show n+1≤4611686018427387904;omega) E hE ρ0 G0 W0 V0 se env0 outs hS hSE ho
end Go.AL.SX
