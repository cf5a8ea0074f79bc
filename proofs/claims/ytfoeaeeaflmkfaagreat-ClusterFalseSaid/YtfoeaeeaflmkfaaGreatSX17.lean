/-
  A WALKER OF CODE IN SMALL, part 17: maps.
-/
import Derived.Test.YtfoeaeeaflmkfaaGreatSX13
set_option linter.unusedSectionVars false
set_option linter.unusedVariables false
set_option linter.unusedSimpArgs false
namespace Go.AL.SX
variable {T:Tab} [TabOk T] {E:En} {ρ ρ':Val} {G G':Nat→Cl} {W:SW} {V:VS} {se:SE} {env:VE}
theorem skEq_refl (a:SK):skEq a a=true:=by cases a<;>first|rfl|exact decide_eq_true rfl
theorem sksEq_refl:∀l:List SK,sksEq l l=true
 | []=>rfl
 |a::l=>by simp[sksEq,skEq_refl,sksEq_refl l]
theorem kkEq_refl (k:KeyK):kkEq k k=true:=by cases k<;>first|exact skEq_refl _|exact sksEq_refl _
theorem skEqS_eq {a b:SK} (h:skEqS a b=true):a=b:=by
 cases a<;>cases b<;>first|rfl|(cases h;done)|(have:=kEq_eq h;subst this;rfl)
theorem all2_skEq:∀{a b:List SK},all2 skEqS a b=true→a=b
 | [],[],_=>rfl
 | [],_::_,h=>by cases h
 |_::_,[],h=>by cases h
 |x::a,y::b,h=>by rw[skEqS_eq (and2 h).1,all2_skEq (and2 h).2]
theorem kkEqS_eq {a b:KeyK} (h:kkEqS a b=true):a=b:=by
 cases a<;>cases b<;>first|(cases h;done)|(rw[skEqS_eq h])|(rw[all2_skEq h])
theorem keyS_ok (h:Sat T E ρ G W V) {kk:KeyK} {s:SV} (hs:keyS W kk s=true):kk.is (s.ev ρ)=true:=by
 cases kk with
 |one k=>exact skS_ok h hs
 |row l=>
  simp only[keyS]at hs
  split at hs
  ·rename_i r hr
   obtain⟨e1,_⟩:=toAgg_ok (ρ:=ρ) hr
   rw[e1]
   exact rowIs_ok h hs
  ·cases hs
theorem mapKk_ok {kk kk0:KeyK} {ko:Option KeyK} (h:∀k',ko=some k'→k'=kk0) (he:kkEqS kk0 kk=true):mapKk kk ko=true:=by
 cases ko with
 |none=>rfl
 |some k'=>
  rw[h k' rfl,kkEqS_eq he]
  exact kkEq_refl kk
theorem mfind_mem {key v:AVal}:∀{es:List (AVal × AVal)},mfindF key es=some v→∃e∈es,e.2=v
 | [],h=>by cases h
 |e::r,h=>by
  simp only[mfindF]at h
  cases hk:keyEqF key e.1 with
  |true=>rw[hk]at h;cases h;exact⟨e,List.mem_cons_self ..,rfl⟩
  |false=>rw[hk]at h;obtain⟨e',h1,h2⟩:=mfind_mem h;exact⟨e',List.mem_cons_of_mem _ h1,h2⟩
theorem mput_mem {key v:AVal}:∀{es:List (AVal × AVal)} {e:AVal × AVal},e∈mputF key v es→e.2=v∨e∈es
 | [],e,h=>by simp only[mputF,List.mem_singleton]at h;subst h;exact .inl rfl
 |x::r,e,h=>by
  simp only[mputF]at h
  cases hk:keyEqF key x.1 with
  |true=>
   rw[hk]at h
   rcases List.mem_cons.1 h with rfl|h
   ·exact .inl rfl
   ·exact .inr (List.mem_cons_of_mem _ h)
  |false=>
   rw[hk]at h
   rcases List.mem_cons.1 h with rfl|h
   ·exact .inr (List.mem_cons_self ..)
   ·exact(mput_mem h).imp id (List.mem_cons_of_mem _)
theorem Sat.map (h:Sat T E ρ G W V) {r c:Nat} {kk:KeyK} {t:Ty} {ko:Option KeyK} {es:List (AVal × AVal)} (hg:G r=.cls c) (hk:T.K c=.map kk t) (hw:E.V.n≤r∨E.Tc r)
  (hko:∀k',ko=some k'→k'=kk) (hes:∀e∈es,HasTy T.D G t e.2):Sat T E ρ G W (V.put r (.map ko es)):=by
 obtain⟨r1,r2⟩:=h.sto.wf r c hg
 rw[hk]at r2
 obtain⟨ko0,es0,r3,r4,r5⟩:=r2
 have hat:∀x,x≠r→(V.put r (.map ko es)).at x=V.at x:=fun x hx=>by rw[at_put,if_neg (fun e=>hx e.symm)]
 have hatr:(V.put r (.map ko es)).at r=.map ko es:=by rw[at_put,if_pos rfl]
 have hopn:∀g n sz e,V.at g=.opn n sz e→g≠r:=fun g n sz e hge he=>by subst he;rw[r3]at hge;cases hge
 have hown:∀{sz e x j b},OwnC G V sz e x j b→OwnC G (V.put r (.map ko es)) sz e x j b:=by
  rintro sz e x j b (rfl|⟨xs,nl,g,rfl,h1,h2,h3⟩)
  ·exact .inl rfl
  ·exact .inr ⟨xs,nl,g,rfl,by rw[hat g (hopn g _ _ _ h1)];exact h1,h2,h3⟩
 refine⟨h.ok,h.clo,⟨fun x c' hx=> ?_,fun p hp=> ?_,fun p hp=> ?_,h.sto.dis,h.sto.wr,h.sto.M,h.sto.out,h.sto.n,h.sto.g,fun x hx hnt=> ?_,h.sto.cls,h.sto.tok,h.sto.tkw⟩⟩
 ·obtain⟨k1,k2⟩:=h.sto.wf x c' hx
  refine⟨k1,?_⟩
  by_cases hxr:x=r
  ·subst hxr
   rw[hg]at hx
   injection hx with hx
   subst hx
   rw[hk]
   exact⟨ko,es,hatr,hko,hes⟩
  ·cases hkk:T.K c' with
   |none=>rw[hkk]at k2;exact k2.elim
   |map kk t=>
    rw[hkk]at k2
    obtain⟨ko,es,m1,m2,m3⟩:=k2
    exact⟨ko,es,by rw[hat x hxr];exact m1,m2,m3⟩
   |obj ts'=>
    rw[hkk]at k2
    obtain⟨cs',e1,e2,e3⟩:=k2
    refine⟨cs',by rw[hat x hxr];exact e1,e2,fun j t a ht ha=> ?_⟩
    obtain⟨g1,g2⟩:=e3 j t a ht ha
    exact⟨g1,fun t' sz e lo hi he hn=>hown (g2 t' sz e lo hi he hn)⟩
 ·obtain⟨x,cs',c',k1,k2,k3,k4⟩:=h.sto.cells p hp
  exact⟨x,cs',c',k1,by rw[hat x (fun e=>by subst e;rw[r3]at k2;cases k2)];exact k2,k3,k4⟩
 ·rcases h.sto.live p hp with h1|⟨xs,nl,g,h1,h2,h3,h4,h5⟩
  ·exact .inl h1
  ·exact .inr ⟨xs,nl,g,h1,by rw[hat g (hopn g _ _ _ h2)];exact h2,h3,h4,h5⟩
 ·obtain⟨k1,k2⟩:=h.sto.fr x hx hnt
  exact⟨by rw[hat x (fun e=>by subst e;exact hw.elim (fun hw=>by omega) hnt)];exact k1,k2⟩
theorem map_of (h:Sat T E ρ G W V) {v c:Nat} {n:Bool} (ht:W.tyOf v=.map c n) {kk:KeyK} {t:Ty} (hk:T.K c=.map kk t):ρ v=.map none∨∃r ko es,ρ v=.map (some r)∧G r=.cls c∧V.at r=.map ko es∧(∀k',ko=some k'→k'=kk)∧∀e∈es,HasTy T.D G t e.2:=by
 have hv:=h.ok.ty v
 rw[ht]at hv
 generalize ρ v=a at hv
 cases hv with
 |nilM _=>exact .inl rfl
 |map _ _ r hg=>
  obtain⟨_,r2⟩:=h.sto.wf r c hg
  rw[hk]at r2
  obtain⟨ko,es,r3,r4,r5⟩:=r2
  exact .inr ⟨r,ko,es,rfl,hg,r3,r4,r5⟩
theorem mgetS_ok (h:Sat T E ρ G W V) (he:SatE ρ W.nv se env) {kk:KeyK} {zero:AVal} {ok:Bool} {x i:Opd} {d:Option Nat}:RNok T E ρ W (mgetS T kk zero ok x i d se W) (fun k=>opMget kk zero ok x i d k env V):=by
 unfold mgetS
 split
 ·rename_i v key hx hi
  obtain⟨e1,c1⟩:=ev_ok he hx
  obtain⟨e2,c2⟩:=ev_ok he hi
  refine rn_if fun hkey=> ?_
  have hkis:=keyS_ok h hkey
  split
  ·rename_i c n ht
   split
   ·rename_i kk' t hk
    refine rn_if fun hz=> ?_
    obtain⟨z1,z2⟩:=and2 hz
    have hz0:HasTy T.D G t zero:=conTy_ok z2
    have hfound:∃a b,HasTy T.D G t a∧∀k,opMget kk zero ok x i d k env V=k (setd d (.val (bif ok then .tuple [a,.bool b]else a)) env) V:=by
     have hrun:∀k,opMget kk zero ok x i d k env V=mget1 kk zero ok (key.ev ρ) d k env V (.val (ρ v)):=by
      intro k
      show mget0 kk zero ok x d k env V (eo i env)=_
      rw[e2]
      show(bif kk.is (key.ev ρ)then mget1 kk zero ok (key.ev ρ) d k env V (eo x env)else .bad)=_
      rw[hkis,e1];rfl
     rcases map_of h ht hk with hm|⟨r,ko,es,m1,m2,m3,m4,m5⟩
     ·refine⟨zero,false,hz0,fun k=> ?_⟩
      rw[hrun,hm]
      cases ok<;>rfl
     ·have hmk:=mapKk_ok m4 z1
      cases hf:mfindF (key.ev ρ) es with
      |none=>
       refine⟨zero,false,hz0,fun k=> ?_⟩
       rw[hrun,m1]
       show mgetK kk zero ok (key.ev ρ) d k env V (V.at r)=_
       rw[m3]
       show(bif mapKk kk ko then k (setd d (.val (mRes zero ok (mfindF (key.ev ρ) es))) env) V else .bad)=_
       rw[hmk,hf]
       cases ok<;>rfl
      |some w=>
       obtain⟨e,q1,q2⟩:=mfind_mem hf
       refine⟨w,true,q2▸m5 e q1,fun k=> ?_⟩
       rw[hrun,m1]
       show mgetK kk zero ok (key.ev ρ) d k env V (V.at r)=_
       rw[m3]
       show(bif mapKk kk ko then k (setd d (.val (mRes zero ok (mfindF (key.ev ρ) es))) env) V else .bad)=_
       rw[hmk,hf]
       cases ok<;>rfl
    obtain⟨a,b,ha,hrun⟩:=hfound
    cases hf:freshTy W t with
    |mk s W1=>
     obtain⟨ρ1,k1,k2,k3,k4⟩:=freshTy_ok t h ha hf
     cases ok with
     |false=>
      simp only
      exact rn_val he k1 k2 k3 k4 hrun
     |true=>
      simp only
      cases hg:freshTy W1 .bool with
      |mk bs W2=>
       obtain⟨ρ2,n1,n2,n3,n4⟩:=freshTy_ok .bool k2 (.bool b) hg
       obtain⟨p1,p2⟩:=n1.ev k4
       exact rn_val he (k1.trans n1) n2 (by simp only[SV.ev,evs,p1,k3,n3,cond_true]) (by simp only[SV.cl,cls,p2,n4];rfl) hrun
   ·exact rn_none
  ·exact rn_none
 ·exact rn_none
theorem mwrite_ok (h:Sat T E ρ G W V) {kk:KeyK} {s:SV} {t:Ty} (hm:mwrite T W kk s=some t):∃r c kk' ko es,s.ev ρ=.map (some r)∧G r=.cls c∧T.K c=.map kk' t∧kkEqS kk' kk=true∧V.at r=.map ko es∧(∀k',ko=some k'→k'=kk')∧(∀e∈es,HasTy T.D G t e.2)∧(E.V.n≤r∨E.Tc r):=by
 unfold mwrite at hm
 split at hm
 ·rename_i v
  split at hm
  ·rename_i c hc
   obtain⟨hw,hm⟩:=cond_some hm
   split at hm
   ·rename_i kk' t' hk
    obtain⟨hkk,h2⟩:=cond_some hm
    cases h2
    unfold mclassOf at hc
    split at hc
    ·rename_i c' n ht
     obtain⟨hn,h2⟩:=cond_some hc
     cases h2
     have hnn:=nonnil_lit h.ok hn
     rcases map_of h ht hk with hm|⟨r,ko,es,m1,m2,m3,m4,m5⟩
     ·rw[hm]at hnn;cases hnn
     ·exact⟨r,c,kk',ko,es,m1,m2,hk,hkk,m3,m4,m5,mayWr_ok h hw (by rw[m1];rfl) m2⟩
    ·cases hc
   ·cases hm
  ·cases hm
 ·cases hm
theorem msetS_ok (hE:EnOk E) (h:Sat T E ρ G W V) (he:SatE ρ W.nv se env) {kk:KeyK} {x i v:Opd} {d:Option Nat}:RNok T E ρ W (msetS T kk x i v d se W) (fun k=>opMset kk x i v d k env V):=by
 unfold msetS
 split
 ·rename_i m key a hx hi hv
  obtain⟨e1,c1⟩:=ev_ok he hx
  obtain⟨e2,c2⟩:=ev_ok he hi
  obtain⟨e3,c3⟩:=ev_ok he hv
  split
  ·rename_i t ht
   obtain⟨r,c,kk',ko,es,q1,q2,q3,q4,q5,q6,q7,q8⟩:=mwrite_ok h ht
   refine rn_if fun hb=> ?_
   obtain⟨b1,b2⟩:=and2 hb
   have hkis:=keyS_ok h b1
   have hty:=ofTy_ok h.ok b2
   have heq:=kkEqS_eq q4
   refine rn_one (.refl _ _) (h.map (ko:=some kk) (es:=mputF (key.ev ρ) (a.ev ρ) es) q2 q3 q8 (fun k' hk'=>by cases hk';exact heq.symm) (fun e hm=>(mput_mem hm).elim (fun h=>h▸hty) (q7 e))) (he.set d (e:=.val .top) trivial rfl) fun k=> ?_
   show mset3 kk x i d k env V (eo v env)=_
   rw[e3]
   show mset2 kk (a.ev ρ) x d k env V (eo i env)=_
   rw[e2]
   show(bif kk.is (key.ev ρ)then mset1 kk (key.ev ρ) (a.ev ρ) d k env V (eo x env)else .bad)=_
   rw[hkis,e1,q1]
   show msetK kk r (key.ev ρ) (a.ev ρ) d k env V (V.at r)=_
   rw[q5]
   show(bif mapKk kk ko&&Nat.ble V.g r then _ else _)=_
   rw[mapKk_ok q6 q4,wr_ge hE h q8];rfl
  ·exact rn_none
 ·exact rn_none
theorem mdelS_ok (hE:EnOk E) (h:Sat T E ρ G W V) (he:SatE ρ W.nv se env) {kk:KeyK} {x i:Opd} {d:Option Nat}:RNok T E ρ W (mdelS T kk x i d se W) (fun k=>opMdel kk x i d k env V):=by
 unfold mdelS
 split
 ·rename_i m key hx hi
  obtain⟨e1,c1⟩:=ev_ok he hx
  obtain⟨e2,c2⟩:=ev_ok he hi
  split
  ·rename_i t ht
   obtain⟨r,c,kk',ko,es,q1,q2,q3,q4,q5,q6,q7,q8⟩:=mwrite_ok h ht
   refine rn_if fun hb=> ?_
   have hkis:=keyS_ok h hb
   refine rn_val he (.refl _ _) (h.map (ko:=ko) (es:=mdelF (key.ev ρ) es) q2 q3 q8 q6 (fun e hm=>q7 e (mem_del hm))) (a:=.tuple []) rfl rfl fun k=> ?_
   show mdel0 kk x d k env V (eo i env)=_
   rw[e2]
   show(bif kk.is (key.ev ρ)then mdel1 kk (key.ev ρ) d k env V (eo x env)else .bad)=_
   rw[hkis,e1,q1]
   show mdelK kk r (key.ev ρ) d k env V (V.at r)=_
   rw[q5]
   show(bif mapKk kk ko&&Nat.ble V.g r then _ else _)=_
   rw[mapKk_ok q6 q4,wr_ge hE h q8];rfl
  ·exact rn_none
 ·exact rn_none
theorem mlenS_ok (h:Sat T E ρ G W V) (he:SatE ρ W.nv se env) {x:Opd} {d:Option Nat}:RNok T E ρ W (mlenS T x d se W) (fun k=>opMlen x d k env V):=by
 unfold mlenS
 split
 ·rename_i v hx
  obtain⟨e1,c1⟩:=ev_ok he hx
  split
  ·rename_i c n ht
   split
   ·rename_i kk t hk
    have hrun:∃m:Nat,∀k,opMlen x d k env V=k (setd d (.val (.int .i64 m)) env) V:=by
     rcases map_of h ht hk with hm|⟨r,ko,es,m1,m2,m3,m4,m5⟩
     ·refine⟨0,fun k=> ?_⟩
      show mlen1 d k env V (eo x env)=_
      rw[e1]
      simp only[SV.ev,hm];rfl
     ·refine⟨lenM es 0,fun k=> ?_⟩
      show mlen1 d k env V (eo x env)=_
      rw[e1]
      simp only[SV.ev,m1]
      show mlenK d k env V (V.at r)=_
      rw[m3];rfl
    obtain⟨m,hr⟩:=hrun
    cases hf:freshTy W (.inu .i64)with
    |mk s W1=>
     obtain⟨ρ1,k1,k2,k3,k4⟩:=freshTy_ok (.inu .i64) h (.inu .i64 (m:Int)) hf
     exact rn_val he k1 k2 k3 k4 hr
   ·exact rn_none
  ·exact rn_none
 ·exact rn_none
theorem clearS_ok (hE:EnOk E) (h:Sat T E ρ G W V) (he:SatE ρ W.nv se env) {x:Opd} {d:Option Nat}:RNok T E ρ W (clearS T x d se W) (fun k=>opClearM x d k env V):=by
 unfold clearS
 split
 ·rename_i v hx
  obtain⟨e1,c1⟩:=ev_ok he hx
  split
  ·rename_i c hc
   refine rn_if fun hw=> ?_
   split
   ·rename_i kk t hk
    unfold mclassOf at hc
    split at hc
    ·rename_i c' n ht
     obtain⟨hn,h2⟩:=cond_some hc
     cases h2
     have hnn:=nonnil_lit h.ok hn
     rcases map_of h ht hk with hm|⟨r,ko,es,m1,m2,m3,m4,m5⟩
     ·rw[hm]at hnn;cases hnn
     ·have hwr:=mayWr_ok h hw (by rw[m1];rfl) m2
      refine rn_val he (.refl _ _) (h.map (ko:=none) (es:=[]) m2 hk hwr (fun k' hk'=>by cases hk') (fun e hm=>by cases hm)) (a:=.tuple []) rfl rfl fun k=> ?_
      show clearM1 d k env V (eo x env)=_
      rw[e1]
      simp only[SV.ev,m1]
      show clearMK r d k env V (V.at r)=_
      rw[m3]
      show(bif Nat.ble V.g r then _ else _)=_
      rw[wr_ge hE h hwr];rfl
    ·cases hc
   ·exact rn_none
  ·exact rn_none
 ·exact rn_none
end Go.AL.SX
namespace Go.AL.SX
variable {T:Tab} [TabOk T] {E:En} {ρ ρ':Val} {G G':Nat→Cl} {W:SW} {V:VS} {se:SE} {env:VE}
def SCok (T:Tab) (call:Nat→Callee') (sc:SC):Prop:=
 ∀(E:En) (ρ:Val) (G:Nat→Cl) (W:SW) (V:VS) (f:Nat) (as:List SV) (outs:List (SV × SW)),EnOk E→Sat T E ρ G W V→cls W.nv as=true→sc f as W=some outs→
  ∃a V' s W' ρ' G',call f (evs ρ as) V=.got a V'∧(s,W')∈outs∧Later ρ W ρ' W'∧Sat T E ρ' G' W' V'∧s.ev ρ'=a∧s.cl W'.nv=true
theorem mem_outsS {se:SE} {d:Option Nat} {s:SV} {W':SW}:∀{o:List (SV × SW)},(s,W')∈o→(setS d (.val s) se,W')∈outsS se d o
 | [],h=>by cases h
 |(t,W1)::l,h=>by
  rcases List.mem_cons.1 h with h|h
  ·cases h;exact List.mem_cons_self ..
  ·exact List.mem_cons_of_mem _ (mem_outsS h)
theorem callS_ok {call:Nat→Callee'} {sc:SC} (hsc:SCok T call sc) (hE:EnOk E) (h:Sat T E ρ G W V) (he:SatE ρ W.nv se env) {f:Nat} {as:List SV} {d:Option Nat} {run:EK→ER} (hc:cls W.nv as=true)
  (hrun:∀k,run k=retK d k env (call f (evs ρ as) V)):RNok T E ρ W (callS sc f as d se W) run:=by
 unfold callS
 split
 ·rename_i o ho
  intro outs hout R k hk
  cases hout
  obtain⟨a,V',s,W',ρ',G',k1,k2,k3,k4,k5,k6⟩:=hsc E ρ G W V f as o hE h hc ho
  have:=hk _ (mem_outsS k2) ρ' G' (setd d (.val a) env) V' k3 k4 ((he.later k3).set d (by simp only[EntOk,k5]) k6)
  rw[hrun,k1]
  exact this
 ·exact rn_none
theorem lt_max {v n m:Nat} (h:v<n) (hle:n≤m):v<m:=Nat.lt_of_lt_of_le h hle
mutual
theorem shut_id:∀(a:AVal),a.plain=true→a.shut=a
 |.slice xs nl none,h=>by simp only[AVal.shut];rw[shuts_id xs h]
 |.slice _ _ (some _),h=>by cases h
 |.agg cs,h=>by simp only[AVal.shut];rw[shuts_id cs h]
 |.tuple cs,h=>by simp only[AVal.shut];rw[shuts_id cs h]
 |.iface t v,h=>by simp only[AVal.shut];rw[shut_id v h]
 |.sptr cs,h=>by simp only[AVal.shut];rw[shuts_id cs h]
 |.func fn f c,h=>by
  simp only[AVal.plain,Bool.and_eq_true]at h
  simp only[AVal.shut];rw[shuts_id f h.1,shuts_id c h.2]
 |.top,_=>rfl
 |.bool _,_=>rfl
 |.int _ _,_=>rfl
 |.str _,_=>rfl
 |.nilP,_=>rfl
 |.ptr _ _,_=>rfl
 |.raw _ _,_=>rfl
 |.ref _ _ _ _,_=>rfl
 |.nilI,_=>rfl
 |.nilF,_=>rfl
 |.map _,_=>rfl
theorem shuts_id:∀(l:List AVal),plains l=true→shuts l=l
 | [],_=>rfl
 |a::l,h=>by
  simp only[plains,Bool.and_eq_true]at h
  simp only[shuts];rw[shut_id a h.1,shuts_id l h.2]
end
theorem shuts_eq (l:List AVal):shuts l=l.map AVal.shut:=by
 induction l with
 |nil=>rfl
 |cons a l ih=>simp only[shuts,List.map_cons,ih]
theorem plains_eq (l:List AVal):plains l=l.all AVal.plain:=by
 induction l with
 |nil=>rfl
 |cons a l ih=>simp only[plains,List.all_cons,ih]
theorem plain_all {l:List AVal} (h:∀a∈l,a.plain=true):plains l=true:=by rw[plains_eq];exact List.all_eq_true.2 h
theorem shut_len (a:AVal):lenOf a.shut=lenOf a:=by
 cases a<;>first|rfl|(simp only[AVal.shut,lenOf,shuts_eq,List.length_map])
theorem shut_int (a:AVal):intOf a.shut=intOf a:=by cases a<;>rfl
theorem shut_bool (a:AVal):boolOf a.shut=boolOf a:=by cases a<;>rfl
theorem shut_nil (a:AVal):isNilV a.shut=isNilV a:=by cases a<;>rfl
theorem plainTy_ok {D:Nat→Ty} {K:Nat→CD} {E':Nat→Ty} {P':Nat→List AVal→Prop} {Q':SW→Nat→List SV→Bool} {R':SW→Nat→List SV→List Lit}:∀{f:Nat} {t:Ty} {a:AVal},plainTy f ⟨D,K,E',P',Q',R'⟩ t=true→HasTy D G t a→HasTy D G' t a.shut∧a.shut.plain=true
 |0,t,a,h,_=>by cases h
 |f+1,t,a,h,ha=>by
  unfold plainTy at h
  split at h
  ·cases ha;exact⟨.bool _,rfl⟩
  ·cases ha with|str s _ h1=>exact⟨.str _ _ h1,rfl⟩
  ·cases ha with|int _ _ _ n h1 h2=>exact⟨.int _ _ _ _ h1 h2,rfl⟩
  ·cases ha;exact⟨.inu _ _,rfl⟩
  ·rename_i t0 lo0 hi0
   cases ha with
   |sl _ _ _ xs nl tok h1 h2 h3 h4=>
    have key:∀y∈shuts xs,HasTy D G' t0 y∧y.plain=true:=by
     intro y hy
     rw[shuts_eq]at hy
     obtain⟨x,hx,rfl⟩:=List.mem_map.1 hy
     exact plainTy_ok h (h4 x hx)
    refine⟨.sl _ _ _ _ _ _ (by rw[shuts_eq,List.length_map];exact h1) (by rw[shuts_eq,List.length_map];exact h2) (fun hn=>by rw[h3 hn];rfl) fun y hy=>(key y hy).1,?_⟩
    exact plain_all fun y hy=>(key y hy).2
  ·rename_i l0
   cases ha with
   |agg _ cs hl hx=>
    have key:∀(j:Nat) t c,l0[j]? =some t→(shuts cs)[j]? =some c→HasTy D G' t c∧c.plain=true:=by
     intro j t c ht hc
     rw[shuts_eq,List.getElem?_map]at hc
     cases hcj:cs[j]? with
     |none=>rw[hcj]at hc;cases hc
     |some b=>rw[hcj]at hc;cases hc;exact plainTy_ok (List.all_eq_true.1 h t (List.mem_of_getElem? ht)) (hx j t b ht hcj)
    have hl':l0.length=(shuts cs).length:=by rw[shuts_eq,List.length_map];exact hl
    refine⟨.agg _ _ hl' fun j t c ht hc=>(key j t c ht hc).1,plain_all fun y hy=> ?_⟩
    obtain⟨j,hj⟩:=List.getElem?_of_mem hy
    obtain⟨u,hu⟩:=get_of_len hl' hj
    exact(key j u y hu hj).2
  ·rename_i l0
   cases ha with
   |tup _ cs hl hx=>
    have key:∀(j:Nat) t c,l0[j]? =some t→(shuts cs)[j]? =some c→HasTy D G' t c∧c.plain=true:=by
     intro j t c ht hc
     rw[shuts_eq,List.getElem?_map]at hc
     cases hcj:cs[j]? with
     |none=>rw[hcj]at hc;cases hc
     |some b=>rw[hcj]at hc;cases hc;exact plainTy_ok (List.all_eq_true.1 h t (List.mem_of_getElem? ht)) (hx j t b ht hcj)
    have hl':l0.length=(shuts cs).length:=by rw[shuts_eq,List.length_map];exact hl
    refine⟨.tup _ _ hl' fun j t c ht hc=>(key j t c ht hc).1,plain_all fun y hy=> ?_⟩
    obtain⟨j,hj⟩:=List.getElem?_of_mem hy
    obtain⟨u,hu⟩:=get_of_len hl' hj
    exact(key j u y hu hj).2
  ·cases h
theorem plainTy_ok' {f:Nat} {t:Ty} {a:AVal} (h:plainTy f T t=true) (ha:HasTy T.D G t a):HasTy T.D G' t a.shut∧a.shut.plain=true:=plainTy_ok (K:=T.K) (E':=T.E) (P':=T.Φ) (Q':=T.prv) (R':=T.hook) h ha
def quietV (n:Nat) (ρ:Val):Val:=fun v=>if v<n then ρ v else(ρ v).shut
theorem quietV_agree (n:Nat) (ρ:Val):Agree n ρ (quietV n ρ):=fun v hv=>by simp only[quietV,if_pos hv]
theorem quiet_at (n:Nat) (ρ:Val) (a:At):a.ev (quietV n ρ)=a.ev ρ:=by
 cases a with
 |i v=>
  simp only[At.ev,quietV]
  split
  ·rfl
  ·exact shut_int _
 |l v=>
  simp only[At.ev,quietV]
  split
  ·rfl
  ·exact shut_len _
theorem quiet_T (n:Nat) (ρ:Val):∀l,evT (quietV n ρ) l=evT ρ l
 | []=>rfl
 |(k,a)::r=>by simp only[evT,quiet_at,quiet_T n ρ r]
theorem quiet_lin (n:Nat) (ρ:Val) (l:Lin):l.ev (quietV n ρ)=l.ev ρ:=by simp only[Lin.ev,quiet_T]
theorem quiet_lit (n:Nat) (ρ:Val) (f:Lit):f.ev (quietV n ρ)=f.ev ρ:=by
 cases f with
 |c b=>rfl
 |bv v p=>
  simp only[Lit.ev,quietV]
  split
  ·rfl
  ·rw[shut_bool]
 |nl v p=>
  simp only[Lit.ev,quietV]
  split
  ·rfl
  ·rw[shut_nil]
 |ge l=>simp only[Lit.ev,quiet_lin]
 |eq l p=>simp only[Lit.ev,quiet_lin]
theorem noSl_shut {D:Nat→Ty} {t:Ty} {a:AVal} (h:noSl t=true) (ha:HasTy D G t a):a.shut=a∧a.plain=true:=by
 cases ha<;>first|(cases h;done)|exact⟨rfl,rfl⟩
theorem plainSV_ok {n:Nat} (hty:∀v,HasTy T.D G (W.tyOf v) (ρ v)):∀{f:Nat} {s:SV},plainSV T W n f s=true→s.ev (quietV n ρ)=(s.ev ρ).shut∧(s.ev (quietV n ρ)).plain=true
 |0,s,h=>by cases h
 |f+1,s,h=>by
  have lst:∀{l:List SV},l.all (plainSV T W n f)=true→evs (quietV n ρ) l=shuts (evs ρ l)∧plains (evs (quietV n ρ) l)=true:=by
   intro l hl
   induction l with
   |nil=>exact⟨rfl,rfl⟩
   |cons x l ih=>
    simp only[List.all_cons,Bool.and_eq_true]at hl
    obtain⟨h1,h2⟩:=plainSV_ok hty hl.1
    obtain⟨h3,h4⟩:=ih hl.2
    exact⟨by simp only[evs,shuts,h1,h3],by simp only[evs,plains,h2,h4];rfl⟩
  unfold plainSV at h
  split at h
  ·exact⟨(shut_id _ h).symm,h⟩
  ·exact⟨by simp only[SV.ev,quiet_lin];rfl,rfl⟩
  ·exact⟨by simp only[SV.ev,quiet_lit];rfl,rfl⟩
  ·rename_i v
   obtain⟨h1,h2⟩:=and2 h
   obtain⟨_,p2⟩:=plainTy_ok' (G':=G) h1 (hty v)
   simp only[SV.ev,quietV]
   by_cases hv:v<n
   ·rw[if_pos hv]
    have:noSl (W.tyOf v)=true:=by
     simp only[Bool.or_eq_true]at h2
     rcases h2 with h2|h2
     ·have:=bleN h2;omega
     ·exact h2
    obtain⟨q1,q2⟩:=noSl_shut this (hty v)
    exact⟨q1.symm,q2⟩
   ·rw[if_neg hv];exact⟨rfl,p2⟩
  ·obtain⟨h1,h2⟩:=lst h
   exact⟨by simp only[SV.ev,AVal.shut,h1],h2⟩
  ·obtain⟨h1,h2⟩:=lst h
   exact⟨by simp only[SV.ev,AVal.shut,h1],h2⟩
  ·obtain⟨h1,h2⟩:=lst h
   exact⟨by simp only[SV.ev,AVal.shut,h1],h2⟩
  ·obtain⟨h1,h2⟩:=plainSV_ok hty h
   exact⟨by simp only[SV.ev,AVal.shut,h1],h2⟩
  ·cases h
theorem retype_at {n:Nat} {t0:Tr Ty}:∀{k v:Nat},tg .any (pathOf v) (retype T W n t0 k)=if n≤v∧v<n+k then(bif plainTy fuel T (W.tyOf v)then W.tyOf v else .any)else tg .any (pathOf v) t0
 |0,v=>by rw[if_neg (by omega)];rfl
 |k+1,v=>by
  show tg .any (pathOf v) (ts .any _ (pathOf (n+k)) (retype T W n t0 k))=_
  rw[tg_ts,retype_at (k:=k)]
  by_cases hv:n+k=v
  ·subst hv
   rw[if_pos rfl,if_pos (by omega)];rfl
  ·rw[if_neg (fun hh=>hv (pathOf_inj.1 hh))]
   by_cases hc:n≤v∧v<n+k
   ·rw[if_pos hc,if_pos (by omega)]
   ·rw[if_neg hc,if_neg (by omega)]
theorem quiet1_ok {E':En} {W' W2:SW} {V':VS} {s:SV} (h:Sat T E ρ G W V) (h':Sat T E' ρ' G' W' V') (hn:W.nv≤W'.nv) (ha:Agree W.nv ρ ρ') (hs:s.cl W'.nv=true) (hq:quiet1 T W s W'=some W2):
  Later ρ W (quietV W.nv ρ') W2∧Sat T E (quietV W.nv ρ') G W2 V∧s.ev (quietV W.nv ρ')=(s.ev ρ').shut∧(s.ev ρ').shut.plain=true∧s.cl W2.nv=true:=by
 unfold quiet1 at hq
 obtain⟨hp,h2⟩:=cond_some hq
 cases h2
 have hagr:Agree W.nv ρ (quietV W.nv ρ'):=fun v hv=>(ha v hv).trans (quietV_agree W.nv ρ' v hv)
 have hs1:=h.agree hagr
 obtain⟨p1,p2⟩:=plainSV_ok (ρ:=ρ') h'.ok.ty hp
 have hsub:W.nv+(W'.nv-W.nv)=W'.nv:=by omega
 refine⟨⟨hn,hagr⟩,⟨⟨fun v=> ?_,fun v hv=> ?_,fun l hl=> ?_,fun f hf=> ?_,fun p hp=> ?_,hs1.ok.pr⟩,⟨h'.clo.ge,h'.clo.fx,h'.clo.ln,fun p hp=> ?_,fun p hp=>lt_max (h.clo.live p hp) hn,fun p hp=>lt_max (h.clo.bro p hp) hn,fun p hp=>lt_max (h.clo.wr p hp) hn,fun p hp=>svs_mono hn _ (h.clo.pr p hp)⟩,
  ⟨hs1.sto.wf,hs1.sto.cells,hs1.sto.live,hs1.sto.dis,hs1.sto.wr,hs1.sto.M,hs1.sto.out,hs1.sto.n,hs1.sto.g,hs1.sto.fr,hs1.sto.cls,hs1.sto.tok,hs1.sto.tkw⟩⟩,p1,by rw[←p1];exact p2,hs⟩
 ·show HasTy T.D G (tg .any (pathOf v) (retype T W' W.nv W.ty (Nat.sub W'.nv W.nv))) _
  rw[retype_at]
  by_cases hv:W.nv≤v∧v<W.nv+Nat.sub W'.nv W.nv
  ·rw[if_pos hv]
   cases hpt:plainTy fuel T (W'.tyOf v)with
   |false=>exact .any _
   |true=>
    simp only[cond_true,quietV]
    rw[if_neg (by omega)]
    exact(plainTy_ok' hpt (h'.ok.ty v)).1
  ·rw[if_neg hv]
   exact hs1.ok.ty v
 ·show tg .any (pathOf v) (retype T W' W.nv W.ty (Nat.sub W'.nv W.nv))=.any
  have hv:W'.nv≤v:=hv
  have e:Nat.sub W'.nv W.nv=W'.nv-W.nv:=rfl
  rw[retype_at,if_neg (by rw[e];omega)]
  exact h.ok.top v (by omega)
 ·rw[quiet_lin];exact h'.ok.ge l hl
 ·rw[quiet_lit];exact h'.ok.fx f hf
 ·rw[quiet_lin]
  have:=h'.ok.ln p hp
  simp only[quietV]
  split
  ·exact this
  ·rw[shut_len];exact this
 ·obtain⟨k1,k2⟩:=h.clo.cells p hp
  exact⟨lt_max k1 hn,sv_mono hn _ k2⟩
theorem hush_ok (h:Sat T E ρ G W V):∃E',EnOk E'∧E'.V=V.guard∧Sat T E' ρ G (hush W) V.guard:=by
 refine⟨⟨V.guard,G,fun _=>False⟩,⟨Nat.le_refl _,fun _ h=>h.elim,fun g i j hg=>⟨h.sto.tkw g i j hg,fun h=>h.elim⟩,h.sto.out⟩,rfl,⟨⟨h.ok.ty,h.ok.top,h.ok.ge,h.ok.fx,h.ok.ln,h.ok.pr⟩,⟨h.clo.ge,h.clo.fx,h.clo.ln,h.clo.cells,(fun p hp=>by cases hp),h.clo.bro,(fun v hv=>by cases hv),h.clo.pr⟩,?_⟩⟩
 exact⟨h.sto.wf,h.sto.cells,(fun p hp=>by cases hp),.nil,(fun v hv=>by cases hv),(fun c hc=>by cases hc),h.sto.out,Nat.le_refl _,rfl,fun x _ _=>⟨rfl,rfl⟩,fun x _ c=>Iff.rfl,fun g _ i j hg=>.inl hg,h.sto.tkw⟩
theorem quietS_mem {d:Option Nat} {s:SV} {W' W0:SW}:∀{o:List (SV × SW)} {outs:List (SE × SW)},quietS T d se W0 o=some outs→(s,W')∈o→∃W2,quiet1 T W0 s W'=some W2∧(setS d (.val s) se,W2)∈outs
 | [],outs,_,h=>by cases h
 |(t,W1)::l,outs,hq,h=>by
  simp only[quietS]at hq
  split at hq
  ·rename_i W2 r h1 h2
   cases hq
   rcases List.mem_cons.1 h with h|h
   ·cases h;exact⟨W2,h1,List.mem_cons_self ..⟩
   ·obtain⟨W3,q1,q2⟩:=quietS_mem h2 h
    exact⟨W3,q1,List.mem_cons_of_mem _ q2⟩
  ·cases hq
theorem callQ_ok {call:Nat→Callee'} {sc:SC} (hsc:SCok T call sc) (h:Sat T E ρ G W V) (he:SatE ρ W.nv se env) {f:Nat} {as:List SV} {d:Option Nat} {run:EK→ER} (hc:cls W.nv as=true)
  (hrun:∀k,run k=quietR d k env V (call f (evs ρ as) V.guard)):RNok T E ρ W (callQ T sc d se f as W) run:=by
 unfold callQ
 split
 ·rename_i o ho
  intro outs hout R k hk
  obtain⟨E',hE',_,hS⟩:=hush_ok h
  obtain⟨a,V',s,W',ρ',G',k1,k2,k3,k4,k5,k6⟩:=hsc E' ρ G (hush W) V.guard f as o hE' hS hc ho
  obtain⟨W2,q1,q2⟩:=quietS_mem hout k2
  obtain⟨m1,m2,m3,m4,m5⟩:=quiet1_ok h k4 k3.n k3.agr k6 q1
  have:=hk _ q2 _ G (setd d (.val a.shut) env) V m1 m2 ((he.later m1).set d (by simp only[EntOk,m3,k5]) m5)
  rw[hrun,k1]
  rw[k5]at m4
  show R (bif a.shut.plain then k (setd d (.val a.shut) env) V else .bad)
  rw[m4]
  exact this
 ·exact rn_none
end Go.AL.SX
namespace Go.AL.SX
variable {T:Tab} [TabOk T] {E:En} {ρ ρ':Val} {G G':Nat→Cl} {W:SW} {V:VS} {se:SE} {env:VE}
theorem cat_ok {β:Type} {a b:Option (List β)} {r:List β} (h:cat a b=some r):∃x y,a=some x∧b=some y∧r=x++y:=by
 unfold cat at h
 split at h
 ·cases h;exact⟨_,_,rfl,rfl,rfl⟩
 ·cases h
theorem evs_append (ρ:Val) (l r:List SV):evs ρ (l++r)=evs ρ l++evs ρ r:=by rw[evs_eq,evs_eq,evs_eq,List.map_append]
theorem cls_append {n:Nat} {l r:List SV} (h:cls n l=true) (k:cls n r=true):cls n (l++r)=true:=by
 induction l with
 |nil=>exact k
 |cons a l ih=>simp only[List.cons_append,cls,(and2 h).1,ih (and2 h).2];rfl
def KOk (T:Tab) (E:En) (G:Nat→Cl) (V:VS) (se:SE) (env:VE) (kk:Nat→List SV→SW→RN) (rf:Nat→List AVal→EK→ER):Prop:=
 ∀(ρ:Val) (W:SW) (g:Nat) (l:List SV),Sat T E ρ G W V→SatE ρ W.nv se env→cls W.nv l=true→RNok T E ρ W (kk g l W) (rf g (evs ρ l))
theorem rn_later {W1:SW} {ρ1:Val} {r r':RN} {run:EK→ER} (hl:Later ρ W ρ1 W1) (h:RNok T E ρ1 W1 r run) (hr:∀outs,r'=some outs→∃o,r=some o∧∀p∈o,p∈outs):RNok T E ρ W r' run:=by
 intro outs ho R k hk
 obtain⟨o,h1,h2⟩:=hr outs ho
 exact h o h1 R k fun p hp ρ' G' env' V' q1 q2 q3=>hk p (h2 p hp) ρ' G' env' V' (hl.trans q1) q2 q3
theorem altFn_ok {kk:Nat→List SV→SW→RN} {rf:Nat→List AVal→EK→ER} (hk:KOk T E G V se env kk rf) (h:Sat T E ρ G W V) (he:SatE ρ W.nv se env) {args:List SV} (hc:cls W.nv args=true) {f:Nat} {fs cs:List Ty} {a c:List AVal}
  (h1:fs.length=a.length) (h2:cs.length=c.length) (ha:∀(j:Nat) (t:Ty) (v:AVal),fs[j]? =some t→a[j]? =some v→HasTy T.D G t v) (hcc:∀(j:Nat) (t:Ty) (v:AVal),cs[j]? =some t→c[j]? =some v→HasTy T.D G t v):
  ∀{as:List (Nat × List Ty × List Ty)},(f,fs,cs)∈as→RNok T E ρ W (altFn kk args W as) (rf f (a++evs ρ args++c))
 | [],hm=>by cases hm
 |(g,x,y)::r,hm=>by
  have step:∀outs,altFn kk args W ((g,x,y)::r)=some outs→∃x1 W1 y1 W2 o o',freshTys W x=(x1,W1)∧freshTys W1 y=(y1,W2)∧kk g (x1++args++y1) W2=some o∧altFn kk args W r=some o'∧outs=o++o':=by
   intro outs ho
   simp only[altFn]at ho
   cases hf:freshTys W x with
   |mk x1 W1=>
    rw[hf]at ho
    simp only at ho
    cases hg:freshTys W1 y with
    |mk y1 W2=>
     rw[hg]at ho
     obtain⟨o,o',q1,q2,q3⟩:=cat_ok ho
     exact⟨x1,W1,y1,W2,o,o',rfl,hg,q1,q2,q3⟩
  rcases List.mem_cons.1 hm with hm|hm
  ·cases hm
   intro outs ho R k hR
   obtain⟨x1,W1,y1,W2,o,o',q1,q2,q3,q4,q5⟩:=step outs ho
   obtain⟨ρ1,m1,m2,m3,m4⟩:=freshTys_ok fs h h1 ha q1
   obtain⟨ρ2,n1,n2,n3,n4⟩:=freshTys_ok cs m2 h2 hcc q2
   obtain⟨p1,p2⟩:=n1.evs m4
   obtain⟨r1,r2⟩:=(m1.trans n1).evs hc
   have:=hk ρ2 W2 f (x1++args++y1) n2 (he.later (m1.trans n1)) (cls_append (cls_append p2 r2) n4) o q3
   rw[evs_append,evs_append,p1,m3,r1,n3]at this
   exact this R k fun p hp ρ' G' env' V' z1 z2 z3=>hR p (by rw[q5];exact List.mem_append_left _ hp) ρ' G' env' V' ((m1.trans n1).trans z1) z2 z3
  ·refine rn_later (.refl _ _) (altFn_ok hk h he hc h1 h2 ha hcc hm) fun outs ho=> ?_
   obtain⟨x1,W1,y1,W2,o,o',q1,q2,q3,q4,q5⟩:=step outs ho
   exact⟨o',q4,fun p hp=>by rw[q5];exact List.mem_append_right _ hp⟩
theorem fnS_ok {kk:Nat→List SV→SW→RN} {rf:Nat→List AVal→EK→ER} (hk:KOk T E G V se env kk rf) (h:Sat T E ρ G W V) (he:SatE ρ W.nv se env) {args:List SV} (hc:cls W.nv args=true) {s:SV} (hs:s.cl W.nv=true) {run:EK→ER}
  (hrun:∀f a c,s.ev ρ=.func (.func f) a c→∀k,run k=rf f (a++evs ρ args++c) k):RNok T E ρ W (fnS T kk args W s) run:=by
 unfold fnS
 split
 ·rename_i g a c
  have:=hk ρ W g (a++args++c) h he (cls_append (cls_append (and2 hs).1 hc) (and2 hs).2)
  rw[evs_append,evs_append]at this
  have e:run=rf g (evs ρ a++evs ρ args++evs ρ c):=funext (hrun g _ _ rfl)
  rw[e];exact this
 ·rename_i g a c
  have:=hk ρ W g (ks a++args++ks c) h he (cls_append (cls_append (cls_ks _ _) hc) (cls_ks _ _))
  rw[evs_append,evs_append,evs_ks,evs_ks]at this
  have e:run=rf g (a++evs ρ args++c):=funext (hrun g _ _ rfl)
  rw[e];exact this
 ·rename_i v
  have hv:=D2_ty (h.ok.ty v)
  split
  ·rename_i as n ht
   refine rn_if fun hn=> ?_
   have hnn:=nonnil_lit h.ok hn
   rw[ht]at hv
   simp only[SV.ev]at hrun
   generalize ρ v=b at hv hnn hrun
   cases hv with
   |fn _ _ f fs cs a c hm h1 h2 ha hcc=>
    have e:run=rf f (a++evs ρ args++c):=funext (hrun f a c rfl)
    rw[e]
    exact altFn_ok hk h he hc h1 h2 ha hcc hm
   |nilF _=>cases hnn
  ·exact rn_none
 ·exact rn_none
theorem altInv_ok {kk:Nat→List SV→SW→RN} {rf:Nat→List AVal→EK→ER} (hk:KOk T E G V se env kk rf) (h:Sat T E ρ G W V) (he:SatE ρ W.nv se env) {tbl:List (Nat × Nat)} {args:List SV} (hc:cls W.nv args=true) {t:Nat} {ty:Ty} {v:AVal} (hv:HasTy T.D G ty v) {run:EK→ER}
  (hrun:∀f,tblGet tbl t=some f→∀k,run k=rf f (v::evs ρ args) k):
  ∀{as:List (Nat × Ty)},(t,ty)∈as→RNok T E ρ W (altInv kk tbl args W as) run
 | [],hm=>by cases hm
 |(t0,ty0)::r,hm=>by
  have step:∀outs,altInv kk tbl args W ((t0,ty0)::r)=some outs→∃f s W1 o o',tblGet tbl t0=some f∧freshTy W ty0=(s,W1)∧kk f (s::args) W1=some o∧altInv kk tbl args W r=some o'∧outs=o++o':=by
   intro outs ho
   simp only[altInv]at ho
   split at ho
   ·rename_i f hf
    cases hg:freshTy W ty0 with
    |mk s W1=>
     rw[hg]at ho
     obtain⟨o,o',q1,q2,q3⟩:=cat_ok ho
     exact⟨f,s,W1,o,o',hf,rfl,q1,q2,q3⟩
   ·cases ho
  rcases List.mem_cons.1 hm with hm|hm
  ·cases hm
   intro outs ho R k hR
   obtain⟨f,s,W1,o,o',q1,q2,q3,q4,q5⟩:=step outs ho
   obtain⟨ρ1,m1,m2,m3,m4⟩:=freshTy_ok ty h hv q2
   obtain⟨r1,r2⟩:=m1.evs hc
   have:=hk ρ1 W1 f (s::args) m2 (he.later m1) (by simp only[cls,m4,r2];rfl) o q3
   simp only[evs,m3,r1]at this
   rw[hrun f q1]
   exact this R k fun p hp ρ' G' env' V' z1 z2 z3=>hR p (by rw[q5];exact List.mem_append_left _ hp) ρ' G' env' V' (m1.trans z1) z2 z3
  ·refine rn_later (.refl _ _) (altInv_ok hk h he hc hv hrun hm) fun outs ho=> ?_
   obtain⟨f,s,W1,o,o',q1,q2,q3,q4,q5⟩:=step outs ho
   exact⟨o',q4,fun p hp=>by rw[q5];exact List.mem_append_right _ hp⟩
theorem invS_ok {kk:Nat→List SV→SW→RN} {rf:Nat→List AVal→EK→ER} (hk:KOk T E G V se env kk rf) (h:Sat T E ρ G W V) (he:SatE ρ W.nv se env) {tbl:List (Nat × Nat)} {args:List SV} (hc:cls W.nv args=true) {s:SV} (hs:s.cl W.nv=true) {run:EK→ER}
  (hrun:∀t v f,s.ev ρ=.iface t v→tblGet tbl t=some f→∀k,run k=rf f (v::evs ρ args) k):RNok T E ρ W (invS T kk tbl args W s) run:=by
 unfold invS
 split
 ·rename_i t x
  split
  ·rename_i f hf
   have:=hk ρ W f (x::args) h he (by simp only[cls,show x.cl W.nv=true from hs,hc];rfl)
   have e:run=rf f (x.ev ρ::evs ρ args):=funext (hrun t _ f rfl hf)
   rw[e];exact this
  ·exact rn_none
 ·rename_i t x
  split
  ·rename_i f hf
   have:=hk ρ W f (.k x::args) h he (by simp only[cls,SV.cl,hc];rfl)
   have e:run=rf f (x::evs ρ args):=funext (hrun t _ f rfl hf)
   rw[e];exact this
  ·exact rn_none
 ·rename_i v
  have hv:=D2_ty (h.ok.ty v)
  split
  ·rename_i as n ht
   refine rn_if fun hn=> ?_
   have hnn:=nonnil_lit h.ok hn
   rw[ht]at hv
   simp only[SV.ev]at hrun
   generalize ρ v=b at hv hnn hrun
   cases hv with
   |ifc _ _ t ty w hm hw=>exact altInv_ok hk h he hc hw (fun f hf=>hrun t w f rfl hf) hm
   |nilI _=>cases hnn
  ·exact rn_none
 ·exact rn_none
theorem tasV_ok {u t:Nat} {s:SV} {v:AVal} {n:Nat} (hs:s.ev ρ=v) (hc:s.cl n=true):(tasV u t s).ev ρ=.tuple (bif Nat.beq u t then [v,.bool true]else [.nilP,.bool false])∧(tasV u t s).cl n=true:=by
 unfold tasV
 cases Nat.beq u t with
 |true=>exact⟨by simp only[cond_true,SV.ev,evs,hs],by simp only[cond_true,SV.cl,cls,hc];rfl⟩
 |false=>exact⟨rfl,rfl⟩
theorem tasAlts_ok (h:Sat T E ρ G W V) (he:SatE ρ W.nv se env) {t:Nat} {d:Option Nat} {u:Nat} {ty:Ty} {v:AVal} (hv:HasTy T.D G ty v) {run:EK→ER}
  (hr:∀k,run k=k (setd d (.val (.tuple (bif Nat.beq u t then [v,.bool true]else [.nilP,.bool false]))) env) V):∀{as:List (Nat × Ty)},(u,ty)∈as→RNok T E ρ W (some (tasAlts t d se W as)) run
 | [],hm=>by cases hm
 |(u0,ty0)::r,hm=>by
  rcases List.mem_cons.1 hm with hm|hm
  ·cases hm
   cases hf:freshTy W ty with
   |mk s W1=>
    obtain⟨ρ1,m1,m2,m3,m4⟩:=freshTy_ok ty h hv hf
    obtain⟨e1,c1⟩:=tasV_ok (u:=u) (t:=t) m3 m4
    refine rn_later (.refl _ _) (rn_val he m1 m2 e1 c1 hr) fun outs ho=>⟨_,rfl,fun p hp=> ?_⟩
    cases ho
    rw[List.mem_singleton.1 hp]
    simp only[tasAlts,hf]
    exact List.mem_cons_self ..
  ·refine rn_later (.refl _ _) (tasAlts_ok h he hv hr hm) fun outs ho=>⟨_,rfl,fun p hp=> ?_⟩
   cases ho
   simp only[tasAlts]
   exact List.mem_cons_of_mem _ hp
theorem tasS_ok (h:Sat T E ρ G W V) (he:SatE ρ W.nv se env) {t:Nat} {x:Opd} {d:Option Nat} {run:EK→ER} (hrun:∀k,run k=opP (pTas t x) d k env V):RNok T E ρ W (tasS T t x d se W) run:=by
 have hp:∀{a:AVal} {b:AVal},eo x env=.val a→tassertE t (.val a)=some (.val b)→∀k,run k=k (setd d (.val b) env) V:=by
  intro a b h1 h2 k
  rw[hrun]
  show @Option.rec Ent (fun _=>ER) .bad (fun e=>k (setd d e env) V) (tassertE t (eo x env))=_
  rw[h1,h2]
 unfold tasS
 split
 ·rename_i u s hx
  obtain⟨e1,c1⟩:=ev_ok he hx
  obtain⟨e2,c2⟩:=tasV_ok (ρ:=ρ) (u:=u) (t:=t) (s:=s) rfl c1
  exact rn_val he (.refl _ _) h e2 c2 (hp e1 rfl)
 ·rename_i u v hx
  obtain⟨e1,c1⟩:=ev_ok he hx
  obtain⟨e2,c2⟩:=tasV_ok (ρ:=ρ) (u:=u) (t:=t) (s:=.k v) (n:=W.nv) rfl rfl
  exact rn_val he (.refl _ _) h e2 c2 (hp e1 rfl)
 ·rename_i hx
  obtain⟨e1,c1⟩:=ev_ok he hx
  exact rn_val he (.refl _ _) h (a:=.tuple [.nilP,.bool false]) rfl rfl (hp e1 rfl)
 ·rename_i v hx
  obtain⟨e1,c1⟩:=ev_ok he hx
  have hv:=D2_ty (h.ok.ty v)
  split
  ·rename_i as n ht
   rw[ht]at hv
   simp only[SV.ev]at e1
   generalize hb:ρ v=b at hv e1
   cases hv with
   |ifc _ _ u ty w hm hw=>
    refine rn_later (.refl _ _) (tasAlts_ok h he hw (hp e1 rfl) hm) fun outs ho=>⟨_,rfl,fun p hp=> ?_⟩
    cases ho
    exact List.mem_append_left _ hp
   |nilI _=>
    cases hn:holds W (.nl v false)with
    |true=>
     have:=nonnil_lit h.ok hn
     rw[hb]at this;cases this
    |false=>
     refine rn_later (.refl _ _) (rn_val (s:=.tup [.k .nilP,.k (.bool false)]) he (.refl _ _) h (a:=.tuple [.nilP,.bool false]) rfl rfl (hp e1 rfl)) fun outs ho=>⟨_,rfl,fun p hp=> ?_⟩
     cases ho
     rw[List.mem_singleton.1 hp]
     exact List.mem_append_right _ (List.mem_singleton.2 rfl)
  ·exact rn_none
 ·exact rn_none
theorem sat_mapS {f:SEnt→SEnt} (hf:f .un=.un) (env:SE) (t:Nat):sat (mapS f env) t=f (sat env t):=by
 have key:∀(p:Pa) (e:SE),tg .un p (mapS f e)=f (tg .un p e):=by
  intro p
  induction p with
  |z=>intro e;cases e<;>simp[mapS,tg,hf]
  |a p ih=>intro e;cases e<;>simp[mapS,tg,hf,ih]
  |b p ih=>intro e;cases e<;>simp[mapS,tg,hf,ih]
 exact key _ _
theorem box_ok {n:Nat} (he:SatE ρ n se env) {s:Nat} {l:List SV} (hl:cls n l=true):SatE ρ n (boxS se s l) (boxAt env s (evs ρ l)):=by
 have hm:SatE ρ n (mapS (killS s) se) (mapTr (killE s) env):=by
  refine⟨fun t=> ?_,fun t=> ?_⟩
  ·rw[sat_mapS rfl,eat_mapTr rfl]
   have h1:=he.ent t
   generalize sat se t=x at h1
   cases x with
   |val a=>simp only[EntOk]at h1;rw[h1];rfl
   |box a=>simp only[EntOk]at h1;rw[h1];rfl
   |un=>trivial
   |lp b o=>
    simp only[EntOk]at h1
    rw[h1]
    show EntOk ρ (bif Nat.beq b s then .un else .lp b o) (bif Nat.beq b s then .val .top else .lptr b o)
    cases Nat.beq b s<;>first|rfl|trivial
  ·rw[sat_mapS rfl]
   have h1:=he.cl t
   generalize sat se t=x at h1
   cases x with
   |lp b o=>
    show SEnt.cl n (bif Nat.beq b s then .un else .lp b o)=true
    cases Nat.beq b s<;>rfl
   |_=>exact h1
 exact hm.put s (x:=.box l) rfl hl
theorem forget_ok {n:Nat} (he:SatE ρ n se env) (l:List (Nat × AOper)):SatE ρ n (forgetS l se) (forgetE l env):=by
 unfold forgetS forgetE
 cases newBoxes l with
 |nil=>exact he
 |cons b B=>
  show SatE ρ n (mapS _ se) (mapTr (killK (b::B)) env)
  have hh:∀x,hasN x (b::B)=hasE (b::B) x:=by
   intro x
   rw[hasE_eq]
   simp only[hasN,List.contains_eq_any_beq]
   congr 1
   funext w
   rw[beq_eq]
   rfl
  refine⟨fun t=> ?_,fun t=> ?_⟩
  ·rw[sat_mapS rfl,eat_mapTr rfl]
   have h1:=he.ent t
   generalize sat se t=x at h1
   cases x with
   |val a=>simp only[EntOk]at h1;rw[h1];rfl
   |box a=>simp only[EntOk]at h1;rw[h1];rfl
   |un=>trivial
   |lp c o=>
    simp only[EntOk]at h1
    rw[h1]
    show EntOk ρ (bif hasN c (b::B)then .un else .lp c o) (bif hasE (b::B) c then .val .top else .lptr c o)
    rw[hh]
    cases hasE (b::B) c<;>first|rfl|trivial
  ·rw[sat_mapS rfl]
   have h1:=he.cl t
   generalize sat se t=x at h1
   cases x with
   |lp c o=>
    show SEnt.cl n (bif hasN c (b::B)then .un else .lp c o)=true
    cases hasN c (b::B)<;>rfl
   |_=>exact h1
end Go.AL.SX
namespace Go.AL.SX
variable {T:Tab} [TabOk T] {E:En} {ρ ρ':Val} {G G':Nat→Cl} {W:SW} {V:VS} {se:SE} {env:VE}
theorem rn_ext {r:RN} {run run':EK→ER} (h:RNok T E ρ W r run) (he:∀k,run' k=run k):RNok T E ρ W r run':=by
 have:run'=run:=funext he
 rw[this];exact h
theorem rn_pureS (h:Sat T E ρ G W V) (he:SatE ρ W.nv se env) (o:AOp) (d:Option Nat) {run:EK→ER} (hrun:∀m,OpAs o env V m→∀k,run k=Option.rec .bad (fun e=>k (setd d e env) V) m):RNok T E ρ W (one se d (pureS T se W o)) run:=by
 rcases pureS_ok h he o with hn|⟨m,h1,h2⟩
 ·rw[hn];exact rn_none
 ·exact rn_pure he h2 (hrun m h1)
theorem opS_ok {an:An} {call:Nat→Callee'} {sc:SC} (hsc:SCok T call sc) (hE:EnOk E) (h:Sat T E ρ G W V) (he:SatE ρ W.nv se env) (o:AOp) (d:Option Nat):RNok T E ρ W (opS T an sc o d se W) (fun k=>opE call o d k env V):=by
 have pure:RNok T E ρ W (one se d (pureS T se W o)) (fun k=>opE call o d k env V):=rn_pureS h he o d fun m hm k=>hm.1 call d k
 have kok:KOk T E G V se env (fun g a W=>callS sc g a d se W) (fun f as k=>retK d k env (call f as V)):=fun ρ W g l h he hl=>callS_ok hsc hE h he hl fun k=>rfl
 cases o with
 |pick c a b=>exact rn_pick h he fun k=>rfl
 |box cs=>
  cases d with
  |none=>exact rn_none
  |some s=>exact rn_one (.refl _ _) h (by have:=box_ok he (s:=s) (cls_ks W.nv cs);rw[evs_ks]at this;exact this) fun k=>rfl
 |boxv x=>
  simp only[opS]
  cases d with
  |none=>exact rn_none
  |some s=>
   cases hx:evS se x with
   |none=>exact rn_none
   |some v=>
    refine rn_if fun hb=> ?_
    obtain⟨e1,c1⟩:=ev_ok he hx
    obtain⟨k1,k2,k3⟩:=cellsS_ok h hb
    refine rn_one (.refl _ _) h (box_ok he (s:=s) (k3 _ c1)) fun k=> ?_
    show opBoxv2 s k env V (eo x env)=_
    rw[e1]
    show(bif(v.ev ρ).cells.all AVal.one then k (boxAt env s (v.ev ρ).cells) V else .bad)=_
    rw[k2,k1];rfl
 |obj cs=>
  simp only[opS]
  cases cs with
  |nil=>exact rn_none
  |cons c cs=>exact objS_ok h he (cls_ks _ _) (by simp[ks]) fun k=>by rw[evs_ks];rfl
 |objv x=>
  simp only[opS]
  cases hx:evS se x with
  |none=>exact rn_none
  |some v=>
   refine rn_if fun hb=> ?_
   obtain⟨e1,c1⟩:=ev_ok he hx
   obtain⟨k1,k2,k3⟩:=cellsS_ok h hb
   by_cases hne:cellsS v=[]
   ·rw[hne];exact rn_none
   ·refine objS_ok h he (k3 _ c1) hne fun k=> ?_
    show opObjv2 d k env V (eo x env)=_
    rw[e1]
    show(bif(v.ev ρ).cells.all AVal.one then opObj (v.ev ρ).cells d k env V else .bad)=_
    rw[k2,k1];rfl
 |bslice own sz e n z ps=>
  cases own with
  |true=>exact bslS_ok h he
  |false=>exact pure
 |load agg n x=>exact opLoadS_ok h he
 |store n x v=>exact opStoreS_ok hE h he
 |append sz e bytes x y=>exact firstR_ok fun c=>appS_ok hE h he
 |mmap=>
  simp only[opS]
  split
  ·exact mnewS_ok h he fun k=>rfl
  ·exact rn_none
 |mget kk z ok x i=>exact mgetS_ok h he
 |mset kk x i v=>exact msetS_ok hE h he
 |mdel kk x i=>exact mdelS_ok hE h he
 |mlen x=>exact mlenS_ok h he
 |clearM x=>exact clearS_ok hE h he
 |tassert t x=>exact tasS_ok h he fun k=>rfl
 |call f args=>
  simp only[opS]
  split
  ·rename_i l hl
   obtain⟨e1,c1⟩:=evsS_ok he hl
   refine callS_ok hsc hE h he c1 fun k=> ?_
   show callK call f d k env V (evals args env)=_
   rw[e1];rfl
  ·exact rn_none
 |callv f args=>
  simp only[opS]
  split
  ·rename_i s l hs hl
   obtain⟨e1,c1⟩:=ev_ok he hs
   obtain⟨e2,c2⟩:=evsS_ok he hl
   refine fnS_ok kok h he c2 c1 fun g a c hv k=> ?_
   show @Option.rec (List AVal) (fun _=>ER) .bad (fun as=>callvK call as d k env V (eo f env)) (evals args env)=_
   rw[e2,e1,hv];rfl
  ·exact rn_none
 |inv tbl x args=>
  simp only[opS]
  split
  ·rename_i s l hs hl
   obtain⟨e1,c1⟩:=ev_ok he hs
   obtain⟨e2,c2⟩:=evsS_ok he hl
   refine invS_ok kok h he c2 c1 fun t v g hv hg k=> ?_
   show @Option.rec (List AVal) (fun _=>ER) .bad (fun as=>invK call tbl as d k env V (eo x env)) (evals args env)=_
   rw[e2,e1,hv]
   show invF call v (evs ρ l) d k env V (tblF tbl t)=_
   rw[tblF_eq,hg];rfl
  ·exact rn_none
 |_=>first|exact pure|exact rn_none
theorem opDS_ok {call:Nat→Callee'} {sc:SC} (hsc:SCok T call sc) (h:Sat T E ρ G W V) (he:SatE ρ W.nv se env) {B:List Nat} (o:AOp) (d:Option Nat):RNok T E ρ W (opDS T sc B o d se W) (fun k=>opD call B o d k env V):=by
 have pure:RNok T E ρ W (one se d (pureS T se W o)) (fun k=>opD call B o d k env V):=rn_pureS h he o d fun m hm k=>hm.2 call B d k
 have kok:KOk T E G V se env (fun g a W=>callQ T sc d se g a W) (fun f as k=>quietR d k env V (call f as V.guard)):=fun ρ W g l h he hl=>callQ_ok hsc h he hl fun k=>rfl
 cases o with
 |pick c a b=>exact rn_pick h he fun k=>rfl
 |load agg n x=>
  simp only[opDS]
  have hgen:∀(_:∀k,opD call B (.load agg n x) d k env V=opLoad agg n x d k env V),RNok T E ρ W (opLoadS T agg n x d se W) (fun k=>opD call B (.load agg n x) d k env V):=fun hh=>rn_ext (opLoadS_ok h he) hh
  have hd:∀k,opD call B (.load agg n x) d k env V=ret1 d k env V (loadD B agg n env V (eo x env)):=fun k=>rfl
  obtain⟨h1,_⟩:=eo_ok he x
  split
  ·rename_i s o hx
   rw[hx]at h1
   simp only[EntOk]at h1
   cases hb:hasN s B with
   |true=>exact rn_none
   |false=>
    refine hgen fun k=> ?_
    rw[hd,h1]
    have hc:B.contains s=false:=by
     rw[←hb]
     simp only[hasN,List.contains_eq_any_beq]
     congr 1
     funext w
     rw[beq_eq];rfl
    show ret1 d k env V (bif B.contains s then none else loadB agg n o (eat env s))=ret1 d k env V (loadE agg n env V (eo x env))
    rw[hc,h1,loadE_eq];rfl
  ·rename_i hx
   have hnl:∀s o,eo x env≠.lptr s o∨eoS se x=.un:=by
    intro s o
    cases hxx:eoS se x with
    |val a=>rw[hxx]at h1;simp only[EntOk]at h1;rw[h1];exact .inl (fun hh=>by cases hh)
    |box a=>rw[hxx]at h1;simp only[EntOk]at h1;rw[h1];exact .inl (fun hh=>by cases hh)
    |lp a b=>exact absurd hxx (hx a b)
    |un=>exact .inr rfl
   by_cases hun:eoS se x=.un
   ·have:opLoadS T agg n x d se W=none:=by unfold opLoadS;rw[hun];rfl
    rw[this];exact rn_none
   ·refine hgen fun k=> ?_
    rw[hd]
    show ret1 d k env V _=ret1 d k env V (loadE agg n env V (eo x env))
    congr 1
    cases hxe:eo x env with
    |val a=>rfl
    |box a=>rfl
    |lptr s o=>exact((hnl s o).elim (fun hh=>hh hxe) hun).elim
 |mget kk z ok x i=>exact rn_ext (mgetS_ok h he) fun k=>rfl
 |mlen x=>exact rn_ext (mlenS_ok h he) fun k=>rfl
 |call f args=>
  simp only[opDS]
  split
  ·rename_i l hl
   obtain⟨e1,c1⟩:=evsS_ok he hl
   refine callQ_ok hsc h he c1 fun k=> ?_
   show @Option.rec (List AVal) (fun _=>ER) .bad (fun as=>quietK call f as d k env V) (evals args env)=_
   rw[e1];rfl
  ·exact rn_none
 |callv f args=>
  simp only[opDS]
  split
  ·rename_i s l hs hl
   obtain⟨e1,c1⟩:=ev_ok he hs
   obtain⟨e2,c2⟩:=evsS_ok he hl
   refine fnS_ok kok h he c2 c1 fun g a c hv k=> ?_
   show @Option.rec (List AVal) (fun _=>ER) .bad (fun as=>callvDK call as d k env V (eo f env)) (evals args env)=_
   rw[e2,e1,hv];rfl
  ·exact rn_none
 |inv tbl x args=>
  simp only[opDS]
  split
  ·rename_i s l hs hl
   obtain⟨e1,c1⟩:=ev_ok he hs
   obtain⟨e2,c2⟩:=evsS_ok he hl
   refine invS_ok kok h he c2 c1 fun t v g hv hg k=> ?_
   show @Option.rec (List AVal) (fun _=>ER) .bad (fun as=>invDK call tbl as d k env V (eo x env)) (evals args env)=_
   rw[e2,e1,hv]
   show invDF call v (evs ρ l) d k env V (tblF tbl t)=_
   rw[tblF_eq,hg];rfl
  ·exact rn_none
 |_=>first|exact pure|exact rn_none
theorem undone_ok {n:Nat}:EntOk ρ undoneS undone∧undoneS.cl n=true:=⟨rfl,rfl⟩
theorem guarded_ok (h:Sat T E ρ G W V) (he:SatE ρ W.nv se env) {g:Option (Nat × Bool)} {d:Option Nat} {kk:SE→SW→RN} {ck:EK→EK} {run:EK→ER}
  (hk:∀W',Later ρ W ρ W'→Sat T E ρ G W' V→SatE ρ W'.nv se env→RNok T E ρ W' (kk se W') (fun k=>ck k env V))
  (hrun0:g=none→∀k,run k=ck k env V)
  (hrun1:∀j want t,g=some (j,want)→eat env j=.val (.bool t)→∀k,run k=bif t==want then ck k env V else k (setd d undone env) V)
  (hrun2:∀j want,g=some (j,want)→eat env j=.val (.tuple [])→∀k,run k=k (setd d undone env) V):RNok T E ρ W (guarded g d kk se W) run:=by
 unfold guarded
 split
 ·exact rn_ext (hk W (.refl _ _) h he) (hrun0 rfl)
 ·rename_i j want
  have hj:=he.ent j
  have hjc:=he.cl j
  split
  ·rename_i hs
   rw[hs]at hj
   exact rn_one (.refl _ _) h (he.set d (x:=undoneS) (e:=undone) rfl rfl) (hrun2 j want rfl hj)
  ·rename_i s hs
   rw[hs]at hj hjc
   simp only[EntOk]at hj
   split
   ·rename_i f hf
    obtain⟨e1,c1⟩:=toB_ok (ρ:=ρ) hf
    have hr:=hrun1 j want (f.ev ρ) rfl (by rw[hj,e1])
    have hfc:(bif want then f else f.neg).cl W.nv=true:=by
     cases want with
     |true=>exact c1 _ hjc
     |false=>exact cl_negl (c1 _ hjc)
    have hfe:(bif want then f else f.neg).ev ρ=(f.ev ρ==want):=by
     cases want with
     |true=>simp
     |false=>simp only[cond_false,neg_ev];cases f.ev ρ<;>rfl
    refine rn_both h hfc fun W' k1 k2 k3=> ?_
    have he':SatE ρ W'.nv se env:=by rw[k3];exact he
    rw[hfe]
    cases hv:(f.ev ρ==want)with
    |true=>exact rn_ext (hk W' k1 k2 he') fun k=>by rw[hr,hv];rfl
    |false=>exact rn_one (.refl _ _) k2 (he'.set d (x:=undoneS) (e:=undone) rfl rfl) fun k=>by rw[hr,hv];rfl
   ·exact rn_none
  ·exact rn_none
theorem operS_ok {an:An} {call:Nat→Callee'} {sc:SC} (hsc:SCok T call sc) (hE:EnOk E) (h:Sat T E ρ G W V) (he:SatE ρ W.nv se env) (o:AOper):RNok T E ρ W (operS T an sc o se W) (fun k=>operE call o k env V):=by
 obtain⟨d,g,op⟩:=o
 refine guarded_ok h he (ck:=opE call op d) (fun W' k1 k2 k3=>opS_ok hsc hE k2 k3 op d) (fun hg k=>by subst hg;rfl) (fun j want t hg ht k=> ?_) (fun j want hg ht k=> ?_)
 ·simp only at hg;subst hg
  show operG2 call op d want k env V (eat env j)=_
  rw[ht];rfl
 ·simp only at hg;subst hg
  show operG2 call op d want k env V (eat env j)=_
  rw[ht];rfl
theorem operDS_ok {call:Nat→Callee'} {sc:SC} (hsc:SCok T call sc) (h:Sat T E ρ G W V) (he:SatE ρ W.nv se env) {B:List Nat} (o:AOper):RNok T E ρ W (guarded o.guard o.dst (opDS T sc B o.op o.dst) se W) (fun k=>operD call B o k env V):=by
 obtain⟨d,g,op⟩:=o
 refine guarded_ok h he (ck:=opD call B op d) (fun W' k1 k2 k3=>opDS_ok hsc k2 k3 op d) (fun hg k=>by subst hg;rfl) (fun j want t hg ht k=> ?_) (fun j want hg ht k=> ?_)
 ·simp only at hg;subst hg
  show operDG2 call B op d want k env V (eat env j)=_
  rw[ht];rfl
 ·simp only at hg;subst hg
  show operDG2 call B op d want k env V (eat env j)=_
  rw[ht];rfl
theorem bindN_ok {kk:SE→SW→RN}:∀{l:List (SE × SW)} {outs:List (SE × SW)},bindN kk l=some outs→∀p∈l,∃o,kk p.1 p.2=some o∧∀q∈o,q∈outs
 | [],outs,_,p,hp=>by cases hp
 |(e,W)::l,outs,h,p,hp=>by
  simp only[bindN]at h
  obtain⟨x,y,h1,h2,h3⟩:=cat_ok h
  rcases List.mem_cons.1 hp with rfl|hp
  ·exact⟨x,h1,fun q hq=>by rw[h3];exact List.mem_append_left _ hq⟩
  ·obtain⟨o,q1,q2⟩:=bindN_ok h2 p hp
   exact⟨o,q1,fun q hq=>by rw[h3];exact List.mem_append_right _ (q2 q hq)⟩
theorem seqN_ok {r:RN} {kk:SE→SW→RN} {run1 run2:EK→ER} {ck:EK→EK} (h1:RNok T E ρ W r run1) (hrun:∀k,run2 k=run1 (ck k))
  (h2:∀se' W' ρ' G' env' V',Sat T E ρ' G' W' V'→SatE ρ' W'.nv se' env'→RNok T E ρ' W' (kk se' W') (fun k=>ck k env' V')):RNok T E ρ W (seqN r kk) run2:=by
 intro outs ho R k hk
 cases r with
 |none=>cases ho
 |some l=>
  simp only[seqN]at ho
  rw[hrun]
  refine h1 l rfl R (ck k) fun p hp ρ' G' env' V' q1 q2 q3=> ?_
  obtain⟨o,m1,m2⟩:=bindN_ok ho p hp
  exact h2 p.1 p.2 ρ' G' env' V' q2 q3 o m1 R k fun q hq ρ'' G'' env'' V'' z1 z2 z3=>hk q (m2 q hq) ρ'' G'' env'' V'' (q1.trans z1) z2 z3
theorem opsS_ok {an:An} {call:Nat→Callee'} {sc:SC} (hsc:SCok T call sc) (hE:EnOk E):∀(l:List AOper) {ρ:Val} {G:Nat→Cl} {W:SW} {V:VS} {se:SE} {env:VE},Sat T E ρ G W V→SatE ρ W.nv se env→RNok T E ρ W (opsS T an sc l se W) (fun k=>opsE call l k env V)
 | [],_,_,_,_,_,_,h,he=>rn_one (.refl _ _) h he fun k=>rfl
 |o::l,_,_,_,_,_,_,h,he=>seqN_ok (ck:=opsE call l) (operS_ok hsc hE h he o) (fun k=>rfl) fun _ _ _ _ _ _ h' he'=>opsS_ok hsc hE l h' he'
theorem hasE_N (B:List Nat) (s:Nat):hasE B s=hasN s B:=by
 rw[hasE_eq]
 simp only[hasN,List.contains_eq_any_beq]
 congr 1
 funext w
 rw[beq_eq];rfl
theorem stOkS_ok {n:Nat} (he:SatE ρ n se env) {B:List Nat} {o:AOp} (h:stOkS B se o=true):stOkE B env o=true:=by
 unfold stOkS at h
 split at h
 ·rename_i m x v
  obtain⟨h1,_⟩:=eo_ok he x
  show stOkE2 B (eo x env)=true
  split at h
  ·rename_i s q hx
   rw[hx]at h1
   simp only[EntOk]at h1
   rw[h1]
   show hasE B s=true
   rw[hasE_N];exact h
  ·rename_i a hx
   rw[hx]at h1
   simp only[EntOk]at h1
   rw[h1];rfl
  ·cases h
 ·rename_i hne
  cases o<;>first|rfl|exact absurd rfl (hne _ _ _)
theorem stBoxS_ok {n:Nat} (he:SatE ρ n se env) {o:AOp} (h:stBoxS se o=true):stBoxE env o=true:=by
 unfold stBoxS at h
 split at h
 ·rename_i m x v
  obtain⟨h1,_⟩:=eo_ok he x
  show isL (eo x env)=true
  split at h
  ·rename_i s q hx
   rw[hx]at h1
   simp only[EntOk]at h1
   rw[h1];rfl
  ·cases h
 ·cases h
theorem ldBoxS_ok {n:Nat} (he:SatE ρ n se env) {o:AOp} (h:ldBoxS se o=true):ldBoxE env o=true:=by
 unfold ldBoxS at h
 split at h
 ·rename_i a m x
  obtain⟨h1,_⟩:=eo_ok he x
  show isL (eo x env)=true
  split at h
  ·rename_i s q hx
   rw[hx]at h1
   simp only[EntOk]at h1
   rw[h1];rfl
  ·cases h
 ·cases h
theorem ldG_ok {o:AOp} (h:ldBoxE env o=true) (g:Option (Nat × Bool)):ldBoxGE env o g=true:=by
 cases g with
 |none=>exact h
 |some jw=>
  show ldG2 jw.2 env o (eat env jw.1)=true
  unfold ldG2
  split
  ·rename_i t _
   cases t==jw.2 with
   |true=>exact h
   |false=>rfl
  ·rfl
theorem kindS_ok {an:An} {call:Nat→Callee'} {sc:SC} (hsc:SCok T call sc) (hE:EnOk E) (h:Sat T E ρ G W V) (he:SatE ρ W.nv se env) {B:List Nat} (κ:Nat) (o:AOper):RNok T E ρ W (kindS T an sc B κ o se W) (fun k=>kindE call B κ o k env V):=by
 unfold kindS
 split
 ·refine rn_if fun hb=>rn_ext (operS_ok hsc hE h he o) fun k=> ?_
  show(bif stOkE B env o.op then operE call o k env V else .bad)=_
  rw[stOkS_ok he hb];rfl
 ·exact operS_ok hsc hE h he o
 ·refine rn_if fun hb=>rn_ext (operS_ok hsc hE h he o) fun k=> ?_
  obtain⟨b1,b2⟩:=and2 hb
  show(bif stOkE B env o.op&&stBoxE env o.op then operE call o k env V else .bad)=_
  rw[stOkS_ok he b1,stBoxS_ok he b2];rfl
 ·refine rn_if fun hb=>rn_ext (operDS_ok hsc h he o) fun k=> ?_
  show(bif ldBoxGE env o.op o.guard then operD call B o k env V else .bad)=_
  rw[ldG_ok (ldBoxS_ok he hb)];rfl
 ·refine rn_if fun hb=>rn_ext (operDS_ok hsc h he o) fun k=> ?_
  show(bif ldBoxGE env o.op o.guard then operD call (cutW B) o k env V else .bad)=_
  rw[ldG_ok (ldBoxS_ok he hb)];rfl
 ·rename_i n2 n3 n4 n5 n6
  refine rn_ext (operDS_ok hsc h he o) fun k=> ?_
  match κ,n2,n3,n4,n5,n6 with
  |0,_,_,_,_,_=>rfl
  |1,_,_,_,_,_=>rfl
  |2,n2,_,_,_,_=>exact absurd rfl n2
  |3,_,n3,_,_,_=>exact absurd rfl n3
  |4,_,_,n4,_,_=>exact absurd rfl n4
  |5,_,_,_,n5,_=>exact absurd rfl n5
  |6,_,_,_,_,n6=>exact absurd rfl n6
  |_+7,_,_,_,_,_=>rfl
theorem drawnS_ok {an:An} {call:Nat→Callee'} {sc:SC} (hsc:SCok T call sc) (hE:EnOk E) {B:List Nat}:∀(l:List (Nat × AOper)) {ρ:Val} {G:Nat→Cl} {W:SW} {V:VS} {se:SE} {env:VE},Sat T E ρ G W V→SatE ρ W.nv se env→RNok T E ρ W (drawnS' T an sc B l se W) (fun k=>drawnS call B l k env V)
 | [],_,_,_,_,_,_,h,he=>rn_one (.refl _ _) h he fun k=>rfl
 |(κ,o)::l,_,_,_,_,_,_,h,he=>seqN_ok (ck:=drawnS call B l) (kindS_ok hsc hE h he κ o) (fun k=>rfl) fun _ _ _ _ _ _ h' he'=>drawnS_ok hsc hE l h' he'
end Go.AL.SX
