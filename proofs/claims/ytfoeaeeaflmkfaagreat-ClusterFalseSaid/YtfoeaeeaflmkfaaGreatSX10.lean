/-
  A WALKER OF CODE IN SMALL, part 10: the other operations that look at the slots alone.
-/
import Derived.Test.YtfoeaeeaflmkfaaGreatSX7
set_option linter.unusedSectionVars false
set_option linter.unusedVariables false
set_option linter.unusedSimpArgs false
namespace Go.AL.SX
variable {T:Tab} [TabOk T] {E:En} {ρ ρ':Val} {G:Nat→Cl} {W:SW} {V:VS}
theorem oneTy_ok {D:Nat→Ty} {K:Nat→CD} {E':Nat→Ty} {P':Nat→List AVal→Prop} {Q':SW→Nat→List SV→Bool} {R':SW→Nat→List SV→List Lit}:∀{f:Nat} {t:Ty} {a:AVal},oneTy f ⟨D,K,E',P',Q',R'⟩ t=true→HasTy D G t a→a.one=true
 |0,t,a,h,_=>by cases h
 |f+1,t,a,h,ha=>by
  cases ha with
  |nm k a hk=>exact oneTy_ok (f:=f) h hk
  |any a=>cases h
  |agg=>cases h
  |tup=>cases h
  |con=>exact h
  |_=>rfl
theorem oneTy_ok' {f:Nat} {t:Ty} {a:AVal} (h:oneTy f T t=true) (ha:HasTy T.D G t a):a.one=true:=oneTy_ok (K:=T.K) (E':=T.E) (P':=T.Φ) (Q':=T.prv) (R':=T.hook) h ha
theorem cells_one {a:AVal} (h:a.one=true):a.cells=[a]:=by cases a<;>first|rfl|cases h
theorem elemTy_ok {sz:Nat} {t:Ty} {a:AVal} (h:elemTy T sz t=true) (ha:HasTy T.D G t a):a.cells.length=sz∧a.cells.all AVal.one=true:=by
 obtain⟨h1,h2⟩:=and2 h
 rw[lenS_eq]at h1
 have h1:=beqN h1
 by_cases ht:∃l,t=.agg l
 ·obtain⟨l,rfl⟩:=ht
  cases ha with
  |agg _ cs hl hx=>
   refine⟨by simp only[AVal.cells,←hl];exact h1,List.all_eq_true.2 fun c hc=> ?_⟩
   obtain⟨j,hj⟩:=List.getElem?_of_mem hc
   obtain⟨u,hu⟩:=get_of_len hl hj
   exact oneTy_ok' (List.all_eq_true.1 h2 u (List.mem_of_getElem? hu)) (hx j u c hu hj)
 ·have e:cellsTy t=[t]:=by
   cases t<;>first|rfl|exact absurd ⟨_,rfl⟩ ht
  rw[e]at h1 h2
  have ho:a.one=true:=oneTy_ok' (by simpa using h2) ha
  rw[cells_one ho]
  exact⟨h1,by simp[ho]⟩
theorem all_one {l:List AVal} (h:∀a∈l,a.one=true):l.all AVal.one=true:=List.all_eq_true.2 h
theorem one1_ok (h:Sat T E ρ G W V) {s:SV} (hs:one1 T W s=true):(s.ev ρ).one=true:=by
 unfold one1 at hs
 split at hs
 ·exact hs
 ·exact oneTy_ok' hs (h.ok.ty _)
 ·rename_i v o
  have hv:=h.ok.ty v
  split at hs
  ·rename_i c n ht
   have hn:=nonnil_lit h.ok hs
   rw[ht]at hv
   simp only[SV.ev]
   generalize ρ v=a at hv hn
   cases hv with
   |ptr _ _ i hg=>rfl
   |nilP c=>cases hn
  ·cases hs
 ·cases hs
 ·cases hs
 ·rename_i h1 h2 h3 h4 h5
  cases s<;>first
   |rfl
   |exact absurd rfl (h1 _)
   |exact absurd rfl (h2 _)
   |exact absurd rfl (h3 _ _)
   |exact absurd rfl (h4 _)
   |exact absurd rfl (h5 _)
theorem cellsS_ok (h:Sat T E ρ G W V) {s:SV} (hs:(cellsS s).all (one1 T W)=true):(s.ev ρ).cells=evs ρ (cellsS s)∧(s.ev ρ).cells.all AVal.one=true∧(∀n,s.cl n=true→cls n (cellsS s)=true):=by
 unfold cellsS at hs⊢
 cases ha:toAgg s with
 |some l=>
  rw[ha]at hs
  obtain⟨h1,h2⟩:=toAgg_ok (ρ:=ρ) ha
  simp only at hs⊢
  rw[h1]
  refine⟨rfl,all_one fun a hm=> ?_,h2⟩
  simp only[AVal.cells,evs_eq]at hm
  obtain⟨x,hx,rfl⟩:=List.mem_map.1 hm
  exact one1_ok h (List.all_eq_true.1 hs x hx)
 |none=>
  rw[ha]at hs
  simp only[List.all_cons,List.all_nil,Bool.and_true]at hs
  have ho:=one1_ok h hs
  simp only
  rw[cells_one ho]
  exact⟨rfl,by simp[ho],fun n hn=>by simp[cls,hn]⟩
theorem cellsN_ok (h:Sat T E ρ G W V) {n:Nat} {s:SV} {l:List SV} (hs:cellsN T W n s=some l):
  (s.ev ρ).cells=evs ρ l∧l.length=n∧(s.ev ρ).cells.all AVal.one=true∧(∀m,s.cl m=true→cls m l=true):=by
 unfold cellsN at hs
 obtain⟨h1,h2⟩:=cond_some hs
 cases h2
 obtain⟨h1,h3⟩:=and2 h1
 obtain⟨k1,k2,k3⟩:=cellsS_ok h h3
 exact⟨k1,by rw[lenS_eq]at h1;exact beqN h1,k2,k3⟩
theorem evs_len (ρ:Val) (l:List SV):(evs ρ l).length=l.length:=by rw[evs_eq,List.length_map]
theorem takeN_of:∀{n:Nat} {cs:List AVal},n≤cs.length→takeN n cs=some (cs.take n)
 |0,cs,_=>rfl
 |n+1,[],h=>by simp at h
 |n+1,c::cs,h=>by
  show consO c (takeN n cs)=_
  rw[takeN_of (by simpa using h)];rfl
theorem fits_of {n:Nat} {cs:List AVal} (h:n≤cs.length):fits n cs=true:=by unfold fits;rw[takeN_of h]
theorem lenIs_of:∀{n:Nat} {l:List AVal},l.length=n→lenIs n l=true
 |0,[],_=>rfl
 |0,_::_,h=>by cases h
 |n+1,[],h=>by cases h
 |n+1,a::l,h=>lenIs_of (n:=n) (l:=l) (by simpa using h)
theorem cellsOk_of {n:Nat} {a:AVal} (h1:a.cells.length=n) (h2:a.cells.all AVal.one=true):cellsOk n a=true:=by
 cases a with
 |agg cs=>
  show(bif lenIs n cs then cs.all AVal.one else false)=true
  rw[lenIs_of (l:=cs) h1];exact h2
 |top=>cases h2
 |tuple vs=>cases h2
 |_=>subst h1;rfl
theorem atO_of {β:Type} {f:List AVal→Option β}:∀{o:Nat} {l r:List SV},dropS o l=some r→atO f o (evs ρ l)=f (evs ρ r)
 |0,l,r,h=>by cases h;rfl
 |o+1,[],r,h=>by cases h
 |o+1,s::l,r,h=>atO_of (o:=o) (l:=l) h
theorem dropS_cl {n:Nat}:∀{o:Nat} {l r:List SV},dropS o l=some r→cls n l=true→cls n r=true
 |0,l,r,h,hc=>by cases h;exact hc
 |o+1,[],r,h,_=>by cases h
 |o+1,s::l,r,h,hc=>dropS_cl (o:=o) (l:=l) h (and2 hc).2
theorem takeS_ok {n:Nat}:∀{m:Nat} {l r:List SV},takeS m l=some r→takeN m (evs ρ l)=some (evs ρ r)∧(cls n l=true→cls n r=true)∧r.length=m
 |0,l,r,h=>by cases h;exact⟨rfl,fun _=>rfl,rfl⟩
 |m+1,[],r,h=>by cases h
 |m+1,s::l,r,h=>by
  simp only[takeS]at h
  split at h
  ·rename_i r' hr
   cases h
   obtain⟨h1,h2,h3⟩:=takeS_ok (n:=n) hr
   refine⟨?_,fun hc=>by simp only[cls,(and2 hc).1,h2 (and2 hc).2];rfl,by simp[h3]⟩
   show consO _ (takeN m (evs ρ l))=_
   rw[h1];rfl
  ·cases h
theorem partS_ok {n:Nat} {agg:Bool} {m o:Nat} {l:List SV} {s:SV} (h:partS agg m o l=some s):partAt agg m o (evs ρ l)=some (s.ev ρ)∧(cls n l=true→s.cl n=true):=by
 unfold partS at h
 split at h
 ·rename_i r hr
  unfold partAt
  rw[atO_of hr]
  cases agg with
  |true=>
   simp only at h
   split at h
   ·rename_i q hq
    cases h
    obtain⟨h1,h2,_⟩:=takeS_ok (n:=n) (ρ:=ρ) hq
    refine⟨?_,fun hc=>h2 (dropS_cl hr hc)⟩
    show aggO (takeN m (evs ρ r))=_
    rw[h1];rfl
   ·cases h
  |false=>
   simp only at h
   obtain⟨h1,h2⟩:=cond_some h
   have:=beqN h1;subst this
   cases r with
   |nil=>cases h2
   |cons x r=>
    cases h2
    exact⟨rfl,fun hc=>(and2 (dropS_cl hr hc)).1⟩
 ·cases h
theorem overS_ok {n:Nat}:∀{vs l r:List SV},overS vs l=some r→over (evs ρ vs) (evs ρ l)=evs ρ r∧(cls n vs=true→cls n l=true→cls n r=true)∧vs.length≤l.length∧r.length=l.length
 | [],l,r,h=>by cases h;exact⟨rfl,fun _ h=>h,Nat.zero_le _,rfl⟩
 |v::vs,[],r,h=>by cases h
 |v::vs,a::l,r,h=>by
  simp only[overS]at h
  split at h
  ·rename_i q hq
   cases h
   obtain⟨h1,h2,h3,h4⟩:=overS_ok (n:=n) hq
   refine⟨?_,fun hv hl=>by simp only[cls,(and2 hv).1,h2 (and2 hv).2 (and2 hl).2];rfl,by simpa using h3,by simp[h4]⟩
   show v.ev ρ::over (evs ρ vs) (evs ρ l)=_
   rw[h1];rfl
  ·cases h
theorem putS_ok {n:Nat}:∀{o:Nat} {vs l r:List SV},putS o vs l=some r→putAt o (evs ρ vs) (evs ρ l)=evs ρ r∧(cls n vs=true→cls n l=true→cls n r=true)∧o+vs.length≤l.length∧r.length=l.length
 |0,vs,l,r,h=>by
  obtain⟨h1,h2,h3,h4⟩:=overS_ok (n:=n) (ρ:=ρ) (vs:=vs) (l:=l) (r:=r) (by cases l<;>exact h)
  exact⟨h1,h2,by omega,h4⟩
 |o+1,vs,[],r,h=>by cases h
 |o+1,vs,a::l,r,h=>by
  simp only[putS]at h
  split at h
  ·rename_i q hq
   cases h
   obtain⟨h1,h2,h3,h4⟩:=putS_ok (n:=n) hq
   refine⟨?_,fun hv hl=>by simp only[cls,(and2 hl).1,h2 hv (and2 hl).2];rfl,by simp only[List.length_cons];omega,by simp[h4]⟩
   show a.ev ρ::putAt o (evs ρ vs) (evs ρ l)=_
   rw[h1];rfl
  ·cases h
theorem setL_ok {n:Nat} {b:SV}:∀{i:Nat} {l r:List SV},setL b i l=some r→elemAt (b.ev ρ) i (evs ρ l)=evs ρ r∧(b.cl n=true→cls n l=true→cls n r=true)∧i<l.length∧r.length=l.length
 |i,[],r,h=>by cases i<;>cases h
 |0,a::l,r,h=>by cases h;exact⟨rfl,fun hb hl=>by simp only[cls,hb,(and2 hl).2];rfl,by simp,rfl⟩
 |i+1,a::l,r,h=>by
  simp only[setL]at h
  split at h
  ·rename_i q hq
   cases h
   obtain⟨h1,h2,h3,h4⟩:=setL_ok (n:=n) hq
   refine⟨?_,fun hb hl=>by simp only[cls,(and2 hl).1,h2 hb (and2 hl).2];rfl,by simpa using h3,by simp[h4]⟩
   show a.ev ρ::elemAt (b.ev ρ) i (evs ρ l)=_
   rw[h1];rfl
  ·cases h
variable {se:SE} {env:VE}
theorem fillS_ok (h:Sat T E ρ G W V) (he:SatE ρ W.nv se env):∀{ps:List (Nat × Nat × Opd)} {l r:List SV},fillS T W se l ps=some r→cls W.nv l=true→fillE (evs ρ l) ps env=some (evs ρ r)∧cls W.nv r=true
 | [],l,r,hf,hc=>by simp only[fillS]at hf;cases hf;exact⟨by simp[fillE],hc⟩
 |(o,n,x)::ps,l,r,hf,hc=>by
  simp only[fillS]at hf
  split at hf
  ·rename_i s hs
   split at hf
   ·rename_i vs hv
    split at hf
    ·rename_i l' hl'
     obtain⟨e1,c1⟩:=ev_ok he hs
     obtain⟨k1,k2,k3,k4⟩:=cellsN_ok h hv
     obtain⟨p1,p2,p3,_⟩:=putS_ok (n:=W.nv) (ρ:=ρ) hl'
     obtain⟨m1,m2⟩:=fillS_ok h he hf (p2 (k4 _ c1) hc)
     refine⟨?_,m2⟩
     simp only[fillE,e1]
     rw[cellsOk_of (by rw[k1,evs_len,k2]) k3,fits_of (by rw[evs_len];show o+n≤_;omega)]
     simp only[Bool.and_self,cond_true]
     rw[k1,p1];exact m1
    ·cases hf
   ·cases hf
  ·cases hf
theorem setSs_ok (h:Sat T E ρ G W V) (he:SatE ρ W.nv se env) {sz:Nat}:∀{ps:List (Nat × Opd)} {l r:List SV},setSs T W se sz l ps=some r→cls W.nv l=true→setE sz (evs ρ l) ps env=some (evs ρ r)∧cls W.nv r=true
 | [],l,r,hf,hc=>by simp only[setSs]at hf;cases hf;exact⟨by simp[setE],hc⟩
 |(i,x)::ps,l,r,hf,hc=>by
  simp only[setSs]at hf
  split at hf
  ·rename_i s hs
   split at hf
   ·rename_i vs l' hv hl'
    obtain⟨e1,c1⟩:=ev_ok he hs
    obtain⟨k1,k2,k3,k4⟩:=cellsN_ok h hv
    obtain⟨p1,p2,p3,_⟩:=setL_ok (n:=W.nv) (ρ:=ρ) hl'
    obtain⟨m1,m2⟩:=setSs_ok h he hf (p2 c1 hc)
    refine⟨?_,m2⟩
    simp only[setE,e1]
    rw[cellsOk_of (by rw[k1,evs_len,k2]) k3,fits_of (by rw[evs_len];show i+1≤_;omega)]
    simp only[Bool.and_self,cond_true]
    rw[p1];exact m1
   ·cases hf
  ·cases hf
theorem toLen_ok (h:Sat T E ρ G W V) {s:SV} {l:Lin} (hs:toLen W s=some l):(∃xs nl tok,s.ev ρ=.slice xs nl tok∧l.ev ρ=xs.length)∧(s.cl W.nv=true→l.cl W.nv=true):=by
 unfold toLen at hs
 split at hs
 ·rename_i v
  have hv:=h.ok.ty v
  split at hs
  ·rename_i t lo hi ht
   cases hs
   rw[ht]at hv
   have hl:=lenX_ok h.ok v
   refine⟨?_,fun hc=> ?_⟩
   ·simp only[SV.ev]
    rw[hl]
    generalize ρ v=a at hv
    cases hv with
    |sl _ _ _ xs nl tok _ _ _ _=>exact⟨xs,nl,tok,rfl,rfl⟩
   ·have hb:=bltN hc
    unfold lenX
    have hl:=h.clo.ln
    clear ht hv
    generalize W.ln=q at hl
    induction q with
    |nil=>exact cl_at hc
    |cons p r ih=>
     unfold findL
     cases hb:Nat.beq v p.1 with
     |true=>exact(hl p (List.mem_cons_self ..)).2
     |false=>exact ih (fun x hx=>hl x (List.mem_cons_of_mem _ hx))
  ·cases hs
 ·cases hs
  exact⟨⟨_,_,_,rfl,by rw[ev_k,evs_len,lenS_eq];rfl⟩,fun _=>rfl⟩
 ·cases hs
  exact⟨⟨_,_,_,rfl,by rw[ev_k,lenS_eq];rfl⟩,fun _=>rfl⟩
 ·cases hs
theorem lenX_cl (h:Sat T E ρ G W V) {v:Nat} (hc:v<W.nv):(lenX W v).cl W.nv=true:=by
 unfold lenX
 have hl:=h.clo.ln
 generalize W.ln=q at hl
 induction q with
 |nil=>exact cl_at (ltB hc)
 |cons p r ih=>
  unfold findL
  cases hb:Nat.beq v p.1 with
  |true=>exact(hl p (List.mem_cons_self ..)).2
  |false=>exact ih (fun x hx=>hl x (List.mem_cons_of_mem _ hx))
theorem toSlen_ok (h:Sat T E ρ G W V) {s:SV} {l:Lin} (hs:toSlen W s=some l):(∃x,s.ev ρ=.str x∧l.ev ρ=x.length)∧(s.cl W.nv=true→l.cl W.nv=true):=by
 unfold toSlen at hs
 split at hs
 ·rename_i v
  have hv:=h.ok.ty v
  split at hs
  ·rename_i hi ht
   cases hs
   rw[ht]at hv
   have hl:=lenX_ok h.ok v
   refine⟨?_,fun hc=>lenX_cl h (bltN hc)⟩
   simp only[SV.ev]
   rw[hl]
   generalize ρ v=a at hv
   cases hv with
   |str x _ _=>exact⟨x,rfl,rfl⟩
  ·cases hs
 ·cases hs
  exact⟨⟨_,rfl,by rw[ev_k,lenS_eq];rfl⟩,fun _=>rfl⟩
 ·cases hs
theorem r1_opt1 {o:Option SV} {k:SV→R1} {q:Option Ent} (hk:∀s,o=some s→R1ok T E ρ G W V (k s) q):R1ok T E ρ G W V (opt1 o k) q:=by
 cases o with
 |none=>exact r1_none
 |some s=>exact hk s rfl
theorem r1_opt2 {a b:Option SV} {k:SV→SV→R1} {q:Option Ent} (hk:∀s t,a=some s→b=some t→R1ok T E ρ G W V (k s t) q):R1ok T E ρ G W V (opt2 a b k) q:=by
 cases a with
 |none=>exact r1_none
 |some s=>
  cases b with
  |none=>exact r1_none
  |some t=>exact hk s t rfl rfl
theorem withLen_ok (h:Sat T E ρ G W V) {t:Ty} {l:Lin} {a:AVal} {o:Option Ent} (ht:HasTy T.D G t a) (hl:lenOf a=l.ev ρ) (hc:l.cl W.nv=true) (ho:o=some (.val a)):R1ok T E ρ G W V (withLen W t l) o:=by
 intro x W' hx
 unfold withLen at hx
 cases hf:freshTy W t with
 |mk s W1=>
  rw[hf]at hx
  obtain⟨ρ',k1,k2,k3,k4⟩:=freshTy_ok t h ht hf
  split at hx
  ·rename_i v W2 hm
   cases hm
   cases hx
   have hv:ρ' v=a:=k3
   have hc':=clT_mono k1.n (l:=l.t) hc
   refine⟨ρ',_,⟨k1.n,k1.agr⟩,⟨⟨k2.ok.ty,k2.ok.top,k2.ok.ge,k2.ok.fx,fun p hp=> ?_,k2.ok.pr⟩,⟨k2.clo.ge,k2.clo.fx,fun p hp=> ?_,k2.clo.cells,k2.clo.live,k2.clo.bro,k2.clo.wr,k2.clo.pr⟩,
    ⟨k2.sto.wf,k2.sto.cells,k2.sto.live,k2.sto.dis,k2.sto.wr,k2.sto.M,k2.sto.out,k2.sto.n,k2.sto.g,k2.sto.fr,k2.sto.cls,k2.sto.tok,k2.sto.tkw⟩⟩,ho,by simp only[EntOk,SV.ev,hv],k4⟩
   ·rcases List.mem_cons.1 hp with rfl|hp
    ·simp only;rw[hv,hl];exact lin_agree k1.agr hc
    ·exact k2.ok.ln p hp
   ·rcases List.mem_cons.1 hp with rfl|hp
    ·exact⟨bltN k4,hc'⟩
    ·exact k2.clo.ln p hp
  ·cases hx
end Go.AL.SX
namespace Go.AL.SX
variable {T:Tab} [TabOk T] {E:En} {ρ ρ':Val} {G:Nat→Cl} {W:SW} {V:VS} {se:SE} {env:VE}
theorem r1_ent (h:Sat T E ρ G W V) {x:SEnt} {e:Ent} {o:Option Ent} (hx:EntOk ρ x e) (hc:x.cl W.nv=true) (ho:o=some e):R1ok T E ρ G W V (some (x,W)) o:=by
 intro y W' hy
 cases hy
 exact⟨ρ,e,.refl _ _,h,ho,hx,hc⟩
theorem ptr_of (h:Sat T E ρ G W V) {v c:Nat} {n:Bool} (ht:W.tyOf v=.ptr c n) (hh:holds W (.nl v false)=true):∃i,ρ v=.ptr i 0∧G i=.cls c:=by
 have hv:=h.ok.ty v
 have hn:=nonnil_lit h.ok hh
 rw[ht]at hv
 generalize ρ v=a at hv hn
 cases hv with
 |ptr _ _ i hg=>exact⟨i,rfl,hg⟩
 |nilP c=>cases hn
theorem nilChk_ok (h:Sat T E ρ G W V) {x:SEnt} {e:Ent} (hx:EntOk ρ x e) (hc:x.cl W.nv=true):R1ok T E ρ G W V (nilChk W x) (nilE e):=by
 rw[nilE_eq]
 unfold nilChk
 split
 ·simp only[EntOk]at hx;rw[hx];exact r1_ent h rfl rfl rfl
 ·simp only[EntOk]at hx;rw[hx];exact r1_same h hc rfl
 ·rename_i v o
  simp only[EntOk]at hx
  split
  ·rename_i c n ht
   refine r1_if fun hh=> ?_
   obtain⟨i,hi,_⟩:=ptr_of h ht hh
   rw[hx]
   simp only[SV.ev,hi,offP]
   exact r1_same h hc (by simp only[SV.ev,hi,offP];rfl)
  ·exact r1_none
 ·rename_i v
  simp only[EntOk]at hx
  split
  ·rename_i c n ht
   refine r1_if fun hh=> ?_
   obtain⟨i,hi,_⟩:=ptr_of h ht hh
   rw[hx]
   simp only[SV.ev,hi]
   exact r1_same h hc (by simp only[SV.ev,hi,offP];rfl)
  ·exact r1_none
 ·exact r1_none
theorem dropS_eq {o:Nat}:∀{l r:List SV},dropS o l=some r→(evs ρ l).drop o=evs ρ r:=by
 induction o with
 |zero=>intro l r h;cases h;rfl
 |succ o ih=>
  intro l r h
  cases l with
  |nil=>cases h
  |cons a l=>exact ih (l:=l) h
theorem foffS_ok (h:Sat T E ρ G W V) {off:Nat} {x:SEnt} {e:Ent} (hx:EntOk ρ x e) (hc:x.cl W.nv=true):R1ok T E ρ G W V (foffS W off x) (foffE off e):=by
 rw[foffE_eq]
 unfold foffS
 split
 ·simp only[EntOk]at hx;rw[hx];exact r1_ent h rfl rfl rfl
 ·simp only[EntOk]at hx
  split
  ·rename_i r hr
   rw[hx]
   refine r1_same h (dropS_cl hr hc) ?_
   show some (Ent.val (AVal.sptr ((evs ρ _).drop off)))=_
   rw[dropS_eq hr];rfl
  ·exact r1_none
 ·rename_i v o
  simp only[EntOk]at hx
  split
  ·rename_i c n ht
   refine r1_if fun hh=> ?_
   obtain⟨i,hi,_⟩:=ptr_of h ht hh
   rw[hx]
   simp only[SV.ev,hi,offP]
   refine r1_same h hc ?_
   simp only[SV.ev,hi,offP]
   show some (Ent.val (AVal.ptr i (0+o+off)))=some (Ent.val (AVal.ptr i (0+(o+off))))
   rw[Nat.add_assoc]
  ·exact r1_none
 ·rename_i v
  simp only[EntOk]at hx
  split
  ·rename_i c n ht
   refine r1_if fun hh=> ?_
   obtain⟨i,hi,_⟩:=ptr_of h ht hh
   rw[hx]
   simp only[SV.ev,hi]
   exact r1_same h hc (by simp only[SV.ev,hi,offP];rfl)
  ·exact r1_none
 ·exact r1_none
theorem r1_mono {r:R1} {o:Option Ent} {e:Ent} (h:R1ok T E ρ G W V r o):R1ok T E ρ G W V r o:=h
theorem convS_ok (h:Sat T E ρ G W V) {k:IntKind} {s:SV} (hc:s.cl W.nv=true):R1ok T E ρ G W V (convS W k s) (convE k (.val (s.ev ρ))):=by
 unfold convS
 split
 ·rename_i k' l hl
  obtain⟨e1,c1⟩:=toI_ok (ρ:=ρ) hl
  rw[e1,convE_eq]
  refine r1_wrap h (c1 _ hc) ?_
  show some (Ent.val (AVal.int k (wrapF k (l.ev ρ))))=_
  rw[wrapF_eq]
 ·exact r1_none
theorem fieldS_ok (h:Sat T E ρ G W V) {off n:Nat} {agg:Bool} {s:SV} (hc:s.cl W.nv=true):R1ok T E ρ G W V (fieldS W off n agg s) (fieldE off n agg (.val (s.ev ρ))):=by
 unfold fieldS
 split
 ·rename_i l hl
  obtain⟨e1,c1⟩:=toAgg_ok (ρ:=ρ) hl
  rw[e1,fieldE_eq]
  split
  ·rename_i r hr
   obtain⟨p1,p2⟩:=partS_ok (n:=W.nv) (ρ:=ρ) hr
   refine r1_same h (p2 (c1 _ hc)) ?_
   show toE (partAt agg n off (evs ρ l))=_
   rw[p1];rfl
  ·exact r1_none
 ·exact r1_none
theorem cls_get {n:Nat}:∀{l:List SV} {i:Nat} {s:SV},l[i]? =some s→cls n l=true→s.cl n=true
 | [],i,s,h,_=>by simp at h
 |a::l,0,s,h,hc=>by simp at h;subst h;exact(and2 hc).1
 |a::l,i+1,s,h,hc=>cls_get (l:=l) (i:=i) (by simpa using h) (and2 hc).2
theorem extS_ok (h:Sat T E ρ G W V) {i:Nat} {s:SV} (hc:s.cl W.nv=true):R1ok T E ρ G W V (extS W i s) (extE i (.val (s.ev ρ))):=by
 unfold extS
 split
 ·rename_i l hl
  obtain⟨e1,c1⟩:=toTup_ok (ρ:=ρ) hl
  rw[e1,extE_eq]
  split
  ·rename_i r hr
   rw[nthS_eq]at hr
   refine r1_same h (cls_get hr (c1 _ hc)) ?_
   show toE (nthV (evs ρ l) i)=_
   rw[nthV_eq,evs_eq,List.getElem?_map,hr];rfl
  ·exact r1_none
 ·exact r1_none
theorem lenSV_ok (h:Sat T E ρ G W V) {s:SV} (hc:s.cl W.nv=true):R1ok T E ρ G W V (lenSV W s) (lenE (.val (s.ev ρ))):=by
 unfold lenSV
 split
 ·rename_i l hl
  obtain⟨⟨xs,nl,tok,e1,e2⟩,c1⟩:=toLen_ok h hl
  rw[e1,lenE_eq]
  refine r1_same h (c1 hc) ?_
  show some (Ent.val (AVal.int .i64 (.ofNat (lenF xs 0))))=_
  rw[lenF_eq,Nat.zero_add]
  simp only[SV.ev,e2];rfl
 ·exact r1_none
theorem slenSV_ok (h:Sat T E ρ G W V) {s:SV} (hc:s.cl W.nv=true):R1ok T E ρ G W V (slenSV W s) (lenSE (.val (s.ev ρ))):=by
 unfold slenSV
 split
 ·rename_i l hl
  obtain⟨⟨xs,e1,e2⟩,c1⟩:=toSlen_ok h hl
  rw[e1]
  refine r1_same h (c1 hc) ?_
  show some (Ent.val (AVal.int .i64 (.ofNat (lenB xs 0))))=_
  rw[lenB_eq,Nat.zero_add]
  simp only[SV.ev,e2];rfl
 ·exact r1_none
theorem sptrE_of {sz:Nat} {a:AVal} (h:a.cells.length=sz):sptrE sz a=some (.val (.sptr a.cells)):=by
 unfold sptrE
 rw[cellsC_eq,lenIs_of h];rfl
theorem idx_slice {sz n:Nat} {xs:List AVal} {nl:Bool} {tok:Option Nat} {a:AVal} (h:xs[n]? =some a) (ha:a.cells.length=sz):idx1 sz n (.val (.slice xs nl tok))=some (.val (.sptr a.cells)):=by
 rw[idx1_eq]
 have e:idx10 sz n (.val (.slice xs nl tok))= @Option.rec AVal (fun _=>Option Ent) none (fun a=>sptrE sz a) (nthV xs n):=rfl
 rw[e,nthV_eq,h]
 exact sptrE_of ha
theorem idxK_ok (h:Sat T E ρ G W V) {sz:Nat} {s:SV} {o:Option Ent} (hc:s.cl W.nv=true) (ho:(s.ev ρ).cells.length=sz→o=some (.val (.sptr (s.ev ρ).cells))):R1ok T E ρ G W V (idxK T W sz s) o:=by
 unfold idxK
 split
 ·rename_i l hl
  obtain⟨k1,k2,k3,k4⟩:=cellsN_ok h hl
  refine r1_same h (k4 _ hc) ?_
  rw[ho (by rw[k1,evs_len,k2]),k1];rfl
 ·exact r1_none
theorem fresh_cells {sz n:Nat} {t:Ty} {s:SV} {W1:SW} {a:AVal} (hf:freshTy W t=(s,W1)) (hE:elemTy T sz t=true) (hty:HasTy T.D G t a) (hs:s.ev ρ'=a) (hc:s.cl n=true):
  a.cells=evs ρ' (cellsS s)∧cls n (cellsS s)=true:=by
 unfold cellsS
 cases ha:toAgg s with
 |some q=>
  obtain⟨a1,a2⟩:=toAgg_ok (ρ:=ρ') ha
  rw[←hs,a1]
  exact⟨rfl,a2 _ hc⟩
 |none=>
  have hone:a.one=true:=by
   by_cases ht:∃l,t=.agg l
   ·obtain⟨l,rfl⟩:=ht
    simp only[freshTy]at hf
    cases hf
    cases ha
   ·have e:cellsTy t=[t]:=by
     cases t<;>first|rfl|exact absurd ⟨_,rfl⟩ ht
    obtain⟨_,h2⟩:=and2 hE
    rw[e]at h2
    exact oneTy_ok' (by simpa using h2) hty
  rw[cells_one hone]
  exact⟨by simp only[evs,hs],by simp[cls,hc]⟩
theorem bi_idx {a b c:AVal} (h:Bi 0 [a,b,c]):∃(xs:List AVal) (nl:Bool) (tok:Option Nat) (k:IntKind) (i:Nat),a=.slice xs nl tok∧b=.int k i∧xs[i]? =some c:=by
 cases h with
 |idx xs nl tok k i e h=>exact⟨xs,nl,tok,k,i,rfl,rfl,h⟩
theorem bi_app {a b c:AVal} (h:Bi 1 [a,b,c]):∃(xs ys:List AVal) (n n' n'':Bool) (t t' t'':Option Nat),a=.slice (xs++ys) n'' t''∧b=.slice xs n t∧c=.slice ys n' t':=by
 cases h with
 |app xs ys n n' n'' t t' t''=>exact⟨xs,ys,n,n',n'',t,t',t'',rfl,rfl,rfl⟩
theorem cls_mem {n:Nat}:∀{l:List SV} {s:SV},cls n l=true→s∈l→s.cl n=true
 |a::l,s,h,hs=>by
  obtain⟨h1,h2⟩:=and2 h
  rcases List.mem_cons.1 hs with rfl|hs
  ·exact h1
  ·exact cls_mem h2 hs
theorem findI_ok {v:Nat} {l:Lin} {s:SV}:∀{ps:List (Nat × List SV)},(∀p∈ps,phi T p.1 (evs ρ p.2))→findI v l ps=some s→(∃k,Bi 0 [ρ v,.int k (l.ev ρ),s.ev ρ])∧∃p∈ps,s∈p.2
 | [],_,h=>by cases h
 |p::ps,hp,h=>by
  have rest:findI v l ps=some s→(∃k,Bi 0 [ρ v,.int k (l.ev ρ),s.ev ρ])∧∃q∈p::ps,s∈q.2:=fun h=>by
   obtain⟨h1,q,hq,h2⟩:=findI_ok (fun q hq=>hp q (List.mem_cons_of_mem _ hq)) h
   exact⟨h1,q,List.mem_cons_of_mem _ hq,h2⟩
  unfold findI at h
  split at h
  ·rename_i w k l' s' r he
   cases he
   cases hc:Nat.beq v w&&eqLin l l' with
   |true=>
    rw[hc]at h
    obtain⟨c1,c2⟩:=and2 hc
    have c1:=beqN c1;subst c1
    have c2:=eqLin_ok c2;subst c2
    cases h
    have:=hp _ (List.mem_cons_self ..)
    exact⟨⟨k,phi_low (T:=T) (by decide) this⟩,_,List.mem_cons_self ..,by simp⟩
   |false=>rw[hc]at h;exact rest h
  ·rename_i he;cases he;exact rest h
  ·rename_i he;cases he
theorem findA_ok {v:Nat} {b:SV} {ys:List SV}:∀{ps:List (Nat × List SV)},(∀p∈ps,phi T p.1 (evs ρ p.2))→findA v ps=some (b,ys)→Bi 1 [ρ v,b.ev ρ,.slice (evs ρ ys) false none]∧∃p∈ps,b∈p.2∧.sl ys∈p.2
 | [],_,h=>by cases h
 |p::ps,hp,h=>by
  have rest:findA v ps=some (b,ys)→Bi 1 [ρ v,b.ev ρ,.slice (evs ρ ys) false none]∧∃q∈p::ps,b∈q.2∧.sl ys∈q.2:=fun h=>by
   obtain⟨h1,q,hq,h2⟩:=findA_ok (fun q hq=>hp q (List.mem_cons_of_mem _ hq)) h
   exact⟨h1,q,List.mem_cons_of_mem _ hq,h2⟩
  unfold findA at h
  split at h
  ·rename_i w b' ys' r he
   cases he
   cases hc:Nat.beq v w with
   |true=>
    rw[hc]at h
    have c1:=beqN hc;subst c1
    cases h
    have:=hp _ (List.mem_cons_self ..)
    exact⟨phi_low (T:=T) (by decide) this,_,List.mem_cons_self ..,by simp,by simp⟩
   |false=>rw[hc]at h;exact rest h
  ·rename_i he;cases he;exact rest h
  ·rename_i he;cases he
theorem lenBS_ok (h:Sat T E ρ G W V) {b:SV} {l:Lin} {xs:List AVal} {nl:Bool} {tok:Option Nat} (hb:lenBS W b=some l) (he:b.ev ρ=.slice xs nl tok):l.ev ρ=(xs.length:Nat):=by
 unfold lenBS at hb
 split at hb
 ·cases hb;rw[lenX_ok h.ok];simp only[SV.ev]at he;rw[he];rfl
 ·cases hb;simp only[SV.ev,AVal.slice.injEq]at he;rw[←he.1];simp
 ·cases hb
theorem findE_ok (h:Sat T E ρ G W V):∀{f v n:Nat} {s:SV} {xs:List AVal} {nl:Bool} {tok:Option Nat},findE W f v n=some s→ρ v=.slice xs nl tok→xs[n]? =some (s.ev ρ)∧s.cl W.nv=true
 |0,v,n,s,xs,nl,tok,hf,_=>by cases hf
 |f+1,v,n,s,xs,nl,tok,hf,hr=>by
  simp only[findE]at hf
  split at hf
  ·rename_i b ys hA
   obtain⟨b1,p,hp,hb1,hb2⟩:=findA_ok h.ok.pr hA
   obtain⟨us,ws,_,_,_,_,_,_,r1,r2,r3⟩:=bi_app b1
   rw[hr]at r1
   cases r1
   cases r3
   split at hf
   ·rename_i l hl
    have hlen:=lenBS_ok h hl r2
    split at hf
    ·rename_i m hm
     have hm:=ev_const (ρ:=ρ) hm
     have hm:us.length=m:=by rw[hlen]at hm;exact Int.ofNat.inj hm
     cases hc:Nat.ble m n with
     |true=>
      rw[hc]at hf
      have hc:=bleN hc
      simp only[cond_true]at hf
      rw[nthS_eq]at hf
      refine⟨?_,?_⟩
      ·rw[List.getElem?_append_right (by omega),hm]
       exact(by rw[evs_eq,List.getElem?_map];rw[show n-m=Nat.sub n m from rfl,hf];rfl)
      ·have:=cls_mem (h.clo.pr p hp) hb2
       exact cls_get hf this
     |false=>
      rw[hc]at hf
      simp only[cond_false]at hf
      have hc:¬m≤n:=fun hh=>by rw[Nat.ble_eq_true_of_le hh]at hc;cases hc
      split at hf
      ·rename_i w
       obtain⟨g1,g2⟩:=findE_ok h hf r2
       exact⟨by rw[List.getElem?_append_left (by omega)];exact g1,g2⟩
      ·cases hf
    ·cases hf
   ·cases hf
  ·cases hf
theorem findIE_ok (h:Sat T E ρ G W V) {v n:Nat} {l:Lin} {s:SV} {xs:List AVal} {nl:Bool} {tok:Option Nat} (hf:findIE W v l=some s) (hr:ρ v=.slice xs nl tok) (hl:l.ev ρ=(n:Int)):xs[n]? =some (s.ev ρ)∧s.cl W.nv=true:=by
 unfold findIE at hf
 split at hf
 ·rename_i s' hs
  cases hf
  obtain⟨⟨k,b⟩,p,hp,hm⟩:=findI_ok h.ok.pr hs
  obtain⟨ys,_,_,_,i,r1,r2,r3⟩:=bi_idx b
  rw[hr]at r1
  cases r1
  rw[hl]at r2
  simp only[AVal.int.injEq]at r2
  have:n=i:=by omega
  subst this
  exact⟨r3,cls_mem (h.clo.pr p hp) hm⟩
 ·split at hf
  ·rename_i m hm
   have hm:=ev_const (ρ:=ρ) hm
   rw[hl]at hm
   have:n=m:=Int.ofNat.inj hm
   subst this
   exact findE_ok h hf hr
  ·cases hf
theorem iaddrS_ok (h:Sat T E ρ G W V) {sz:Nat} {x i:SV} (hx:x.cl W.nv=true) (hi:i.cl W.nv=true):R1ok T E ρ G W V (iaddrS T W sz x i) (iaddrE sz (.val (x.ev ρ)) (.val (i.ev ρ))):=by
 unfold iaddrS
 split
 ·rename_i k l hl
  obtain⟨e1,c1⟩:=toI_ok (ρ:=ρ) hl
  have hic:=c1 _ hi
  rw[e1,iaddrE_eq]
  split
  ·rename_i v
   have hv:=h.ok.ty v
   split
   ·rename_i t lo hi ht
    refine r1_if fun hg=> ?_
    obtain⟨g1,g2⟩:=and2 hg
    have g1:=geq_ok h.ok g1
    have g2:=geq_ok h.ok g2
    simp only[ev_addc,ev_sub,lenX_ok h.ok]at g2
    have e0:Int.negSucc 0= -1:=rfl
    rw[e0]at g2
    obtain⟨n,hn⟩:∃n:Nat,l.ev ρ=(n:Int):=⟨(l.ev ρ).toNat,by omega⟩
    rw[hn]at g2⊢
    rw[ht]at hv
    simp only[SV.ev]
    generalize hva:ρ v=a at hv g2
    cases hv with
    |sl _ _ _ xs nl tok h1 h2 hnl hel=>
     simp only[lenOf]at g2
     have hlt:n<xs.length:=by omega
     have hget:=List.getElem?_eq_getElem hlt
     have hty:=hel xs[n] (List.getElem_mem hlt)
     have fresh:R1ok T E ρ G W V (idxFresh T W sz t v k l) (idx1 sz n (.val (.slice xs nl tok))):=by
      unfold idxFresh
      refine r1_if fun hE=> ?_
      obtain⟨z1,z2⟩:=elemTy_ok hE hty
      intro y W' hy
      cases hf:freshTy W t with
      |mk s W1=>
       rw[hf]at hy
       cases hy
       obtain⟨ρ',k1,k2,k3,k4⟩:=freshTy_ok t h hty hf
       have hcell:=fresh_cells hf hE hty k3 k4
       have hv':ρ' v=.slice xs nl tok:=by rw[←hva];exact(k1.agr v (bltN hx)).symm
       have hl':l.ev ρ'=(n:Int):=by rw[←hn];exact(lin_agree k1.agr hic).symm
       obtain⟨q1,q2⟩:=k2.note (k:=0) (as:=[.x v,.i k l,s]) (by
        have h1:=sv_mono k1.n (.x v) hx
        have h2:(SV.i k l).cl W1.nv=true:=clT_mono k1.n hic
        simp only[cls,h1,h2,k4];rfl) (.inl (by
        simp only[evs,SV.ev,hv',hl',k3];exact .idx xs nl tok k n _ hget))
       refine⟨ρ',_,k1.trans (Later.same q2),q1,idx_slice hget z1,?_,by rw[q2];exact hcell.2⟩
       simp only[EntOk,SV.ev,hcell.1]
     split
     ·rename_i s hs
      obtain⟨f1,f2⟩:=findIE_ok h hs hva hn
      refine r1_ite (fun _=> ?_) (fun _=>fresh)
      refine idxK_ok h f2 fun hsz=> ?_
      exact idx_slice f1 hsz
     ·exact fresh
   ·exact r1_none
  ·split
   ·rename_i r n hn
    have hn:=ev_const (ρ:=ρ) hn
    split
    ·rename_i s hs
     rw[nthS_eq]at hs
     refine idxK_ok h (cls_get hs hx) fun hsz=> ?_
     rw[hn]
     exact idx_slice (by rw[evs_eq,List.getElem?_map,hs];rfl) hsz
    ·exact r1_none
   ·exact r1_none
  ·rename_i xs nl tok
   split
   ·rename_i n hn
    have hn:=ev_const (ρ:=ρ) hn
    split
    ·rename_i s hs
     rw[nthS_eq,ks_eq,List.getElem?_map]at hs
     cases hg:xs[n]? with
     |none=>rw[hg]at hs;cases hs
     |some a=>
      rw[hg]at hs
      cases hs
      refine idxK_ok h rfl fun hsz=> ?_
      rw[hn]
      exact idx_slice hg hsz
    ·exact r1_none
   ·exact r1_none
  ·exact r1_none
 ·exact r1_none
theorem istrS_ok (h:Sat T E ρ G W V) {x i:SV} (_:x.cl W.nv=true) (_:i.cl W.nv=true):R1ok T E ρ G W V (istrS W x i) (istrE (.val (x.ev ρ)) (.val (i.ev ρ))):=by
 unfold istrS
 split
 ·rename_i k l n hl hn
  obtain⟨e1,c1⟩:=toI_ok (ρ:=ρ) hl
  obtain⟨⟨xs,e2,e3⟩,c2⟩:=toSlen_ok h hn
  rw[e1,e2]
  refine r1_if fun hg=> ?_
  obtain⟨g1,g2⟩:=and2 hg
  have g1:=geq_ok h.ok g1
  have g2:=geq_ok h.ok g2
  simp only[ev_addc,ev_sub,e3]at g2
  have e0:Int.negSucc 0= -1:=rfl
  rw[e0]at g2
  obtain⟨m,hm⟩:∃m:Nat,l.ev ρ=(m:Int):=⟨(l.ev ρ).toNat,by omega⟩
  rw[hm]at g2⊢
  have hlt:m<xs.length:=by omega
  refine r1_int h (n:=(xs[m].toNat:Int)) (Int.natCast_nonneg _) (by have:=xs[m].toNat_lt;show _≤(255:Int);omega) ?_
  show istrE2 m xs=_
  unfold istrE2
  rw[List.getElem?_eq_getElem hlt];rfl
 ·exact r1_none
theorem bndS_ok (h:Sat T E ρ G W V) (he:SatE ρ W.nv se env) {d:Lin} {dn:Nat} (hd:d.ev ρ=dn) (hdc:d.cl W.nv=true) {x:Option Opd} {l:Lin} (hl:bndS W se d x=some l):
  ∃n:Nat,bndE dn env x=some n∧l.ev ρ=n∧l.cl W.nv=true:=by
 cases x with
 |none=>cases hl;exact⟨dn,rfl,hd,hdc⟩
 |some x=>
  simp only[bndS]at hl
  split at hl
  ·rename_i s hs
   split at hl
   ·rename_i k m hm
    obtain⟨hg,h2⟩:=cond_some hl
    cases h2
    obtain⟨e1,c1⟩:=ev_ok he hs
    obtain⟨e2,c2⟩:=toI_ok (ρ:=ρ) hm
    have g:=geq_ok h.ok hg
    obtain⟨n,hn⟩:∃n:Nat,l.ev ρ=(n:Int):=⟨(l.ev ρ).toNat,by omega⟩
    refine⟨n,?_,hn,c2 _ c1⟩
    simp only[bndE,e1,e2,hn]
   ·cases hl
  ·cases hl
theorem HasTy.cut {D:Nat→Ty} {t:Ty} {lo hi:Nat} {xs:List AVal} {nl:Bool} {tok tok':Option Nat} (h:HasTy D G (.sl t lo hi) (.slice xs nl tok)) (a b:Nat):HasTy D G (.sl t 0 hi) (.slice ((xs.take b).drop a) nl tok'):=by
 cases h with
 |sl _ _ _ _ _ _ h1 h2 hn hx=>
  refine .sl _ _ _ _ _ _ (Nat.zero_le _) (by simp only[List.length_drop,List.length_take];omega) (fun e=>by rw[hn e];simp) fun x hm=>hx x (List.mem_of_mem_take (List.mem_of_mem_drop hm))
theorem szIs_of {sz:Nat} {t:Ty} {xs:List AVal} (hE:elemTy T sz t=true) (hx:∀x∈xs,HasTy T.D G t x):szIs sz xs=true:=by
 cases xs with
 |nil=>rfl
 |cons x xs=>exact lenIs_of (elemTy_ok hE (hx x (List.mem_cons_self ..))).1
theorem cutVar_ok (h:Sat T E ρ G W V) {sz v:Nat} {l hh m:Option Lin} {o:Option Ent}
  (ho:∀l' h' m' t lo hi xs nl tok,l=some l'→hh=some h'→m=some m'→ρ v=.slice xs nl tok→HasTy T.D G (.sl t lo hi) (.slice xs nl tok)→elemTy T sz t=true→l'.ev ρ≤h'.ev ρ→h'.ev ρ≤m'.ev ρ→m'.ev ρ≤xs.length→
   l'.cl W.nv=true∧h'.cl W.nv=true∧∃(a b:Nat) (tok':Option Nat),l'.ev ρ=a∧h'.ev ρ=b∧o=some (.val (.slice ((xs.take b).drop a) nl tok'))):
  R1ok T E ρ G W V (cutVar T W sz v l hh m) o:=by
 unfold cutVar
 have hv:=h.ok.ty v
 have hlen:=lenX_ok h.ok v
 split
 ·rename_i t lo hi l' h' m' ht
  refine r1_if fun hg=> ?_
  obtain⟨g0,g1⟩:=and2 hg
  obtain⟨g1,g2⟩:=and2 g1
  obtain⟨g2,g3⟩:=and2 g2
  have g1:=leq_ok h.ok g1
  have g2:=leq_ok h.ok g2
  have g3:=leq_ok h.ok g3
  rw[hlen]at g3
  rw[ht]at hv
  generalize ha:ρ v=a at hv g3
  have hv0:=hv
  cases hv with
  |sl _ _ _ xs nl tok k1 k2 k3 k4=>
   obtain⟨c1,c2,a,b,tok',q1,q2,q3⟩:=ho l' h' m' t lo hi xs nl tok rfl rfl rfl ha hv0 g0 g1 g2 g3
   simp only[lenOf]at g3
   refine withLen_ok h (hv0.cut a b) ?_ (cl_sub c2 c1) q3
   rw[ev_sub,q1,q2]
   simp only[lenOf,List.length_drop,List.length_take]
   omega
 ·exact r1_none
theorem cut_slice {sz:Nat} {xs:List AVal} {nl:Bool} {tok:Option Nat} {lo hi:Option Opd} {a b:Nat} (hs:szIs sz xs=true) (hb:bndE xs.length env hi=some b) (ha:bndE 0 env lo=some a) (h1:a≤b) (h2:b≤xs.length):
  ∃tok',cutE sz lo hi env (.val (.slice xs nl tok))=some (.val (.slice ((xs.take b).drop a) nl tok')):=by
 simp only[cutE,hs,cond_true,lenF_eq,Nat.zero_add,hb,ha]
 refine⟨bif Nat.beq a 0&&Nat.beq b xs.length then tok else none,?_⟩
 show cutF xs nl tok xs.length b a=_
 unfold cutF
 rw[ble_eq,ble_eq,decide_eq_true h2,decide_eq_true h1];rfl
theorem cut3_slice {sz:Nat} {xs:List AVal} {nl:Bool} {tok:Option Nat} {lo:Option Opd} {hi mx:Opd} {a b m:Nat} (hs:szIs sz xs=true) (hb:bndE xs.length env (some hi)=some b) (ha:bndE 0 env lo=some a)
  (hm:bndE xs.length env (some mx)=some m) (h1:a≤b) (h2:b≤m) (h3:m≤xs.length):cut3E sz lo hi mx env (.val (.slice xs nl tok))=some (.val (.slice ((xs.take b).drop a) nl none)):=by
 have hb':bndE 0 env (some hi)=some b:=hb
 have hm':bndE 0 env (some mx)=some m:=hm
 simp only[cut3E,hs,cond_true,lenF_eq,Nat.zero_add,hb',ha,hm']
 show cut3F xs nl xs.length m b a=_
 unfold cut3F
 rw[ble_eq,ble_eq,ble_eq,decide_eq_true h3,decide_eq_true h2,decide_eq_true h1];rfl
theorem cutS_ok (h:Sat T E ρ G W V) (he:SatE ρ W.nv se env) {sz:Nat} {lo hi:Option Opd} {s:SV} (hc:s.cl W.nv=true):R1ok T E ρ G W V (cutS T W se sz lo hi none s) (cutE sz lo hi env (.val (s.ev ρ))):=by
 unfold cutS
 split
 ·rename_i v
  have hvc:=lenX_cl h (bltN hc)
  refine cutVar_ok h fun l' h' m' t lo' hi' xs nl tok e1 e2 e3 ea hty hE q1 q2 q3=> ?_
  have hlen:(lenX W v).ev ρ=(xs.length:Nat):=by rw[lenX_ok h.ok,ea];rfl
  obtain⟨a,a1,a2,a3⟩:=bndS_ok h he (d:=.k (.ofNat 0)) (dn:=0) (by simp) rfl e1
  obtain⟨b,b1,b2,b3⟩:=bndS_ok h he hlen hvc e2
  cases e3
  rw[a2,b2]at q1
  rw[b2,hlen]at q2
  have hx:∀x∈xs,HasTy T.D G t x:=by cases hty with|sl _ _ _ _ _ _ _ _ _ hx=>exact hx
  obtain⟨tok',ht⟩:=cut_slice (nl:=nl) (tok:=tok) (szIs_of hE hx) b1 a1 (by omega) (by omega)
  exact⟨a3,b3,a,b,tok',a2,b2,by simp only[SV.ev,ea];exact ht⟩
 ·rename_i nl
  split
  ·rename_i l m q e1 e2 e3
   split
   ·rename_i z1 z2 z3
    obtain⟨a,a1,a2,a3⟩:=bndS_ok h he (d:=.k (.ofNat 0)) (dn:=0) (by simp) rfl e1
    obtain⟨b,b1,b2,b3⟩:=bndS_ok h he (d:=.k (.ofNat 0)) (dn:=0) (by simp) rfl e2
    have z1:=ev_const (ρ:=ρ) z1
    have z2:=ev_const (ρ:=ρ) z2
    rw[a2]at z1
    rw[b2]at z2
    have z1:a=0:=Int.ofNat.inj z1
    have z2:b=0:=Int.ofNat.inj z2
    subst z1;subst z2
    obtain⟨tok',ht⟩:=cut_slice (xs:=[]) (nl:=nl) (tok:=none) (sz:=sz) rfl b1 a1 (Nat.le_refl _) (Nat.le_refl _)
    refine r1_same h rfl ?_
    simp only[SV.ev]
    have:cutE sz lo hi env (.val (.slice [] nl none))=some (.val (.slice [] nl none)):=by
     have hs:szIs sz []=true:=rfl
     simp only[cutE,hs,cond_true,lenF_eq,Nat.zero_add,a1,List.length_nil,b1]
     rfl
    exact this
   ·exact r1_none
  ·exact r1_none
 ·exact r1_none
theorem cutS3_ok (h:Sat T E ρ G W V) (he:SatE ρ W.nv se env) {sz:Nat} {lo:Option Opd} {hi mx:Opd} {s:SV} (hc:s.cl W.nv=true):R1ok T E ρ G W V (cutS T W se sz lo (some hi) (some mx) s) (cut3E sz lo hi mx env (.val (s.ev ρ))):=by
 unfold cutS
 split
 ·rename_i v
  have hvc:=lenX_cl h (bltN hc)
  refine cutVar_ok h fun l' h' m' t lo' hi' xs nl tok e1 e2 e3 ea hty hE q1 q2 q3=> ?_
  have hlen:(lenX W v).ev ρ=(xs.length:Nat):=by rw[lenX_ok h.ok,ea];rfl
  obtain⟨a,a1,a2,a3⟩:=bndS_ok h he (d:=.k (.ofNat 0)) (dn:=0) (by simp) rfl e1
  obtain⟨b,b1,b2,b3⟩:=bndS_ok h he hlen hvc e2
  obtain⟨m,m1,m2,m3⟩:=bndS_ok h he hlen hvc e3
  rw[a2,b2]at q1
  rw[b2,m2]at q2
  rw[m2]at q3
  have hx:∀x∈xs,HasTy T.D G t x:=by cases hty with|sl _ _ _ _ _ _ _ _ _ hx=>exact hx
  have ht:=cut3_slice (nl:=nl) (tok:=tok) (szIs_of hE hx) b1 a1 m1 (by omega) (by omega) (by omega)
  exact⟨a3,b3,a,b,none,a2,b2,by simp only[SV.ev,ea];exact ht⟩
 ·rename_i nl
  split
  ·rename_i l m q e1 e2 e3
   split
   ·rename_i z1 z2 z3
    obtain⟨a,a1,a2,a3⟩:=bndS_ok h he (d:=.k (.ofNat 0)) (dn:=0) (by simp) rfl e1
    obtain⟨b,b1,b2,b3⟩:=bndS_ok h he (d:=.k (.ofNat 0)) (dn:=0) (by simp) rfl e2
    obtain⟨c,c1,c2,c3⟩:=bndS_ok h he (d:=.k (.ofNat 0)) (dn:=0) (by simp) rfl e3
    have z1:=ev_const (ρ:=ρ) z1
    have z2:=ev_const (ρ:=ρ) z2
    have z3:=ev_const (ρ:=ρ) z3
    rw[a2]at z1
    rw[b2]at z2
    rw[c2]at z3
    have z1:a=0:=Int.ofNat.inj z1
    have z2:b=0:=Int.ofNat.inj z2
    have z3:c=0:=Int.ofNat.inj z3
    subst z1;subst z2;subst z3
    refine r1_same h rfl ?_
    simp only[SV.ev]
    exact cut3_slice (xs:=[]) (nl:=nl) (tok:=none) (sz:=sz) rfl b1 a1 c1 (Nat.le_refl _) (Nat.le_refl _) (Nat.le_refl _)
   ·exact r1_none
  ·exact r1_none
 ·exact r1_none
theorem bytesOf_of:∀{xs:List AVal} {hi:Nat},hi≤255→(∀x∈xs,HasTy T.D G (.int .u8 (.ofNat 0) (.ofNat hi)) x)→∃l,bytesOf xs=some l∧l.length=xs.length
 | [],hi,_,_=>⟨[],rfl,rfl⟩
 |x::xs,hi,hh,hx=>by
  obtain⟨l,h1,h2⟩:=bytesOf_of hh fun y hy=>hx y (List.mem_cons_of_mem _ hy)
  have hx0:=hx x (List.mem_cons_self ..)
  cases hx0 with
  |int _ _ _ n k1 k2=>
   obtain⟨m,rfl⟩:∃m:Nat,n=(m:Int):=⟨n.toNat,by have:(0:Int)≤n:=k1;omega⟩
   have k2:(m:Int)≤(hi:Int):=k2
   have:byteOf (.int .u8 (m:Int))=some (UInt8.ofNat m):=by
    show(bif Nat.blt m 256 then some (UInt8.ofNat m)else none)=_
    rw[blt_eq,decide_eq_true (by omega)];rfl
   refine⟨UInt8.ofNat m::l,?_,by simp[h2]⟩
   show bytesC (bytesOf xs) (byteOf _)=_
   rw[this,h1];rfl
theorem HasTy.u8 {D:Nat→Ty} {lo hi:Nat} {x:AVal} (h:HasTy D G (.int .u8 (.ofNat lo) (.ofNat hi)) x):HasTy D G (.int .u8 (.ofNat 0) (.ofNat hi)) x:=by
 cases h with
 |int _ _ _ n k1 k2=>exact .int _ _ _ n (Int.le_trans (Int.natCast_nonneg _) k1) k2
theorem bstrS_ok (h:Sat T E ρ G W V) {s:SV} (hc:s.cl W.nv=true):R1ok T E ρ G W V (bstrS W s) (bstrE (.val (s.ev ρ))):=by
 unfold bstrS
 split
 ·rename_i v
  have hv:=h.ok.ty v
  have hlen:=lenX_ok h.ok v
  split
  ·rename_i lo hi n0 n ht
   refine r1_if fun hb=> ?_
   have hb:=bleN hb
   rw[ht]at hv
   simp only[SV.ev]
   generalize ρ v=a at hv hlen
   cases hv with
   |sl _ _ _ xs nl tok k1 k2 k3 k4=>
    obtain⟨l,l1,l2⟩:=bytesOf_of (T:=T) (G:=G) hb fun x hx=>(k4 x hx).u8
    refine withLen_ok h (a:=.str l) (.str l _ (by omega)) ?_ (lenX_cl h (bltN hc)) ?_
    ·rw[hlen];simp only[lenOf,l2]
    ·show strO (bytesOf xs)=_
     rw[l1];rfl
  ·exact r1_none
 ·exact r1_same h rfl rfl
 ·exact r1_none
theorem ofBytes_ty (l:List UInt8):∀x∈ofBytes l,HasTy T.D G u8T x:=by
 induction l with
 |nil=>intro x hx;cases hx
 |cons c l ih=>
  intro x hx
  rcases List.mem_cons.1 hx with rfl|hx
  ·exact .int _ _ _ _ (Int.natCast_nonneg _) (by have:=c.toNat_lt;show((c.toNat:Nat):Int)≤255;omega)
  ·exact ih x hx
theorem ofBytes_len (l:List UInt8):(ofBytes l).length=l.length:=by
 induction l with
 |nil=>rfl
 |cons c l ih=>simp only[ofBytes,List.length_cons,ih]
theorem strbS_ok (h:Sat T E ρ G W V) {s:SV} (hc:s.cl W.nv=true):R1ok T E ρ G W V (strbS W s) (strbE (.val (s.ev ρ))):=by
 unfold strbS
 split
 ·rename_i l hl
  obtain⟨⟨xs,e1,e2⟩,c1⟩:=toSlen_ok h hl
  refine r1_if fun hg=> ?_
  have hg:=geq_ok h.ok hg
  simp only[ev_addc,ev_neg,e2,Int.ofNat_eq_natCast]at hg
  rw[e1]
  refine withLen_ok h (a:=.slice (ofBytes xs) false none) (.sl _ _ _ _ _ _ (Nat.zero_le _) (by rw[ofBytes_len];omega) (fun hn=>by cases hn) (ofBytes_ty xs)) (by rw[e2];simp only[lenOf,ofBytes_len]) (c1 hc) ?_
  show(bif Nat.ble (lenB xs 0) maxLen then some (Ent.val (.slice (ofBytes xs) false none))else none)=_
  rw[lenB_eq,Nat.zero_add,ble_eq,decide_eq_true (by omega)];rfl
 ·exact r1_none
theorem min_ev (k k':IntKind) (a b:Int):minE (.val (.int k a)) (.val (.int k' b))=some (.val (.int k (if b<a then b else a))):=by
 show some (Ent.val (AVal.int k (bif ltI b a then b else a)))=_
 rw[ltI_eq];by_cases h:b<a<;>simp[h]
theorem max_ev (k k':IntKind) (a b:Int):maxE (.val (.int k a)) (.val (.int k' b))=some (.val (.int k (if a<b then b else a))):=by
 show some (Ent.val (AVal.int k (bif ltI a b then b else a)))=_
 rw[ltI_eq];by_cases h:a<b<;>simp[h]
theorem mmS_ok (h:Sat T E ρ G W V) {mx:Bool} {a b:SV} (ha:a.cl W.nv=true) (hb:b.cl W.nv=true):R1ok T E ρ G W V (mmS W mx a b) (bif mx then maxE (.val (a.ev ρ)) (.val (b.ev ρ))else minE (.val (a.ev ρ)) (.val (b.ev ρ))):=by
 unfold mmS
 split
 ·rename_i k x k' y hx hy
  obtain⟨e1,c1⟩:=toI_ok (ρ:=ρ) hx
  obtain⟨e2,c2⟩:=toI_ok (ρ:=ρ) hy
  rw[e1,e2,max_ev,min_ev]
  refine r1_if fun _=> ?_
  refine r1_ite (fun hle=> ?_) (fun _=> ?_)
  ·have hle:=leq_ok h.ok hle
   refine r1_same h (by cases mx with|false=>exact c1 _ ha|true=>exact c2 _ hb) ?_
   cases mx with
   |true=>
    simp only[cond_true,SV.ev]
    by_cases hlt:x.ev ρ<y.ev ρ
    ·rw[if_pos hlt]
    ·rw[if_neg hlt,show x.ev ρ=y.ev ρ by omega]
   |false=>
    simp only[cond_false,SV.ev]
    rw[if_neg (by omega)]
  ·refine r1_ite (fun hle=> ?_) (fun _=> ?_)
   ·have hle:=leq_ok h.ok hle
    refine r1_same h (by cases mx with|false=>exact c2 _ hb|true=>exact c1 _ ha) ?_
    cases mx with
    |true=>
     simp only[cond_true,SV.ev]
     rw[if_neg (by omega)]
    |false=>
     simp only[cond_false,SV.ev]
     by_cases hlt:y.ev ρ<x.ev ρ
     ·rw[if_pos hlt]
     ·rw[if_neg hlt,show x.ev ρ=y.ev ρ by omega]
   ·generalize hv:(bif mx then(if x.ev ρ<y.ev ρ then y.ev ρ else x.ev ρ)else(if y.ev ρ<x.ev ρ then y.ev ρ else x.ev ρ))=v
    have ho:(bif mx then some (Ent.val (AVal.int k (if x.ev ρ<y.ev ρ then y.ev ρ else x.ev ρ)))else some (Ent.val (AVal.int k (if y.ev ρ<x.ev ρ then y.ev ρ else x.ev ρ))))=some (Ent.val (AVal.int k v)):=by
     cases mx<;>simp only[cond_true,cond_false]at hv⊢ <;>rw[hv]
    rw[ho]
    intro z W' hz
    cases hf:freshTy W (.inu k)with
    |mk s W1=>
     rw[hf]at hz
     obtain⟨ρ',k1,k2,k3,k4⟩:=freshTy_ok (.inu k) h (.inu k v) hf
     have xl:=lin_agree k1.agr (c1 _ ha)
     have yl:=lin_agree k1.agr (c2 _ hb)
     have xc:=clT_mono k1.n (l:=x.t) (c1 _ ha)
     have yc:=clT_mono k1.n (l:=y.t) (c2 _ hb)
     split at hz
     ·rename_i k0 l W2 hm
      cases hm
      have lv:l.ev ρ'=v:=by
       simp only[SV.ev]at k3
       injection k3
      have lc:l.cl W1.nv=true:=k4
      cases mx with
      |true=>
       simp only[cond_true]at hz hv
       cases hz
       refine⟨ρ',_,⟨k1.n,k1.agr⟩,⟨(k2.ok.addGe ?_).addGe ?_,⟨fun q hq=> ?_,k2.clo.fx,k2.clo.ln,k2.clo.cells,k2.clo.live,k2.clo.bro,k2.clo.wr,k2.clo.pr⟩,
        ⟨k2.sto.wf,k2.sto.cells,k2.sto.live,k2.sto.dis,k2.sto.wr,k2.sto.M,k2.sto.out,k2.sto.n,k2.sto.g,k2.sto.fr,k2.sto.cls,k2.sto.tok,k2.sto.tkw⟩⟩,rfl,by simp only[EntOk,SV.ev,lv],k4⟩
       ·rw[ev_sub,lv,←xl];split at hv<;>omega
       ·rw[ev_sub,lv,←yl];split at hv<;>omega
       ·rcases List.mem_cons.1 hq with rfl|hq
        ·exact cl_sub lc yc
        ·rcases List.mem_cons.1 hq with rfl|hq
         ·exact cl_sub lc xc
         ·exact k2.clo.ge q hq
      |false=>
       simp only[cond_false]at hz hv
       cases hz
       refine⟨ρ',_,⟨k1.n,k1.agr⟩,⟨(k2.ok.addGe ?_).addGe ?_,⟨fun q hq=> ?_,k2.clo.fx,k2.clo.ln,k2.clo.cells,k2.clo.live,k2.clo.bro,k2.clo.wr,k2.clo.pr⟩,
        ⟨k2.sto.wf,k2.sto.cells,k2.sto.live,k2.sto.dis,k2.sto.wr,k2.sto.M,k2.sto.out,k2.sto.n,k2.sto.g,k2.sto.fr,k2.sto.cls,k2.sto.tok,k2.sto.tkw⟩⟩,rfl,by simp only[EntOk,SV.ev,lv],k4⟩
       ·rw[ev_sub,lv,←xl];split at hv<;>omega
       ·rw[ev_sub,lv,←yl];split at hv<;>omega
       ·rcases List.mem_cons.1 hq with rfl|hq
        ·exact cl_sub yc lc
        ·rcases List.mem_cons.1 hq with rfl|hq
         ·exact cl_sub xc lc
         ·exact k2.clo.ge q hq
     ·cases hz
 ·exact r1_none
theorem cls_rep (m:Nat) (z:AVal) (n:Nat):cls m (List.replicate n (SV.k z))=true:=by
 induction n with
 |zero=>rfl
 |succ n ih=>rw[List.replicate_succ];simp only[cls,SV.cl,ih];rfl
def OpAs (o:AOp) (env:VE) (V:VS) (m:Option Ent):Prop:=
 (∀call d k,opT o call d k env V=Option.rec .bad (fun e=>k (setd d e env) V) m)∧∀call B d k,opDT o call B d k env V=Option.rec .bad (fun e=>k (setd d e env) V) m
theorem opAs (o:AOp) (m:VE→Option Ent) (h1:∀call,opT o call=opP m) (h2:∀call B,opDT o call B=opP m) (env:VE) (V:VS):OpAs o env V (m env):=
 ⟨fun call d k=>by rw[h1];rfl,fun call B d k=>by rw[h2];rfl⟩
theorem noteBin_ok {st:Bool} {op:BinOp} {q:EqK} {lt:Bool} {a b:SV} {r:R1} (ha:a.cl W.nv=true) (hb:b.cl W.nv=true) (h:R1ok T E ρ G W V r (binE op q lt (.val (a.ev ρ)) (.val (b.ev ρ)))):
  R1ok T E ρ G W V (noteBin T st op a b r) (binE op q lt (.val (a.ev ρ)) (.val (b.ev ρ))):=by
 unfold noteBin
 split
 ·rename_i s W1
  obtain⟨ρ',e,k1,k2,k3,k4,k5⟩:=h _ _ rfl
  simp only[EntOk]at k4
  subst k4
  have ea:a.ev ρ'=a.ev ρ:=(sv_agree k1.agr a ha).symm
  have eb:b.ev ρ'=b.ev ρ:=(sv_agree k1.agr b hb).symm
  have hc:cls W1.nv [s,a,b]=true:=by simp only[cls,sv_mono k1.n a ha,sv_mono k1.n b hb];simpa[SEnt.cl]using k5
  have go:∀{k:Nat} {t:Bool},phi T k (evs ρ' [s,a,b])→R1ok T E ρ G W V (some (.val s,noteIf T t k [s,a,b] W1)) (binE op q lt (.val (a.ev ρ)) (.val (b.ev ρ))):=by
   intro k t hp x W' hy
   cases t with
   |false=>cases hy;exact⟨ρ',_,k1,k2,k3,rfl,k5⟩
   |true=>
    cases hy
    obtain⟨q1,q2⟩:=k2.note hc hp
    exact⟨ρ',_,k1.trans (Later.same q2),q1,k3,rfl,by show SEnt.cl (note T k [s,a,b] W1).nv _=true;rw[q2];exact k5⟩
  split
  ·exact go (.inl (by simp only[evs,ea,eb];exact .shr q lt _ _ _ k3))
  ·exact go (.inl (by simp only[evs,ea,eb];exact .and q lt _ _ _ k3))
  ·exact go (.inl (by simp only[evs,ea,eb];exact .eql q lt _ _ _ k3))
  ·exact go (.inl (by simp only[evs,ea,eb];exact .neq q lt _ _ _ k3))
  ·exact go (.inl (by simp only[evs,ea,eb];exact .lss q lt _ _ _ k3))
  ·exact go (.inl (by simp only[evs,ea,eb];exact .leq q lt _ _ _ k3))
  ·exact go (.inl (by simp only[evs,ea,eb];exact .gtr q lt _ _ _ k3))
  ·exact go (.inl (by simp only[evs,ea,eb];exact .geq q lt _ _ _ k3))
  ·exact h
 ·exact h
theorem pureS_ok (h:Sat T E ρ G W V) (he:SatE ρ W.nv se env) (o:AOp):pureS T se W o=none∨∃m,OpAs o env V m∧R1ok T E ρ G W V (pureS T se W o) m:=by
 have one1:∀{x:Opd} {k:SV→R1} {m:VE→Option Ent} (_:∀s,s.cl W.nv=true→eo x env=.val (s.ev ρ)→R1ok T E ρ G W V (k s) (m env)) (_:∀call,opT o call=opP m) (_:∀call B,opDT o call B=opP m) (_:pureS T se W o=opt1 (evS se x) k),
   pureS T se W o=none∨∃m,OpAs o env V m∧R1ok T E ρ G W V (pureS T se W o) m:=by
  intro x k m hk h1 h2 hp
  refine .inr ⟨m env,opAs o m h1 h2 env V,?_⟩
  rw[hp]
  exact r1_opt1 fun s hs=>let⟨e1,c1⟩:=ev_ok he hs;hk s c1 e1
 have two2:∀{x y:Opd} {k:SV→SV→R1} {m:VE→Option Ent} (_:∀s t,s.cl W.nv=true→t.cl W.nv=true→eo x env=.val (s.ev ρ)→eo y env=.val (t.ev ρ)→R1ok T E ρ G W V (k s t) (m env)) (_:∀call,opT o call=opP m) (_:∀call B,opDT o call B=opP m) (_:pureS T se W o=opt2 (evS se x) (evS se y) k),
   pureS T se W o=none∨∃m,OpAs o env V m∧R1ok T E ρ G W V (pureS T se W o) m:=by
  intro x y k m hk h1 h2 hp
  refine .inr ⟨m env,opAs o m h1 h2 env V,?_⟩
  rw[hp]
  exact r1_opt2 fun s t hs ht=>let⟨e1,c1⟩:=ev_ok he hs;let⟨e2,c2⟩:=ev_ok he ht;hk s t c1 c2 e1 e2
 cases o with
 |mv x=>
  refine .inr ⟨pMv x env,opAs _ (pMv x) (fun _=>rfl) (fun _ _=>rfl) env V,?_⟩
  obtain⟨h1,h2⟩:=eo_ok he x
  exact r1_ent h h1 h2 rfl
 |nilCheck x=>
  refine .inr ⟨pNil x env,opAs _ (pNil x) (fun _=>rfl) (fun _ _=>rfl) env V,?_⟩
  obtain⟨h1,h2⟩:=eo_ok he x
  exact nilChk_ok h h1 h2
 |foff off x=>
  refine .inr ⟨pFoff off x env,opAs _ (pFoff off x) (fun _=>rfl) (fun _ _=>rfl) env V,?_⟩
  obtain⟨h1,h2⟩:=eo_ok he x
  exact foffS_ok h h1 h2
 |bin op q x y=>
  refine two2 (m:=pBin op q x y) (fun s t c1 c2 e1 e2=> ?_) (fun _=>rfl) (fun _ _=>rfl) rfl
  simp only[pBin,e1,e2]
  exact noteBin_ok c1 c2 (r1_bin h c1 c2)
 |not x=>
  refine one1 (m:=pNot x) (fun s c1 e1=> ?_) (fun _=>rfl) (fun _ _=>rfl) rfl
  simp only[pNot,e1]
  split
  ·rename_i f hf
   obtain⟨e2,c2⟩:=toB_ok (ρ:=ρ) hf
   rw[e2,notE_eq]
   refine r1_same h (cl_negl (c2 _ c1)) ?_
   simp only[SV.ev,neg_ev];rfl
  ·exact r1_none
 |convInt k x=>
  refine one1 (m:=pConv k x) (fun s c1 e1=> ?_) (fun _=>rfl) (fun _ _=>rfl) rfl
  simp only[pConv,e1]
  exact convS_ok h c1
 |same x=>
  refine one1 (m:=pSame x) (fun s c1 e1=> ?_) (fun _=>rfl) (fun _ _=>rfl) rfl
  simp only[pSame,e1]
  refine r1_if fun hs=> ?_
  obtain⟨l,hl⟩:=isStr_ok h hs
  exact r1_same h c1 (by rw[hl];rfl)
 |iface t x=>
  refine one1 (m:=pIface t x) (fun s c1 e1=> ?_) (fun _=>rfl) (fun _ _=>rfl) rfl
  simp only[pIface,e1]
  exact r1_same h (by simpa only[SV.cl]using c1) rfl
 |field off n agg x=>
  refine one1 (m:=pField off n agg x) (fun s c1 e1=> ?_) (fun _=>rfl) (fun _ _=>rfl) rfl
  simp only[pField,e1]
  exact fieldS_ok h c1
 |iaddr sz x i=>
  refine two2 (m:=pIaddr sz x i) (fun s t c1 c2 e1 e2=> ?_) (fun _=>rfl) (fun _ _=>rfl) rfl
  simp only[pIaddr,e1,e2]
  exact iaddrS_ok h c1 c2
 |istr x i=>
  refine two2 (m:=pIstr x i) (fun s t c1 c2 e1 e2=> ?_) (fun _=>rfl) (fun _ _=>rfl) rfl
  simp only[pIstr,e1,e2]
  exact istrS_ok h c1 c2
 |extract x i=>
  refine one1 (m:=pExt x i) (fun s c1 e1=> ?_) (fun _=>rfl) (fun _ _=>rfl) rfl
  simp only[pExt,e1]
  exact extS_ok h c1
 |len x=>
  refine one1 (m:=pLen x) (fun s c1 e1=> ?_) (fun _=>rfl) (fun _ _=>rfl) rfl
  simp only[pLen,e1]
  exact lenSV_ok h c1
 |lenStr x=>
  refine one1 (m:=pLenS x) (fun s c1 e1=> ?_) (fun _=>rfl) (fun _ _=>rfl) rfl
  simp only[pLenS,e1]
  exact slenSV_ok h c1
 |neg x=>
  refine one1 (m:=pNeg x) (fun s c1 e1=> ?_) (fun _=>rfl) (fun _ _=>rfl) rfl
  simp only[pNeg,e1]
  split
  ·rename_i k l hl
   obtain⟨e2,c2⟩:=toI_ok (ρ:=ρ) hl
   rw[e2]
   refine r1_wrap h (cl_neg (c2 _ c1)) ?_
   show some (Ent.val (AVal.int k (wrapF k (0-l.ev ρ))))=_
   rw[wrapF_eq,ev_neg,Int.zero_sub]
  ·exact r1_none
 |min x y=>
  refine two2 (m:=pMin x y) (fun s t c1 c2 e1 e2=> ?_) (fun _=>rfl) (fun _ _=>rfl) rfl
  simp only[pMin,e1,e2]
  exact mmS_ok (mx:=false) h c1 c2
 |max x y=>
  refine two2 (m:=pMax x y) (fun s t c1 c2 e1 e2=> ?_) (fun _=>rfl) (fun _ _=>rfl) rfl
  simp only[pMax,e1,e2]
  exact mmS_ok (mx:=true) h c1 c2
 |bytesStr x=>
  refine one1 (m:=pBstr x) (fun s c1 e1=> ?_) (fun _=>rfl) (fun _ _=>rfl) rfl
  simp only[pBstr,e1]
  exact bstrS_ok h c1
 |strBytes e x=>
  refine one1 (m:=pStrb x) (fun s c1 e1=> ?_) (fun _=>rfl) (fun _ _=>rfl) rfl
  simp only[pStrb,e1]
  exact strbS_ok h c1
 |cut sz x lo hi=>
  refine one1 (m:=pCut sz x lo hi) (fun s c1 e1=> ?_) (fun _=>rfl) (fun _ _=>rfl) rfl
  simp only[pCut,e1]
  exact cutS_ok h he c1
 |cut3 sz x lo hi mx=>
  refine one1 (m:=pCut3 sz x lo hi mx) (fun s c1 e1=> ?_) (fun _=>rfl) (fun _ _=>rfl) rfl
  simp only[pCut3,e1]
  exact cutS3_ok h he c1
 |build z ps=>
  refine .inr ⟨buildE z ps env,opAs _ (buildE z ps) (fun _=>rfl) (fun _ _=>rfl) env V,?_⟩
  simp only[pureS]
  split
  ·rename_i l hl
   obtain⟨f1,f2⟩:=fillS_ok h he hl (cls_ks _ _)
   rw[evs_ks]at f1
   refine r1_same h f2 ?_
   show toE (aggO (fillE z ps env))=_
   rw[f1];rfl
  ·exact r1_none
 |mkFunc fn a c=>
  cases fn with
  |func f=>
   refine .inr ⟨pMk (.func f) a c env,opAs _ (pMk (.func f) a c) (fun _=>rfl) (fun _ _=>rfl) env V,?_⟩
   simp only[pureS]
   split
   ·rename_i x y hx hy
    obtain⟨x1,x2⟩:=evsS_ok he hx
    obtain⟨y1,y2⟩:=evsS_ok he hy
    refine r1_same h (by simp only[SV.cl,x2,y2];rfl) ?_
    show mkF1 (.func f) (evals c env) (evals a env)=_
    rw[x1,y1];rfl
   ·exact r1_none
  |_=>exact .inl rfl
 |bslice own sz e n z ps=>
  cases own with
  |true=>exact .inl rfl
  |false=>
   have hrep:evs ρ (List.replicate n (SV.k z))=List.replicate n z:=by rw[evs_eq,List.map_replicate];rfl
   have hcl:=cls_rep W.nv z n
   refine .inr ⟨sliceO (setE sz (List.replicate n z) ps env),⟨fun call d k=> ?_,fun call B d k=>rfl⟩,?_⟩
   ·show opBsl1 d k env V (setE sz (List.replicate n z) ps env)=_
    cases setE sz (List.replicate n z) ps env<;>rfl
   ·simp only[pureS]
    split
    ·rename_i l hl
     obtain⟨f1,f2⟩:=setSs_ok h he hl hcl
     rw[hrep]at f1
     refine r1_same h f2 ?_
     rw[f1];rfl
    ·exact r1_none
 |_=>exact .inl rfl
end Go.AL.SX
namespace Go.AL.SX
variable {T:Tab} [TabOk T] {E:En} {ρ ρ':Val} {G:Nat→Cl} {W:SW} {V:VS} {se:SE} {env:VE}
def RNok (T:Tab) (E:En) (ρ:Val) (W:SW) (r:RN) (run:EK→ER):Prop:=
 ∀outs,r=some outs→∀(R:ER→Prop) (k:EK),(∀p∈outs,∀ρ' G' env' V',Later ρ W ρ' p.2→Sat T E ρ' G' p.2 V'→SatE ρ' p.2.nv p.1 env'→R (k env' V'))→R (run k)
theorem rn_none {run:EK→ER}:RNok T E ρ W none run:=fun _ h=>by cases h
theorem rn_if {b:Bool} {r:RN} {run:EK→ER} (h:b=true→RNok T E ρ W r run):RNok T E ρ W (bif b then r else none) run:=by
 cases b with
 |true=>exact h rfl
 |false=>exact rn_none
theorem rn_one {se':SE} {W':SW} {run:EK→ER} {ρ':Val} {G':Nat→Cl} {env':VE} {V':VS} (hl:Later ρ W ρ' W') (hs:Sat T E ρ' G' W' V') (he:SatE ρ' W'.nv se' env') (hr:∀k,run k=k env' V'):
  RNok T E ρ W (some [(se',W')]) run:=by
 intro outs ho R k hk
 cases ho
 rw[hr]
 exact hk _ (List.mem_cons_self ..) ρ' G' env' V' hl hs he
theorem rn_pure (he:SatE ρ W.nv se env) {d:Option Nat} {r:R1} {m:Option Ent} {run:EK→ER} (hr:R1ok T E ρ G W V r m) (hrun:∀k,run k=Option.rec .bad (fun e=>k (setd d e env) V) m):RNok T E ρ W (one se d r) run:=by
 cases r with
 |none=>exact rn_none
 |some p=>
  obtain⟨x,W'⟩:=p
  obtain⟨ρ',e,h1,h2,h3,h4,h5⟩:=hr x W' rfl
  exact rn_one h1 h2 ((he.later h1).set d h4 h5) (fun k=>by rw[hrun,h3])
theorem rn_val {d:Option Nat} {s:SV} {W':SW} {run:EK→ER} {ρ':Val} {G':Nat→Cl} {V':VS} {a:AVal} (he:SatE ρ W.nv se env) (hl:Later ρ W ρ' W') (hs:Sat T E ρ' G' W' V') (ha:s.ev ρ'=a) (hc:s.cl W'.nv=true)
  (hr:∀k,run k=k (setd d (.val a) env) V'):RNok T E ρ W (oneV se d s W') run:=
 rn_one hl hs ((he.later hl).set d (by simp only[EntOk,ha]) hc) hr
theorem suppose_none (h:Sat T E ρ G W V) {f:Lit} (hs:suppose W f=none):f.ev ρ=false:=by
 unfold suppose at hs
 cases h1:holds W f.neg with
 |true=>
  have:=holds_ok h.ok h1
  rw[neg_ev]at this
  cases hf:f.ev ρ with
  |true=>rw[hf]at this;cases this
  |false=>rfl
 |false=>
  rw[h1]at hs
  cases h2:holds W f<;>rw[h2]at hs<;>cases hs
theorem suppose_some (h:Sat T E ρ G W V) {f:Lit} {W':SW} (hc:f.cl W.nv=true) (hf:f.ev ρ=true) (hs:suppose W f=some W'):Later ρ W ρ W'∧Sat T E ρ G W' V∧W'.nv=W.nv:=by
 unfold suppose at hs
 cases h1:holds W f.neg with
 |true=>rw[h1]at hs;cases hs
 |false=>
  rw[h1]at hs
  cases h2:holds W f with
  |true=>rw[h2]at hs;cases hs;exact⟨.refl _ _,h,rfl⟩
  |false=>
   rw[h2]at hs
   cases hs
   obtain⟨e0,e1,e2,e3,e4,e5,e6⟩:=learn_same W f
   exact⟨⟨Nat.le_of_eq e0.symm,.refl _ _⟩,⟨learn_ok h.ok hf,learn_clo h.clo hc,h.sto.same e1 e2 e3 e4 e5⟩,e0⟩
theorem both_ok (h:Sat T E ρ G W V) {β:Type} {f:Lit} {k:Bool→SW→Option (List β)} {outs:List β} (hc:f.cl W.nv=true) (hb:both W f k=some outs):
  ∃W' l,Later ρ W ρ W'∧Sat T E ρ G W' V∧W'.nv=W.nv∧k (f.ev ρ) W'=some l∧∀x∈l,x∈outs:=by
 unfold both at hb
 cases hf:f.ev ρ with
 |true=>
  cases h1:suppose W f with
  |none=>have:=suppose_none h h1;rw[hf]at this;cases this
  |some W1=>
   obtain⟨k1,k2,k3⟩:=suppose_some h hc hf h1
   rw[h1]at hb
   cases h2:suppose W f.neg with
   |none=>rw[h2]at hb;exact⟨W1,outs,k1,k2,k3,hb,fun x hx=>hx⟩
   |some W2=>
    rw[h2]at hb
    simp only at hb
    split at hb
    ·rename_i x y hx hy
     cases hb
     exact⟨W1,x,k1,k2,k3,hx,fun z hz=>List.mem_append_left _ hz⟩
    ·cases hb
 |false=>
  have hn:f.neg.ev ρ=true:=by rw[neg_ev,hf];rfl
  cases h2:suppose W f.neg with
  |none=>have:=suppose_none h h2;rw[hn]at this;cases this
  |some W2=>
   obtain⟨k1,k2,k3⟩:=suppose_some h (cl_negl hc) hn h2
   rw[h2]at hb
   cases h1:suppose W f with
   |none=>rw[h1]at hb;exact⟨W2,outs,k1,k2,k3,hb,fun x hx=>hx⟩
   |some W1=>
    rw[h1]at hb
    simp only at hb
    split at hb
    ·rename_i x y hx hy
     cases hb
     exact⟨W2,y,k1,k2,k3,hy,fun z hz=>List.mem_append_right _ hz⟩
    ·cases hb
theorem rn_both (h:Sat T E ρ G W V) {f:Lit} {k:Bool→SW→RN} {run:EK→ER} (hc:f.cl W.nv=true) (hk:∀W',Later ρ W ρ W'→Sat T E ρ G W' V→W'.nv=W.nv→RNok T E ρ W' (k (f.ev ρ) W') run):RNok T E ρ W (both W f k) run:=by
 intro outs ho R kk hR
 obtain⟨W',l,k1,k2,k3,k4,k5⟩:=both_ok h hc ho
 exact hk W' k1 k2 k3 l k4 R kk fun p hp ρ' G' env' V' h1 h2 h3=>hR p (k5 p hp) ρ' G' env' V' (k1.trans h1) h2 h3
theorem rn_pick (h:Sat T E ρ G W V) (he:SatE ρ W.nv se env) {c a b:Opd} {d:Option Nat} {run:EK→ER} (hrun:∀k,run k=Option.rec .bad (fun e=>k (setd d e env) V) (pPick c a b env)):RNok T E ρ W (pickS c a b d se W) run:=by
 unfold pickS
 split
 ·rename_i s hs
  obtain⟨e1,c1⟩:=ev_ok he hs
  split
  ·rename_i f hf
   obtain⟨e2,c2⟩:=toB_ok (ρ:=ρ) hf
   refine rn_both h (c2 _ c1) fun W' k1 k2 k3=> ?_
   have he':SatE ρ W'.nv se env:=by rw[k3];exact he
   have hp:pPick c a b env=some (bif f.ev ρ then eo a env else eo b env):=by
    simp only[pPick,e1,e2,pickE_eq];rfl
   cases hv:f.ev ρ with
   |true=>
    rw[hv]at hp
    obtain⟨a1,a2⟩:=eo_ok he' a
    exact rn_one (.refl _ _) k2 (he'.set d a1 a2) (fun k=>by rw[hrun,hp];rfl)
   |false=>
    rw[hv]at hp
    obtain⟨a1,a2⟩:=eo_ok he' b
    exact rn_one (.refl _ _) k2 (he'.set d a1 a2) (fun k=>by rw[hrun,hp];rfl)
  ·exact rn_none
 ·exact rn_none
theorem atO_of' {β:Type} {f:List AVal→Option β}:∀{o:Nat} {cs:List AVal},o≤cs.length→atO f o cs=f (cs.drop o)
 |0,cs,_=>rfl
 |o+1,[],h=>by simp at h
 |o+1,c::cs,h=>atO_of' (o:=o) (cs:=cs) (by simpa using h)
theorem findC_ok {v o:Nat}:∀{l:List (Nat × Nat × SV)} {s:SV},findC v o l=some s→(v,o,s)∈l
 | [],s,h=>by cases h
 |(w,p,t)::r,s,h=>by
  unfold findC at h
  cases hb:Nat.beq v w&&Nat.beq o p with
  |true=>
   rw[hb]at h
   obtain⟨h1,h2⟩:=and2 hb
   have h1:=beqN h1;have h2:=beqN h2
   subst h1;subst h2
   cases h
   exact List.mem_cons_self ..
  |false=>rw[hb]at h;exact List.mem_cons_of_mem _ (findC_ok h)
theorem Sat.addCell (h:Sat T E ρ G W V) {v o i c:Nat} {s:SV} {cs:List AVal} (hv:v<W.nv) (hs:s.cl W.nv=true) (h1:ρ v=.ptr i 0) (h2:V.at i=.obj cs) (h3:cs[o]? =some (s.ev ρ)) (h4:G i=.cls c):
  Sat T E ρ G {W with cells:=(v,o,s)::W.cells} V:=
 ⟨⟨h.ok.ty,h.ok.top,h.ok.ge,h.ok.fx,h.ok.ln,h.ok.pr⟩,
  ⟨h.clo.ge,h.clo.fx,h.clo.ln,fun p hp=>(List.mem_cons.1 hp).elim (fun e=>by subst e;exact⟨hv,hs⟩) (h.clo.cells p),h.clo.live,h.clo.bro,h.clo.wr,h.clo.pr⟩,
  ⟨h.sto.wf,fun p hp=>(List.mem_cons.1 hp).elim (fun e=>by subst e;exact⟨i,cs,c,h1,h2,h3,h4⟩) (h.sto.cells p),h.sto.live,h.sto.dis,h.sto.wr,h.sto.M,h.sto.out,h.sto.n,h.sto.g,h.sto.fr,h.sto.cls,h.sto.tok,h.sto.tkw⟩⟩
theorem load1_ok (h:Sat T E ρ G W V) {v o i c:Nat} {t:Ty} {cs:List AVal} {a:AVal} {s:SV} {W':SW} (hv:v<W.nv) (h1:ρ v=.ptr i 0) (h2:V.at i=.obj cs) (h3:cs[o]? =some a) (h4:G i=.cls c) (ht:HasTy T.D G (readT t) a)
  (hl:load1 W v o t=(s,W')):∃ρ',Later ρ W ρ' W'∧Sat T E ρ' G W' V∧s.ev ρ'=a∧s.cl W'.nv=true:=by
 unfold load1 at hl
 split at hl
 ·rename_i x hx
  cases hl
  have hm:=findC_ok hx
  obtain⟨i',cs',c',k1,k2,k3,_⟩:=h.sto.cells _ hm
  simp only at k1 k3
  rw[h1]at k1
  injection k1 with k1 _
  subst k1
  rw[h2]at k2
  injection k2 with k2
  subst k2
  rw[h3]at k3
  injection k3 with k3
  exact⟨ρ,.refl _ _,h,k3.symm,(h.clo.cells _ hm).2⟩
 ·cases hf:freshTy W (readT t)with
  |mk x W1=>
   rw[hf]at hl
   cases hl
   obtain⟨ρ',k1,k2,k3,k4⟩:=freshTy_ok (readT t) h ht hf
   exact⟨ρ',⟨k1.n,k1.agr⟩,k2.addCell (Nat.lt_of_lt_of_le hv k1.n) k4 (by rw[←k1.agr v hv];exact h1) h2 (by rw[k3];exact h3) h4,k3,k4⟩
theorem loadN_ok {v i c:Nat} {cs:List AVal}:∀{n:Nat} {ts:List Ty} {o:Nat} {ρ:Val} {W:SW} (_:Sat T E ρ G W V) {ss:List SV} {W':SW} (_:v<W.nv) (_:ρ v=.ptr i 0) (_:V.at i=.obj cs) (_:G i=.cls c)
  (_:∀(j:Nat) (t:Ty),ts[j]? =some t→∃a,cs[o+j]? =some a∧HasTy T.D G (readT t) a) (_:loadN v n ts o W=some (ss,W')),
  ∃ρ',Later ρ W ρ' W'∧Sat T E ρ' G W' V∧evs ρ' ss=(cs.drop o).take n∧cls W'.nv ss=true∧ss.length=n∧o+n≤cs.length∨(n=0∧ss=[]∧W'=W)
 |0,ts,o,ρ,W,h,ss,W',_,_,_,_,_,hl=>by
  cases hl;exact⟨ρ,.inr ⟨rfl,rfl,rfl⟩⟩
 |n+1,[],o,ρ,W,h,ss,W',_,_,_,_,_,hl=>by cases hl
 |n+1,t::ts,o,ρ,W,h,ss,W',hv,h1,h2,h4,hx,hl=>by
  simp only[loadN]at hl
  cases hb:inBro v o W.bro with
  |true=>rw[hb]at hl;cases hl
  |false=>
   rw[hb]at hl
   simp only[cond_false]at hl
   cases h5:load1 W v o t with
   |mk s W1=>
    rw[h5]at hl
    simp only at hl
    split at hl
    ·rename_i ss1 W2 h6
     cases hl
     obtain⟨a,a1,a2⟩:=hx 0 t rfl
     obtain⟨ρ1,k1,k2,k3,k4⟩:=load1_ok h hv h1 h2 a1 h4 a2 h5
     have hlt:o<cs.length:=(List.getElem?_eq_some_iff.1 a1).1
     have hdrop:cs.drop o=a::cs.drop (o+1):=by
      rw[List.drop_eq_getElem_cons hlt]
      congr 1
      exact(List.getElem?_eq_some_iff.1 a1).2
     obtain⟨ρ2,m⟩:=loadN_ok k2 (o:=o+1) (Nat.lt_of_lt_of_le hv k1.n) (by rw[←k1.agr v hv];exact h1) h2 h4 (fun j t ht=>by
      have:=hx (j+1) t (by simpa using ht)
      rwa [show o+(j+1)=o+1+j by omega]at this) h6
     rcases m with⟨m1,m2,m3,m4,m5,m6⟩|⟨rfl,rfl,rfl⟩
     ·obtain⟨n1,n2⟩:=m1.ev k4
      refine⟨ρ2,.inl ⟨k1.trans m1,m2,?_,by simp only[cls,n2,m4];rfl,by simp[m5],by omega⟩⟩
      rw[hdrop,List.take_succ_cons]
      simp only[evs,n1,k3,m3]
     ·refine⟨ρ1,.inl ⟨k1,k2,?_,by simp only[cls,k4];rfl,rfl,by omega⟩⟩
      rw[hdrop]
      simp only[evs,k3];rfl
    ·cases hl
theorem dropS_get {β:Type} {o:Nat}:∀{l r:List β},dropS o l=some r→∀(j:Nat),r[j]? =l[o+j]? :=by
 induction o with
 |zero=>intro l r h j;cases h;simp
 |succ o ih=>
  intro l r h j
  cases l with
  |nil=>cases h
  |cons a l=>rw[ih (l:=l) h j,show o+1+j=(o+j)+1 by omega,List.getElem?_cons_succ]
theorem classOf_ok (h:Sat T E ρ G W V) {v c:Nat} (hc:classOf W v=some c):∃i,ρ v=.ptr i 0∧G i=.cls c:=by
 unfold classOf at hc
 split at hc
 ·rename_i c' n ht
  obtain⟨h1,h2⟩:=cond_some hc
  cases h2
  exact ptr_of h ht h1
 ·cases hc
theorem celT_ok {i c:Nat} (h:ObjOk T G V (Xof ρ W.bro) i (T.K c)) {j:Nat} {t:Ty} (ht:(celT (T.K c))[j]? =some t):∃ts cs,T.K c=.obj ts∧V.at i=.obj cs∧ts.length=cs.length∧
  ∀(j:Nat) (t:Ty) (a:AVal),ts[j]? =some t→cs[j]? =some a→CellOk T.D G V (Xof ρ W.bro) i j t a:=by
 cases hk:T.K c with
 |none=>rw[hk]at ht;simp[celT]at ht
 |map kk t=>rw[hk]at ht;simp[celT]at ht
 |obj ts=>
  rw[hk]at h
  obtain⟨cs,h1,h2,h3⟩:=h
  exact⟨ts,cs,rfl,h1,h2,h3⟩
theorem loadP_ok (h:Sat T E ρ G W V) {agg:Bool} {n v o:Nat} {s:SV} {W':SW} (hv:v<W.nv) (hl:loadP T W agg n v o=some (s,W')):
  ∃ρ' i,Later ρ W ρ' W'∧Sat T E ρ' G W' V∧s.cl W'.nv=true∧ρ v=.ptr i 0∧loadC agg n o (objCells V i)=some (s.ev ρ'):=by
 unfold loadP at hl
 split at hl
 ·rename_i c hc
  obtain⟨i,hi,hg⟩:=classOf_ok h hc
  cases n with
  |zero=>cases hl
  |succ n=>
  simp only[Nat.beq,cond_false]at hl
  split at hl
  ·rename_i l hd
   split at hl
   ·rename_i ss W1 hn
    split at hl
    ·rename_i x hm
     cases hl
     have hwf:=(h.sto.wf i c hg).2
     cases l with
     |nil=>cases hn
     |cons t0 l=>
     have ht0:(celT (T.K c))[o+0]? =some t0:=by rw[←dropS_get hd 0];rfl
     obtain⟨ts,cs,hk,hat,hlen,hcell⟩:=celT_ok hwf ht0
     rw[hk]at hd
     simp only[celT]at hd
     obtain⟨ρ',m⟩:=loadN_ok h hv hi hat hg (fun j t ht=>by
      have h1:ts[o+j]? =some t:=by rw[←dropS_get hd j];exact ht
      obtain⟨a,ha⟩:=get_of_len (l:=cs) (r:=ts) hlen.symm h1
      exact⟨a,ha,(hcell _ t a h1 ha).1⟩) hn
     rcases m with⟨m1,m2,m3,m4,m5,m6⟩|⟨hz,_,_⟩
     ·have hoc:objCells V i=some cs:=by unfold objCells;rw[hat];rfl
      refine⟨ρ',i,m1,m2,?_,hi,?_⟩
      ·unfold mkS at hm
       cases agg with
       |true=>cases hm;exact m4
       |false=>
        simp only[cond_false]at hm
        split at hm
        ·cases hm;exact(and2 m4).1
        ·cases hm
      ·rw[hoc]
       show partAt agg (n+1) o cs=_
       unfold partAt
       rw[atO_of' (by omega)]
       unfold mkS at hm
       cases agg with
       |true=>
        cases hm
        show aggO (takeN (n+1) (cs.drop o))=_
        rw[takeN_of (by rw[List.length_drop];omega),←m3];rfl
       |false=>
        simp only[cond_false]at hm
        split at hm
        ·cases hm
         have hn1:n=0:=by simp at m5;omega
         subst hn1
         show headO (cs.drop o)=_
         cases hdr:cs.drop o with
         |nil=>rw[hdr]at m3;cases m3
         |cons a r=>
          rw[hdr]at m3
          simp only[List.take_succ_cons,List.take_zero,evs,List.cons.injEq,and_true]at m3
          rw[m3];rfl
        ·cases hm
     ·cases hz
    ·cases hl
   ·cases hl
  ·cases hl
 ·cases hl
theorem loadS_ok (h:Sat T E ρ G W V) (he:SatE ρ W.nv se env) {agg:Bool} {n:Nat} {x:Opd} {s:SV} {W':SW} (hl:loadS T se W agg n (eoS se x)=some (s,W')):
  ∃ρ',Later ρ W ρ' W'∧Sat T E ρ' G W' V∧s.cl W'.nv=true∧loadE agg n env V (eo x env)=some (s.ev ρ'):=by
 obtain⟨h1,h2⟩:=eo_ok he x
 rw[loadE_eq]
 unfold loadS at hl
 split at hl
 ·rename_i b o hx
  rw[hx]at h1
  simp only[EntOk]at h1
  rw[h1]
  have hb:=he.ent b
  have hbc:=he.cl b
  split at hl
  ·rename_i l hs
   rw[hs]at hb hbc
   simp only[EntOk]at hb
   split at hl
   ·rename_i r hr
    cases hl
    obtain⟨p1,p2⟩:=partS_ok (n:=W.nv) (ρ:=ρ) hr
    refine⟨ρ,.refl _ _,h,p2 hbc,?_⟩
    show loadB agg n o (eat env b)=_
    rw[loadB_eq,hb]
    exact p1
   ·cases hl
  ·cases hl
 ·rename_i l hx
  rw[hx]at h1 h2
  simp only[EntOk]at h1
  rw[h1]
  split at hl
  ·rename_i r hr
   cases hl
   obtain⟨p1,p2⟩:=partS_ok (n:=W.nv) (ρ:=ρ) hr
   exact⟨ρ,.refl _ _,h,p2 h2,p1⟩
  ·cases hl
 ·rename_i v o hx
  rw[hx]at h1 h2
  simp only[EntOk,SV.ev]at h1
  obtain⟨ρ',i,m1,m2,m3,m4,m5⟩:=loadP_ok h (bltN h2) hl
  refine⟨ρ',m1,m2,m3,?_⟩
  rw[h1,m4]
  show loadC agg n (0+o) (objCells V i)=_
  rw[Nat.zero_add];exact m5
 ·rename_i v hx
  rw[hx]at h1 h2
  simp only[EntOk,SV.ev]at h1
  obtain⟨ρ',i,m1,m2,m3,m4,m5⟩:=loadP_ok h (bltN h2) hl
  refine⟨ρ',m1,m2,m3,?_⟩
  rw[h1,m4]
  exact m5
 ·cases hl
theorem opLoadS_ok (h:Sat T E ρ G W V) (he:SatE ρ W.nv se env) {agg:Bool} {n:Nat} {x:Opd} {d:Option Nat}:RNok T E ρ W (opLoadS T agg n x d se W) (fun k=>opLoad agg n x d k env V):=by
 unfold opLoadS
 split
 ·rename_i s W' hl
  obtain⟨ρ',m1,m2,m3,m4⟩:=loadS_ok h he hl
  refine rn_val he m1 m2 rfl m3 fun k=> ?_
  show ret1 d k env V (loadE agg n env V (eo x env))=_
  rw[m4];rfl
 ·exact rn_none
end Go.AL.SX
