/-
  A WALKER OF CODE IN SMALL, part 7: what a walker's state says of slots and objects; new variables.
-/
import Derived.Test.YtfoeaeeaflmkfaaGreatSX4
set_option linter.unusedSectionVars false
set_option linter.unusedVariables false
set_option linter.unusedSimpArgs false
namespace Go.AL.SX
structure En where
 V:VS
 G:Nat→Cl
 Tc:Nat→Prop
structure EnOk (E:En):Prop where
 g:E.V.g≤E.V.n
 tcg:∀i,E.Tc i→E.V.g≤i
 tct:∀g i j,E.G g=.tok i j→i<E.V.n∧(E.Tc i→E.Tc g)
 out:∀i,E.V.n≤i→E.G i=.no
def tokOf:AVal→Option Nat
 |.slice _ _ t=>t
 |_=>none
def idxOf:AVal→Option Nat
 |.ptr i _=>some i
 |.map r=>r
 |_=>none
def LiveC (E:En) (G:Nat→Cl) (V:VS) (sz e:Nat) (a:AVal):Prop:=
 a=.slice [] true none∨∃xs nl g,a=.slice xs nl (some g)∧V.at g=.opn xs.length sz e∧G g=.no∧(E.V.n≤g∨E.Tc g)∧g<V.n
def OwnC (G:Nat→Cl) (V:VS) (sz e i j:Nat) (a:AVal):Prop:=
 a=.slice [] true none∨∃xs nl g,a=.slice xs nl (some g)∧V.at g=.opn xs.length sz e∧G g=.tok i j∧g<V.n
def CellOk (D:Nat→Ty) (G:Nat→Cl) (V:VS) (X:Nat→Nat→Prop) (i j:Nat) (t:Ty) (a:AVal):Prop:=
 HasTy D G (readT t) a∧∀t' sz e lo hi,t=.own t' sz e lo hi→¬X i j→OwnC G V sz e i j a
def ObjOk (T:Tab) (G:Nat→Cl) (V:VS) (X:Nat→Nat→Prop) (i:Nat):CD→Prop
 |.none=>False
 |.obj ts=>∃cs,V.at i=.obj cs∧ts.length=cs.length∧∀(j:Nat) (t:Ty) (a:AVal),ts[j]? =some t→cs[j]? =some a→CellOk T.D G V X i j t a
 |.map kk t=>∃ko es,V.at i=.map ko es∧(∀k',ko=some k'→k'=kk)∧∀e∈es,HasTy T.D G t e.2
def Xof (ρ:Val) (l:List (Nat × Nat)) (i j:Nat):Prop:=∃p∈l,ρ p.1=.ptr i 0∧p.2=j
structure Clo (W:SW):Prop where
 ge:∀l∈W.ge,l.cl W.nv=true
 fx:∀f∈W.fx,f.cl W.nv=true
 ln:∀p∈W.ln,p.1<W.nv∧p.2.cl W.nv=true
 cells:∀p∈W.cells,p.1<W.nv∧p.2.2.cl W.nv=true
 live:∀p∈W.live,p.1<W.nv
 bro:∀p∈W.bro,p.1<W.nv
 wr:∀v∈W.wr,v<W.nv
 pr:∀p∈W.pr,cls W.nv p.2=true
structure Sto (T:Tab) (E:En) (ρ:Val) (G:Nat→Cl) (W:SW) (V:VS):Prop where
 wf:∀i c,G i=.cls c→i<V.n∧ObjOk T G V (Xof ρ W.bro) i (T.K c)
 cells:∀p∈W.cells,∃i cs c,ρ p.1=.ptr i 0∧V.at i=.obj cs∧cs[p.2.1]? =some (p.2.2.ev ρ)∧G i=.cls c
 live:∀p∈W.live,LiveC E G V p.2.1 p.2.2 (ρ p.1)
 dis:W.live.Pairwise fun p q=>∀g,tokOf (ρ p.1)=some g→tokOf (ρ q.1)≠some g
 wr:∀v∈W.wr,∀i,idxOf (ρ v)=some i→E.V.n≤i∨E.Tc i
 M:∀c∈W.M,∀i,E.G i=.cls c→E.Tc i
 out:∀i,V.n≤i→G i=.no
 n:E.V.n≤V.n
 g:V.g=E.V.g
 fr:∀i,i<E.V.n→¬E.Tc i→V.at i=E.V.at i∧G i=E.G i
 cls:∀i,i<E.V.n→∀c,G i=.cls c↔E.G i=.cls c
 tok:∀g,g<E.V.n→∀i j,G g=.tok i j→E.G g=.tok i j∨E.Tc g
 tkw:∀g i j,G g=.tok i j→i<V.n
structure Sat (T:Tab) (E:En) (ρ:Val) (G:Nat→Cl) (W:SW) (V:VS):Prop where
 ok:Ok T G ρ W
 clo:Clo W
 sto:Sto T E ρ G W V
variable {T:Tab} {E:En} {ρ ρ':Val} {G:Nat→Cl} {W:SW} {V:VS}
theorem Sto.agree (h:Sto T E ρ G W V) (hc:Clo W) (ha:Agree W.nv ρ ρ'):Sto T E ρ' G W V where
 wf i c hi:=by
  obtain⟨h1,h2⟩:=h.wf i c hi
  have:Xof ρ W.bro=Xof ρ' W.bro:=by
   funext i j
   apply propext
   constructor
   ·rintro⟨p,hp,h1,h2⟩;exact⟨p,hp,by rw[←ha _ (hc.bro p hp)];exact h1,h2⟩
   ·rintro⟨p,hp,h1,h2⟩;exact⟨p,hp,by rw[ha _ (hc.bro p hp)];exact h1,h2⟩
  rw[←this];exact⟨h1,h2⟩
 cells p hp:=by
  obtain⟨i,cs,c,h1,h2,h3,h4⟩:=h.cells p hp
  obtain⟨k1,k2⟩:=hc.cells p hp
  exact⟨i,cs,c,by rw[←ha _ k1];exact h1,h2,by rw[←sv_agree ha _ k2];exact h3,h4⟩
 live p hp:=by rw[←ha _ (hc.live p hp)];exact h.live p hp
 dis:=by
  refine h.dis.imp_of_mem fun {p q} hp hq h=> ?_
  rw[←ha _ (hc.live p hp),←ha _ (hc.live q hq)];exact h
 wr v hv:=by rw[←ha _ (hc.wr v hv)];exact h.wr v hv
 M:=h.M
 out:=h.out
 n:=h.n
 g:=h.g
 fr:=h.fr
 cls:=h.cls
 tok:=h.tok
 tkw:=h.tkw
theorem Clo.more {W':SW} (h:Clo W) (hn:W.nv≤W'.nv) (h1:W'.ge=W.ge) (h2:W'.fx=W.fx) (h3:W'.ln=W.ln) (h4:W'.cells=W.cells) (h5:W'.live=W.live) (h6:W'.bro=W.bro) (h7:W'.wr=W.wr) (h8:W'.pr=W.pr):Clo W' where
 ge l hl:=clT_mono hn (h.ge l (h1▸hl))
 fx l hl:=lit_mono hn (h.fx l (h2▸hl))
 ln p hp:=let⟨a,b⟩:=h.ln p (h3▸hp);⟨Nat.lt_of_lt_of_le a hn,clT_mono hn b⟩
 cells p hp:=let⟨a,b⟩:=h.cells p (h4▸hp);⟨Nat.lt_of_lt_of_le a hn,sv_mono hn _ b⟩
 live p hp:=Nat.lt_of_lt_of_le (h.live p (h5▸hp)) hn
 bro p hp:=Nat.lt_of_lt_of_le (h.bro p (h6▸hp)) hn
 wr p hp:=Nat.lt_of_lt_of_le (h.wr p (h7▸hp)) hn
 pr p hp:=svs_mono hn _ (h.pr p (h8▸hp))
def upd (ρ:Val) (n:Nat) (a:AVal):Val:=fun v=>if v=n then a else ρ v
theorem upd_agree (ρ:Val) (n:Nat) (a:AVal):Agree n ρ (upd ρ n a):=fun v hv=>by simp only[upd];rw[if_neg (by omega)]
theorem upd_self (ρ:Val) (n:Nat) (a:AVal):upd ρ n a n=a:=by simp[upd]
theorem Ok.agree (h:Ok T G ρ W) (hc:Clo W) (ha:Agree W.nv ρ ρ'):Ok T G ρ' W where
 ty v:=by
  rcases Nat.lt_or_ge v W.nv with hv|hv
  ·rw[←ha v hv];exact h.ty v
  ·rw[h.top v hv];exact .any _
 top:=h.top
 ge l hl:=by rw[←lin_agree ha (hc.ge l hl)];exact h.ge l hl
 fx f hf:=by rw[←lit_agree ha (hc.fx f hf)];exact h.fx f hf
 ln p hp:=by
  obtain⟨h1,h2⟩:=hc.ln p hp
  rw[←ha _ h1,←lin_agree ha h2];exact h.ln p hp
 pr p hp:=by rw[←svs_agree ha _ (hc.pr p hp)];exact h.pr p hp
theorem Sat.agree (h:Sat T E ρ G W V) (ha:Agree W.nv ρ ρ'):Sat T E ρ' G W V:=⟨h.ok.agree h.clo ha,h.clo,h.sto.agree h.clo ha⟩
theorem Sat.push (h:Sat T E ρ G W V) {t:Ty} {a:AVal} (ht:HasTy T.D G t a):Sat T E (upd ρ W.nv a) G (W.push t) V:=by
 have ha:=upd_agree ρ W.nv a
 have hk:=h.agree ha
 have hle:W.nv≤(W.push t).nv:=Nat.le_succ _
 refine⟨⟨fun v=> ?_,fun v hv=> ?_,hk.ok.ge,hk.ok.fx,hk.ok.ln,hk.ok.pr⟩,h.clo.more hle rfl rfl rfl rfl rfl rfl rfl rfl,?_⟩
 ·rw[tyOf_push]
  by_cases he:W.nv=v
  ·subst he;rw[if_pos rfl,upd_self];exact ht
  ·rw[if_neg he];exact hk.ok.ty v
 ·rw[tyOf_push,if_neg (by have:W.nv+1≤v:=hv;omega)]
  exact h.ok.top v (Nat.le_trans hle hv)
 ·have hs:=hk.sto
  exact⟨hs.wf,hs.cells,hs.live,hs.dis,hs.wr,hs.M,hs.out,hs.n,hs.g,hs.fr,hs.cls,hs.tok,hs.tkw⟩
structure Later (ρ:Val) (W:SW) (ρ':Val) (W':SW):Prop where
 n:W.nv≤W'.nv
 agr:Agree W.nv ρ ρ'
theorem Later.refl (ρ:Val) (W:SW):Later ρ W ρ W:=⟨Nat.le_refl _,.refl _ _⟩
theorem Later.trans {ρ'':Val} {W' W'':SW} (h:Later ρ W ρ' W') (k:Later ρ' W' ρ'' W''):Later ρ W ρ'' W'':=⟨Nat.le_trans h.n k.n,h.agr.trans k.agr h.n⟩
theorem Later.ev {W':SW} (h:Later ρ W ρ' W') {s:SV} (hs:s.cl W.nv=true):s.ev ρ'=s.ev ρ∧s.cl W'.nv=true:=⟨(sv_agree h.agr s hs).symm,sv_mono h.n s hs⟩
theorem Later.evs {W':SW} (h:Later ρ W ρ' W') {l:List SV} (hs:cls W.nv l=true):SX.evs ρ' l=SX.evs ρ l∧cls W'.nv l=true:=⟨(svs_agree h.agr l hs).symm,svs_mono h.n l hs⟩
theorem later_push (ρ:Val) (W:SW) (t:Ty) (a:AVal):Later ρ W (upd ρ W.nv a) (W.push t):=⟨Nat.le_succ _,upd_agree _ _ _⟩
theorem ltB {v n:Nat} (h:v<n):Nat.blt v n=true:=by rw[blt_eq];exact decide_eq_true h
theorem nv_push (W:SW) (t:Ty):W.nv<(W.push t).nv:=Nat.lt_succ_self _
mutual
theorem freshTy_ok:∀(t:Ty) {ρ:Val} {W:SW} (_:Sat T E ρ G W V) {a:AVal} {s:SV} {W':SW},HasTy T.D G t a→freshTy W t=(s,W')→
  ∃ρ',Later ρ W ρ' W'∧Sat T E ρ' G W' V∧s.ev ρ'=a∧s.cl W'.nv=true
 |.agg l,ρ,W,h,a,s,W',ha,he=>by
  cases ha with
  |agg _ cs hl hx=>
   simp only[freshTy]at he
   cases hf:freshTys W l with
   |mk ss W1=>
    rw[hf]at he
    cases he
    obtain⟨ρ',k1,k2,k3,k4⟩:=freshTys_ok l h hl hx hf
    exact⟨ρ',k1,k2,by simp only[SV.ev,k3],k4⟩
 |.tup l,ρ,W,h,a,s,W',ha,he=>by
  cases ha with
  |tup _ cs hl hx=>
   simp only[freshTy]at he
   cases hf:freshTys W l with
   |mk ss W1=>
    rw[hf]at he
    cases he
    obtain⟨ρ',k1,k2,k3,k4⟩:=freshTys_ok l h hl hx hf
    exact⟨ρ',k1,k2,by simp only[SV.ev,k3],k4⟩
 |.int k lo hi,ρ,W,h,a,s,W',ha,he=>by
  simp only[freshTy]at he
  cases he
  have h0:=ha
  cases ha with
  |int _ _ _ n h1 h2=>
   exact⟨_,later_push _ _ _ _,h.push h0,by simp only[SV.ev,ev_at,At.ev,upd_self,intOf],by simp only[SV.cl];exact cl_at (ltB (nv_push W _))⟩
 |.inu k,ρ,W,h,a,s,W',ha,he=>by
  simp only[freshTy]at he
  cases he
  have h0:=ha
  cases ha with
  |inu _ n=>
   exact⟨_,later_push _ _ _ _,h.push h0,by simp only[SV.ev,ev_at,At.ev,upd_self,intOf],by simp only[SV.cl];exact cl_at (ltB (nv_push W _))⟩
 |.bool,ρ,W,h,a,s,W',ha,he=>by
  simp only[freshTy]at he
  cases he
  have h0:=ha
  cases ha with
  |bool b=>exact⟨_,later_push _ _ _ _,h.push h0,by simp[SV.ev,Lit.ev,upd_self,boolOf],ltB (nv_push W _)⟩
 |.own _ _ _ _ _,ρ,W,h,a,s,W',ha,he=>by cases ha
 |.any,ρ,W,h,a,s,W',ha,he=>by simp only[freshTy]at he;cases he;exact⟨_,later_push _ _ _ _,h.push ha,upd_self _ _ _,ltB (nv_push W _)⟩
 |.str _,ρ,W,h,a,s,W',ha,he=>by simp only[freshTy]at he;cases he;exact⟨_,later_push _ _ _ _,h.push ha,upd_self _ _ _,ltB (nv_push W _)⟩
 |.sl _ _ _,ρ,W,h,a,s,W',ha,he=>by simp only[freshTy]at he;cases he;exact⟨_,later_push _ _ _ _,h.push ha,upd_self _ _ _,ltB (nv_push W _)⟩
 |.ptr _ _,ρ,W,h,a,s,W',ha,he=>by simp only[freshTy]at he;cases he;exact⟨_,later_push _ _ _ _,h.push ha,upd_self _ _ _,ltB (nv_push W _)⟩
 |.map _ _,ρ,W,h,a,s,W',ha,he=>by simp only[freshTy]at he;cases he;exact⟨_,later_push _ _ _ _,h.push ha,upd_self _ _ _,ltB (nv_push W _)⟩
 |.ifc _ _,ρ,W,h,a,s,W',ha,he=>by simp only[freshTy]at he;cases he;exact⟨_,later_push _ _ _ _,h.push ha,upd_self _ _ _,ltB (nv_push W _)⟩
 |.fn _ _,ρ,W,h,a,s,W',ha,he=>by simp only[freshTy]at he;cases he;exact⟨_,later_push _ _ _ _,h.push ha,upd_self _ _ _,ltB (nv_push W _)⟩
 |.con _,ρ,W,h,a,s,W',ha,he=>by simp only[freshTy]at he;cases he;cases ha;exact⟨ρ,.refl _ _,h,rfl,rfl⟩
 |.nm _,ρ,W,h,a,s,W',ha,he=>by simp only[freshTy]at he;cases he;exact⟨_,later_push _ _ _ _,h.push ha,upd_self _ _ _,ltB (nv_push W _)⟩
theorem freshTys_ok:∀(l:List Ty) {ρ:Val} {W:SW} (_:Sat T E ρ G W V) {cs:List AVal} {ss:List SV} {W':SW},l.length=cs.length→(∀(j:Nat) (t:Ty) (c:AVal),l[j]? =some t→cs[j]? =some c→HasTy T.D G t c)→
  freshTys W l=(ss,W')→∃ρ',Later ρ W ρ' W'∧Sat T E ρ' G W' V∧evs ρ' ss=cs∧cls W'.nv ss=true
 | [],ρ,W,h,cs,ss,W',hl,hx,he=>by
  simp only[freshTys]at he
  cases he
  cases cs with
  |nil=>exact⟨ρ,.refl _ _,h,rfl,rfl⟩
  |cons c cs=>cases hl
 |t::l,ρ,W,h,cs,ss,W',hl,hx,he=>by
  cases cs with
  |nil=>cases hl
  |cons c cs=>
   simp only[freshTys]at he
   cases hf:freshTy W t with
   |mk s W1=>
    rw[hf]at he
    simp only at he
    cases hg:freshTys W1 l with
    |mk ss1 W2=>
     rw[hg]at he
     cases he
     obtain⟨ρ1,k1,k2,k3,k4⟩:=freshTy_ok t h (hx 0 t c rfl rfl) hf
     obtain⟨ρ2,m1,m2,m3,m4⟩:=freshTys_ok l k2 (by simpa using hl) (fun j t c ht hc=>hx (j+1) t c (by simpa using ht) (by simpa using hc)) hg
     obtain⟨n1,n2⟩:=m1.ev k4
     exact⟨ρ2,k1.trans m1,m2,by simp only[evs,n1,k3,m3],by simp only[cls,n2,m4];rfl⟩
end
theorem freshOwn_ok (h:Sat T E ρ G W V) {t:Ty} {sz e lo hi:Nat} {a:AVal} {s:SV} {W':SW} (ht:HasTy T.D G (.sl t lo hi) a) (hl:LiveC E G V sz e a)
  (hd:∀p∈W.live,∀g,tokOf a=some g→tokOf (ρ p.1)≠some g) (he:freshTy W (.own t sz e lo hi)=(s,W')):
  s=.x W.nv∧W'= {W.push (.sl t lo hi)with live:=(W.nv,sz,e)::W.live}∧Later ρ W (upd ρ W.nv a) W'∧Sat T E (upd ρ W.nv a) G W' V∧upd ρ W.nv a W.nv=a:=by
 simp only[freshTy]at he
 cases he
 have hp:=h.push ht
 have ha:=upd_agree ρ W.nv a
 refine⟨rfl,rfl,⟨Nat.le_succ _,ha⟩,⟨⟨hp.ok.ty,hp.ok.top,hp.ok.ge,hp.ok.fx,hp.ok.ln,hp.ok.pr⟩,⟨hp.clo.ge,hp.clo.fx,hp.clo.ln,hp.clo.cells,fun p hp'=> ?_,hp.clo.bro,hp.clo.wr,hp.clo.pr⟩,
  ⟨hp.sto.wf,hp.sto.cells,fun p hp'=> ?_,?_,hp.sto.wr,hp.sto.M,hp.sto.out,hp.sto.n,hp.sto.g,hp.sto.fr,hp.sto.cls,hp.sto.tok,hp.sto.tkw⟩⟩,upd_self _ _ _⟩
 ·rcases List.mem_cons.1 hp' with rfl|hp'
  ·exact Nat.lt_succ_self _
  ·exact hp.clo.live p hp'
 ·rcases List.mem_cons.1 hp' with rfl|hp'
  ·simp only[upd_self];exact hl
  ·exact hp.sto.live p hp'
 ·refine List.pairwise_cons.2 ⟨fun p hp' g hg=> ?_,hp.sto.dis⟩
  simp only[upd_self]at hg
  have:=hd p hp' g hg
  rw[←ha _ (h.clo.live p hp')];exact this
def EntOk (ρ:Val):SEnt→Ent→Prop
 |.val s,e=>e=.val (s.ev ρ)
 |.box l,e=>e=.box (evs ρ l)
 |.lp s o,e=>e=.lptr s o
 |.un,_=>True
def SEnt.cl (n:Nat):SEnt→Bool
 |.val s=>s.cl n
 |.box l=>SX.cls n l
 |_=>true
structure SatE (ρ:Val) (n:Nat) (se:SE) (env:VE):Prop where
 ent:∀s,EntOk ρ (sat se s) (eat env s)
 cl:∀s,(sat se s).cl n=true
theorem EntOk.agree {n:Nat} (ha:Agree n ρ ρ') {x:SEnt} {e:Ent} (h:EntOk ρ x e) (hc:x.cl n=true):EntOk ρ' x e:=by
 cases x with
 |val s=>simp only[EntOk]at h⊢;rw[h,sv_agree ha s hc]
 |box l=>simp only[EntOk]at h⊢;rw[h,svs_agree ha l hc]
 |lp s o=>exact h
 |un=>trivial
theorem SEnt.mono {n m:Nat} (hle:n≤m) {x:SEnt} (h:x.cl n=true):x.cl m=true:=by
 cases x with
 |val s=>exact sv_mono hle s h
 |box l=>exact svs_mono hle l h
 |lp s o=>rfl
 |un=>rfl
theorem SatE.later {se:SE} {env:VE} {W':SW} (h:SatE ρ W.nv se env) (hl:Later ρ W ρ' W'):SatE ρ' W'.nv se env:=
 ⟨fun s=>(h.ent s).agree hl.agr (h.cl s),fun s=>SEnt.mono hl.n (h.cl s)⟩
theorem SatE.put {n:Nat} {se:SE} {env:VE} (h:SatE ρ n se env) (s:Nat) {x:SEnt} {e:Ent} (hx:EntOk ρ x e) (hc:x.cl n=true):SatE ρ n (sput se s x) (eput env s e):=by
 refine⟨fun t=> ?_,fun t=> ?_⟩
 ·rw[sat_sput,eat_eput]
  by_cases he:s=t
  ·rw[if_pos he,if_pos he];exact hx
  ·rw[if_neg he,if_neg he];exact h.ent t
 ·rw[sat_sput]
  by_cases he:s=t
  ·rw[if_pos he];exact hc
  ·rw[if_neg he];exact h.cl t
theorem SatE.set {n:Nat} {se:SE} {env:VE} (h:SatE ρ n se env) (d:Option Nat) {x:SEnt} {e:Ent} (hx:EntOk ρ x e) (hc:x.cl n=true):SatE ρ n (setS d x se) (setd d e env):=by
 cases d with
 |none=>exact h
 |some s=>exact h.put s hx hc
theorem eo_ok {n:Nat} {se:SE} {env:VE} (h:SatE ρ n se env) (x:Opd):EntOk ρ (eoS se x) (eo x env)∧(eoS se x).cl n=true:=by
 cases x with
 |const a=>exact⟨rfl,rfl⟩
 |tmp t=>
  have h1:=h.ent t
  have h2:=h.cl t
  simp only[eoS]
  show EntOk ρ _ (eoT t (eat env t))∧_
  generalize sat se t=x at h1 h2
  cases x with
  |val s=>simp only[EntOk]at h1;rw[h1];exact⟨rfl,h2⟩
  |box l=>simp only[EntOk]at h1;rw[h1];exact⟨rfl,rfl⟩
  |lp s o=>simp only[EntOk]at h1;rw[h1];exact⟨rfl,rfl⟩
  |un=>exact⟨trivial,rfl⟩
theorem ev_ok {n:Nat} {se:SE} {env:VE} (h:SatE ρ n se env) {x:Opd} {s:SV} (hx:evS se x=some s):eo x env=.val (s.ev ρ)∧s.cl n=true:=by
 have h1:=eo_ok h x
 unfold evS at hx
 cases he:eoS se x with
 |val t=>rw[he]at hx h1;cases hx;exact h1
 |box l=>rw[he]at hx;cases hx
 |lp s o=>rw[he]at hx;cases hx
 |un=>rw[he]at hx;cases hx
theorem evsS_ok {n:Nat} {se:SE} {env:VE} (h:SatE ρ n se env):∀{l:List Opd} {ss:List SV},evsS se l=some ss→evals l env=some (evs ρ ss)∧SX.cls n ss=true
 | [],ss,hl=>by cases hl;exact⟨rfl,rfl⟩
 |x::l,ss,hl=>by
  simp only[evsS]at hl
  split at hl
  ·rename_i s r hs hr
   cases hl
   obtain⟨h1,h2⟩:=ev_ok h hs
   obtain⟨h3,h4⟩:=evsS_ok h hr
   refine⟨?_,by simp only[SX.cls,h2,h4];rfl⟩
   show evalsC (evals l) env (eo x env)=_
   rw[h1]
   show consO _ (evals l env)=_
   rw[h3];rfl
  ·cases hl
theorem learn_same (W:SW) (f:Lit):(learn W f).nv=W.nv∧(learn W f).cells=W.cells∧(learn W f).live=W.live∧(learn W f).bro=W.bro∧(learn W f).wr=W.wr∧(learn W f).M=W.M∧(learn W f).ln=W.ln∧(learn W f).pr=W.pr:=by
 cases f with
 |eq l p=>
  cases p with
  |true=>exact⟨rfl,rfl,rfl,rfl,rfl,rfl,rfl,rfl⟩
  |false=>
   simp only[learn]
   cases geq W l with
   |true=>exact⟨rfl,rfl,rfl,rfl,rfl,rfl,rfl,rfl⟩
   |false=>cases geq W l.neg<;>exact⟨rfl,rfl,rfl,rfl,rfl,rfl,rfl,rfl⟩
 |_=>exact⟨rfl,rfl,rfl,rfl,rfl,rfl,rfl,rfl⟩
theorem learn_clo (h:Clo W) {f:Lit} (hf:f.cl W.nv=true):Clo (learn W f):=by
 have ge:∀{W:SW},Clo W→∀{l:Lin},l.cl W.nv=true→Clo (W.addGe l):=fun h l hl=>
  ⟨fun x hx=>(List.mem_cons.1 hx).elim (fun e=>e▸hl) (h.ge x),h.fx,h.ln,h.cells,h.live,h.bro,h.wr,h.pr⟩
 have fx:∀{W:SW},Clo W→∀{f:Lit},f.cl W.nv=true→Clo (W.addFx f):=fun h l hl=>
  ⟨h.ge,fun x hx=>(List.mem_cons.1 hx).elim (fun e=>e▸hl) (h.fx x),h.ln,h.cells,h.live,h.bro,h.wr,h.pr⟩
 cases f with
 |c b=>exact h
 |bv v p=>exact fx h hf
 |nl v p=>exact fx h hf
 |ge l=>exact ge h hf
 |eq l p=>
  cases p with
  |true=>exact ge (ge h hf) (cl_neg (x:=l) hf)
  |false=>
   simp only[learn]
   cases geq W l with
   |true=>exact ge h (cl_addc (x:=l) hf)
   |false=>
    cases geq W l.neg with
    |true=>exact ge h (cl_addc (cl_neg (x:=l) hf))
    |false=>exact fx h hf
theorem Sto.same {W':SW} (h:Sto T E ρ G W V) (h1:W'.cells=W.cells) (h2:W'.live=W.live) (h3:W'.bro=W.bro) (h4:W'.wr=W.wr) (h5:W'.M=W.M):Sto T E ρ G W' V:=
 ⟨by rw[h3];exact h.wf,by rw[h1];exact h.cells,by rw[h2];exact h.live,by rw[h2];exact h.dis,by rw[h4];exact h.wr,by rw[h5];exact h.M,h.out,h.n,h.g,h.fr,h.cls,h.tok,h.tkw⟩
theorem Later.same {W':SW} (h:W'.nv=W.nv):Later ρ W ρ W':=⟨Nat.le_of_eq h.symm,.refl _ _⟩
class TabOk (T:Tab):Prop where
 low:∀k as,k<100→¬T.Φ k as
 prv:∀{G:Nat→Cl} {ρ:Val} {W:SW} {k:Nat} {as:List SV},Ok T G ρ W→T.prv W k as=true→phi T k (evs ρ as)
 hook:∀{G:Nat→Cl} {ρ:Val} {W:SW} {k:Nat} {as:List SV},Ok T G ρ W→phi T k (evs ρ as)→∀f∈T.hook W k as,f.ev ρ=true
theorem Sat.learn (h:Sat T E ρ G W V) {f:Lit} (hc:f.cl W.nv=true) (hf:f.ev ρ=true):Sat T E ρ G (learn W f) V:=by
 obtain⟨e0,e1,e2,e3,e4,e5,e6⟩:=learn_same W f
 exact⟨learn_ok h.ok hf,learn_clo h.clo hc,h.sto.same e1 e2 e3 e4 e5⟩
theorem learns_ok:∀{l:List Lit} {W:SW},Sat T E ρ G W V→(∀f∈l,f.ev ρ=true)→Sat T E ρ G (learns W.nv l W) V∧(learns W.nv l W).nv=W.nv
 | [],W,h,_=>⟨h,rfl⟩
 |f::l,W,h,hl=>by
  simp only[learns]
  cases hc:f.cl W.nv with
  |true=>
   have e:=(learn_same W f).1
   have:=learns_ok (l:=l) (h.learn hc (hl f (List.mem_cons_self ..))) fun g hg=>hl g (List.mem_cons_of_mem _ hg)
   rw[e]at this
   exact this
  |false=>exact learns_ok (l:=l) h fun g hg=>hl g (List.mem_cons_of_mem _ hg)
theorem Sat.addPr (h:Sat T E ρ G W V) {k:Nat} {as:List SV} (hc:cls W.nv as=true) (hp:phi T k (evs ρ as)):Sat T E ρ G (W.addPr k as) V:=
 ⟨⟨h.ok.ty,h.ok.top,h.ok.ge,h.ok.fx,h.ok.ln,fun p hp'=>(List.mem_cons.1 hp').elim (fun e=>by subst e;exact hp) (h.ok.pr p)⟩,
  ⟨h.clo.ge,h.clo.fx,h.clo.ln,h.clo.cells,h.clo.live,h.clo.bro,h.clo.wr,fun p hp'=>(List.mem_cons.1 hp').elim (fun e=>by subst e;exact hc) (h.clo.pr p)⟩,
  h.sto.same rfl rfl rfl rfl rfl⟩
theorem Sat.note [hT:TabOk T] (h:Sat T E ρ G W V) {k:Nat} {as:List SV} (hc:cls W.nv as=true) (hp:phi T k (evs ρ as)):Sat T E ρ G (note T k as W) V∧(note T k as W).nv=W.nv:=
 learns_ok (W:=W.addPr k as) (h.addPr hc hp) (hT.hook h.ok hp)
theorem phi_low [hT:TabOk T] {k:Nat} {as:List AVal} (hk:k<100) (h:phi T k as):Bi k as:=h.elim id fun h=>absurd h (hT.low k as hk)
end Go.AL.SX
namespace Go.AL.SX
theorem kMin_le (k:IntKind):kMin k≤0:=by cases k<;>decide
theorem le_kMax (k:IntKind):0≤kMax k:=by cases k<;>decide
theorem kMin_eq (k:IntKind):kMin k=if k.signed then -((2^(k.bits-1):Nat):Int)else 0:=by cases k<;>decide
theorem kMax_eq' (k:IntKind):kMax k=(if k.signed then((2^(k.bits-1):Nat):Int)else((2^k.bits:Nat):Int))-1:=by cases k<;>decide
theorem wrap_rng (k:IntKind) (n:Int):kMin k≤k.wrap n∧k.wrap n≤kMax k:=by
 have hb:0<k.bits:=by cases k<;>decide
 have h2:2^k.bits=2*2^(k.bits-1):=by
  obtain⟨q,hq⟩:∃q,k.bits=q+1:=⟨k.bits-1,by omega⟩
  rw[hq,Nat.add_sub_cancel,Nat.pow_succ,Nat.mul_comm]
 have c1:(2^k.bits:Int)=((2^k.bits:Nat):Int):=(Int.natCast_pow 2 k.bits).symm
 have c2:(2^(k.bits-1):Int)=((2^(k.bits-1):Nat):Int):=(Int.natCast_pow 2 (k.bits-1)).symm
 have hp:0<2^(k.bits-1):=Nat.pow_pos (by omega)
 rw[kMin_eq,kMax_eq']
 unfold IntKind.wrap
 rw[c1,c2]
 generalize 2^k.bits=A at*
 generalize 2^(k.bits-1)=B at*
 have m1:0≤n%(A:Int):=Int.emod_nonneg _ (by omega)
 have m2:n%(A:Int)<A:=Int.emod_lt_of_pos _ (by omega)
 generalize n%(A:Int)=m at*
 cases hs:k.signed with
 |false=>simp;omega
 |true=>
  simp only[Bool.true_and,decide_eq_true_eq,if_true]
  split<;>omega
theorem wrap_in {k:IntKind} {n:Int} (h1:kMin k≤n) (h2:n≤kMax k):k.wrap n=n:=by
 rw[kMin_eq]at h1
 rw[kMax_eq']at h2
 match n,h1,h2 with
 |.ofNat m,_,h2=>
  refine wrap_small k m ?_
  cases hs:k.signed with
  |true=>rw[hs]at h2;simp only[if_true]at h2;simp only[cond_true];have:((m:Nat):Int)≤_:=h2;omega
  |false=>rw[hs]at h2;simp only[Bool.false_eq_true,if_false]at h2;simp only[cond_false];have:((m:Nat):Int)≤_:=h2;omega
 |.negSucc m,h1,_=>
  cases hs:k.signed with
  |true=>rw[hs]at h1;simp only[if_true]at h1;exact wrap_smallN k m hs (by rw[Int.negSucc_eq]at h1;omega)
  |false=>rw[hs]at h1;simp at h1
theorem intF_of {op:BinOp} {k:IntKind} {a b:Int} {v:AVal} (h:intV op k a b=some v):intF op k a b=some v:=by
 have tot:∃w,intF op k a b=some w:=by
  cases op with
  |shr=>
   match a,b with
   |.ofNat a,.ofNat b=>exact⟨_,rfl⟩
   |.ofNat a,.negSucc b=>exact⟨v,h⟩
   |.negSucc a,.ofNat b=>exact⟨v,h⟩
   |.negSucc a,.negSucc b=>exact⟨v,h⟩
  |add|sub=>exact⟨_,rfl⟩
  |mul|quo|rem|and|or|xor|shl|andNot=>exact⟨v,h⟩
  |eql|neq|lss|leq|gtr|geq=>exact⟨_,rfl⟩
 obtain⟨w,hw⟩:=tot
 have:=intF_some hw
 rw[h]at this
 rw[hw,this]
section
variable (T:Tab) (E:En) (ρ:Val) (G:Nat→Cl) (W:SW) (V:VS)
def R1ok (r:R1) (o:Option Ent):Prop:=∀x W',r=some (x,W')→∃ρ' e,Later ρ W ρ' W'∧Sat T E ρ' G W' V∧o=some e∧EntOk ρ' x e∧x.cl W'.nv=true
end
variable {T:Tab} [TabOk T] {E:En} {ρ ρ':Val} {G:Nat→Cl} {W:SW} {V:VS}
theorem eqTs_ok:∀{a b:List (Int × At)},eqTs a b=true→a=b
 | [],[],_=>rfl
 | [],_::_,h=>by cases h
 |_::_,[],h=>by cases h
 |(k,x)::a,(k',y)::b,h=>by
  obtain⟨h1,h2⟩:=and2 h
  obtain⟨h2,h3⟩:=and2 h2
  rw[eqI_ok h1,at_beq h2,eqTs_ok h3]
theorem eqLin_ok {a b:Lin} (h:eqLin a b=true):a=b:=by
 obtain⟨h1,h2⟩:=and2 h
 cases a;cases b
 have e1:=eqI_ok h1
 have e2:=eqTs_ok h2
 simp only at e1 e2
 rw[e1,e2]
theorem r1_none {o:Option Ent}:R1ok T E ρ G W V none o:=fun _ _ h=>by cases h
theorem r1_same (h:Sat T E ρ G W V) {s:SV} {o:Option Ent} (hc:s.cl W.nv=true) (ho:o=some (.val (s.ev ρ))):R1ok T E ρ G W V (some1 s W) o:=by
 intro x W' hx
 cases hx
 exact⟨ρ,_,.refl _ _,h,ho,rfl,hc⟩
theorem r1_if {b:Bool} {r:R1} {o:Option Ent} (h:b=true→R1ok T E ρ G W V r o):R1ok T E ρ G W V (bif b then r else none) o:=by
 cases b with
 |true=>exact h rfl
 |false=>exact r1_none
theorem r1_ite {b:Bool} {r q:R1} {o:Option Ent} (h:b=true→R1ok T E ρ G W V r o) (k:b=false→R1ok T E ρ G W V q o):R1ok T E ρ G W V (bif b then r else q) o:=by
 cases b with
 |true=>exact h rfl
 |false=>exact k rfl
theorem r1_fresh (h:Sat T E ρ G W V) {t:Ty} {a:AVal} {o:Option Ent} (ht:HasTy T.D G t a) (ho:o=some (.val a)):
  R1ok T E ρ G W V (match freshTy W t with|(s,W)=>some1 s W) o:=by
 intro x W' hx
 cases hf:freshTy W t with
 |mk s W1=>
  rw[hf]at hx
  cases hx
  obtain⟨ρ',k1,k2,k3,k4⟩:=freshTy_ok t h ht hf
  exact⟨ρ',_,k1,k2,ho,by simp only[EntOk,k3],k4⟩
theorem r1_int (h:Sat T E ρ G W V) {k:IntKind} {lo hi n:Int} {o:Option Ent} (h1:lo≤n) (h2:n≤hi) (ho:o=some (.val (.int k n))):R1ok T E ρ G W V (anyInt W k lo hi) o:=
 r1_fresh h (.int k lo hi n h1 h2) ho
theorem r1_bool (h:Sat T E ρ G W V) {b:Bool} {o:Option Ent} (ho:o=some (.val (.bool b))):R1ok T E ρ G W V (anyBool W) o:=r1_fresh h (.bool b) ho
theorem inKind_ok (h:Sat T E ρ G W V) {k:IntKind} {l:Lin} (hk:inKind W k l=true):kMin k≤l.ev ρ∧l.ev ρ≤kMax k:=by
 obtain⟨h1,h2⟩:=and2 hk
 have h1:=geq_ok h.ok h1
 have h2:=geq_ok h.ok h2
 simp only[ev_addc,ev_neg,negI_eq]at h1 h2
 exact⟨by omega,by omega⟩
theorem r1_wrap (h:Sat T E ρ G W V) {k:IntKind} {l:Lin} {o:Option Ent} (hc:l.cl W.nv=true) (ho:o=some (.val (.int k (k.wrap (l.ev ρ))))):R1ok T E ρ G W V (wrapS W k l) o:=by
 refine r1_ite (fun hk=> ?_) (fun _=> ?_)
 ·obtain⟨h1,h2⟩:=inKind_ok h hk
  exact r1_same h hc (by rw[ho,wrap_in h1 h2];rfl)
 ·obtain⟨h1,h2⟩:=wrap_rng k (l.ev ρ)
  exact r1_int h h1 h2 ho
theorem r1_lit (h:Sat T E ρ G W V) {f:Lit} {o:Option Ent} (hc:f.cl W.nv=true) (ho:o=some (.val (.bool (f.ev ρ)))):R1ok T E ρ G W V (litE W f) o:=by
 unfold litE lit
 cases h1:holds W f with
 |true=>
  have:=holds_ok h.ok h1
  exact r1_same h rfl (by rw[ho,this];rfl)
 |false=>
  cases h2:holds W f.neg with
  |true=>
   have:=holds_ok h.ok h2
   rw[neg_ev]at this
   have hf:f.ev ρ=false:=by
    cases hf:f.ev ρ with
    |false=>rfl
    |true=>rw[hf]at this;cases this
   exact r1_same h rfl (by rw[ho,hf];rfl)
  |false=>exact r1_same h hc ho
theorem ubOf_ok (h:Sat T E ρ G W V) {l:Lin} {u:Int} (hu:ubOf W l=some u):l.ev ρ≤u:=by
 unfold ubOf at hu
 split at hu
 ·rename_i n hn
  cases hu
  have:=lbT_ok h.ok hn
  rw[evT_negTs]at this
  simp only[subI_eq,Lin.ev];omega
 ·cases hu
theorem divN_ok {a u:Int} {b:Nat} (ha:0≤a) (hu:a≤u) (hb:0<b):a/b≤divN u b:=by
 match u,hu with
 |.ofNat u,hu=>
  show a/(b:Int)≤((u/b:Nat):Int)
  rw[Int.natCast_ediv]
  exact Int.ediv_le_ediv (by omega) hu
 |.negSucc u,hu=>omega
theorem toI_ok {s:SV} {k:IntKind} {l:Lin} (h:toI s=some (k,l)):s.ev ρ=.int k (l.ev ρ)∧(∀n,s.cl n=true→l.cl n=true):=by
 unfold toI at h
 split at h
 ·cases h;exact⟨rfl,fun n hn=>hn⟩
 ·cases h;exact⟨by simp[SV.ev],fun n _=>rfl⟩
 ·cases h
theorem toB_ok {s:SV} {f:Lit} (h:toB s=some f):s.ev ρ=.bool (f.ev ρ)∧(∀n,s.cl n=true→f.cl n=true):=by
 unfold toB at h
 split at h
 ·cases h;exact⟨rfl,fun n hn=>hn⟩
 ·cases h;exact⟨rfl,fun n _=>rfl⟩
 ·cases h
theorem r1_ar (h:Sat T E ρ G W V) {op:BinOp} {k:IntKind} {a b:Lin} {o:Option Ent} (ha:a.cl W.nv=true) (hb:b.cl W.nv=true)
  (ho:∀v,intV op k (a.ev ρ) (b.ev ρ)=some v→o=some (.val v)):R1ok T E ρ G W V (arS W op k a b) o:=by
 unfold arS
 split
 ·exact r1_wrap h (cl_add ha hb) (by rw[ev_add];exact ho _ rfl)
 ·exact r1_wrap h (cl_sub ha hb) (by rw[ev_sub];exact ho _ rfl)
 ·split
  ·rename_i n hn
   have:=ev_const (ρ:=ρ) hn
   exact r1_wrap h (cl_mul ha) (by rw[ev_mul,←this,Int.mul_comm];exact ho _ rfl)
  ·split
   ·rename_i n hn
    have:=ev_const (ρ:=ρ) hn
    exact r1_wrap h (cl_mul hb) (by rw[ev_mul,←this];exact ho _ rfl)
   ·obtain⟨h1,h2⟩:=wrap_rng k (a.ev ρ*b.ev ρ)
    exact r1_int h h1 h2 (ho _ rfl)
 ·split
  ·rename_i n hn
   have hn:=ev_const (ρ:=ρ) hn
   have hv:o=some (.val (.int k ((a.ev ρ).tmod (b.ev ρ)))):=ho _ (show(if b.ev ρ=0 then none else some (AVal.int k ((a.ev ρ).tmod (b.ev ρ))))=_ from if_neg (by rw[hn];show¬((n+1:Nat):Int)=0;omega))
   have hn':b.ev ρ=((n+1:Nat):Int):=hn
   refine r1_ite (fun hg=> ?_) (fun _=> ?_)
   ·have h0:=geq_ok h.ok hg
    have h1:=Int.tmod_nonneg (b.ev ρ) h0
    have h2:=Int.tmod_lt_of_pos (a.ev ρ) (b:=b.ev ρ) (by omega)
    exact r1_int h (by simpa using h1) (by simp only[Int.ofNat_eq_natCast];omega) hv
   ·have h2:=Int.tmod_lt_of_pos (a.ev ρ) (b:=b.ev ρ) (by omega)
    have h3: -(b.ev ρ)<(a.ev ρ).tmod (b.ev ρ):=by
     have:=Int.tmod_lt_of_pos (-(a.ev ρ)) (b:=b.ev ρ) (by omega)
     rw[Int.neg_tmod]at this;omega
    exact r1_int h (by simp only[negI_eq,Int.ofNat_eq_natCast];omega) (by simp only[Int.ofNat_eq_natCast];omega) hv
  ·exact r1_none
 ·split
  ·rename_i n hn
   have hn:=ev_const (ρ:=ρ) hn
   have hn':b.ev ρ=((n+1:Nat):Int):=hn
   split
   ·rename_i u hg hu
    have h0:=geq_ok h.ok hg
    have h1:=ubOf_ok h hu
    have h2:0≤(a.ev ρ)/((n+1:Nat):Int):=Int.ediv_nonneg h0 (by omega)
    have h3:=divN_ok (b:=n+1) h0 h1 (by omega)
    have ht:(a.ev ρ).tdiv (b.ev ρ)=(a.ev ρ)/((n+1:Nat):Int):=by rw[hn',Int.tdiv_eq_ediv_of_nonneg h0]
    have hv:=ho (.int k (k.wrap ((a.ev ρ).tdiv (b.ev ρ)))) (show(if b.ev ρ=0 then none else some (AVal.int k (k.wrap ((a.ev ρ).tdiv (b.ev ρ)))))=_ from if_neg (by rw[hn'];omega))
    rw[ht]at hv
    refine r1_if fun hk=> ?_
    rw[leZ_eq]at hk
    have hk:=of_decide_eq_true hk
    rw[wrap_in (Int.le_trans (kMin_le k) h2) (Int.le_trans h3 hk)]at hv
    exact r1_int h (by simpa using h2) h3 hv
   ·exact r1_none
  ·exact r1_none
 ·
  have sv:0≤b.ev ρ→o=some (.val (.int k ((a.ev ρ).fdiv (2^min (b.ev ρ).toNat k.bits)))):=fun hb0=>ho _ (if_neg (show¬b.ev ρ<0 by omega))
  have hr:0≤b.ev ρ→kMin k≤a.ev ρ→a.ev ρ≤kMax k→kMin k≤(a.ev ρ).fdiv (2^min (b.ev ρ).toNat k.bits)∧(a.ev ρ).fdiv (2^min (b.ev ρ).toNat k.bits)≤kMax k:=by
   intro _ h1 h2
   have hp:(0:Int)<2^min (b.ev ρ).toNat k.bits:=Int.pow_pos (by omega)
   generalize (2:Int)^min (b.ev ρ).toNat k.bits=p at hp
   rw[Int.fdiv_eq_ediv_of_nonneg _ (by omega)]
   have k0:=kMin_le k
   have k1:=le_kMax k
   constructor
   ·rw[Int.le_ediv_iff_mul_le hp]
    have:kMin k*p≤kMin k*1:=Int.mul_le_mul_of_nonpos_left k0 (by omega)
    omega
   ·have h3:a.ev ρ/p≤kMax k/p:=Int.ediv_le_ediv hp h2
    have h4:kMax k/p≤kMax k:=Int.ediv_le_self _ k1
    omega
  split
  ·rename_i n hn
   have hn:=ev_const (ρ:=ρ) hn
   have hb0:0≤b.ev ρ:=by rw[hn];exact Int.natCast_nonneg _
   split
   ·rename_i u hg hu
    have h0:=geq_ok h.ok hg
    have h1:=ubOf_ok h hu
    have e:(2:Int)^min (b.ev ρ).toNat k.bits=((Nat.pow 2 (bif Nat.ble n k.bits then n else k.bits):Nat):Int):=by
     rw[hn]
     show(2:Int)^min n k.bits=_
     have:min n k.bits=bif Nat.ble n k.bits then n else k.bits:=by
      rw[ble_eq];by_cases hh:n≤k.bits
      ·first|(simp[hh];done)|(simp[hh];omega)
      ·first|(simp[hh];done)|(simp[hh];omega)
     rw[this]
     exact(Int.natCast_pow 2 _).symm
    have hp:0<Nat.pow 2 (bif Nat.ble n k.bits then n else k.bits):=Nat.pow_pos (by omega)
    have hv:=sv hb0
    rw[e,Int.fdiv_eq_ediv_of_nonneg _ (Int.natCast_nonneg _)]at hv
    exact r1_int h (Int.ediv_nonneg h0 (Int.natCast_nonneg _)) (divN_ok h0 h1 hp) hv
   ·refine r1_if fun hk=> ?_
    obtain⟨k1,k2⟩:=inKind_ok h hk
    obtain⟨m1,m2⟩:=hr hb0 k1 k2
    exact r1_int h m1 m2 (sv hb0)
  ·refine r1_if fun hk=> ?_
   obtain⟨hg,hk⟩:=and2 hk
   have hb0:=geq_ok h.ok hg
   obtain⟨k1,k2⟩:=inKind_ok h hk
   obtain⟨m1,m2⟩:=hr hb0 k1 k2
   exact r1_int h m1 m2 (sv hb0)
 ·
  have sv:0≤b.ev ρ→o=some (.val (.int k (k.wrap (a.ev ρ*2^min (b.ev ρ).toNat k.bits)))):=fun hb0=>ho _ (if_neg (show¬b.ev ρ<0 by omega))
  split
  ·rename_i n hn
   have hn:=ev_const (ρ:=ρ) hn
   have hb0:0≤b.ev ρ:=by rw[hn];exact Int.natCast_nonneg _
   have hv:=sv hb0
   refine r1_ite (fun hle=> ?_) (fun _=> ?_)
   ·have hle:=bleN hle
    refine r1_wrap h (cl_mul ha) ?_
    rw[hv,ev_mul,hn]
    have e:(2:Int)^min (Int.ofNat n).toNat k.bits=Int.ofNat (Nat.pow 2 n):=by
     show(2:Int)^min n k.bits=_
     rw[Nat.min_eq_left hle]
     exact(Int.natCast_pow 2 _).symm
    rw[e,Int.mul_comm]
   ·obtain⟨h1,h2⟩:=wrap_rng k (a.ev ρ*2^min (b.ev ρ).toNat k.bits)
    exact r1_int h h1 h2 hv
  ·refine r1_if fun hg=> ?_
   have hb0:=geq_ok h.ok hg
   obtain⟨h1,h2⟩:=wrap_rng k (a.ev ρ*2^min (b.ev ρ).toNat k.bits)
   exact r1_int h h1 h2 (sv hb0)
 ·
  have hv:=ho _ (rfl:intV .and k (a.ev ρ) (b.ev ρ)=some (.int k (k.wrap (BitVec.ofInt k.bits (a.ev ρ)&&&BitVec.ofInt k.bits (b.ev ρ)).toNat)))
  split
  ·rename_i n hn
   have hn:=ev_const (ρ:=ρ) hn
   refine r1_if fun hk=> ?_
   rw[leZ_eq]at hk
   have hk:=of_decide_eq_true hk
   have hle:(BitVec.ofInt k.bits (a.ev ρ)&&&BitVec.ofInt k.bits (b.ev ρ)).toNat≤n:=by
    rw[BitVec.toNat_and]
    refine Nat.le_trans Nat.and_le_right ?_
    rw[hn,BitVec.toNat_ofInt]
    have:(Int.ofNat n%((2^k.bits:Nat):Int)).toNat≤n:=by
     have:Int.ofNat n%((2^k.bits:Nat):Int)=((n%2^k.bits:Nat):Int):=rfl
     rw[this]
     exact Nat.mod_le _ _
    exact_mod_cast this
   have h1:((BitVec.ofInt k.bits (a.ev ρ)&&&BitVec.ofInt k.bits (b.ev ρ)).toNat:Int)≤Int.ofNat n:=Int.ofNat_le.2 hle
   rw[wrap_in (Int.le_trans (kMin_le k) (Int.natCast_nonneg _)) (Int.le_trans h1 hk)]at hv
   exact r1_int h (Int.natCast_nonneg _) h1 hv
  ·obtain⟨h1,h2⟩:=wrap_rng k (BitVec.ofInt k.bits (a.ev ρ)&&&BitVec.ofInt k.bits (b.ev ρ)).toNat
   exact r1_int h h1 h2 hv
 ·
  have hv:=ho _ (rfl:intV .or k (a.ev ρ) (b.ev ρ)=some (.int k (k.wrap (BitVec.ofInt k.bits (a.ev ρ)|||BitVec.ofInt k.bits (b.ev ρ)).toNat)))
  have hgen:R1ok T E ρ G W V (anyInt W k (kMin k) (kMax k)) o:=by
   obtain⟨h1,h2⟩:=wrap_rng k (BitVec.ofInt k.bits (a.ev ρ)|||BitVec.ofInt k.bits (b.ev ρ)).toNat
   exact r1_int h h1 h2 hv
  split
  ·rename_i x y hg hx hy
   obtain⟨g1,g2⟩:=and2 hg
   have a0:=geq_ok h.ok g1
   have b0:=geq_ok h.ok g2
   have ax:=ubOf_ok h hx
   have bx:=ubOf_ok h hy
   refine r1_ite (fun hk=> ?_) (fun _=>hgen)
   rw[leZ_eq]at hk
   have hk:=of_decide_eq_true hk
   have hle:(BitVec.ofInt k.bits (a.ev ρ)|||BitVec.ofInt k.bits (b.ev ρ)).toNat≤orTop x y:=by
    rw[BitVec.toNat_or]
    obtain⟨p,hp⟩:∃p:Nat,a.ev ρ=(p:Int):=⟨(a.ev ρ).toNat,by omega⟩
    obtain⟨q,hq⟩:∃q:Nat,b.ev ρ=(q:Int):=⟨(b.ev ρ).toNat,by omega⟩
    have e1:(BitVec.ofInt k.bits (a.ev ρ)).toNat≤p:=by
     rw[hp,BitVec.toNat_ofInt]
     have:(((p:Nat):Int)%((2^k.bits:Nat):Int)).toNat≤p:=by
      have:((p:Nat):Int)%((2^k.bits:Nat):Int)=((p%2^k.bits:Nat):Int):=rfl
      rw[this];exact Nat.mod_le _ _
     exact_mod_cast this
    have e2:(BitVec.ofInt k.bits (b.ev ρ)).toNat≤q:=by
     rw[hq,BitVec.toNat_ofInt]
     have:(((q:Nat):Int)%((2^k.bits:Nat):Int)).toNat≤q:=by
      have:((q:Nat):Int)%((2^k.bits:Nat):Int)=((q%2^k.bits:Nat):Int):=rfl
      rw[this];exact Nat.mod_le _ _
     exact_mod_cast this
    have px:p≤x:=by rw[hp]at ax;exact Int.ofNat_le.1 ax
    have qy:q≤y:=by rw[hq]at bx;exact Int.ofNat_le.1 bx
    unfold orTop
    generalize hm:(bif Nat.ble x y then y else x)=m
    have xm:x≤m:=by rw[←hm,ble_eq];by_cases hh:x≤y<;>simp[hh]
    have ym:y≤m:=by rw[←hm,ble_eq];by_cases hh:x≤y<;>simp[hh];omega
    have l1:m<2^(m.log2+1):=Nat.lt_log2_self
    have:=Nat.or_lt_two_pow (x:=(BitVec.ofInt k.bits (a.ev ρ)).toNat) (y:=(BitVec.ofInt k.bits (b.ev ρ)).toNat) (n:=m.log2+1) (by omega) (by omega)
    exact Nat.le_sub_one_of_lt this
   have h1:((BitVec.ofInt k.bits (a.ev ρ)|||BitVec.ofInt k.bits (b.ev ρ)).toNat:Int)≤Int.ofNat (orTop x y):=Int.ofNat_le.2 hle
   rw[wrap_in (Int.le_trans (kMin_le k) (Int.natCast_nonneg _)) (Int.le_trans h1 hk)]at hv
   exact r1_int h (Int.natCast_nonneg _) h1 hv
  ·exact hgen
 ·obtain⟨h1,h2⟩:=wrap_rng k (BitVec.ofInt k.bits (a.ev ρ)^^^BitVec.ofInt k.bits (b.ev ρ)).toNat
  exact r1_int h h1 h2 (ho _ rfl)
 ·exact r1_none
end Go.AL.SX
namespace Go.AL.SX
variable {T:Tab} [TabOk T] {E:En} {ρ ρ':Val} {G:Nat→Cl} {W:SW} {V:VS}
theorem bin_val (op:BinOp) (q:EqK) (lt:Bool) (a b:AVal):binE op q lt (.val a) (.val b)=toE (binV20 op q lt a b):=by
 rw[binE_eq];show toE (binV2 op q lt a b)=_;rw[binV2_eq]
theorem toE_some' {o:Option AVal} {a:AVal} (h:o=some a):toE o=some (.val a):=by rw[h];rfl
theorem bin_int {op:BinOp} {q:EqK} {lt:Bool} {k k':IntKind} {a b:Int} {v:AVal} (hk:sameK op k k'=true) (hv:intV op k a b=some v):
  binE op q lt (.val (.int k a)) (.val (.int k' b))=some (.val v):=by
 rw[bin_val]
 refine toE_some' ?_
 show binI op k a (.int k' b)=_
 rw[binI_eq]
 show(bif sameK op k k' then intF op k a b else none)=_
 rw[hk];exact intF_of hv
theorem eqOf_eql (t:Bool):eqOf .eql (some t)=some (.bool t):=rfl
theorem eqOf_neq (t:Bool):eqOf .neq (some t)=some (.bool (!t)):=rfl
theorem cmpS_ok {op:BinOp} {k:IntKind} {a b:Lin} {f:Lit} (h:cmpS op a b=some f):intV op k (a.ev ρ) (b.ev ρ)=some (.bool (f.ev ρ)):=by
 have e1:Int.negSucc 0= -1:=rfl
 unfold cmpS at h
 split at h
 ·cases h
  show some (AVal.bool (a.ev ρ==b.ev ρ))=_
  simp only[Lit.ev,ev_sub]
  by_cases hh:a.ev ρ=b.ev ρ
  ·simp[hh]
  ·have:¬a.ev ρ-b.ev ρ=0:=by omega
   simp[hh,this]
 ·cases h
  show some (AVal.bool (a.ev ρ !=b.ev ρ))=_
  simp only[Lit.ev,ev_sub]
  by_cases hh:a.ev ρ=b.ev ρ
  ·simp[hh]
  ·have:¬a.ev ρ-b.ev ρ=0:=by omega
   simp[hh,this]
 ·cases h
  show some (AVal.bool (decide (a.ev ρ<b.ev ρ)))=_
  simp only[Lit.ev,ev_sub,ev_addc,e1]
  congr 2;exact decide_eq_decide.2 (by omega)
 ·cases h
  show some (AVal.bool (decide (a.ev ρ≤b.ev ρ)))=_
  simp only[Lit.ev,ev_sub,ev_addc]
  congr 2;exact decide_eq_decide.2 (by omega)
 ·cases h
  show some (AVal.bool (decide (a.ev ρ>b.ev ρ)))=_
  simp only[Lit.ev,ev_sub,ev_addc,e1]
  congr 2;exact decide_eq_decide.2 (by omega)
 ·cases h
  show some (AVal.bool (decide (a.ev ρ≥b.ev ρ)))=_
  simp only[Lit.ev,ev_sub,ev_addc]
  congr 2;exact decide_eq_decide.2 (by omega)
 ·cases h
theorem cmpS_cl {n:Nat} {op:BinOp} {a b:Lin} {f:Lit} (h:cmpS op a b=some f) (ha:a.cl n=true) (hb:b.cl n=true):f.cl n=true:=by
 unfold cmpS at h
 split at h<;>first
  |(cases h;done)
  |(cases h;first|exact cl_sub ha hb|exact cl_sub hb ha|exact cl_addc (cl_sub hb ha)|exact cl_addc (cl_sub ha hb))
theorem isStr_ok (h:Sat T E ρ G W V) {s:SV} (hs:isStr W s=true):∃l,s.ev ρ=.str l:=by
 unfold isStr at hs
 split at hs
 ·exact⟨_,rfl⟩
 ·rename_i v
  have:=h.ok.ty v
  split at hs
  ·rename_i hi ht
   rw[ht]at this
   simp only[SV.ev]
   generalize ρ v=a at this
   cases this with
   |str l _ _=>exact⟨l,rfl⟩
  ·cases hs
 ·cases hs
theorem strOp_ok {op:BinOp} (a b:List UInt8) (h:strOp op=true):∃t,strV op a b=some (.bool t):=by
 cases op<;>first|(cases h;done)|exact⟨_,rfl⟩
theorem strF_of {op:BinOp} {a b:List UInt8} {v:AVal} (h:strV op a b=some v):strF op a b=some v:=by
 have tot:∃w,strF op a b=some w:=by
  cases op<;>first|exact⟨_,rfl⟩|exact⟨v,h⟩
 obtain⟨w,hw⟩:=tot
 have:=strF_some hw
 rw[h]at this
 rw[hw,this]
theorem skS_ok (h:Sat T E ρ G W V) {k:SK} {s:SV} (hs:skS W k s=true):k.is (s.ev ρ)=true:=by
 unfold skS at hs
 split at hs
 ·rfl
 ·rfl
 ·have:=kEq_eq hs;subst this;simp[SV.ev,SK.is]
 ·have:=kEq_eq hs;subst this;simp[SV.ev,SK.is]
 ·obtain⟨l,hl⟩:=isStr_ok h hs;rw[hl];rfl
 ·cases hs
theorem rowIs_ok (h:Sat T E ρ G W V):∀{ss:List SK} {l:List SV},all2 (skS W) ss l=true→rowIs ss (evs ρ l)=true
 | [],[],_=>rfl
 | [],_::_,hs=>by cases hs
 |_::_,[],hs=>by cases hs
 |s::ss,x::l,hs=>by
  obtain⟨h1,h2⟩:=and2 hs
  simp only[evs,rowIs,skS_ok h h1,rowIs_ok h h2];rfl
theorem ks_eq (l:List AVal):ks l=l.map SV.k:=by
 induction l with
 |nil=>rfl
 |cons a l ih=>simp only[ks,List.map_cons,ih]
theorem evs_ks (ρ:Val) (l:List AVal):evs ρ (ks l)=l:=by
 induction l with
 |nil=>rfl
 |cons a l ih=>simp only[ks,evs,SV.ev,ih]
theorem cls_ks (n:Nat) (l:List AVal):cls n (ks l)=true:=by
 induction l with
 |nil=>rfl
 |cons a l ih=>simp only[ks,cls,SV.cl,ih];rfl
theorem toAgg_ok {s:SV} {l:List SV} (h:toAgg s=some l):s.ev ρ=.agg (evs ρ l)∧(∀n,s.cl n=true→cls n l=true):=by
 unfold toAgg at h
 split at h
 ·cases h;exact⟨rfl,fun n hn=>hn⟩
 ·cases h;exact⟨by simp only[SV.ev,evs_ks],fun n _=>cls_ks n _⟩
 ·cases h
theorem toTup_ok {s:SV} {l:List SV} (h:toTup s=some l):s.ev ρ=.tuple (evs ρ l)∧(∀n,s.cl n=true→cls n l=true):=by
 unfold toTup at h
 split at h
 ·cases h;exact⟨rfl,fun n hn=>hn⟩
 ·cases h;exact⟨by simp only[SV.ev,evs_ks],fun n _=>cls_ks n _⟩
 ·cases h
def nilShape:EqK→AVal→Prop
 |.pointer,a=>a=.nilP∨(∃i o,a=.ptr i o)∨∃l,a=.sptr l
 |.iface,a=>a=.nilI∨∃t v,a=.iface t v
 |.func,a=>a=.nilF∨∃f x y,a=.func f x y
 |.map,a=>∃r,a=.map r
 |.slice,a=>∃xs n t,a=.slice xs n t
 |_,_=>False
theorem D2_ty {t:Ty} {a:AVal} (h:HasTy T.D G t a):HasTy T.D G (D2 T t) a:=by
 unfold D2
 split
 ·cases h with
  |nm k _ h=>exact h
 ·exact h
theorem nilSideX (h:Sat T E ρ G W V) {q:EqK} {v:Nat} (hs:(match q,D2 T (W.tyOf v)with
  |.pointer,.ptr _ _|.iface,.ifc _ _|.func,.fn _ _|.map,.map _ _|.slice,.sl _ _ _=>true
  |_,_=>false)=true):nilShape q (ρ v):=by
 have hv:=D2_ty (h.ok.ty v)
 generalize ρ v=a at hv
 generalize D2 T (W.tyOf v)=t at hv hs
 split at hs
 ·cases hv with
  |ptr _ _ i hg=>exact .inr (.inl ⟨_,_,rfl⟩)
  |nilP c=>exact .inl rfl
 ·cases hv with
  |ifc _ _ t ty w _ _=>exact .inr ⟨_,_,rfl⟩
  |nilI _=>exact .inl rfl
 ·cases hv with
  |fn _ _ f _ _ x y _ _ _ _ _=>exact .inr ⟨_,_,_,rfl⟩
  |nilF _=>exact .inl rfl
 ·cases hv with
  |map _ _ i _=>exact⟨_,rfl⟩
  |nilM _=>exact⟨_,rfl⟩
 ·cases hv with
  |sl _ _ _ xs n t _ _ _ _=>exact⟨_,_,_,rfl⟩
 ·cases hs
theorem nilSide_ok (h:Sat T E ρ G W V) {q:EqK} {s:SV} (hs:nilSide T W q s=true):nilShape q (s.ev ρ)∧∀f,nilLit T W s=some f→f.ev ρ=isNilV (s.ev ρ):=by
 have lk:∀f,nilLit T W s=some f→f.ev ρ=isNilV (s.ev ρ)∨(∀a,s≠.k a)∧(∀v,s≠.x v):=by
  intro f hf
  unfold nilLit at hf
  split at hf
  ·cases hf;exact .inl rfl
  ·cases hf;refine .inl ?_;simp[Lit.ev,SV.ev]
  ·rename_i h1 h2;exact .inr ⟨h1,h2⟩
 unfold nilSide at hs
 split at hs
 ·
  rename_i v o
  have hv:=h.ok.ty v
  split at hs
  ·rename_i c n ht
   have hn:=nonnil_lit h.ok hs
   rw[ht]at hv
   simp only[SV.ev]
   generalize ρ v=a at hv hn
   cases hv with
   |ptr _ _ i hg=>exact⟨.inr (.inl ⟨i,0+o,rfl⟩),fun f hf=>by cases hf;rfl⟩
   |nilP c=>cases hn
  ·cases hs
 ·exact⟨.inr ⟨_,_,rfl⟩,fun f hf=>by cases hf;rfl⟩
 ·exact⟨.inr ⟨_,_,_,rfl⟩,fun f hf=>by cases hf;rfl⟩
 ·exact⟨⟨_,_,_,rfl⟩,fun f hf=>by cases hf;rfl⟩
 ·exact⟨.inr (.inr ⟨_,rfl⟩),fun f hf=>by cases hf;rfl⟩
 ·exact⟨.inl rfl,fun f hf=>by cases hf;rfl⟩
 ·exact⟨.inl rfl,fun f hf=>by cases hf;rfl⟩
 ·exact⟨.inl rfl,fun f hf=>by cases hf;rfl⟩
 ·exact⟨⟨_,rfl⟩,fun f hf=>by cases hf;rfl⟩
 ·exact⟨⟨_,_,_,rfl⟩,fun f hf=>by cases hf;rfl⟩
 ·exact⟨.inr ⟨_,_,rfl⟩,fun f hf=>by cases hf;rfl⟩
 ·exact⟨.inr ⟨_,_,_,rfl⟩,fun f hf=>by cases hf;rfl⟩
 ·exact⟨nilSideX h hs,fun f hf=>by cases hf;simp[Lit.ev,SV.ev]⟩
 ·cases hs
theorem bin_nil {op:BinOp} {q:EqK} {lt:Bool} {a:AVal} {s:SV} (hq:nilQ q s=true) (ha:nilShape q a) (hl:q=.iface→lt=true):
  binE op q lt (.val a) (.val (s.ev ρ))=toE (eqOf op (some (isNilV a))):=by
 rw[bin_val]
 congr 1
 unfold nilQ at hq
 split at hq
 ·rcases ha with rfl|⟨i,o,rfl⟩|⟨l,rfl⟩<;>rfl
 ·have:=hl rfl;subst this
  rcases ha with rfl|⟨i,o,rfl⟩<;>rfl
 ·rcases ha with rfl|⟨i,o,x,rfl⟩<;>rfl
 ·obtain⟨r,rfl⟩:=ha
  cases r<;>rfl
 ·obtain⟨xs,n,t,rfl⟩:=ha
  rfl
 ·cases hq
theorem nilLit_cl {n:Nat} {s:SV} {f:Lit} (h:nilLit T W s=some f) (hs:s.cl n=true):f.cl n=true:=by
 unfold nilLit at h
 split at h<;>first|(cases h;rfl)|(cases h;exact hs)
theorem decB_ok (h:Ok T G ρ W) (f:Lit):(decB W f).ev ρ=f.ev ρ:=by
 unfold decB
 cases h1:holds W f with
 |true=>exact(holds_ok h h1).symm
 |false=>
  cases h2:holds W f.neg with
  |true=>
   have:=holds_ok h h2
   rw[neg_ev]at this
   show false=f.ev ρ
   cases hv:f.ev ρ with
   |true=>rw[hv]at this;cases this
   |false=>rfl
  |false=>rfl
theorem boolS_ok (h:Sat T E ρ G W V) {op:BinOp} {f g:Lit} {o:Option Ent} (ha:f.cl W.nv=true) (hb:g.cl W.nv=true) (key:∀t,eqOf op (some (f.ev ρ==g.ev ρ))=some (.bool t)→o=some (.val (.bool t))):R1ok T E ρ G W V (boolS W op f g) o:=by
 have hf:=decB_ok h.ok f
 have hg:=decB_ok h.ok g
 unfold boolS
 split
 ·rw[‹decB W g=Lit.c true›]at hg;exact r1_lit h ha (key _ (by rw[eqOf_eql,←hg];show some (AVal.bool (Lit.ev ρ f==true))=_;generalize Lit.ev ρ f=t;cases t<;>rfl))
 ·rw[‹decB W g=Lit.c false›]at hg;exact r1_lit h (cl_negl ha) (key _ (by rw[eqOf_eql,neg_ev,←hg];show some (AVal.bool (Lit.ev ρ f==false))=_;generalize Lit.ev ρ f=t;cases t<;>rfl))
 ·rw[‹decB W g=Lit.c true›]at hg;exact r1_lit h (cl_negl ha) (key _ (by rw[eqOf_neq,neg_ev,←hg];show some (AVal.bool (!(Lit.ev ρ f==true)))=_;generalize Lit.ev ρ f=t;cases t<;>rfl))
 ·rw[‹decB W g=Lit.c false›]at hg;exact r1_lit h ha (key _ (by rw[eqOf_neq,←hg];show some (AVal.bool (!(Lit.ev ρ f==false)))=_;generalize Lit.ev ρ f=t;cases t<;>rfl))
 ·rw[‹decB W f=Lit.c true›]at hf;exact r1_lit h hb (key _ (by rw[eqOf_eql,←hf];show some (AVal.bool (true==Lit.ev ρ g))=_;generalize Lit.ev ρ g=t;cases t<;>rfl))
 ·rw[‹decB W f=Lit.c false›]at hf;exact r1_lit h (cl_negl hb) (key _ (by rw[eqOf_eql,neg_ev,←hf];show some (AVal.bool (false==Lit.ev ρ g))=_;generalize Lit.ev ρ g=t;cases t<;>rfl))
 ·rw[‹decB W f=Lit.c true›]at hf;exact r1_lit h (cl_negl hb) (key _ (by rw[eqOf_neq,neg_ev,←hf];show some (AVal.bool (!(true==Lit.ev ρ g)))=_;generalize Lit.ev ρ g=t;cases t<;>rfl))
 ·rw[‹decB W f=Lit.c false›]at hf;exact r1_lit h hb (key _ (by rw[eqOf_neq,←hf];show some (AVal.bool (!(false==Lit.ev ρ g)))=_;generalize Lit.ev ρ g=t;cases t<;>rfl))
 ·exact r1_bool h (key _ (eqOf_eql _))
 ·exact r1_bool h (key _ (eqOf_neq _))
 ·exact r1_none
theorem r1_bin (h:Sat T E ρ G W V) {op:BinOp} {q:EqK} {lt:Bool} {a b:SV} (ha:a.cl W.nv=true) (hb:b.cl W.nv=true):
  R1ok T E ρ G W V (binS T W op q lt a b) (binE op q lt (.val (a.ev ρ)) (.val (b.ev ρ))):=by
 unfold binS
 split
 ·rename_i k x k' y hx hy
  obtain⟨e1,c1⟩:=toI_ok (ρ:=ρ) hx
  obtain⟨e2,c2⟩:=toI_ok (ρ:=ρ) hy
  rw[e1,e2]
  refine r1_if fun hk=> ?_
  have hk:sameK op k k'=true:=by
   cases op<;>first|rfl|(have:=kEq_eq hk;subst this;simp[sameK])
  refine r1_ite (fun _=> ?_) (fun _=> ?_)
  ·exact r1_ar h (c1 _ ha) (c2 _ hb) fun v hv=>bin_int hk hv
  ·split
   ·rename_i f hf
    exact r1_lit h (cmpS_cl hf (c1 _ ha) (c2 _ hb)) (bin_int hk (cmpS_ok hf))
   ·exact r1_none
 ·split
  ·rename_i f g hf hg
   obtain⟨e1,c1⟩:=toB_ok (ρ:=ρ) hf
   obtain⟨e2,c2⟩:=toB_ok (ρ:=ρ) hg
   rw[e1,e2]
   split
   ·have key:∀t,eqOf op (some (f.ev ρ==g.ev ρ))=some (.bool t)→binE op .bool lt (.val (.bool (f.ev ρ))) (.val (.bool (g.ev ρ)))=some (.val (.bool t)):=by
     intro t ht
     rw[bin_val]
     exact toE_some' ht
    exact boolS_ok h (c1 _ ha) (c2 _ hb) key
   ·exact r1_none
  ·refine r1_ite (fun hs=> ?_) (fun _=> ?_)
   ·obtain⟨h1,h2⟩:=and2 hs
    obtain⟨x,hx⟩:=isStr_ok h h1
    obtain⟨y,hy⟩:=isStr_ok h h2
    rw[hx,hy]
    refine r1_if fun ho=> ?_
    obtain⟨t,ht⟩:=strOp_ok x y ho
    refine r1_bool h (b:=t) ?_
    rw[bin_val]
    refine toE_some' ?_
    show Go.AL.binS op x (.str y)=_
    rw[binS_eq]
    exact strF_of ht
   ·refine r1_ite (fun hs=> ?_) (fun _=> ?_)
    ·obtain⟨h1,h2⟩:=and2 hs
     obtain⟨n1,n2⟩:=nilSide_ok h h2
     refine r1_if fun hl=> ?_
     rw[bin_nil h1 n1 (fun hq=>by subst hq;simpa using hl)]
     unfold nilOp
     split
     ·rename_i f hf
      exact r1_lit h (nilLit_cl hf ha) (by rw[eqOf_eql,n2 f hf];rfl)
     ·rename_i f hf
      exact r1_lit h (cl_negl (nilLit_cl hf ha)) (by rw[eqOf_neq,neg_ev,n2 f hf];rfl)
     ·exact r1_none
    ·split
     ·rename_i ss x y hx hy _
      obtain⟨e1,_⟩:=toAgg_ok (ρ:=ρ) hx
      obtain⟨e2,_⟩:=toAgg_ok (ρ:=ρ) hy
      rw[e1,e2]
      refine r1_if fun hs=> ?_
      obtain⟨h1,h2⟩:=and2 hs
      obtain⟨h2,h3⟩:=and2 h2
      have r1:=rowIs_ok h h1
      have r2:=rowIs_ok h h2
      have hb:binE op (.flat ss) lt (.val (.agg (evs ρ x))) (.val (.agg (evs ρ y)))=toE (eqOf op (some (cellsEqF (evs ρ x) (evs ρ y)))):=by
       rw[bin_val]
       show toE (eqOf op (flatF ss (evs ρ x) (evs ρ y)))=_
       unfold flatF
       rw[r1,r2];rfl
      rw[hb]
      cases op<;>first|(cases h3;done)|exact r1_bool h rfl
     ·exact r1_none
end Go.AL.SX
