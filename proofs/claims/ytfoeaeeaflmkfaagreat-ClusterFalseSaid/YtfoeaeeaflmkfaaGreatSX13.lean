/-
  A WALKER OF CODE IN SMALL, part 13: what is handed over; objects written; new objects.
-/
import Derived.Test.YtfoeaeeaflmkfaaGreatSX10
import Derived.Test.YtfoeaeeaflmkfaaGreatAL19
set_option linter.unusedSectionVars false
set_option linter.unusedVariables false
set_option linter.unusedSimpArgs false
namespace Go.AL.SX
variable {T:Tab} [TabOk T] {E:En} {ρ ρ':Val} {G G':Nat→Cl} {W:SW} {V:VS} {se:SE} {env:VE}
theorem takeLive_ok {v sz e:Nat}:∀{l l':List (Nat × Nat × Nat)},takeLive v sz e l=some l'→∃l1 l2,l=l1++(v,sz,e)::l2∧l'=l1++l2
 | [],l',h=>by cases h
 |p::r,l',h=>by
  unfold takeLive at h
  cases hb:Nat.beq v p.1&&(Nat.beq sz p.2.1&&Nat.beq e p.2.2)with
  |true=>
   rw[hb]at h
   cases h
   obtain⟨h1,h23⟩:=and2 hb
   obtain⟨h2,h3⟩:=and2 h23
   have e:p=(v,sz,e):=by
    have a1:=beqN h1
    have a2:=beqN h2
    have a3:=beqN h3
    obtain⟨a,b,c⟩:=p
    simp only at a1 a2 a3
    rw[a1,a2,a3]
   rw[e]
   exact⟨[],r,rfl,rfl⟩
  |false=>
   rw[hb]at h
   simp only[cond_false]at h
   split at h
   ·rename_i r' hr
    cases h
    obtain⟨l1,l2,h1,h2⟩:=takeLive_ok hr
    exact⟨p::l1,l2,by rw[h1];rfl,by rw[h2];rfl⟩
   ·cases h
theorem Sat.lessLive (h:Sat T E ρ G W V) {l:List (Nat × Nat × Nat)} (hs:l.Sublist W.live):Sat T E ρ G {W with live:=l} V:=
 ⟨⟨h.ok.ty,h.ok.top,h.ok.ge,h.ok.fx,h.ok.ln,h.ok.pr⟩,⟨h.clo.ge,h.clo.fx,h.clo.ln,h.clo.cells,fun p hp=>h.clo.live p (hs.subset hp),h.clo.bro,h.clo.wr,h.clo.pr⟩,
  ⟨h.sto.wf,h.sto.cells,fun p hp=>h.sto.live p (hs.subset hp),h.sto.dis.sublist hs,h.sto.wr,h.sto.M,h.sto.out,h.sto.n,h.sto.g,h.sto.fr,h.sto.cls,h.sto.tok,h.sto.tkw⟩⟩
def ownT:Ty→Bool
 |.own _ _ _ _ _=>true
 |_=>false
def gtok (t:Ty) (a:AVal):List Nat:=if ownT t=true then(tokOf a).toList else []
def gtoks:List Ty→List AVal→List Nat
 |t::ts,a::as=>gtok t a++gtoks ts as
 |_,_=>[]
def Gives (T:Tab) (E:En) (G:Nat→Cl) (V:VS) (t:Ty) (a:AVal):Prop:=HasTy T.D G (readT t) a∧∀t' sz e lo hi,t=.own t' sz e lo hi→LiveC E G V sz e a
theorem giveTy_ok (h:Sat T E ρ G W V) {s:SV} {t:Ty} {W':SW} (hg:giveTy T W s t=some W'):
  ∃l,W'= {W with live:=l}∧l.Sublist W.live∧Gives T E G V t (s.ev ρ)∧(∀g∈gtok t (s.ev ρ),(∃p∈W.live,tokOf (ρ p.1)=some g)∧∀p∈l,tokOf (ρ p.1)≠some g):=by
 by_cases ht:∃t' sz e lo hi,t=.own t' sz e lo hi
 ·obtain⟨t',sz,e,lo,hi,rfl⟩:=ht
  simp only[giveTy]at hg
  split at hg
  ·obtain⟨hz,h2⟩:=cond_some hg
   cases h2
   have:=beqN hz;subst this
   exact⟨W.live,rfl,.refl _,⟨.sl _ _ _ _ _ _ (Nat.zero_le _) (Nat.zero_le _) (fun _=>rfl) (fun x hx=>by cases hx),fun _ _ _ _ _ _=>.inl rfl⟩,fun g hg=>by simp[gtok,SV.ev,tokOf]at hg⟩
  ·rename_i v
   split at hg
   ·rename_i l hl
    obtain⟨ht,h2⟩:=cond_some hg
    cases h2
    obtain⟨l1,l2,e1,e2⟩:=takeLive_ok hl
    have hm:(v,sz,e)∈W.live:=by rw[e1];simp
    have hlive:=h.sto.live _ hm
    refine⟨l,rfl,by rw[e1,e2];exact List.Sublist.append (.refl _) (List.sublist_cons_self ..),⟨ofTy_ok h.ok ht,fun t2 sz2 e2 lo2 hi2 he=>by cases he;exact hlive⟩,fun g hg=> ?_⟩
    have hg:tokOf (ρ v)=some g:=by simpa[gtok,ownT,SV.ev]using hg
    refine⟨⟨_,hm,hg⟩,fun p hp=> ?_⟩
    have hd:=h.sto.dis
    rw[e1]at hd
    rw[e2]at hp
    have hd:=List.pairwise_append.1 hd
    rcases List.mem_append.1 hp with hp|hp
    ·intro hq
     exact hd.2.2 p hp (v,sz,e) (List.mem_cons_self ..) g hq hg
    ·exact(List.pairwise_cons.1 hd.2.1).1 p hp g hg
   ·cases hg
  ·cases hg
 ·have e1:giveTy T W s t=bif ofTy T W s t then some W else none:=by
   cases t<;>first|rfl|exact absurd ⟨_,_,_,_,_,rfl⟩ ht
  have e2:readT t=t:=by cases t<;>first|rfl|exact absurd ⟨_,_,_,_,_,rfl⟩ ht
  have e3:ownT t=false:=by cases t<;>first|rfl|exact absurd ⟨_,_,_,_,_,rfl⟩ ht
  rw[e1]at hg
  obtain⟨h1,h2⟩:=cond_some hg
  cases h2
  exact⟨W.live,rfl,.refl _,⟨by rw[e2];exact ofTy_ok h.ok h1,fun t' sz e lo hi he=>absurd ⟨_,_,_,_,_,he⟩ ht⟩,fun g hg=>by simp[gtok,e3]at hg⟩
theorem giveTys_ok:∀{ss:List SV} {ts:List Ty} {W W':SW} (_:Sat T E ρ G W V) (_:giveTys T W ss ts=some W'),
  ∃l,W'= {W with live:=l}∧l.Sublist W.live∧ts.length=ss.length∧(∀(j:Nat) (t:Ty) (a:AVal),ts[j]? =some t→(evs ρ ss)[j]? =some a→Gives T E G V t a)∧(gtoks ts (evs ρ ss)).Nodup∧
   ∀g∈gtoks ts (evs ρ ss),(∃p∈W.live,tokOf (ρ p.1)=some g)∧∀p∈l,tokOf (ρ p.1)≠some g
 | [],[],W,W',h,hg=>by
  cases hg
  exact⟨W.live,rfl,.refl _,rfl,fun j t a ht=>by simp at ht,by simp[gtoks],fun g hg=>by simp[gtoks]at hg⟩
 | [],_::_,W,W',h,hg=>by cases hg
 |_::_,[],W,W',h,hg=>by cases hg
 |s::ss,t::ts,W,W',h,hg=>by
  simp only[giveTys]at hg
  split at hg
  ·rename_i W1 h1
   obtain⟨l1,rfl,k2,k3,k4⟩:=giveTy_ok h h1
   obtain⟨l2,m1,m2,m3,m4,m5,m6⟩:=giveTys_ok (h.lessLive k2) hg
   refine⟨l2,m1,m2.trans k2,by simp[m3],fun j t' a ht ha=> ?_,?_,fun g hg=> ?_⟩
   ·cases j with
    |zero=>
     simp only[List.getElem?_cons_zero,Option.some.injEq]at ht
     simp only[evs,List.getElem?_cons_zero,Option.some.injEq]at ha
     subst ht;subst ha;exact k3
    |succ j=>exact m4 j t' a (by simpa using ht) (by simpa[evs]using ha)
   ·simp only[evs,gtoks]
    refine List.nodup_append.2 ⟨?_,m5,fun x hx y hy hxy=> ?_⟩
    ·unfold gtok
     split
     ·cases tokOf (s.ev ρ)<;>simp
     ·simp
    ·subst hxy
     obtain⟨p,hp,hpt⟩:=(m6 x hy).1
     exact(k4 x hx).2 p hp hpt
   ·simp only[evs,gtoks]at hg
    rcases List.mem_append.1 hg with hg|hg
    ·obtain⟨q1,q2⟩:=k4 g hg
     exact⟨q1,fun p hp=>q2 p (m2.subset hp)⟩
    ·obtain⟨⟨p,hp,hpt⟩,q2⟩:=m6 g hg
     exact⟨⟨p,k2.subset hp,hpt⟩,q2⟩
  ·cases hg
def tokG (i:Nat):Nat→List Ty→List AVal→(Nat→Cl)→Nat→Cl
 |o,t::ts,a::as,G=>if ownT t=true then(match tokOf a with
   |some g=>fun x=>if x=g then .tok i o else tokG i (o+1) ts as G x
   |none=>tokG i (o+1) ts as G)else tokG i (o+1) ts as G
 |_,_,_,G=>G
theorem tokG_not {i:Nat}:∀{ts:List Ty} {as:List AVal} {o g:Nat},g∉gtoks ts as→tokG i o ts as G g=G g
 | [],as,o,g,_=>by cases as<;>rfl
 |t::ts,[],o,g,_=>rfl
 |t::ts,a::as,o,g,h=>by
  have h2:g∉gtoks ts as:=fun hm=>h (List.mem_append_right _ hm)
  have ih:=tokG_not (i:=i) (o:=o+1) h2
  unfold tokG
  by_cases ht:ownT t=true
  ·rw[if_pos ht]
   cases hk:tokOf a with
   |none=>exact ih
   |some g'=>
    have hne:g≠g':=by
     intro he
     subst he
     exact h (List.mem_append_left _ (by simp[gtok,ht,hk]))
    simp only
    rw[if_neg hne];exact ih
  ·rw[if_neg ht];exact ih
theorem mem_gtoks:∀{ts:List Ty} {as:List AVal} {j g:Nat} {t:Ty} {a:AVal},ts[j]? =some t→as[j]? =some a→ownT t=true→tokOf a=some g→g∈gtoks ts as
 | [],as,j,g,t,a,ht,_,_,_=>by simp at ht
 |_::_,[],j,g,t,a,_,ha,_,_=>by simp at ha
 |t1::ts,a1::as,0,g,t,a,ht,ha,ho,hg=>by
  simp only[List.getElem?_cons_zero,Option.some.injEq]at ht ha
  subst ht;subst ha
  exact List.mem_append_left _ (by simp[gtok,ho,hg])
 |t1::ts,a1::as,j+1,g,t,a,ht,ha,ho,hg=>List.mem_append_right _ (mem_gtoks (j:=j) (by simpa using ht) (by simpa using ha) ho hg)
theorem tokG_in {i:Nat}:∀{ts:List Ty} {as:List AVal} {o j g:Nat} {t:Ty} {a:AVal},(gtoks ts as).Nodup→ts[j]? =some t→as[j]? =some a→ownT t=true→tokOf a=some g→tokG i o ts as G g=.tok i (o+j)
 | [],as,o,j,g,t,a,_,ht,_,_,_=>by simp at ht
 |_::_,[],o,j,g,t,a,_,_,ha,_,_=>by simp at ha
 |t0::ts,a0::as,o,j,g,t,a,hn,ht,ha,ho,hg=>by
  have hn:=List.nodup_append.1 hn
  cases j with
  |zero=>
   simp only[List.getElem?_cons_zero,Option.some.injEq]at ht ha
   subst ht;subst ha
   unfold tokG
   rw[if_pos ho,hg]
   simp
  |succ j=>
   have ht:ts[j]? =some t:=by simpa using ht
   have ha:as[j]? =some a:=by simpa using ha
   have ih:=tokG_in (i:=i) (o:=o+1) hn.2.1 ht ha ho hg
   have hmem:=mem_gtoks ht ha ho hg
   unfold tokG
   by_cases h0:ownT t0=true
   ·rw[if_pos h0]
    cases hk:tokOf a0 with
    |none=>simp only;rw[ih];congr 1;omega
    |some g'=>
     have hne:g≠g':=by
      intro he
      subst he
      exact hn.2.2 g (by simp[gtok,h0,hk]) g hmem rfl
     simp only
     rw[if_neg hne,ih];congr 1;omega
   ·rw[if_neg h0,ih];congr 1;omega
structure Toks (E:En) (G:Nat→Cl) (V:VS) (L:List Nat):Prop where
 no:∀g∈L,G g=.no
 opn:∀g∈L,∃n sz e,V.at g=.opn n sz e
 new:∀g∈L,E.V.n≤g∨E.Tc g
 lt:∀g∈L,g<V.n
theorem toks_of {ts:List Ty} {as:List AVal} (h:∀(j:Nat) (t:Ty) (a:AVal),ts[j]? =some t→as[j]? =some a→Gives T E G V t a):Toks E G V (gtoks ts as):=by
 have key:∀g∈gtoks ts as,∃a sz e,LiveC E G V sz e a∧tokOf a=some g:=by
  intro g hg
  induction ts generalizing as with
  |nil=>cases as<;>simp[gtoks]at hg
  |cons t ts ih=>
   cases as with
   |nil=>simp[gtoks]at hg
   |cons a as=>
    simp only[gtoks]at hg
    rcases List.mem_append.1 hg with hq|hq
    ·have h0:=h 0 t a rfl rfl
     by_cases ho:ownT t=true
     ·have hk:tokOf a=some g:=by simpa[gtok,ho]using hq
      cases t<;>simp only[ownT,Bool.false_eq_true]at ho
      exact⟨a,_,_,h0.2 _ _ _ _ _ rfl,hk⟩
     ·simp[gtok,ho]at hq
    ·exact ih (fun j t a ht ha=>h (j+1) t a (by simpa using ht) (by simpa using ha)) hq
 have k2:∀g∈gtoks ts as,(∃n sz e,V.at g=.opn n sz e)∧G g=.no∧(E.V.n≤g∨E.Tc g)∧g<V.n:=by
  intro g hg
  obtain⟨a,sz,e,h1,h2⟩:=key g hg
  rcases h1 with rfl|⟨xs,nl,g',rfl,h3,h4,h5,h6⟩
  ·cases h2
  ·simp only[tokOf,Option.some.injEq]at h2
   subst h2
   exact⟨⟨_,_,_,h3⟩,h4,h5,h6⟩
 exact⟨fun g hg=>(k2 g hg).2.1,fun g hg=>(k2 g hg).1,fun g hg=>(k2 g hg).2.2.1,fun g hg=>(k2 g hg).2.2.2⟩
theorem tokG_cls {i o:Nat} {ts:List Ty} {as:List AVal} (hn:∀g∈gtoks ts as,G g=.no) (x c:Nat):tokG i o ts as G x=.cls c↔G x=.cls c:=by
 by_cases hx:x∈gtoks ts as
 ·have h1:∀{ts:List Ty} {as:List AVal} {o:Nat},x∈gtoks ts as→∃j,tokG i o ts as G x=.tok i j:=by
   intro ts
   induction ts with
   |nil=>intro as o h;cases as<;>simp[gtoks]at h
   |cons t ts ih=>
    intro as o h
    cases as with
    |nil=>simp[gtoks]at h
    |cons a as=>
     unfold tokG
     by_cases ht:ownT t=true
     ·rw[if_pos ht]
      cases hk:tokOf a with
      |none=>
       simp only[gtoks,gtok,ht,hk,if_true,Option.toList,List.nil_append]at h
       exact ih h
      |some g=>
       simp only
       by_cases hxg:x=g
       ·rw[if_pos hxg];exact⟨_,rfl⟩
       ·rw[if_neg hxg]
        simp only[gtoks,gtok,ht,hk,if_true,Option.toList,List.cons_append,List.nil_append,List.mem_cons,hxg,false_or]at h
        exact ih h
     ·rw[if_neg ht]
      simp only[gtoks,gtok,ht,if_false,List.nil_append]at h
      exact ih h
  obtain⟨j,hj⟩:=h1 (o:=o) hx
  rw[hj,hn x hx]
  exact⟨fun h=>(by cases h),fun h=>(by cases h)⟩
 ·rw[tokG_not hx]
theorem tokG_tok {i:Nat}:∀{ts:List Ty} {as:List AVal} {o x a b:Nat},tokG i o ts as G x=.tok a b→a=i∨G x=.tok a b
 | [],as,o,x,a,b,h=>.inr (by cases as<;>exact h)
 |t::ts,[],o,x,a,b,h=>.inr h
 |t::ts,v::as,o,x,a,b,h=>by
  unfold tokG at h
  by_cases ht:ownT t=true
  ·rw[if_pos ht]at h
   cases hk:tokOf v with
   |none=>rw[hk]at h;exact tokG_tok h
   |some g=>
    rw[hk]at h
    simp only at h
    by_cases hx:x=g
    ·rw[if_pos hx]at h;injection h with h1 _;exact .inl h1.symm
    ·rw[if_neg hx]at h;exact tokG_tok h
  ·rw[if_neg ht]at h;exact tokG_tok h
theorem Ok.mono (h:Ok T G ρ W) (hg:∀i c,G i=.cls c→G' i=.cls c):Ok T G' ρ W:=⟨fun v=>(h.ty v).mono hg,h.top,h.ge,h.fx,h.ln,h.pr⟩
end Go.AL.SX
namespace Go.AL.SX
variable {T:Tab} [TabOk T] {E:En} {ρ ρ':Val} {G G':Nat→Cl} {W:SW} {V:VS} {se:SE} {env:VE}
theorem mayWr_ok (h:Sat T E ρ G W V) {v c i:Nat} (hm:mayWr W v c=true) (hi:idxOf (ρ v)=some i) (hg:G i=.cls c):E.V.n≤i∨E.Tc i:=by
 simp only[mayWr,Bool.or_eq_true,hasN,List.any_eq_true]at hm
 rcases hm with⟨w,hw,he⟩|⟨c',hc,he⟩
 ·have:=beqN he;subst this
  exact h.sto.wr v hw i hi
 ·have:=beqN he;subst this
  rcases Nat.lt_or_ge i E.V.n with hlt|hge
  ·exact .inr (h.sto.M c hc i ((h.sto.cls i hlt c).1 hg))
  ·exact .inl hge
theorem wr_ge (hE:EnOk E) (h:Sat T E ρ G W V) {i:Nat} (hi:E.V.n≤i∨E.Tc i):Nat.ble V.g i=true:=by
 rw[ble_eq,h.sto.g]
 refine decide_eq_true ?_
 rcases hi with hi|hi
 ·exact Nat.le_trans hE.g hi
 ·exact hE.tcg i hi
theorem over_get:∀{vs cs:List AVal} {j:Nat},vs.length≤cs.length→(over vs cs)[j]? =if j<vs.length then vs[j]? else cs[j]?
 | [],cs,j,_=>by simp[over]
 |v::vs,[],j,h=>by simp at h
 |v::vs,c::cs,0,h=>rfl
 |v::vs,c::cs,j+1,h=>by
  show(over vs cs)[j]? =_
  rw[over_get (by simpa using h)]
  simp
theorem putAt_get {o:Nat} {vs:List AVal}:∀{cs:List AVal} {j:Nat},o+vs.length≤cs.length→(putAt o vs cs)[j]? =if o≤j∧j<o+vs.length then vs[j-o]? else cs[j]? :=by
 induction o with
 |zero=>
  intro cs j h
  show(over vs cs)[j]? =_
  rw[over_get (by omega)]
  simp
 |succ o ih=>
  intro cs j h
  cases cs with
  |nil=>simp at h
  |cons c cs=>
   cases j with
   |zero=>simp[putAt]
   |succ j=>
    show(putAt o vs cs)[j]? =_
    rw[ih (by simp at h;omega)]
    by_cases hj:o≤j∧j<o+vs.length
    ·rw[if_pos hj,if_pos (by omega)];congr 1;omega
    ·rw[if_neg hj,if_neg (by omega)];simp
theorem over_length:∀{vs cs:List AVal},vs.length≤cs.length→(over vs cs).length=cs.length
 | [],cs,_=>rfl
 |v::vs,[],h=>by simp at h
 |v::vs,c::cs,h=>by
  show(over vs cs).length+1=_
  rw[over_length (by simpa using h)];rfl
theorem putAt_length {o:Nat} {vs:List AVal}:∀{cs:List AVal},o+vs.length≤cs.length→(putAt o vs cs).length=cs.length:=by
 induction o with
 |zero=>intro cs h;exact over_length (by omega)
 |succ o ih=>
  intro cs h
  cases cs with
  |nil=>simp at h
  |cons c cs=>
   show(putAt o vs cs).length+1=_
   rw[ih (by simp at h;omega)];rfl
theorem numC_mem {v:Nat}:∀{l:List SV} {o:Nat} {p:Nat × Nat × SV},p∈newObj.numC v o l→∃k s,l[k]? =some s∧p=(v,o+k,s)
 | [],o,p,h=>by cases h
 |s::l,o,p,h=>by
  simp only[newObj.numC]at h
  rcases List.mem_cons.1 h with rfl|h
  ·exact⟨0,s,rfl,rfl⟩
  ·obtain⟨k,t,h1,h2⟩:=numC_mem h
   exact⟨k+1,t,by simpa using h1,by rw[h2];congr 2;show o+1+k=o+(k+1);omega⟩
theorem evs_get {l:List SV} {j:Nat} {s:SV} (h:l[j]? =some s):(evs ρ l)[j]? =some (s.ev ρ):=by rw[evs_eq,List.getElem?_map,h];rfl
theorem store_turn (h:Sat T E ρ G W V) {v c i o:Nat} {l:List SV} {ts tl:List Ty} {cs:List AVal} {lv:List (Nat × Nat × Nat)} (hv:v<W.nv) (hlc:cls W.nv l=true)
  (hi:ρ v=.ptr i 0) (hg:G i=.cls c) (hk:T.K c=.obj ts) (hat:V.at i=.obj cs) (hw:E.V.n≤i∨E.Tc i)
  (htl:∀(j:Nat),j<l.length→tl[j]? =ts[o+j]?) (hll:tl.length=l.length) (hle:o+l.length≤cs.length)
  (hsub:lv.Sublist W.live) (hgv:∀(j:Nat) (t:Ty) (a:AVal),tl[j]? =some t→(evs ρ l)[j]? =some a→Gives T E G V t a) (hnd:(gtoks tl (evs ρ l)).Nodup)
  (hdis:∀g∈gtoks tl (evs ρ l),∀p∈lv,tokOf (ρ p.1)≠some g):
  Sat T E ρ (tokG i o tl (evs ρ l) G) {W with live:=lv,cells:=newObj.numC v o l++dropC W v c o l.length W.cells,bro:=unBro v o l.length W.bro} (V.put i (.obj (putAt o (evs ρ l) cs))):=by
 have hT:=toks_of hgv
 have hcls:=fun x c=>tokG_cls (i:=i) (o:=o) (G:=G) (ts:=tl) (as:=evs ρ l) hT.no x c
 have hnot:∀x,x∉gtoks tl (evs ρ l)→tokG i o tl (evs ρ l) G x=G x:=fun x hx=>tokG_not hx
 have hmono:∀x c,G x=.cls c→tokG i o tl (evs ρ l) G x=.cls c:=fun x c hx=>(hcls x c).2 hx
 have hat':∀x,x≠i→(V.put i (.obj (putAt o (evs ρ l) cs))).at x=V.at x:=fun x hx=>by rw[at_put,if_neg (fun e=>hx e.symm)]
 have hati:(V.put i (.obj (putAt o (evs ρ l) cs))).at i=.obj (putAt o (evs ρ l) cs):=by rw[at_put,if_pos rfl]
 have hopn:∀g n sz e,V.at g=.opn n sz e→g≠i:=fun g n sz e hge he=>by subst he;rw[hat]at hge;cases hge
 have hel:(evs ρ l).length=l.length:=evs_len ρ l
 have hle':o+(evs ρ l).length≤cs.length:=by rw[hel];exact hle
 have hin:∀g∈gtoks tl (evs ρ l),g<E.V.n→E.Tc g:=fun g hg hlt=>(hT.new g hg).elim (fun hge=>by omega) id
 have hown:∀{sz e x j a},OwnC G V sz e x j a→OwnC (tokG i o tl (evs ρ l) G) (V.put i (.obj (putAt o (evs ρ l) cs))) sz e x j a:=by
  rintro sz e x j a (rfl|⟨xs,nl,g,rfl,h1,h2,h3⟩)
  ·exact .inl rfl
  ·refine .inr ⟨xs,nl,g,rfl,?_,?_,h3⟩
   ·rw[hat' g (hopn g _ _ _ h1)];exact h1
   ·rw[hnot g (fun hm=>by rw[hT.no g hm]at h2;cases h2)];exact h2
 have hX:∀x j,¬Xof ρ (unBro v o l.length W.bro) x j→(x=i∧o≤j∧j<o+l.length)∨¬Xof ρ W.bro x j:=by
  intro x j hn
  by_cases hin:x=i∧o≤j∧j<o+l.length
  ·exact .inl hin
  ·refine .inr fun⟨p,hp,h1,h2⟩=>hn ⟨p,List.mem_filter.2 ⟨hp,?_⟩,h1,h2⟩
   simp only[Bool.not_eq_true',Bool.and_eq_false_iff]
   by_cases hpv:p.1=v
   ·have hxi:x=i:=by rw[hpv,hi]at h1;injection h1 with h1;exact h1.symm
    refine .inr ?_
    have:¬(o≤p.2∧p.2<o+l.length):=by rw[h2];exact fun hh=>hin ⟨hxi,hh⟩
    rw[ble_eq,blt_eq]
    by_cases h3:o≤p.2
    ·refine .inr (decide_eq_false ?_)
     show¬p.2<o+l.length
     omega
    ·exact .inl (decide_eq_false h3)
   ·refine .inl ?_
    rw[beq_eq];exact decide_eq_false hpv
 refine⟨⟨(h.ok.mono hmono).ty,h.ok.top,h.ok.ge,h.ok.fx,h.ok.ln,h.ok.pr⟩,⟨h.clo.ge,h.clo.fx,h.clo.ln,fun p hp=> ?_,fun p hp=>h.clo.live p (hsub.subset hp),fun p hp=>h.clo.bro p (List.mem_filter.1 hp).1,h.clo.wr,h.clo.pr⟩,?_⟩
 ·rcases List.mem_append.1 hp with hp|hp
  ·obtain⟨k,s,h1,rfl⟩:=numC_mem hp
   exact⟨hv,cls_get h1 hlc⟩
  ·exact h.clo.cells p (List.mem_filter.1 hp).1
 ·refine⟨fun x c' hx=> ?_,fun p hp=> ?_,fun p hp=> ?_,h.sto.dis.sublist hsub,h.sto.wr,h.sto.M,fun x hx=> ?_,h.sto.n,h.sto.g,fun x hx hnt=> ?_,fun x hx c'=> ?_,fun g hlt a b hgt=> ?_,fun g a b hgt=>(tokG_tok hgt).elim (fun e=>by rw[e];exact(h.sto.wf i c hg).1) (h.sto.tkw g a b)⟩
  ·
   have hx':=(hcls x c').1 hx
   obtain⟨k1,k2⟩:=h.sto.wf x c' hx'
   refine⟨k1,?_⟩
   by_cases hxi:x=i
   ·subst hxi
    rw[hg]at hx'
    injection hx' with hcc
    subst hcc
    rw[hk]at k2⊢
    obtain⟨cs',e1,e2,e3⟩:=k2
    rw[hat]at e1
    injection e1 with e1
    subst e1
    refine⟨_,hati,by rw[putAt_length hle'];exact e2,fun j t a ht ha=> ?_⟩
    rw[putAt_get hle',hel]at ha
    by_cases hj:o≤j∧j<o+l.length
    ·rw[if_pos hj]at ha
     have htj:tl[j-o]? =some t:=by
      rw[htl (j-o) (by omega),show o+(j-o)=j by omega];exact ht
     obtain⟨g1,g2⟩:=hgv (j-o) t a htj ha
     refine⟨g1.mono hmono,fun t' sz e lo hi he _=> ?_⟩
     rcases g2 t' sz e lo hi he with rfl|⟨xs,nl,g,rfl,m1,m2,m3,m4⟩
     ·exact .inl rfl
     ·refine .inr ⟨xs,nl,g,rfl,?_,?_,m4⟩
      ·rw[hat' g (hopn g _ _ _ m1)];exact m1
      ·rw[tokG_in hnd htj ha (by rw[he];rfl) rfl];congr 1;omega
    ·rw[if_neg hj]at ha
     obtain⟨g1,g2⟩:=e3 j t a ht ha
     refine⟨g1.mono hmono,fun t' sz e lo hi he hn=>hown (g2 t' sz e lo hi he ?_)⟩
     rcases hX x j hn with hh|hh
     ·exact absurd hh.2 hj
     ·exact hh
   ·cases hkk:T.K c' with
    |none=>rw[hkk]at k2;exact k2.elim
    |map kk t=>
     rw[hkk]at k2
     obtain⟨ko,es,m1,m2,m3⟩:=k2
     exact⟨ko,es,by rw[hat' x hxi];exact m1,m2,fun e he=>(m3 e he).mono hmono⟩
    |obj ts'=>
     rw[hkk]at k2
     obtain⟨cs',e1,e2,e3⟩:=k2
     refine⟨cs',by rw[hat' x hxi];exact e1,e2,fun j t a ht ha=> ?_⟩
     obtain⟨g1,g2⟩:=e3 j t a ht ha
     refine⟨g1.mono hmono,fun t' sz e lo hi he hn=>hown (g2 t' sz e lo hi he ?_)⟩
     rcases hX x j hn with hh|hh
     ·exact absurd hh.1 hxi
     ·exact hh
  ·rcases List.mem_append.1 hp with hp|hp
   ·obtain⟨k,s,h1,rfl⟩:=numC_mem hp
    have hklt:k<l.length:=(List.getElem?_eq_some_iff.1 h1).1
    refine⟨i,_,c,hi,hati,?_,hmono i c hg⟩
    rw[putAt_get hle',hel,if_pos (by simp only;omega)]
    simp only[Nat.add_sub_cancel_left]
    exact evs_get h1
   ·obtain⟨hp1,hp2⟩:=List.mem_filter.1 hp
    obtain⟨x,cs',c',k1,k2,k3,k4⟩:=h.sto.cells p hp1
    by_cases hxi:x=i
    ·subst hxi
     rw[hat]at k2
     injection k2 with k2
     subst k2
     refine⟨x,_,c,k1,hati,?_,hmono x c hg⟩
     have hout:¬(o≤p.2.1∧p.2.1<o+l.length):=by
      intro hh
      have h1:(Nat.ble o p.2.1&&Nat.blt p.2.1 (Nat.add o l.length))=true:=by
       rw[ble_eq,blt_eq,decide_eq_true hh.1]
       show decide (p.2.1<o+l.length)=true
       exact decide_eq_true hh.2
      rw[h1]at hp2
      simp only[Bool.and_true,Bool.not_eq_true',Bool.or_eq_false_iff]at hp2
      have hty:=h.ok.ty p.1
      have h3:=hp2.2
      split at h3
      ·rename_i c2 n ht
       rw[ht,k1]at hty
       cases hty with
       |ptr _ _ _ hgc=>
        rw[hg]at hgc
        injection hgc with hgc
        subst hgc
        simp at h3
      ·cases h3
     rw[putAt_get hle',hel,if_neg hout];exact k3
    ·exact⟨x,cs',c',k1,by rw[hat' x hxi];exact k2,k3,hmono x c' k4⟩
  ·have hp':=hsub.subset hp
   rcases h.sto.live p hp' with h1|⟨xs,nl,g,h1,h2,h3,h4,h5⟩
   ·exact .inl h1
   ·refine .inr ⟨xs,nl,g,h1,?_,?_,h4,h5⟩
    ·rw[hat' g (hopn g _ _ _ h2)];exact h2
    ·rw[hnot g (fun hm=>hdis g hm p hp (by rw[h1];rfl))];exact h3
  ·have hx:V.n≤x:=hx
   rw[hnot x (fun hm=>by have:=hT.lt x hm;omega)]
   exact h.sto.out x hx
  ·obtain⟨k1,k2⟩:=h.sto.fr x hx hnt
   have hxi:x≠i:=fun e=>by subst e;exact hw.elim (fun hw=>by omega) hnt
   exact⟨by rw[hat' x hxi];exact k1,by rw[hnot x (fun hm=>hnt (hin x hm hx))];exact k2⟩
  ·rw[hcls x c'];exact h.sto.cls x hx c'
  ·by_cases hm:g∈gtoks tl (evs ρ l)
   ·exact .inr (hin g hm hlt)
   ·rw[hnot g hm]at hgt;exact h.sto.tok g hlt a b hgt
theorem dropS_len {β:Type} {o:Nat}:∀{l r:List β},dropS o l=some r→l.length=o+r.length:=by
 induction o with
 |zero=>intro l r h;cases h;simp
 |succ o ih=>
  intro l r h
  cases l with
  |nil=>cases h
  |cons a l=>have:=ih (l:=l) h;simp;omega
theorem takeS_get {β:Type}:∀{n:Nat} {l r:List β},takeS n l=some r→r.length=n∧∀j,j<n→r[j]? =l[j]?
 |0,l,r,h=>by cases h;exact⟨rfl,fun j hj=>by omega⟩
 |n+1,[],r,h=>by cases h
 |n+1,a::l,r,h=>by
  simp only[takeS]at h
  split at h
  ·rename_i q hq
   cases h
   obtain⟨h1,h2⟩:=takeS_get hq
   refine⟨by simp[h1],fun j hj=> ?_⟩
   cases j with
   |zero=>rfl
   |succ j=>simp only[List.getElem?_cons_succ];exact h2 j (by omega)
  ·cases h
theorem storeP_ok (h:Sat T E ρ G W V) {v o:Nat} {l:List SV} {W':SW} (hv:v<W.nv) (hlc:cls W.nv l=true) (hs:storeP T W v o l=some W'):
  W'.nv=W.nv∧∃i cs G',ρ v=.ptr i 0∧V.at i=.obj cs∧o+l.length≤cs.length∧(E.V.n≤i∨E.Tc i)∧Sat T E ρ G' W' (V.put i (.obj (putAt o (evs ρ l) cs))):=by
 unfold storeP at hs
 split at hs
 ·rename_i c hc
  obtain⟨i,hi,hg⟩:=classOf_ok h hc
  obtain⟨hm,hs⟩:=cond_some hs
  split at hs
  ·rename_i ts0 hkc
   split at hs
   ·rename_i ts hd
    split at hs
    ·rename_i tl ht
     split at hs
     ·rename_i W1 hgv
      cases hs
      obtain⟨lv,rfl,k2,k3,k4,k5,k6⟩:=giveTys_ok h hgv
      rw[lenS_eq]at ht
      obtain⟨t1,t2⟩:=takeS_get ht
      have hwf:=(h.sto.wf i c hg).2
      have hw:=mayWr_ok h hm (i:=i) (by rw[hi];rfl) hg
      rw[hkc]at hwf
      obtain⟨cs,e1,e2,e3⟩:=hwf
      have hle:o+l.length≤cs.length:=by
       rw[←e2]
       have hll:=dropS_len hd
       have:l.length≤ts.length:=by
        rcases Nat.lt_or_ge ts.length l.length with hlt|hge
        ·have h1:=t2 ts.length hlt
         rw[List.getElem?_eq_none (Nat.le_refl ts.length),List.getElem?_eq_none_iff]at h1
         omega
        ·exact hge
       omega
      refine⟨rfl,i,cs,tokG i o tl (evs ρ l) G,hi,e1,hle,hw,?_⟩
      have:=store_turn h (v:=v) (o:=o) (l:=l) (tl:=tl) hv hlc hi hg hkc e1 hw (fun j hj=>by rw[t2 j hj,dropS_get hd j]) t1 hle k2 k4 k5 fun g hg=>(k6 g hg).2
      rw[lenS_eq]
      exact this
     ·cases hs
    ·cases hs
   ·cases hs
  ·cases hs
 ·cases hs
theorem opStoreS_ok (hE:EnOk E) (h:Sat T E ρ G W V) (he:SatE ρ W.nv se env) {n:Nat} {x v:Opd} {d:Option Nat}:RNok T E ρ W (opStoreS T n x v d se W) (fun k=>opStore n x v d k env V):=by
 unfold opStoreS
 split
 ·rename_i s hs
  obtain⟨e1,c1⟩:=ev_ok he hs
  split
  ·rename_i l hl
   obtain⟨k1,k2,k3,k4⟩:=cellsN_ok h hl
   have hok:cellsOk n (s.ev ρ)=true:=cellsOk_of (by rw[k1,evs_len,k2]) k3
   have hrun:∀k,opStore n x v d k env V=opSt20 n (evs ρ l) d k env V (eo x env):=by
    intro k
    show opSt1 n x d k env V (eo v env)=_
    rw[e1]
    show(bif cellsOk n (s.ev ρ)then opSt2 n (cellsC (s.ev ρ)) d k env V (eo x env)else .bad)=_
    rw[hok,cellsC_eq,k1,opSt2_eq];rfl
   have obj:∀{w o:Nat} {W':SW},w<W.nv→eo x env=.val (offP o (ρ w))→storeP T W w o l=some W'→RNok T E ρ W (some [(setS d .un se,W')]) (fun k=>opStore n x v d k env V):=by
    intro w o W' hw hx hsp
    obtain⟨m0,i,cs,G',m1,m2,m3,m4,m5⟩:=storeP_ok h hw (k4 _ c1) hsp
    have he':SatE ρ W'.nv se env:=by rw[m0];exact he
    refine rn_one (.same m0) m5 (he'.set d (e:=.val .top) trivial rfl) fun k=> ?_
    rw[hrun,hx,m1]
    show(bif Nat.ble V.g i then wrObj i (0+o) n (evs ρ l) d k env V (V.at i)else .bad)=_
    rw[wr_ge hE h m4,m2,Nat.zero_add]
    show(bif fits (o+n) cs then _ else _)=_
    rw[fits_of (by rw[←k2];exact m3)];rfl
   split
   ·rename_i b o hx
    obtain⟨h1,h2⟩:=eo_ok he x
    rw[hx]at h1
    simp only[EntOk]at h1
    have hb:=he.ent b
    have hbc:=he.cl b
    split
    ·rename_i cs hsb
     rw[hsb]at hb hbc
     simp only[EntOk]at hb
     split
     ·rename_i cs' hp
      obtain⟨p1,p2,p3,p4⟩:=putS_ok (n:=W.nv) (ρ:=ρ) hp
      refine rn_one (.refl _ _) h ((he.put b (x:=.box cs') rfl (p2 (k4 _ c1) hbc)).set d (e:=.val .top) trivial rfl) fun k=> ?_
      rw[hrun,h1]
      show wrBox b o n (evs ρ l) d k env V (eat env b)=_
      rw[hb]
      show(bif fits (o+n) (evs ρ cs)then _ else _)=_
      rw[fits_of (by rw[evs_len,←k2];exact p3),p1];rfl
     ·exact rn_none
    ·exact rn_none
   ·rename_i w o hx
    obtain⟨h1,h2⟩:=eo_ok he x
    rw[hx]at h1 h2
    split
    ·rename_i W' hsp
     exact obj (bltN h2) h1 hsp
    ·exact rn_none
   ·rename_i w hx
    obtain⟨h1,h2⟩:=eo_ok he x
    rw[hx]at h1 h2
    split
    ·rename_i W' hsp
     refine obj (bltN h2) ?_ hsp
     obtain⟨_,i,_,_,m1,_⟩:=storeP_ok h (bltN h2) (k4 _ c1) hsp
     simp only[EntOk,SV.ev]at h1
     rw[h1,m1];rfl
    ·exact rn_none
   ·exact rn_none
  ·exact rn_none
 ·exact rn_none
end Go.AL.SX
namespace Go.AL.SX
variable {T:Tab} [TabOk T] {E:En} {ρ ρ':Val} {G G':Nat→Cl} {W:SW} {V:VS} {se:SE} {env:VE}
theorem new_turn (h:Sat T E ρ G W V) {c:Nat} {o:VObj} {l:List SV} {tl:List Ty} {lv:List (Nat × Nat × Nat)} {tv:Ty} {a:AVal} (hlc:cls W.nv l=true) (hl:l=[]∨o=.obj (evs ρ l))
  (hsub:lv.Sublist W.live) (hgv:∀(j:Nat) (t:Ty) (a:AVal),tl[j]? =some t→(evs ρ l)[j]? =some a→Gives T E G V t a)
  (hdis:∀g∈gtoks tl (evs ρ l),∀p∈lv,tokOf (ρ p.1)≠some g)
  (htv:∀G',G' V.n=.cls c→HasTy T.D G' tv a) (hidx:idxOf a=some V.n) (hptr:l≠[]→a=.ptr V.n 0)
  (hobj:∀G' V',(∀x c,G x=.cls c→G' x=.cls c)→V'.at V.n=o→(∀j t b g,tl[j]? =some t→(evs ρ l)[j]? =some b→ownT t=true→tokOf b=some g→G' g=.tok V.n j∧V'.at g=V.at g∧g<V'.n)→ObjOk T G' V' (Xof ρ W.bro) V.n (T.K c))
  (hnd:(gtoks tl (evs ρ l)).Nodup):
  Sat T E (upd ρ W.nv a) (fun x=>if x=V.n then .cls c else tokG V.n 0 tl (evs ρ l) G x) {W.push tv with live:=lv,wr:=W.nv::W.wr,cells:=newObj.numC W.nv 0 l++W.cells} (V.new o):=by
 have hT:=toks_of hgv
 have hcls:=fun x c=>tokG_cls (i:=V.n) (o:=0) (G:=G) (ts:=tl) (as:=evs ρ l) hT.no x c
 have hnot:∀x,x∉gtoks tl (evs ρ l)→tokG V.n 0 tl (evs ρ l) G x=G x:=fun x hx=>tokG_not hx
 have hVn:(V.new o).n=V.n+1:=rfl
 have hatn:(V.new o).at V.n=o:=by rw[at_new,if_pos rfl]
 have hat':∀x,x≠V.n→(V.new o).at x=V.at x:=fun x hx=>by rw[at_new,if_neg (fun e=>hx e.symm)]
 have hGn:∀x c,G x=.cls c→x≠V.n:=fun x c hx e=>by rw[e,h.sto.out V.n (Nat.le_refl _)]at hx;cases hx
 generalize hG':(fun x=>if x=V.n then Cl.cls c else tokG V.n 0 tl (evs ρ l) G x)=G'
 have hGnn:G' V.n=.cls c:=by rw[←hG'];simp
 have hGx:∀x,x≠V.n→G' x=tokG V.n 0 tl (evs ρ l) G x:=fun x hx=>by rw[←hG'];simp only[if_neg hx]
 have hmono:∀x c,G x=.cls c→G' x=.cls c:=fun x c' hx=>by rw[hGx x (hGn x c' hx)];exact(hcls x c').2 hx
 have hin:∀g∈gtoks tl (evs ρ l),g<E.V.n→E.Tc g:=fun g hg hlt=>(hT.new g hg).elim (fun hge=>by omega) id
 have hagr:=upd_agree ρ W.nv a
 have hs:=h.agree hagr
 have hown:∀{sz e x j b},OwnC G V sz e x j b→OwnC G' (V.new o) sz e x j b:=by
  rintro sz e x j b (rfl|⟨xs,nl,g,rfl,h1,h2,h3⟩)
  ·exact .inl rfl
  ·refine .inr ⟨xs,nl,g,rfl,?_,?_,Nat.lt_succ_of_lt h3⟩
   ·rw[hat' g (by omega)];exact h1
   ·rw[hGx g (by omega),hnot g (fun hm=>by rw[hT.no g hm]at h2;cases h2)];exact h2
 have hXs:Xof (upd ρ W.nv a) W.bro=Xof ρ W.bro:=by
  funext i j
  apply propext
  constructor
  ·rintro⟨p,hp,h1,h2⟩;exact⟨p,hp,by rw[hagr _ (h.clo.bro p hp)];exact h1,h2⟩
  ·rintro⟨p,hp,h1,h2⟩;exact⟨p,hp,by rw[←hagr _ (h.clo.bro p hp)];exact h1,h2⟩
 have hle:W.nv≤W.nv+1:=Nat.le_succ _
 refine⟨⟨fun v=> ?_,fun v hv=> ?_,hs.ok.ge,hs.ok.fx,hs.ok.ln,hs.ok.pr⟩,
  ⟨fun x hx=>clT_mono hle (l:=x.t) (h.clo.ge x hx),fun x hx=>lit_mono hle (h.clo.fx x hx),fun p hp=>⟨Nat.lt_succ_of_lt (h.clo.ln p hp).1,clT_mono hle (l:=p.2.t) (h.clo.ln p hp).2⟩,fun p hp=> ?_,fun p hp=>Nat.lt_succ_of_lt (h.clo.live p (hsub.subset hp)),fun p hp=>Nat.lt_succ_of_lt (h.clo.bro p hp),fun v hv=> ?_,fun p hp=>svs_mono hle _ (h.clo.pr p hp)⟩,?_⟩
 ·show HasTy T.D G' ((W.push tv).tyOf v) _
  rw[tyOf_push]
  by_cases he:W.nv=v
  ·subst he;rw[if_pos rfl,upd_self];exact htv G' hGnn
  ·rw[if_neg he];exact(hs.ok.ty v).mono hmono
 ·show(W.push tv).tyOf v=.any
  have hv:W.nv+1≤v:=hv
  rw[tyOf_push,if_neg (by omega)]
  exact h.ok.top v (by omega)
 ·rcases List.mem_append.1 hp with hp|hp
  ·obtain⟨k,s,h1,rfl⟩:=numC_mem hp
   exact⟨Nat.lt_succ_self _,sv_mono hle _ (cls_get h1 hlc)⟩
  ·exact⟨Nat.lt_succ_of_lt (h.clo.cells p hp).1,sv_mono hle _ (h.clo.cells p hp).2⟩
 ·rcases List.mem_cons.1 hv with rfl|hv
  ·exact Nat.lt_succ_self _
  ·exact Nat.lt_succ_of_lt (h.clo.wr v hv)
 ·refine⟨fun x c' hx=> ?_,fun p hp=> ?_,fun p hp=> ?_,?_,fun v hv i hi=> ?_,h.sto.M,fun x hx=> ?_,Nat.le_succ_of_le h.sto.n,h.sto.g,fun x hx hnt=> ?_,fun x hx c'=> ?_,fun g hlt p q hgt=> ?_,fun g p q hgt=> ?_⟩
  ·show _∧ObjOk T G' (V.new o) (Xof (upd ρ W.nv a) W.bro) x (T.K c')
   rw[hXs]
   by_cases hxn:x=V.n
   ·subst hxn
    rw[hGnn]at hx
    injection hx with hx
    subst hx
    refine⟨Nat.lt_succ_self _,hobj G' (V.new o) hmono hatn fun j t b g ht hb ho hg=> ?_⟩
    have hm:=mem_gtoks ht hb ho hg
    have hlt:=hT.lt g hm
    refine⟨?_,hat' g (by omega),Nat.lt_succ_of_lt hlt⟩
    rw[hGx g (by omega),tokG_in hnd ht hb ho hg,Nat.zero_add]
   ·rw[hGx x hxn]at hx
    have hx':=(hcls x c').1 hx
    obtain⟨k1,k2⟩:=h.sto.wf x c' hx'
    refine⟨Nat.lt_succ_of_lt k1,?_⟩
    cases hkk:T.K c' with
    |none=>rw[hkk]at k2;exact k2.elim
    |map kk t=>
     rw[hkk]at k2
     obtain⟨ko,es,m1,m2,m3⟩:=k2
     exact⟨ko,es,by rw[hat' x hxn];exact m1,m2,fun e he=>(m3 e he).mono hmono⟩
    |obj ts'=>
     rw[hkk]at k2
     obtain⟨cs',e1,e2,e3⟩:=k2
     refine⟨cs',by rw[hat' x hxn];exact e1,e2,fun j t a ht ha=> ?_⟩
     obtain⟨g1,g2⟩:=e3 j t a ht ha
     exact⟨g1.mono hmono,fun t' sz e lo hi he hn=>hown (g2 t' sz e lo hi he hn)⟩
  ·rcases List.mem_append.1 hp with hp|hp
   ·obtain⟨k,s,h1,rfl⟩:=numC_mem hp
    have hne:l≠[]:=fun e=>by rw[e]at h1;simp at h1
    have ho:o=.obj (evs ρ l):=hl.elim (fun e=>absurd e hne) id
    refine⟨V.n,evs ρ l,c,by rw[upd_self];exact hptr hne,by rw[hatn,ho],?_,hGnn⟩
    simp only[Nat.zero_add]
    rw[←sv_agree hagr s (cls_get h1 hlc)]
    exact evs_get h1
   ·obtain⟨x,cs',c',k1,k2,k3,k4⟩:=hs.sto.cells p hp
    exact⟨x,cs',c',k1,by rw[hat' x (hGn x c' k4)];exact k2,k3,hmono x c' k4⟩
  ·have hp':=hsub.subset hp
   have hag:=hagr _ (h.clo.live p hp')
   rcases h.sto.live p hp' with h1|⟨xs,nl,g,h1,h2,h3,h4,h5⟩
   ·exact .inl (by rw[←hag];exact h1)
   ·refine .inr ⟨xs,nl,g,by rw[←hag];exact h1,?_,?_,h4,Nat.lt_succ_of_lt h5⟩
    ·rw[hat' g (by omega)];exact h2
    ·rw[hGx g (by omega),hnot g (fun hm=>hdis g hm p hp (by rw[h1];rfl))];exact h3
  ·exact hs.sto.dis.sublist hsub
  ·rcases List.mem_cons.1 hv with rfl|hv
   ·rw[upd_self,hidx]at hi
    injection hi with hi
    subst hi
    exact .inl h.sto.n
   ·exact hs.sto.wr v hv i hi
  ·have hx:V.n+1≤x:=hx
   rw[hGx x (by omega),hnot x (fun hm=>by have:=hT.lt x hm;omega)]
   exact h.sto.out x (by omega)
  ·have hn:=h.sto.n
   obtain⟨k1,k2⟩:=h.sto.fr x hx hnt
   exact⟨by rw[hat' x (by omega)];exact k1,by rw[hGx x (by omega),hnot x (fun hm=>hnt (hin x hm hx))];exact k2⟩
  ·have hn:=h.sto.n
   rw[hGx x (by omega),hcls x c'];exact h.sto.cls x hx c'
  ·have hn:=h.sto.n
   rw[hGx g (by omega)]at hgt
   by_cases hm:g∈gtoks tl (evs ρ l)
   ·exact .inr (hin g hm hlt)
   ·rw[hnot g hm]at hgt;exact h.sto.tok g hlt p q hgt
  ·by_cases hgn:g=V.n
   ·subst hgn;rw[hGnn]at hgt;cases hgt
   ·rw[hGx g hgn]at hgt
    rcases tokG_tok hgt with e|e
    ·rw[e];exact Nat.lt_succ_self _
    ·exact Nat.lt_succ_of_lt (h.sto.tkw g p q e)
theorem newObj_ok (h:Sat T E ρ G W V) (he:SatE ρ W.nv se env) {c:Nat} {l:List SV} {d:Option Nat} {run:EK→ER} (hlc:cls W.nv l=true) (hne:l≠[])
  (hrun:∀k,run k=k (setd d (.val (.ptr V.n 0)) env) (V.new (.obj (evs ρ l)))):RNok T E ρ W (newObj T c l d se W) run:=by
 unfold newObj
 split
 ·rename_i ts hk
  split
  ·rename_i W1 hg
   obtain⟨lv,rfl,k2,k3,k4,k5,k6⟩:=giveTys_ok h hg
   simp only[freshTy]
   have hturn:=new_turn h (c:=c) (o:=.obj (evs ρ l)) (tl:=ts) (lv:=lv) (tv:=.ptr c false) (a:=.ptr V.n 0) hlc (.inr rfl) k2 k4 (fun g hg=>(k6 g hg).2) (fun G' hG'=>.ptr _ _ _ hG') rfl (fun _=>rfl)
    (fun G' V' hmono hat htok=>by
     rw[hk]
     refine⟨evs ρ l,hat,by rw[evs_len];exact k3,fun j t b ht hb=> ?_⟩
     obtain⟨g1,g2⟩:=k4 j t b ht hb
     refine⟨g1.mono hmono,fun t' sz e lo hi hq _=> ?_⟩
     rcases g2 t' sz e lo hi hq with rfl|⟨xs,nl,g,rfl,m1,m2,m3,m4⟩
     ·exact .inl rfl
     ·obtain⟨n1,n2,n3⟩:=htok j t _ g ht hb (by rw[hq];rfl) rfl
      exact .inr ⟨xs,nl,g,rfl,by rw[n2];exact m1,n1,n3⟩) k5
   refine rn_val he (W':= {W.push (.ptr c false)with live:=lv,wr:=W.nv::W.wr,cells:=newObj.numC W.nv 0 l++W.cells}) ⟨Nat.le_succ _,upd_agree _ _ _⟩ hturn (a:=.ptr V.n 0) (by simp only[SV.ev,upd_self]) (ltB (Nat.lt_succ_self _)) hrun
  ·exact rn_none
 ·exact rn_none
theorem firstR_ok {k:Nat→RN} {run:EK→ER} (hk:∀c,RNok T E ρ W (k c) run):∀{l:List Nat},RNok T E ρ W (firstR k l) run
 | []=>rn_none
 |c::l=>by
  have h1:=hk c
  have h2:=firstR_ok hk (l:=l)
  simp only[firstR]
  split
  ·rename_i r hr
   rw[hr]at h1;exact h1
  ·exact h2
theorem objS_ok (h:Sat T E ρ G W V) (he:SatE ρ W.nv se env) {an:An} {l:List SV} {d:Option Nat} {run:EK→ER} (hlc:cls W.nv l=true) (hne:l≠[])
  (hrun:∀k,run k=k (setd d (.val (.ptr V.n 0)) env) (V.new (.obj (evs ρ l)))):RNok T E ρ W (objS T an l d se W) run:=by
 unfold objS
 split
 ·exact firstR_ok fun c=>newObj_ok h he hlc hne hrun
 ·exact rn_none
theorem mnewS_ok (h:Sat T E ρ G W V) (he:SatE ρ W.nv se env) {c:Nat} {d:Option Nat} {run:EK→ER}
  (hrun:∀k,run k=k (setd d (.val (.map (some V.n))) env) (V.new (.map none []))):RNok T E ρ W (mnewS T c d se W) run:=by
 unfold mnewS
 split
 ·rename_i kk t hk
  simp only[freshTy]
  have hturn:=new_turn h (c:=c) (o:=.map none []) (l:=[]) (tl:=[]) (lv:=W.live) (tv:=.map c false) (a:=.map (some V.n)) rfl (.inl rfl) (.refl _) (fun j t a ht=>by simp at ht) (fun g hg=>by simp[gtoks]at hg) (fun G' hG'=>.map _ _ _ hG') rfl (fun hh=>absurd rfl hh)
   (fun G' V' hmono hat htok=>by
    rw[hk]
    exact⟨none,[],hat,(fun k' hk'=>by cases hk'),(fun e he=>by cases he)⟩) (by simp[gtoks])
  exact rn_val he (W':= {W.push (.map c false)with live:=W.live,wr:=W.nv::W.wr,cells:=newObj.numC W.nv 0 []++W.cells}) ⟨Nat.le_succ _,upd_agree _ _ _⟩ hturn (a:=.map (some V.n)) (by simp only[SV.ev,upd_self]) (ltB (Nat.lt_succ_self _)) hrun
 ·exact rn_none
theorem room_of {n bytes:Nat} (h:n≤roomN bytes):room n bytes=true:=by
 have hm:n≤maxLen∧n*bytes≤140737488355328:=by
  unfold roomN at h
  cases hb:Nat.beq bytes 0 with
  |true=>
   rw[hb]at h
   have:=beqN hb;subst this
   exact⟨h,by simp⟩
  |false=>
   rw[hb]at h
   have hpos:0<bytes:=by
    rcases Nat.eq_zero_or_pos bytes with h0|h0
    ·subst h0;cases hb
    ·exact h0
   simp only[cond_false]at h
   have hdiv:n≤maxLen∧n≤140737488355328/bytes:=by
    rw[ble_eq]at h
    have hd:Nat.div 140737488355328 bytes=140737488355328/bytes:=rfl
    rw[hd]at h
    by_cases hc:maxLen≤140737488355328/bytes
    ·rw[decide_eq_true hc]at h;simp only[cond_true]at h;omega
    ·rw[decide_eq_false hc]at h;simp only[cond_false]at h;omega
   exact⟨hdiv.1,(Nat.le_div_iff_mul_le hpos).1 hdiv.2⟩
 unfold room
 rw[ble_eq,ble_eq,decide_eq_true hm.1]
 exact decide_eq_true hm.2
theorem Sat.grow (h:Sat T E ρ G W V) {V':VS} {og:Option Nat} (hn:V.n≤V'.n) (hg:V'.g=V.g) (hat:∀x,x<V.n→og≠some x→V'.at x=V.at x)
  (ho:∀g,og=some g→G g=.no∧(E.V.n≤g∨E.Tc g)∧∀p∈W.live,tokOf (ρ p.1)≠some g):Sat T E ρ G W V':=by
 have hno:∀x k,G x=k→k≠.no→og≠some x:=fun x k hx hk he=>hk (by rw[←hx];exact(ho x he).1)
 have hown:∀{sz e x j b},OwnC G V sz e x j b→OwnC G V' sz e x j b:=by
  rintro sz e x j b (rfl|⟨xs,nl,g,rfl,h1,h2,h3⟩)
  ·exact .inl rfl
  ·exact .inr ⟨xs,nl,g,rfl,by rw[hat g h3 (hno g _ h2 (by intro hh;cases hh))];exact h1,h2,Nat.lt_of_lt_of_le h3 hn⟩
 refine⟨h.ok,h.clo,⟨fun x c hx=> ?_,fun p hp=> ?_,fun p hp=> ?_,h.sto.dis,h.sto.wr,h.sto.M,fun x hx=>h.sto.out x (Nat.le_trans hn hx),Nat.le_trans h.sto.n hn,by rw[hg];exact h.sto.g,fun x hx hnt=> ?_,h.sto.cls,h.sto.tok,fun g i j hg=>Nat.lt_of_lt_of_le (h.sto.tkw g i j hg) hn⟩⟩
 ·obtain⟨k1,k2⟩:=h.sto.wf x c hx
  have hax:=hat x k1 (hno x _ hx (by intro hh;cases hh))
  refine⟨Nat.lt_of_lt_of_le k1 hn,?_⟩
  cases hkk:T.K c with
  |none=>rw[hkk]at k2;exact k2.elim
  |map kk t=>
   rw[hkk]at k2
   obtain⟨ko,es,m1,m2,m3⟩:=k2
   exact⟨ko,es,by rw[hax];exact m1,m2,m3⟩
  |obj ts'=>
   rw[hkk]at k2
   obtain⟨cs',e1,e2,e3⟩:=k2
   refine⟨cs',by rw[hax];exact e1,e2,fun j t a ht ha=> ?_⟩
   obtain⟨g1,g2⟩:=e3 j t a ht ha
   exact⟨g1,fun t' sz e lo hi he hn=>hown (g2 t' sz e lo hi he hn)⟩
 ·obtain⟨x,cs',c',k1,k2,k3,k4⟩:=h.sto.cells p hp
  obtain⟨k5,_⟩:=h.sto.wf x c' k4
  exact⟨x,cs',c',k1,by rw[hat x k5 (hno x _ k4 (by intro hh;cases hh))];exact k2,k3,k4⟩
 ·rcases h.sto.live p hp with h1|⟨xs,nl,g,h1,h2,h3,h4,h5⟩
  ·exact .inl h1
  ·exact .inr ⟨xs,nl,g,h1,by rw[hat g h5 (fun he=>(ho g he).2.2 p hp (by rw[h1];rfl))];exact h2,h3,h4,Nat.lt_of_lt_of_le h5 hn⟩
 ·obtain⟨k1,k2⟩:=h.sto.fr x hx hnt
  refine⟨?_,k2⟩
  have hlt:=Nat.lt_of_lt_of_le hx h.sto.n
  rw[hat x hlt (fun he=> ?_)]
  ·exact k1
  ·rcases(ho x he).2.1 with h1|h1
   ·omega
   ·exact hnt h1
def Taken (T:Tab) (E:En) (G:Nat→Cl) (V:VS) (W:SW) (ρ:Val) (te:Ty) (sz e:Nat) (a:AVal) (n:Nat):Prop:=
 (a=.slice [] true none∧n=0)∨∃xs nl g,a=.slice xs nl (some g)∧n=xs.length∧V.at g=.opn xs.length sz e∧G g=.no∧(E.V.n≤g∨E.Tc g)∧g<V.n∧(∀x∈xs,HasTy T.D G te x)∧(nl=true→xs=[])∧∀p∈W.live,tokOf (ρ p.1)≠some g
theorem ownerOf_ok {te:Ty} {v sz e:Nat} {u off:Nat}:∀{l:List (Nat × Nat × SV)},ownerOf T W v sz e te l=some (u,off)→(u,off,SV.x v)∈l∧ownAt T W sz e te u off=true
 | [],h=>by cases h
 |(u',off',s)::r,h=>by
  have skip:ownerOf T W v sz e te r=some (u,off)→(u,off,SV.x v)∈(u',off',s)::r∧ownAt T W sz e te u off=true:=fun h=>let⟨a,b⟩:=ownerOf_ok h;⟨List.mem_cons_of_mem _ a,b⟩
  cases s with
  |x w=>
   simp only[ownerOf]at h
   cases hb:Nat.beq v w&&ownAt T W sz e te u' off' with
   |true=>
    rw[hb]at h
    cases h
    obtain⟨h1,h2⟩:=and2 hb
    have:=beqN h1;subst this
    exact⟨List.mem_cons_self ..,h2⟩
   |false=>rw[hb]at h;exact skip h
  |_=>exact skip h
theorem ownAt_ok (h:Sat T E ρ G W V) {te:Ty} {sz e u off:Nat} (ho:ownAt T W sz e te u off=true):∃i c ts t lo hi,ρ u=.ptr i 0∧G i=.cls c∧T.K c=.obj ts∧ts[off]? =some (.own t sz e lo hi)∧(E.V.n≤i∨E.Tc i):=by
 unfold ownAt at ho
 split at ho
 ·rename_i c hc
  obtain⟨i,hi,hg⟩:=classOf_ok h hc
  obtain⟨h1,h2⟩:=and2 ho
  split at h2
  ·rename_i t sz' e' lo hi' r hd
   obtain⟨h3,h4⟩:=and2 h2
   obtain⟨h4,_⟩:=and2 h4
   have:=beqN h3;subst this
   have:=beqN h4;subst this
   have hget:(celT (T.K c))[off+0]? =some (.own t sz e lo hi'):=by rw[←dropS_get hd 0];rfl
   cases hk:T.K c with
   |none=>rw[hk]at hget;simp[celT]at hget
   |map kk t=>rw[hk]at hget;simp[celT]at hget
   |obj ts=>
    rw[hk]at hget
    exact⟨i,c,ts,t,lo,hi',hi,hg,hk,hget,mayWr_ok h h1 (by rw[hi];rfl) hg⟩
  ·cases h2
 ·cases ho
theorem takeRow_ok (hE:EnOk E) (h:Sat T E ρ G W V) {te:Ty} {sz e:Nat} {s:SV} {n:Lin} {W1:SW} (hc:s.cl W.nv=true) (ht:takeRow T W sz e te s=some (n,W1)):
  W1.nv=W.nv∧∃G1 m,Sat T E ρ G1 W1 V∧n.ev ρ=(m:Nat)∧n.cl W.nv=true∧Taken T E G1 V W1 ρ te sz e (s.ev ρ) m∧(∀t a,HasTy T.D G t a→HasTy T.D G1 t a):=by
 unfold takeRow at ht
 split at ht
 ·cases ht
  exact⟨rfl,G,0,h,by simp,rfl,.inl ⟨rfl,rfl⟩,fun _ _ h=>h⟩
 ·rename_i v
  have hvt:=h.ok.ty v
  have hlen:=lenX_ok h.ok v
  have hlc:=lenX_cl h (bltN hc)
  split at ht
  ·rename_i t lo hi hty
   obtain⟨hse,ht⟩:=cond_some ht
   obtain⟨hs1,hs2⟩:=and2 hse
   rw[hty]at hvt
   have hel:∀{xs nl tok},ρ v=.slice xs nl tok→(∀x∈xs,HasTy T.D G te x)∧(nl=true→xs=[]):=by
    intro xs nl tok hr
    rw[hr]at hvt
    cases hvt with
    |sl _ _ _ _ _ _ _ _ hn hx=>exact⟨fun x hm=>tySub_ok hs1 (hx x hm),hn⟩
   split at ht
   ·rename_i l hl
    cases ht
    obtain⟨l1,l2,e1,e2⟩:=takeLive_ok hl
    have hsub:l.Sublist W.live:=by rw[e1,e2];exact List.Sublist.append (.refl _) (List.sublist_cons_self ..)
    have hm:(v,sz,e)∈W.live:=by rw[e1];simp
    have hlive:=h.sto.live _ hm
    have hd:=h.sto.dis
    rw[e1]at hd
    have hd:=List.pairwise_append.1 hd
    refine⟨rfl,G,(match ρ v with|.slice xs _ _=>xs.length|_=>0),h.lessLive hsub,?_,hlc,?_,fun _ _ h=>h⟩
    ·rcases hlive with hl'|⟨xs,nl,g,hl',_⟩<;>(rw[hlen];simp only at hl';rw[hl'];rfl)
    ·rcases hlive with hl'|⟨xs,nl,g,hl',k1,k2,k3,k4⟩
     ·simp only at hl'
      exact .inl ⟨hl',by rw[hl'];rfl⟩
     ·simp only at hl'
      obtain⟨x1,x2⟩:=hel hl'
      refine .inr ⟨xs,nl,g,hl',by rw[hl'],k1,k2,k3,k4,x1,x2,fun p hp hq=> ?_⟩
      have hgv:tokOf (ρ v)=some g:=by rw[hl'];rfl
      rw[e2]at hp
      rcases List.mem_append.1 hp with hp|hp
      ·exact hd.2.2 p hp (v,sz,e) (List.mem_cons_self ..) g hq hgv
      ·exact(List.pairwise_cons.1 hd.2.1).1 p hp g hgv hq
   ·split at ht
    ·rename_i u off hbro hown
     cases ht
     obtain⟨hmem,hoa⟩:=ownerOf_ok hown
     obtain⟨i,c,ts,t0,lo0,hi0,o1,o2,o3,o4,o5⟩:=ownAt_ok h hoa
     obtain⟨i',cs,c',f1,f2,f3,f4⟩:=h.sto.cells _ hmem
     simp only at f1 f3
     rw[o1]at f1
     injection f1 with f1 _
     subst f1
     obtain⟨w1,w2⟩:=h.sto.wf i c o2
     rw[o3]at w2
     obtain⟨cs',g1,g2,g3⟩:=w2
     rw[f2]at g1
     injection g1 with g1
     subst g1
     have hcell:=g3 off _ _ o4 f3
     have hX0:¬Xof ρ W.bro i off:=by rw[hbro];rintro⟨p,hp,_⟩;cases hp
     have hoc:=hcell.2 _ _ _ _ _ rfl hX0
     simp only[SV.ev]at hoc
     have hu:u<W.nv:=(h.clo.cells _ hmem).1
     have hval:∀{G1:Nat→Cl} (_:∀x c,G1 x=.cls c↔G x=.cls c) (_:∀g,G1 g≠G g→G g=.tok i off∧G1 g=.no),
       Sat T E ρ G1 {W with bro:=[(u,off)],cells:=W.cells.filter fun p=> !Nat.beq off p.2.1} V:=by
      intro G1 hc1 hd1
      have hsame:∀g,G g≠.tok i off→G1 g=G g:=fun g hg=>Classical.byContradiction fun hne=>hg (hd1 g hne).1
      refine⟨⟨(h.ok.mono fun x c hx=>(hc1 x c).2 hx).ty,h.ok.top,h.ok.ge,h.ok.fx,h.ok.ln,h.ok.pr⟩,
       ⟨h.clo.ge,h.clo.fx,h.clo.ln,fun p hp=>h.clo.cells p (List.mem_filter.1 hp).1,h.clo.live,(fun p hp=>by rw[List.mem_singleton.1 hp];exact hu),h.clo.wr,h.clo.pr⟩,
       ⟨fun x c2 hx=> ?_,fun p hp=> ?_,fun p hp=> ?_,h.sto.dis,h.sto.wr,h.sto.M,fun x hx=> ?_,h.sto.n,h.sto.g,fun x hx hnt=> ?_,fun x hx c2=> ?_,fun g hlt a b hgt=> ?_,fun g a b hgt=> ?_⟩⟩
      ·have hx':=(hc1 x c2).1 hx
       obtain⟨k1,k2⟩:=h.sto.wf x c2 hx'
       refine⟨k1,?_⟩
       cases hkk:T.K c2 with
       |none=>rw[hkk]at k2;exact k2.elim
       |map kk t=>
        rw[hkk]at k2
        obtain⟨ko,es,m1,m2,m3⟩:=k2
        exact⟨ko,es,m1,m2,fun e he=>(m3 e he).mono fun x c hx=>(hc1 x c).2 hx⟩
       |obj ts'=>
        rw[hkk]at k2
        obtain⟨cs',e1,e2,e3⟩:=k2
        refine⟨cs',e1,e2,fun j t a ht ha=> ?_⟩
        obtain⟨g1,g2⟩:=e3 j t a ht ha
        refine⟨g1.mono fun x c hx=>(hc1 x c).2 hx,fun t' sz e lo hi he hn=> ?_⟩
        have hnx:¬Xof ρ W.bro x j:=by rw[hbro];rintro⟨p,hp,_⟩;cases hp
        rcases g2 t' sz e lo hi he hnx with rfl|⟨xs,nl,g,rfl,m1,m2,m3⟩
        ·exact .inl rfl
        ·refine .inr ⟨xs,nl,g,rfl,m1,?_,m3⟩
         rw[hsame g (fun hgi=> ?_)]
         ·exact m2
         ·rw[m2]at hgi
          injection hgi with e1 e2
          exact hn ⟨(u,off),List.mem_cons_self ..,by rw[e1];exact o1,e2.symm⟩
      ·obtain⟨hp1,hp2⟩:=List.mem_filter.1 hp
       obtain⟨x,cs2,c2,k1,k2,k3,k4⟩:=h.sto.cells p hp1
       exact⟨x,cs2,c2,k1,k2,k3,(hc1 x c2).2 k4⟩
      ·rcases h.sto.live p hp with h1|⟨xs,nl,g,h1,h2,h3,h4,h5⟩
       ·exact .inl h1
       ·exact .inr ⟨xs,nl,g,h1,h2,by rw[hsame g (by rw[h3];intro hh;cases hh)];exact h3,h4,h5⟩
      ·rw[hsame x (by rw[h.sto.out x hx];intro hh;cases hh)];exact h.sto.out x hx
      ·obtain⟨k1,k2⟩:=h.sto.fr x hx hnt
       refine⟨k1,?_⟩
       rw[hsame x (fun hg=> ?_)]
       ·exact k2
       ·rcases h.sto.tok x hx i off hg with h1|h1
        ·obtain⟨q1,q2⟩:=hE.tct x i off h1
         rcases o5 with o5|o5
         ·omega
         ·exact hnt (q2 o5)
        ·exact hnt h1
      ·rw[hc1 x c2];exact h.sto.cls x hx c2
      ·have:G1 g=G g:=Classical.byContradiction fun hne=>by
        have:=(hd1 g hne).2
        rw[hgt]at this;cases this
       rw[this]at hgt
       exact h.sto.tok g hlt a b hgt
      ·have:G1 g=G g:=Classical.byContradiction fun hne=>by
        have:=(hd1 g hne).2
        rw[hgt]at this;cases this
       rw[this]at hgt
       exact h.sto.tkw g a b hgt
     rcases hoc with hoc|⟨xs,nl,g,hoc,q1,q2,q3⟩
     ·refine⟨rfl,G,0,hval (fun _ _=>Iff.rfl) (fun g hne=>absurd rfl hne),?_,hlc,.inl ⟨hoc,rfl⟩,fun _ _ h=>h⟩
      rw[hlen,hoc];rfl
     ·have hcls:∀x c,(fun x=>if x=g then Cl.no else G x) x=.cls c↔G x=.cls c:=by
       intro x c
       by_cases hx:x=g
       ·subst hx;simp[q2]
       ·simp[hx]
      have hnew:E.V.n≤g∨E.Tc g:=by
       rcases Nat.lt_or_ge g E.V.n with hlt|hge
       ·rcases h.sto.tok g hlt i off q2 with h1|h1
        ·obtain⟨z1,z2⟩:=hE.tct g i off h1
         rcases o5 with o5|o5
         ·omega
         ·exact .inr (z2 o5)
        ·exact .inr h1
       ·exact .inl hge
      obtain⟨x1,x2⟩:=hel hoc
      refine⟨rfl,fun x=>if x=g then .no else G x,xs.length,hval hcls (fun x hne=> ?_),by rw[hlen,hoc];rfl,hlc,.inr ⟨xs,nl,g,hoc,rfl,q1,by simp,hnew,q3,fun x hx=>(x1 x hx).mono fun y c hy=>(hcls y c).2 hy,x2,fun p hp hq=> ?_⟩,
       fun t a ha=>ha.mono fun y c hy=>(hcls y c).2 hy⟩
      ·by_cases hx:x=g
       ·subst hx;exact⟨q2,by simp⟩
       ·simp[hx]at hne
      ·rcases h.sto.live p hp with h1|⟨xs',nl',g',h1,h2,h3,_⟩
       ·rw[h1]at hq;cases hq
       ·rw[h1]at hq
        simp only[tokOf,Option.some.injEq]at hq
        subst hq
        rw[q2]at h3;cases h3
    ·cases ht
  ·cases ht
 ·cases ht
end Go.AL.SX
namespace Go.AL.SX
variable {T:Tab} [TabOk T] {E:En} {ρ ρ':Val} {G G':Nat→Cl} {W:SW} {V:VS} {se:SE} {env:VE}
theorem Sat.addLn (h:Sat T E ρ G W V) {v:Nat} {l:Lin} (hv:v<W.nv) (hc:l.cl W.nv=true) (hl:lenOf (ρ v)=l.ev ρ):Sat T E ρ G {W with ln:=(v,l)::W.ln} V:=
 ⟨⟨h.ok.ty,h.ok.top,h.ok.ge,h.ok.fx,fun p hp=>(List.mem_cons.1 hp).elim (fun e=>by subst e;exact hl) (h.ok.ln p),h.ok.pr⟩,
  ⟨h.clo.ge,h.clo.fx,fun p hp=>(List.mem_cons.1 hp).elim (fun e=>by subst e;exact⟨hv,hc⟩) (h.clo.ln p),h.clo.cells,h.clo.live,h.clo.bro,h.clo.wr,h.clo.pr⟩,
  ⟨h.sto.wf,h.sto.cells,h.sto.live,h.sto.dis,h.sto.wr,h.sto.M,h.sto.out,h.sto.n,h.sto.g,h.sto.fr,h.sto.cls,h.sto.tok,h.sto.tkw⟩⟩
theorem elemsB_of {sz:Nat}:∀{ys:List AVal},(∀y∈ys,y.cells.length=sz∧y.cells.all AVal.one=true)→elemsB sz ys=true
 | [],_=>rfl
 |y::ys,h=>by
  obtain⟨h1,h2⟩:=h y (List.mem_cons_self ..)
  show(bif cellsOk sz y then elemsB sz ys else false)=true
  rw[cellsOk_of h1 h2]
  exact elemsB_of fun z hz=>h z (List.mem_cons_of_mem _ hz)
theorem slice_of {D:Nat→Ty} {t:Ty} {lo hi:Nat} {a:AVal} (h:HasTy D G (.sl t lo hi) a):∃xs nl tok,a=.slice xs nl tok∧lo≤xs.length∧xs.length≤hi∧(nl=true→xs=[])∧∀x∈xs,HasTy D G t x:=by
 cases h with
 |sl _ _ _ xs nl tok h1 h2 h3 h4=>exact⟨xs,nl,tok,rfl,h1,h2,h3,h4⟩
theorem src_list (h:Sat T E ρ G W V) {te:Ty} {sz:Nat} {l:List SV} (hl:l.all (fun s=>ofTy T W s te&&(cellsN T W sz s).isSome)=true):elemsB sz (evs ρ l)=true∧∀y∈evs ρ l,HasTy T.D G te y:=by
 have key:∀y∈evs ρ l,(y.cells.length=sz∧y.cells.all AVal.one=true)∧HasTy T.D G te y:=by
  intro y hy
  rw[evs_eq]at hy
  obtain⟨s,hs,rfl⟩:=List.mem_map.1 hy
  obtain⟨h1,h2⟩:=and2 (List.all_eq_true.1 hl s hs)
  obtain⟨r,hr⟩:=Option.isSome_iff_exists.1 h2
  obtain⟨k1,k2,k3,_⟩:=cellsN_ok h hr
  exact⟨⟨by rw[k1,evs_len,k2],k3⟩,ofTy_ok h.ok h1⟩
 exact⟨elemsB_of fun y hy=>(key y hy).1,fun y hy=>(key y hy).2⟩
theorem srcS_ok (h:Sat T E ρ G W V) {te:Ty} {sz:Nat} {s:SV} {m:Lin} (hs:srcS T W sz te s=some m):
  ∃ys nl tok,s.ev ρ=.slice ys nl tok∧m.ev ρ=(ys.length:Nat)∧(s.cl W.nv=true→m.cl W.nv=true)∧elemsB sz ys=true∧∀y∈ys,HasTy T.D G te y:=by
 unfold srcS at hs
 split at hs
 ·rename_i v
  have hv:=h.ok.ty v
  have hlen:=lenX_ok h.ok v
  split at hs
  ·rename_i t lo hi ht
   obtain⟨hc,h2⟩:=cond_some hs
   cases h2
   obtain⟨h1,h2⟩:=and2 hc
   rw[ht]at hv
   obtain⟨xs,nl,tok,hr,_,_,_,hx⟩:=slice_of hv
   exact⟨xs,nl,tok,hr,by rw[hlen,hr];rfl,fun hcl=>lenX_cl h (bltN hcl),elemsB_of fun y hy=>elemTy_ok h1 (hx y hy),fun y hy=>tySub_ok h2 (hx y hy)⟩
  ·cases hs
 ·obtain⟨hc,h2⟩:=cond_some hs
  cases h2
  obtain⟨k1,k2⟩:=src_list h hc
  exact⟨_,_,_,rfl,by rw[ev_k,evs_len,lenS_eq];rfl,fun _=>rfl,k1,k2⟩
 ·obtain⟨hc,h2⟩:=cond_some hs
  cases h2
  obtain⟨k1,k2⟩:=src_list h hc
  rw[evs_ks]at k1 k2
  exact⟨_,_,_,rfl,by rw[ev_k,lenS_eq];rfl,fun _=>rfl,k1,k2⟩
 ·cases hs
theorem give_own {sx sy:SV} (cx:sx.cl W.nv=true) (cy:sy.cl W.nv=true) (h:Sat T E ρ G W V) (he:SatE ρ W.nv se env) {t:Ty} {sz e lo hi:Nat} {a:AVal} {l:Lin} {d:Option Nat} {run:EK→ER} (ht:HasTy T.D G (.sl t lo hi) a) (hl:LiveC E G V sz e a)
  (hd:∀p∈W.live,∀g,tokOf a=some g→tokOf (ρ p.1)≠some g) (hc:l.cl W.nv=true) (hlen:lenOf a=l.ev ρ) (hb:Bi 1 [a,sx.ev ρ,sy.ev ρ]) (hr:∀k,run k=k (setd d (.val a) env) V):
  RNok T E ρ W (match freshTy W (.own t sz e lo hi)with
   |(.x v,W)=>oneV se d (.x v) (note T 1 [.x v,sx,sy] {W with ln:=(v,l)::W.ln})
   |_=>none) run:=by
 cases hf:freshTy W (.own t sz e lo hi)with
 |mk s W1=>
  obtain⟨rfl,hW,k1,k2,k3⟩:=freshOwn_ok h ht hl hd hf
  subst hW
  simp only
  have hcl:=clT_mono (Nat.le_succ W.nv) (l:=l.t) hc
  have h1:=k2.addLn (v:=W.nv) (l:=l) (Nat.lt_succ_self _) hcl (by rw[k3,hlen];exact lin_agree k1.agr hc)
  obtain⟨q1,q2⟩:=h1.note (k:=1) (as:=[.x W.nv,sx,sy]) (by
   simp only[cls,SV.cl,ltB (Nat.lt_succ_self W.nv),sv_mono (Nat.le_succ W.nv) sx cx,sv_mono (Nat.le_succ W.nv) sy cy,SW.push,Nat.add_eq];rfl) (.inl (by
   simp only[evs,SV.ev,k3]
   rw[←sv_agree k1.agr sx cx,←sv_agree k1.agr sy cy]
   exact hb))
  exact rn_val he ⟨Nat.le_trans (Nat.le_succ _) (Nat.le_of_eq q2.symm),k1.agr⟩ q1 (a:=a) (by simp only[SV.ev,k3]) (by rw[q2];exact ltB (Nat.lt_succ_self _)) hr
theorem lenF0 (xs:List AVal):lenF xs 0=xs.length:=by rw[lenF_eq,Nat.zero_add]
theorem appS_ok (hE:EnOk E) (h:Sat T E ρ G W V) (he:SatE ρ W.nv se env) {te:Ty} {sz e bytes:Nat} {x y:Opd} {d:Option Nat}:RNok T E ρ W (appS T te sz e bytes x y d se W) (fun k=>opApp sz e bytes x y d k env V):=by
 unfold appS
 split
 ·rename_i sx sy hx hy
  obtain⟨e1,c1⟩:=ev_ok he hx
  obtain⟨e2,c2⟩:=ev_ok he hy
  split
  ·rename_i m n W1 hm hn
   obtain⟨ys,nly,toky,y1,y2,y3,y4,y5⟩:=srcS_ok h hm
   obtain⟨w0,G1,nn,t1,t2,t3,t4,t5⟩:=takeRow_ok hE h c1 hn
   refine rn_if fun hb=> ?_
   obtain⟨b1,b2⟩:=and2 hb
   have hmc:m.cl W1.nv=true:=by rw[w0];exact y3 c2
   have hnc:n.cl W1.nv=true:=by rw[w0];exact t3
   have hroom:nn+ys.length≤roomN bytes:=by
    have:=geq_ok t1.ok b2
    simp only[ev_addc,ev_neg,ev_add,t2,y2,Int.ofNat_eq_natCast]at this
    omega
   have he1:SatE ρ W1.nv se env:=by rw[w0];exact he
   have hys:∀z∈ys,HasTy T.D G1 te z:=fun z hz=>t5 _ _ (y5 z hz)
   have hsrc:srcE sz V (eo y env)=some ys:=by
    rw[e2,y1,srcE_eq]
    show(bif elemsB sz ys then some ys else none)=_
    rw[y4];rfl
   have hrun:∀k,opApp sz e bytes x y d k env V=(bif isNil ys then app0 sz e bytes d k env V (.val (sx.ev ρ))else appK0 ys sz e bytes d k env V (.val (sx.ev ρ))):=by
    intro k
    show appY sz e bytes x d k env V (srcE sz V (eo y env))=_
    rw[hsrc]
    show(bif isNil ys then app0 sz e bytes d k env V (eo x env)else appK ys sz e bytes d k env V (eo x env))=_
    rw[e1,appK_eq]
   have hlin:(n.add m).ev ρ=((nn+ys.length:Nat):Int):=by rw[ev_add,t2,y2];omega
   have fin:∀{V':VS} {a:AVal} (_:Sat T E ρ G1 W1 V') (_:HasTy T.D G1 (.sl te 0 (roomN bytes)) a) (_:LiveC E G1 V' sz e a) (_:∀p∈W1.live,∀g,tokOf a=some g→tokOf (ρ p.1)≠some g) (_:lenOf a=((nn+ys.length:Nat):Int)) (_:Bi 1 [a,sx.ev ρ,sy.ev ρ])
     (_:∀k,opApp sz e bytes x y d k env V=k (setd d (.val a) env) V'),RNok T E ρ W (match freshTy W1 (.own te sz e 0 (roomN bytes))with
     |(.x v,W)=>oneV se d (.x v) (note T 1 [.x v,sx,sy] {W with ln:=(v,n.add m)::W.ln})
     |_=>none) (fun k=>opApp sz e bytes x y d k env V):=by
    intro V' a s1 ht hl hd hlen hbi hr outs ho R k hk
    exact give_own (by rw[w0];exact c1) (by rw[w0];exact c2) s1 he1 ht hl hd (cl_add hnc hmc) (by rw[hlen,hlin]) hbi hr outs ho R k fun p hp ρ' G' env' V'' q1 q2 q3=>hk p hp ρ' G' env' V'' ((Later.same w0).trans q1) q2 q3
   have live_lt:∀p∈W1.live,∀g,tokOf (ρ p.1)=some g→g<V.n:=by
    intro p hp g hg
    rcases t1.sto.live p hp with h1|⟨xs,nl,g',h1,_,_,_,h5⟩
    ·rw[h1]at hg;cases hg
    ·rw[h1]at hg;simp only[tokOf,Option.some.injEq]at hg;omega
   have hopn0:∀g nn2,V.at g=.opn nn2 sz e→True:=fun _ _ _=>trivial
   rcases t4 with⟨ha,hn0⟩|⟨xs,nl,g,ha,hn0,g1,g2,g3,g4,g5,g6,g7⟩
   ·subst hn0
    cases hys0:isNil ys with
    |true=>
     have hy0:=isNil_eq.1 hys0
     subst hy0
     refine fin t1 (a:=.slice [] true none) (.sl _ _ _ _ _ _ (Nat.zero_le _) (Nat.zero_le _) (fun _=>rfl) (fun z hz=>by cases hz)) (.inl rfl) (fun p hp g hg=>by cases hg) rfl (by rw[ha,y1];exact .app [] [] ..) fun k=> ?_
     rw[hrun,hys0,ha];rfl
    |false=>
     have s1:Sat T E ρ G1 W1 (V.new (.opn ys.length sz e)):=t1.grow (og:=none) (Nat.le_succ _) rfl (fun z hz _=>by rw[at_new,if_neg (by omega)]) (fun g hg=>by cases hg)
     refine fin s1 (a:=.slice ys false (some V.n)) (.sl _ _ _ _ _ _ (Nat.zero_le _) (by omega) (fun hh=>by cases hh) hys) (.inr ⟨ys,false,V.n,rfl,by rw[at_new,if_pos rfl],t1.sto.out _ (Nat.le_refl _),.inl t1.sto.n,Nat.lt_succ_self _⟩) (fun p hp g hg hq=> ?_) (by simp[lenOf]) (by rw[ha,y1];exact .app [] ys ..) fun k=> ?_
     ·simp only[tokOf,Option.some.injEq]at hg
      have:=live_lt p hp g hq
      omega
     ·rw[hrun,hys0,ha]
      show appNew ys sz e bytes d k env V=_
      unfold appNew
      rw[lenF0,room_of (by omega)];rfl
   ·subst hn0
    cases hys0:isNil ys with
    |true=>
     have hy0:=isNil_eq.1 hys0
     subst hy0
     refine fin t1 (a:=.slice xs nl (some g)) (.sl _ _ _ _ _ _ (Nat.zero_le _) (by simpa using hroom) g6 g5) (.inr ⟨xs,nl,g,rfl,g1,g2,g3,g4⟩) (fun p hp g' hg hq=> ?_) (by simp[lenOf]) (by rw[ha,y1];have:=Bi.app xs [] nl nly nl (some g) toky (some g);rw[List.append_nil]at this;exact this) fun k=> ?_
     ·simp only[tokOf,Option.some.injEq]at hg
      subst hg
      exact g7 p hp hq
     ·rw[hrun,hys0,ha]
      show(bif aliveO sz e bytes (V.at g)then _ else _)=_
      rw[g1]
      show(bif(Nat.beq sz sz&&(Nat.beq e e&&room xs.length bytes))then _ else _)=_
      rw[beq_eq,beq_eq,room_of (by simpa using hroom)]
      simp
    |false=>
     have s1:Sat T E ρ G1 W1 ((V.put g .dead).new (.opn (xs.length+ys.length) sz e)):=t1.grow (og:=some g) (Nat.le_succ _) rfl (fun z hz hne=>by
       rw[at_new,if_neg (by show¬V.n=z;omega),at_put,if_neg (fun e=>hne (by rw[e]))]) (fun g' hg'=>by cases hg';exact⟨g2,g3,g7⟩)
     refine fin s1 (a:=.slice (xs++ys) false (some V.n)) (.sl _ _ _ _ _ _ (Nat.zero_le _) (by simpa using hroom) (fun hh=>by cases hh) (fun z hz=>(List.mem_append.1 hz).elim (g5 z) (hys z)))
      (.inr ⟨xs++ys,false,V.n,rfl,by rw[at_new,List.length_append];exact if_pos rfl,t1.sto.out _ (Nat.le_refl _),.inl t1.sto.n,Nat.lt_succ_self _⟩) (fun p hp g' hg hq=> ?_) (by simp[lenOf]) (by rw[ha,y1];exact .app xs ys ..) fun k=> ?_
     ·simp only[tokOf,Option.some.injEq]at hg
      have:=live_lt p hp g' hq
      omega
     ·rw[hrun,hys0,ha]
      show appGrow g xs ys sz e bytes d k env V (V.at g)=_
      rw[g1]
      show(bif(Nat.beq sz sz&&(Nat.beq e e&&(Nat.ble V.g g&&room (Nat.add xs.length (lenF ys 0)) bytes)))then _ else _)=_
      rw[beq_eq,beq_eq,wr_ge hE t1 g3,lenF0]
      have hr:=room_of hroom
      have hadd:Nat.add xs.length ys.length=xs.length+ys.length:=rfl
      rw[hadd,hr]
      simp
      rfl
  ·exact rn_none
 ·exact rn_none
theorem bslS_ok (h:Sat T E ρ G W V) (he:SatE ρ W.nv se env) {sz e n:Nat} {z:AVal} {ps:List (Nat × Opd)} {d:Option Nat}:RNok T E ρ W (bslS T sz e n z ps d se W) (fun k=>opBsl true sz e n z ps d k env V):=by
 unfold bslS
 split
 ·rename_i l hl
  obtain⟨f1,f2⟩:=setSs_ok h he hl (cls_rep _ _ _)
  have hrep:evs ρ (List.replicate n (SV.k z))=List.replicate n z:=by rw[evs_eq,List.map_replicate];rfl
  rw[hrep]at f1
  split
  ·rename_i m hm
   obtain⟨ys,nl,tok,y1,y2,y3,y4,y5⟩:=srcS_ok h hm
   simp only[SV.ev,AVal.slice.injEq]at y1
   obtain⟨rfl,rfl,rfl⟩:=y1
   have hlen:(evs ρ l).length=n:=by
    have:∀{ps:List (Nat × Opd)} {xs r:List AVal},setE sz xs ps env=some r→r.length=xs.length:=by
     intro ps
     induction ps with
     |nil=>intro xs r hh;simp only[setE]at hh;cases hh;rfl
     |cons p ps ih=>
      intro xs r hh
      obtain⟨i,o⟩:=p
      simp only[setE]at hh
      split at hh
      ·obtain⟨_,h3⟩:=cond_some hh
       rw[ih h3,elemAt_eq,List.length_set]
      ·cases hh
    rw[this f1,List.length_replicate]
   have s1:Sat T E ρ G W (V.new (.opn n sz e)):=h.grow (og:=none) (Nat.le_succ _) rfl (fun z hz _=>by rw[at_new,if_neg (by omega)]) (fun g hg=>by cases hg)
   have ht:HasTy T.D G (.sl (T.E e) n n) (.slice (evs ρ l) false (some V.n)):=.sl _ _ _ _ _ _ (by omega) (by omega) (fun hh=>by cases hh) y5
   have hlv:LiveC E G (V.new (.opn n sz e)) sz e (.slice (evs ρ l) false (some V.n)):=.inr ⟨_,false,V.n,rfl,by rw[at_new,if_pos rfl,hlen],h.sto.out _ (Nat.le_refl _),.inl h.sto.n,Nat.lt_succ_self _⟩
   cases hf:freshTy W (.own (T.E e) sz e n n)with
   |mk s W1=>
    obtain⟨rfl,hW,k1,k2,k3⟩:=freshOwn_ok s1 ht hlv (fun p hp g hg hq=>by
     simp only[tokOf,Option.some.injEq]at hg
     rcases h.sto.live p hp with h1|⟨xs,nl,g',h1,_,_,_,h5⟩
     ·rw[h1]at hq;cases hq
     ·rw[h1]at hq;simp only[tokOf,Option.some.injEq]at hq;omega) hf
    refine rn_val he k1 k2 (a:=.slice (evs ρ l) false (some V.n)) (by simp only[SV.ev,k3]) (by rw[hW];exact ltB (Nat.lt_succ_self _)) fun k=> ?_
    show opBsl2 sz e n d k env V (setE sz (List.replicate n z) ps env)=_
    rw[f1];rfl
  ·exact rn_none
 ·exact rn_none
end Go.AL.SX
