/-
  AN ABSTRACT LOGIC OVER THE MODEL, part 19: the evaluator's state and the store of the model: what it is that one tells the other; operations that look at the slots alone.
-/
import Derived.Test.YtfoeaeeaflmkfaaGreatAL18
namespace Go.AL
open Go.RowKit
def Store.blk (σ:Store) (b:Nat):Option (List AVal) × Option (Nat × Nat × Nat) × Option MObj:=(σ.obj b,σ.opn b,σ.mp b)
theorem fresh_blk {σ:Store} {b:Nat}:σ.fresh b↔σ.blk b=(none,none,none):=by
 unfold Store.fresh Store.blk
 constructor
 ·rintro⟨h1,h2,h3⟩;rw[h1,h2,h3]
 ·intro h;simp only[Prod.mk.injEq]at h;exact h
theorem blk_inv {σ:Store} {b:Nat} {x:Option (List AVal)} {y:Option (Nat × Nat × Nat)} {z:Option MObj} (h:σ.blk b=(x,y,z)):σ.obj b=x∧σ.opn b=y∧σ.mp b=z:=by
 unfold Store.blk at h;simp only[Prod.mk.injEq]at h;exact h
def Store.But (σ σ':Store) (b:Nat):Prop:=∀x,x≠b→σ'.blk x=σ.blk x
theorem Store.But.trans {σ τ υ:Store} {b:Nat} (h:σ.But τ b) (k:τ.But υ b):σ.But υ b:=fun x hx=>(k x hx).trans (h x hx)
theorem but_setObj (σ:Store) (b:Nat) (cs:List AVal):σ.But (σ.setObj b cs) b:=fun x hx=>by
 have:(x==b)=false:=by simpa using hx
 simp[Store.blk,Store.setObj,this]
theorem but_setOpn (σ:Store) (b:Nat) (r:Nat × Nat × Nat):σ.But (σ.setOpn b r) b:=fun x hx=>by
 have:(x==b)=false:=by simpa using hx
 simp[Store.blk,Store.setOpn,this]
theorem but_dropOpn (σ:Store) (b:Nat):σ.But (σ.dropOpn (some b)) b:=fun x hx=>by
 have:(x==b)=false:=by simpa using hx
 simp[Store.blk,Store.dropOpn,this]
theorem but_setMap (σ:Store) (b:Nat) (r:MObj):σ.But (σ.setMap b r) b:=fun x hx=>by
 have:(x==b)=false:=by simpa using hx
 simp[Store.blk,Store.setMap,this]
theorem blk_setObj (σ:Store) (b:Nat) (cs:List AVal):(σ.setObj b cs).blk b=(some cs,σ.opn b,σ.mp b):=by simp[Store.blk,Store.setObj]
theorem blk_setOpn (σ:Store) (b:Nat) (r:Nat × Nat × Nat):(σ.setOpn b r).blk b=(σ.obj b,some r,σ.mp b):=by simp[Store.blk,Store.setOpn]
theorem blk_dropOpn (σ:Store) (b:Nat):(σ.dropOpn (some b)).blk b=(σ.obj b,none,σ.mp b):=by simp[Store.blk,Store.dropOpn]
theorem blk_setMap (σ:Store) (b:Nat) (r:MObj):(σ.setMap b r).blk b=(σ.obj b,σ.opn b,some r):=by simp[Store.blk,Store.setMap]
def MR (ρ:Names):List (AVal × AVal)→List (AVal × AVal)→Prop
 | [],ys=>ys=[]
 |e::r,ys=>∃v ys',VR ρ e.2 v∧MR ρ r ys'∧ys=(e.1,v)::ys'
section
variable {ρ ρ':Names}
theorem MR.mono (hle:ρ.Le ρ'):∀{es es':List (AVal × AVal)},MR ρ es es'→MR ρ' es es'
 | [],_,h=>h
 |_::_,_,⟨v,ys,h1,h2,h3⟩=>⟨v,ys,h1.mono hle,h2.mono hle,h3⟩
theorem MR.det:∀{es a b:List (AVal × AVal)},MR ρ es a→MR ρ es b→a=b
 | [],_,_,h,k=>Eq.trans h (Eq.symm k)
 |e::r,_,_,⟨v,ys,h1,h2,h3⟩,⟨w,zs,k1,k2,k3⟩=>by
  rw[h3,k3,VR.det e.2 h1 k1,h2.det k2]
theorem MR.length:∀{es es':List (AVal × AVal)},MR ρ es es'→es'.length=es.length
 | [],_,h=>by cases h;rfl
 |_::_,_,⟨v,ys,h1,h2,h3⟩=>by subst h3;simp[h2.length]
theorem MR.keys:∀{es es':List (AVal × AVal)},MR ρ es es'→∀{kk:KeyK},(∀e∈es,kk.is e.1=true)→∀e∈es',kk.is e.1=true
 | [],_,h,kk,_,e,he=>by cases h;cases he
 |x::r,_,⟨v,ys,h1,h2,h3⟩,kk,hk,e,he=>by
  subst h3
  rcases List.mem_cons.1 he with rfl|he
  ·exact hk x (List.mem_cons_self ..)
  ·exact h2.keys (fun y hy=>hk y (List.mem_cons_of_mem _ hy)) e he
theorem MR.find (key:AVal):∀{es es':List (AVal × AVal)},MR ρ es es'→(mfindF key es=none∧mfindF key es'=none)∨∃v v',mfindF key es=some v∧mfindF key es'=some v'∧VR ρ v v'
 | [],_,h=>by cases h;exact .inl ⟨rfl,rfl⟩
 |x::r,_,⟨v,ys,h1,h2,h3⟩=>by
  subst h3
  show(((bif keyEqF key x.1 then some x.2 else mfindF key r)=none∧(bif keyEqF key x.1 then some v else mfindF key ys)=none)∨
   ∃u u',(bif keyEqF key x.1 then some x.2 else mfindF key r)=some u∧(bif keyEqF key x.1 then some v else mfindF key ys)=some u'∧VR ρ u u')
  cases keyEqF key x.1 with
  |true=>exact .inr ⟨_,_,rfl,rfl,h1⟩
  |false=>exact h2.find key
theorem MR.put (key:AVal) {v v':AVal} (hv:VR ρ v v'):∀{es es':List (AVal × AVal)},MR ρ es es'→MR ρ (mputF key v es) (mputF key v' es')
 | [],_,h=>by cases h;exact⟨v',[],hv,rfl,rfl⟩
 |x::r,_,⟨w,ys,h1,h2,h3⟩=>by
  subst h3
  show MR ρ (bif keyEqF key x.1 then(key,v)::r else x::mputF key v r) (bif keyEqF key x.1 then(key,v')::ys else(x.1,w)::mputF key v' ys)
  cases keyEqF key x.1 with
  |true=>exact⟨v',ys,hv,h2,rfl⟩
  |false=>exact⟨w,_,h1,h2.put key hv,rfl⟩
theorem MR.del (key:AVal):∀{es es':List (AVal × AVal)},MR ρ es es'→MR ρ (mdelF key es) (mdelF key es')
 | [],_,h=>by cases h;exact rfl
 |x::r,_,⟨w,ys,h1,h2,h3⟩=>by
  subst h3
  show MR ρ (bif keyEqF key x.1 then r else x::mdelF key r) (bif keyEqF key x.1 then ys else(x.1,w)::mdelF key ys)
  cases keyEqF key x.1 with
  |true=>exact h2
  |false=>exact⟨w,_,h1,h2.del key,rfl⟩
theorem keys_put {kk:KeyK} {key v:AVal} (hk:kk.is key=true):∀{es:List (AVal × AVal)},(∀e∈es,kk.is e.1=true)→∀e∈mputF key v es,kk.is e.1=true
 | [],_,e,he=>by
  have he:e∈[(key,v)]:=he
  rw[List.mem_singleton]at he;subst he;exact hk
 |x::r,h,e,he=>by
  have he:e∈(bif keyEqF key x.1 then(key,v)::r else x::mputF key v r):=he
  cases hq:keyEqF key x.1 with
  |true=>
   rw[hq,cond_true]at he
   rcases List.mem_cons.1 he with rfl|he
   ·exact hk
   ·exact h e (List.mem_cons_of_mem _ he)
  |false=>
   rw[hq,cond_false]at he
   rcases List.mem_cons.1 he with rfl|he
   ·exact h _ (List.mem_cons_self ..)
   ·exact keys_put hk (fun y hy=>h y (List.mem_cons_of_mem _ hy)) e he
theorem mem_del {key:AVal}:∀{es:List (AVal × AVal)} {e:AVal × AVal},e∈mdelF key es→e∈es
 | [],e,he=>he
 |x::r,e,he=>by
  have he:e∈(bif keyEqF key x.1 then r else x::mdelF key r):=he
  cases hq:keyEqF key x.1 with
  |true=>rw[hq,cond_true]at he;exact List.mem_cons_of_mem _ he
  |false=>
   rw[hq,cond_false]at he
   rcases List.mem_cons.1 he with rfl|he
   ·exact List.mem_cons_self ..
   ·exact List.mem_cons_of_mem _ (mem_del he)
theorem SK.is_plain {s:SK} {a b:AVal} (h:s.is a=true) (hv:VR ρ a b):b=a:=by
 cases s<;>cases a<;>simp only[SK.is,Bool.false_eq_true]at h<;>(simp only[VR]at hv;exact hv)
theorem rowIs_plain:∀{ss:List SK} {as bs:List AVal},rowIs ss as=true→VRs ρ as bs→bs=as
 | [],[],bs,_,hv=>hv.nil_inv
 | [],_::_,_,h,_=>by cases h
 |_::_,[],_,h,_=>by cases h
 |s::ss,a::as,bs,h,hv=>by
  obtain⟨y,ys,h1,h2,rfl⟩:=hv.cons_inv
  have h:(s.is a&&rowIs ss as)=true:=h
  simp only[Bool.and_eq_true]at h
  rw[SK.is_plain h.1 h1,rowIs_plain h.2 h2]
theorem KeyK.is_plain {kk:KeyK} {a b:AVal} (h:kk.is a=true) (hv:VR ρ a b):b=a:=by
 cases kk with
 |one s=>exact SK.is_plain (s:=s) h hv
 |row ss=>
  cases a<;>first|cases h|skip
  simp only[VR]at hv
  obtain⟨ds,h1,rfl⟩:=hv
  rw[rowIs_plain (ss:=ss) h h1]
end
def CurR (ρ:Names):Option (AVal × AVal)→Option (AVal × AVal)→Prop
 |none,c=>c=none
 |some e,c=>∃v,VR ρ e.2 v∧c=some (e.1,v)
theorem CurR.mono {ρ ρ':Names} (hle:ρ.Le ρ') {c c':Option (AVal × AVal)} (h:CurR ρ c c'):CurR ρ' c c':=by
 cases c with
 |none=>exact h
 |some e=>obtain⟨v,h1,h2⟩:=h;exact⟨v,h1.mono hle,h2⟩
theorem CurR.det {ρ:Names} {c a b:Option (AVal × AVal)} (h:CurR ρ c a) (k:CurR ρ c b):a=b:=by
 cases c with
 |none=>exact Eq.trans h (Eq.symm k)
 |some e=>obtain⟨v,h1,h2⟩:=h;obtain⟨w,k1,k2⟩:=k;rw[h2,k2,VR.det _ h1 k1]
def ObjR (ρ:Names) (σ:Store) (x:Nm):VObj→Prop
 |.dead=>True
 |.obj cs=>∃ds,VRs ρ cs ds∧σ.blk x.b=(some ds,none,none)
 |.row sz cs=>∃ds,VRs ρ cs ds∧σ.blk x.b=(some (ds++x.rest),none,none)∧(ds++x.rest).length=x.m*sz
 |.opn n sz e=>σ.blk x.b=(none,some (n,sz,e),none)∧x.m=n
 |.map ko es=>∃es',MR ρ es es'∧σ.blk x.b=(none,none,some (.map es'))∧(∀kk,ko=some kk→∀e∈es,kk.is e.1=true)∧(ko=none→es=[])
 |.iter m ko es left cur=>∃y es' left' cur',ρ m=some y∧MR ρ es es'∧MR ρ left left'∧CurR ρ cur cur'∧σ.blk x.b=(none,none,some (.iter (some y.b) es' left' cur'))∧(∀kk,ko=some kk→∀e∈es,kk.is e.1=true)∧(ko=none→es=[])
 |.lent=>σ.blk x.b=(none,none,some .lent)
theorem ObjR.keep {ρ ρ':Names} {σ σ':Store} {x:Nm} {o:VObj} (h:ObjR ρ σ x o) (hle:ρ.Le ρ') (hb:σ'.blk x.b=σ.blk x.b):ObjR ρ' σ' x o:=by
 cases o with
 |dead=>trivial
 |obj cs=>obtain⟨ds,h1,h2⟩:=h;exact⟨ds,h1.mono hle,hb.trans h2⟩
 |row sz cs=>obtain⟨ds,h1,h2,h3⟩:=h;exact⟨ds,h1.mono hle,hb.trans h2,h3⟩
 |opn n sz e=>exact⟨hb.trans h.1,h.2⟩
 |map ko es=>obtain⟨ds,h1,h2,h3⟩:=h;exact⟨ds,h1.mono hle,hb.trans h2,h3⟩
 |iter m ko es left cur=>
  obtain⟨y,es',left',cur',h1,h2,h3,h4,h5,h6⟩:=h
  exact⟨y,es',left',cur',hle _ _ h1,h2.mono hle,h3.mono hle,h4.mono hle,hb.trans h5,h6⟩
 |lent=>exact hb.trans h
theorem ObjR.not_fresh {ρ:Names} {σ:Store} {x:Nm} {o:VObj} (h:ObjR ρ σ x o) (hd:o≠.dead):¬σ.fresh x.b:=by
 rw[fresh_blk]
 intro hf
 cases o with
 |dead=>exact hd rfl
 |obj cs=>obtain⟨ds,h1,h2⟩:=h;rw[hf]at h2;cases h2
 |row sz cs=>obtain⟨ds,h1,h2,h3⟩:=h;rw[hf]at h2;cases h2
 |opn n sz e=>have h2:=h.1;rw[hf]at h2;cases h2
 |map ko es=>obtain⟨ds,h1,h2,h3⟩:=h;rw[hf]at h2;cases h2
 |iter m ko es left cur=>obtain⟨y,es',left',cur',h1,h2,h3,h4,h5,h6⟩:=h;rw[hf]at h5;cases h5
 |lent=>have h:σ.blk x.b=_:=h;rw[hf]at h;cases h
theorem ObjR.same {ρ ρ':Names} {σ σ':Store} {x:Nm} {o:VObj} (h:ObjR ρ σ x o) (hle:ρ.Le ρ') (k:ObjR ρ' σ' x o) (hd:o≠.dead):σ'.blk x.b=σ.blk x.b:=by
 cases o with
 |dead=>exact absurd rfl hd
 |obj cs=>
  obtain⟨ds,h1,h2⟩:=h;obtain⟨es,k1,k2⟩:=k
  rw[h2,k2,VRs.det cs (h1.mono hle) k1]
 |row sz cs=>
  obtain⟨ds,h1,h2,_⟩:=h;obtain⟨es,k1,k2,_⟩:=k
  rw[h2,k2,VRs.det cs (h1.mono hle) k1]
 |opn n sz e=>rw[h.1,k.1]
 |map ko es=>
  obtain⟨ds,h1,h2,_⟩:=h;obtain⟨es,k1,k2,_⟩:=k
  rw[h2,k2,(h1.mono hle).det k1]
 |iter m ko es left cur=>
  obtain⟨y,es',left',cur',h1,h2,h3,h4,h5,h6⟩:=h;obtain⟨z,fs',meft',dur',k1,k2,k3,k4,k5,k6⟩:=k
  have hz:=hle _ _ h1
  rw[k1]at hz;cases hz
  rw[h5,k5,(h2.mono hle).det k2,(h3.mono hle).det k3,(h4.mono hle).det k4]
 |lent=>exact Eq.trans (show σ'.blk x.b=_ from k) (Eq.symm (show σ.blk x.b=_ from h))
structure Rel (R:Store) (ρ:Names) (V:VS) (σ:Store):Prop where
 gn:V.g≤V.n
 dom:∀i x,ρ i=some x→i<V.n
 obj:∀i,V.at i≠.dead→∃x,ρ i=some x∧ObjR ρ σ x (V.at i)∧R.fresh x.b
 inj:∀i j x y,V.at i≠.dead→V.at j≠.dead→ρ i=some x→ρ j=some y→x.b=y.b→i=j
 sub:R.Sub σ
structure Gd (V V':VS):Prop where
 g:V'.g=V.g
 n:V.n≤V'.n
 keep:∀i,i<V.g→V'.at i=V.at i
theorem Gd.refl (V:VS):Gd V V:=⟨rfl,Nat.le_refl _,fun _ _=>rfl⟩
theorem Gd.trans {A B C:VS} (h:Gd A B) (k:Gd B C):Gd A C:=⟨k.g.trans h.g,Nat.le_trans h.n k.n,fun i hi=>(k.keep i (by rw[h.g];exact hi)).trans (h.keep i hi)⟩
theorem at_put (V:VS) (i:Nat) (o:VObj) (j:Nat):(V.put i o).at j=if i=j then o else V.at j:=Tr.get_set _ _ _ _ _
theorem at_new (V:VS) (o:VObj) (j:Nat):(V.new o).at j=if V.n=j then o else V.at j:=Tr.get_set _ _ _ _ _
def Names.add (ρ:Names) (n:Nat) (x:Nm):Names:=fun i=>if i=n then some x else ρ i
theorem Names.add_get (ρ:Names) (n:Nat) (x:Nm):(ρ.add n x) n=some x:=if_pos rfl
theorem sub_but {R σ σ':Store} {b:Nat} (h:R.Sub σ) (hf:R.fresh b) (hb:σ.But σ' b):R.Sub σ':=by
 refine⟨fun x cs e=> ?_,fun x r e=> ?_,fun x m e=> ?_⟩
 ·have hx:x≠b:=by rintro rfl;rw[hf.1]at e;cases e
  have:=(blk_inv (hb x hx)).1;rw[this];exact h.obj x cs e
 ·have hx:x≠b:=by rintro rfl;rw[hf.2.1]at e;cases e
  have:=(blk_inv (hb x hx)).2.1;rw[this];exact h.opn x r e
 ·have hx:x≠b:=by rintro rfl;rw[hf.2.2]at e;cases e
  have:=(blk_inv (hb x hx)).2.2;rw[this];exact h.mp x m e
section
variable {R:Store} {ρ:Names} {V:VS} {σ σ':Store}
theorem Rel.get (h:Rel R ρ V σ) {i:Nat} {o:VObj} (he:V.at i=o) (hd:o≠.dead):∃x,ρ i=some x∧ObjR ρ σ x o∧R.fresh x.b:=by
 subst he;exact h.obj i hd
theorem Rel.put (h:Rel R ρ V σ) {i:Nat} {x:Nm} {o:VObj} (hx:ρ i=some x) (hl:V.at i≠.dead) (hg:V.g≤i) (hb:σ.But σ' x.b) (ho:ObjR ρ σ' x o):
  Rel R ρ (V.put i o) σ'∧Gd V (V.put i o):=by
 have hRx:R.fresh x.b:=by
  obtain⟨y,h1,_,h3⟩:=h.obj i hl
  rw[hx]at h1;cases h1;exact h3
 have live:∀j,(V.put i o).at j≠.dead→V.at j≠.dead:=by
  intro j hj
  rw[at_put]at hj
  by_cases hij:i=j
  ·subst hij;exact hl
  ·rw[if_neg hij]at hj;exact hj
 refine⟨⟨h.gn,h.dom,fun j hj=> ?_,fun j k y z hj hk hy hz e=>h.inj j k y z (live j hj) (live k hk) hy hz e,sub_but h.sub hRx hb⟩,⟨rfl,Nat.le_refl _,fun j hj=> ?_⟩⟩
 ·by_cases hij:i=j
  ·subst hij
   refine⟨x,hx,?_,hRx⟩
   rw[at_put,if_pos rfl];exact ho
  ·obtain⟨y,h1,h2,h3⟩:=h.obj j (live j hj)
   refine⟨y,h1,?_,h3⟩
   rw[at_put,if_neg hij]
   refine h2.keep (.refl _) (hb y.b fun hyx=>hij (h.inj i j x y hl (live j hj) hx h1 hyx.symm))
 ·rw[at_put,if_neg (by omega)]
theorem Rel.new (h:Rel R ρ V σ) {x:Nm} {o:VObj} (hn:∀j y,V.at j≠.dead→ρ j=some y→y.b≠x.b) (hR:R.fresh x.b) (hb:σ.But σ' x.b) (ho:ObjR (ρ.add V.n x) σ' x o):
  Rel R (ρ.add V.n x) (V.new o) σ'∧ρ.Le (ρ.add V.n x)∧Gd V (V.new o):=by
 have hle:ρ.Le (ρ.add V.n x):=by
  intro i y hy
  have:=h.dom i y hy
  unfold Names.add
  rw[if_neg (by omega)];exact hy
 have old:∀j,V.n≠j→∀y,(ρ.add V.n x) j=some y→ρ j=some y:=by
  intro j hj y hy
  unfold Names.add at hy
  rw[if_neg (fun hh=>hj hh.symm)]at hy;exact hy
 refine⟨⟨Nat.le_succ_of_le h.gn,fun i y hy=> ?_,fun j hj=> ?_,fun j k y z hj hk hy hz e=> ?_,sub_but h.sub hR hb⟩,hle,⟨rfl,Nat.le_succ _,fun j hj=> ?_⟩⟩
 ·show i<V.n+1
  by_cases hi:V.n=i
  ·omega
  ·have:=h.dom i y (old i hi y hy);omega
 ·rw[at_new]at hj⊢
  by_cases hi:V.n=j
  ·subst hi
   rw[if_pos rfl]
   exact⟨x,Names.add_get ..,ho,hR⟩
  ·rw[if_neg hi]at hj⊢
   obtain⟨y,h1,h2,h3⟩:=h.obj j hj
   exact⟨y,hle j y h1,h2.keep hle (hb y.b (hn j y hj h1)),h3⟩
 ·rw[at_new]at hj hk
  by_cases hi:V.n=j
  ·by_cases hi2:V.n=k
   ·rw[←hi,←hi2]
   ·rw[if_neg hi2]at hk
    subst hi
    rw[Names.add_get]at hy;cases hy
    exact absurd e.symm (hn k z hk (old k hi2 z hz))
  ·rw[if_neg hi]at hj
   by_cases hi2:V.n=k
   ·subst hi2
    rw[Names.add_get]at hz;cases hz
    exact absurd e (hn j y hj (old j hi y hy))
   ·rw[if_neg hi2]at hk
    exact h.inj j k y z hj hk (old j hi y hy) (old k hi2 z hz) e
 ·rw[at_new,if_neg (by have:=h.gn;omega)]
theorem Rel.fresh_names (h:Rel R ρ V σ) {b:Nat} (hf:σ.fresh b):(∀j y,V.at j≠.dead→ρ j=some y→y.b≠b)∧R.fresh b:=by
 refine⟨fun j y hj hy e=> ?_,h.sub.fresh hf⟩
 obtain⟨z,h1,h2,_⟩:=h.obj j hj
 rw[hy]at h1;cases h1
 exact h2.not_fresh hj (e▸hf)
theorem Rel.dead_names (h:Rel R ρ V σ) {i:Nat} {x:Nm} (hx:ρ i=some x) (hl:V.at i≠.dead):(∀j y,(V.put i .dead).at j≠.dead→ρ j=some y→y.b≠x.b)∧R.fresh x.b:=by
 refine⟨fun j y hj hy e=> ?_,?_⟩
 ·rw[at_put]at hj
  by_cases hij:i=j
  ·rw[if_pos hij]at hj;exact hj rfl
  ·rw[if_neg hij]at hj
   exact hij (h.inj i j x y hl hj hx hy e.symm)
 ·obtain⟨y,h1,_,h3⟩:=h.obj i hl
  rw[hx]at h1;cases h1;exact h3
end
def EnvR (ρ:Names) (env:VE) (e':Env):Prop:=∀t,EntR ρ (eat env t) (e' t)
theorem EnvR.mono {ρ ρ':Names} (hle:ρ.Le ρ') {env:VE} {e':Env} (h:EnvR ρ env e'):EnvR ρ' env e':=fun t=>(h t).mono hle
theorem EnvR.put {ρ:Names} {env:VE} {e':Env} (h:EnvR ρ env e') (s:Nat) {x y:Ent} (hx:EntR ρ x y):EnvR ρ (eput env s x) (fun t=>bif t==s then y else e' t):=by
 intro t
 rw[eat_eput]
 by_cases hst:s=t
 ·subst hst;simpa using hx
 ·have:(t==s)=false:=by simpa using fun hh=>hst hh.symm
  rw[if_neg hst];simp only[this,cond_false];exact h t
theorem EnvR.set {ρ:Names} {env:VE} {e':Env} (h:EnvR ρ env e') (d:Option Nat) {x y:Ent} (hx:EntR ρ x y):EnvR ρ (setd d x env) (e'.set d y):=by
 cases d with
 |none=>exact h
 |some s=>exact h.put s hx
theorem EnvR.set_same {ρ:Names} {env:VE} {e':Env} (h:EnvR ρ env e') (s:Nat) {y:Ent} (hx:EntR ρ (eat env s) y):EnvR ρ env (e'.set (some s) y):=by
 intro t
 show EntR ρ (eat env t) (bif t==s then y else e' t)
 by_cases hst:t=s
 ·subst hst;simpa using hx
 ·have:(t==s)=false:=by simpa using hst
  simp only[this,cond_false];exact h t
def Opd.plain:Opd→Bool
 |.tmp _=>true
 |.const a=>a.plain
theorem eo_rep {ρ:Names} {env:VE} {e':Env} (h:EnvR ρ env e'):∀{x:Opd},x.plain=true→EntR ρ (eo x env) (evalOpd e' x)
 |.const a,hp=>⟨a,VR.of_plain a hp,rfl⟩
 |.tmp t,_=>by
  have:=h t
  show EntR ρ (eoT t (eat env t)) (match e' t with|.box _=>.lptr t 0|e=>e)
  cases e:eat env t with
  |val a=>rw[e]at this;obtain⟨b,h1,h2⟩:=this;rw[h2];exact⟨b,h1,rfl⟩
  |box cs=>rw[e]at this;obtain⟨b,h1,h2⟩:=this;rw[h2];exact rfl
  |lptr s o=>rw[e]at this;have h2:e' t=.lptr s o:=this;rw[h2];exact rfl
theorem EntR.val_inv {ρ:Names} {v:AVal} {e:Ent} (h:EntR ρ (.val v) e):∃a,VR ρ v a∧e=.val a:=h
theorem EntR.lptr_inv {ρ:Names} {s o:Nat} {e:Ent} (h:EntR ρ (.lptr s o) e):e=.lptr s o:=h
theorem EntR.box_inv {ρ:Names} {v:List AVal} {e:Ent} (h:EntR ρ (.box v) e):∃a,VRs ρ v a∧e=.box a:=h
theorem EntR.ofV {ρ:Names} {v a:AVal} (h:VR ρ v a):EntR ρ (.val v) (.val a):=⟨a,h,rfl⟩
theorem EntR.plain {ρ:Names} {v:AVal} (h:v.plain=true):EntR ρ (.val v) (.val v):=⟨v,VR.of_plain v h,rfl⟩
theorem VR.slice_inv {ρ:Names} {xs:List AVal} {nl:Bool} {tok:Option Nat} {a:AVal} (h:VR ρ (.slice xs nl tok) a):
  ∃ys t,VRs ρ xs ys∧a=.slice ys nl t∧(tok=none→t=none)∧∀g,tok=some g→∃x,ρ g=some x∧x.m=xs.length∧t=some x.b:=by
 cases tok with
 |none=>simp only[VR]at h;obtain⟨ys,h1,rfl⟩:=h;exact⟨ys,none,h1,rfl,fun _=>rfl,fun g hg=>(by cases hg)⟩
 |some g=>simp only[VR]at h;obtain⟨ys,x,h1,h2,rfl⟩:=h;exact⟨ys,some x.b,h1,rfl,fun hh=>(by cases hh),fun g' hg=>(by cases hg;exact⟨x,h2.1,h2.2,rfl⟩)⟩
theorem VR.slice_nil {ρ:Names} {nl:Bool} {a:AVal} (h:VR ρ (.slice [] nl none) a):a=.slice [] nl none:=by
 simp only[VR]at h;obtain⟨ys,h1,rfl⟩:=h;rw[h1.nil_inv]
section
variable {ρ:Names} {env:VE} {e':Env}
theorem toE_some {o:Option AVal} {e:Ent} (h:toE o=some e):∃a,o=some a∧e=.val a:=by
 cases o with
 |none=>cases h
 |some a=>cases h;exact⟨a,rfl,rfl⟩
theorem eqOf_some {op:BinOp} {t:Option Bool} {v:AVal} (h:eqOf op t=some v):∃b,t=some b∧((op=.eql∧v=.bool b)∨(op=.neq∧v=.bool (!b))):=by
 rw[eqOf_eq]at h
 unfold eqOf0 at h
 split at h
 ·cases t with
  |none=>cases h
  |some b=>cases h;exact⟨b,rfl,.inl ⟨rfl,rfl⟩⟩
 ·cases t with
  |none=>cases h
  |some b=>cases h;exact⟨b,rfl,.inr ⟨rfl,rfl⟩⟩
 ·cases h
theorem VR.prim {v a:AVal} (h:VR ρ v a) (hp:v.plain=true):a=v:=VR.det v h (VR.of_plain v hp)
theorem binV_eqV {op:BinOp} {q:EqK} {lit b:Bool} {x y v:AVal} (h:eqV q x y=some b) (hop:(op=.eql∧v=.bool b)∨(op=.neq∧v=.bool (!b))):binV op q lit (.val x) (.val y)=some v:=by
 have hx:∀k n k' n',¬(x=.int k n∧y=.int k' n'):=by
  rintro k n k' n' ⟨rfl,rfl⟩;cases q<;>cases h
 have hs:∀s t,¬(x=.str s∧y=.str t):=by
  rintro k n ⟨rfl,rfl⟩;cases q<;>cases h
 have hn:¬(x=.nilI∧y=.nilI):=by
  rintro⟨rfl,rfl⟩;cases q<;>cases h
 unfold binV
 split
 ·exact absurd ⟨by rename_i h1 _;injection h1,by rename_i _ h1;injection h1⟩ (hx _ _ _ _)
 ·exact absurd ⟨by rename_i h1 _;injection h1,by rename_i _ h1;injection h1⟩ (hs _ _)
 ·exact absurd ⟨by rename_i h1 _;injection h1,by rename_i _ h1;injection h1⟩ hn
 ·rename_i _ _ _ x' y' h1 h2
  injection h1 with h1;injection h2 with h2;subst h1;subst h2
  rw[h]
  rcases hop with⟨rfl,rfl⟩|⟨rfl,rfl⟩<;>rfl
 ·rename_i h1 _;cases h1
 ·rename_i hh _;exact absurd rfl (hh _ _ rfl)
theorem ifO {c:Prop} [Decidable c] {a v:AVal} (h:(if c then none else some a)=some v):v=a:=by
 by_cases hc:c
 ·rw[if_pos hc]at h;cases h
 ·rw[if_neg hc]at h;cases h;rfl
theorem intV_plain {op:BinOp} {k:IntKind} {a b:Int} {v:AVal} (h:intV op k a b=some v):v.plain=true:=by
 cases op<;>simp only[intV,intCmpV]at h<;>first|(have hv:=ifO h;subst hv;rfl)|(cases h;rfl)|(cases h;done)
theorem strV_plain {op:BinOp} {a b:List UInt8} {v:AVal} (h:strV op a b=some v):v.plain=true:=by
 cases op<;>simp only[strV]at h<;>first|(cases h;rfl)|cases h
theorem binV2_rep {op:BinOp} {q:EqK} {lit:Bool} {x y a b v:AVal} (h:binV2 op q lit x y=some v) (hx:VR ρ x a) (hy:VR ρ y b):binV op q lit (.val a) (.val b)=some v∧v.plain=true:=by
 have eqs:∀{t:Option Bool},eqOf op t=some v→(∀c,t=some c→eqV q a b=some c)→binV op q lit (.val a) (.val b)=some v∧v.plain=true:=by
  intro t ht hc
  obtain⟨c,h1,h2⟩:=eqOf_some ht
  refine⟨binV_eqV (hc c h1) h2,?_⟩
  rcases h2 with⟨_,rfl⟩|⟨_,rfl⟩<;>rfl
 rw[binV2_eq]at h
 unfold binV20 at h
 split at h
 ·rename_i k m
  simp only[VR]at hx;subst hx
  rw[binI_eq]at h
  unfold binI0 at h
  split at h
  ·rename_i k' n
   simp only[VR]at hy;subst hy
   cases hs:sameK op k k' with
   |false=>rw[hs]at h;cases h
   |true=>
    rw[hs,cond_true]at h
    have h:=intF_some h
    refine⟨by simp only[binV];rw[if_pos hs];exact h,?_⟩
    exact intV_plain h
  ·cases h
 ·rename_i s
  simp only[VR]at hx;subst hx
  rw[binS_eq]at h
  unfold binS0 at h
  split at h
  ·simp only[VR]at hy;subst hy
   have h:=strF_some h
   refine⟨h,?_⟩
   exact strV_plain h
  ·cases h
 ·simp only[VR]at hx hy;subst hx;subst hy
  cases lit with
  |false=>cases h
  |true=>
   rw[cond_true]at h
   split at h
   ·obtain⟨c,h1,h2⟩:=eqOf_some h
    cases h1
    rcases h2 with⟨rfl,rfl⟩|⟨rfl,rfl⟩<;>exact⟨rfl,rfl⟩
   ·cases h
 ·split at h
  ·refine eqs h fun c hc=> ?_
   simp only[VR]at hx hy;subst hx;subst hy;exact hc
  ·cases h
 ·split at h
  ·refine eqs h fun c hc=> ?_
   simp only[VR]at hx hy;subst hx;subst hy;exact hc
  ·cases h
 ·split at h
  ·refine eqs h fun c hc=> ?_
   simp only[VR]at hx hy;obtain⟨z,_,rfl⟩:=hy;subst hx;exact hc
  ·cases h
 ·split at h
  ·refine eqs h fun c hc=> ?_
   simp only[VR]at hx hy;obtain⟨z,_,rfl⟩:=hy;subst hx;exact hc
  ·cases h
 ·split at h
  ·refine eqs h fun c hc=> ?_
   simp only[VR]at hx hy;obtain⟨z,_,rfl⟩:=hx;subst hy;exact hc
  ·cases h
 ·split at h
  ·refine eqs h fun c hc=> ?_
   simp only[VR]at hx hy;obtain⟨z,_,rfl⟩:=hx;subst hy;exact hc
  ·cases h
 ·split at h
  ·refine eqs h fun c hc=> ?_
   obtain⟨ys,t,h1,rfl,_⟩:=hx.slice_inv;rw[hy.slice_nil];exact hc
  ·cases h
 ·split at h
  ·refine eqs h fun c hc=> ?_
   rw[hy.slice_nil];simp only[VR]at hx;obtain⟨z,_,rfl⟩:=hx;exact hc
  ·cases h
 ·split at h
  ·refine eqs h fun c hc=> ?_
   simp only[VR]at hx hy;obtain⟨z,_,rfl⟩:=hx;subst hy;exact hc
  ·cases h
 ·split at h
  ·refine eqs h fun c hc=> ?_
   simp only[VR]at hx hy;obtain⟨_,_,_,_,rfl⟩:=hx;subst hy;exact hc
  ·cases h
 ·split at h
  ·refine eqs h fun c hc=> ?_
   simp only[VR]at hx hy;subst hx;subst hy;exact hc
  ·cases h
 ·split at h
  ·refine eqs h fun c hc=> ?_
   simp only[VR]at hx hy;subst hx;subst hy;exact hc
  ·cases h
 ·split at h
  ·refine eqs h fun c hc=> ?_
   simp only[VR]at hx hy;obtain⟨z,_,rfl⟩:=hx;subst hy;exact hc
  ·cases h
 ·rename_i la lb
  split at h
  ·rename_i ss
   refine eqs h fun c hc=> ?_
   simp only[VR]at hx hy;obtain⟨ds,h1,rfl⟩:=hx;obtain⟨es,k1,rfl⟩:=hy
   unfold flatF at hc
   cases hr:(rowIs ss la&&rowIs ss lb)with
   |false=>rw[hr]at hc;cases hc
   |true=>
    rw[hr]at hc
    simp only[Bool.and_eq_true]at hr
    rw[rowIs_plain hr.1 h1,rowIs_plain hr.2 k1]
    simp only[cond_true]at hc
    show(if rowIs ss la=true∧rowIs ss lb=true then some (cellsEq la lb)else none)=_
    rw[if_pos hr,←cellsEqF_eq];exact hc
  ·cases h
 ·rename_i i n k z
  simp only[VR]at hx hy
  subst hy
  obtain⟨x,_,ho⟩:=hx
  unfold rawGt at h
  split at h
  ·rename_i m
   cases hb:(Nat.beq n 1&&Nat.beq m 0)with
   |false=>rw[hb]at h;cases h
   |true=>
    rw[hb,cond_true]at h
    cases h
    simp only[Bool.and_eq_true]at hb
    have hn:n=1:=Nat.eq_of_beq_eq_true hb.1
    have hm:m=0:=Nat.eq_of_beq_eq_true hb.2
    subst hn;subst hm
    obtain⟨_,l,hl,_,rfl⟩:=ho
    have hp:0<l.length:=List.length_pos_iff.2 hl.1
    refine⟨?_,rfl⟩
    simp[binV,sameK,intV,intCmpV,hp]
  ·cases h
 ·cases h
theorem binE_rep {op:BinOp} {q:EqK} {lit:Bool} {x y a b e:Ent} (h:binE op q lit x y=some e) (hx:EntR ρ x a) (hy:EntR ρ y b):∃v,binV op q lit a b=some v∧e=.val v∧v.plain=true:=by
 rw[binE_eq]at h
 unfold binE0 at h
 split at h
 ·obtain⟨v,h1,rfl⟩:=toE_some h
  obtain⟨x',k1,rfl⟩:=hx.val_inv
  obtain⟨y',k2,rfl⟩:=hy.val_inv
  obtain⟨h3,h4⟩:=binV2_rep h1 k1 k2
  exact⟨v,h3,rfl,h4⟩
 ·split at h
  ·obtain⟨v,h1,rfl⟩:=toE_some h
   rw[hx.lptr_inv]
   obtain⟨y',k2,rfl⟩:=hy.val_inv
   simp only[VR]at k2;subst k2
   obtain⟨c,h3,h4⟩:=eqOf_some h1
   cases h3
   rcases h4 with⟨rfl,rfl⟩|⟨rfl,rfl⟩<;>exact⟨_,rfl,rfl,rfl⟩
  ·cases h
 ·cases h
theorem evals_rep (hE:EnvR ρ env e'):∀{l:List Opd} {as:List AVal},evals l env=some as→(∀x∈l,x.plain=true)→∃bs,vals (l.map (evalOpd e'))=some bs∧VRs ρ as bs
 | [],as,h,_=>by cases h;exact⟨[],rfl,.nil⟩
 |x::l,as,h,hp=>by
  have h:evalsC (evals l) env (eo x env)=some as:=h
  have hx:=eo_rep hE (hp x (List.mem_cons_self ..))
  cases he:eo x env with
  |val a=>
   rw[he]at h hx
   obtain⟨as',h1,rfl⟩:=consO_some h
   obtain⟨bs,k1,k2⟩:=evals_rep hE h1 (fun y hy=>hp y (List.mem_cons_of_mem _ hy))
   obtain⟨a',h2,h3⟩:=hx.val_inv
   refine⟨a'::bs,?_,.cons h2 k2⟩
   rw[List.map_cons,h3]
   show(match vals (l.map (evalOpd e'))with|some as=>some (a'::as)|none=>none)=_
   rw[k1]
  |box cs=>rw[he]at h;cases h
  |lptr s o=>rw[he]at h;cases h
end
end Go.AL
