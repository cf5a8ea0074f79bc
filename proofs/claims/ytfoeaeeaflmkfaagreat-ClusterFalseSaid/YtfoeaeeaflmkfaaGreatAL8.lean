/-
  AN ABSTRACT LOGIC OVER THE MODEL, part 8: rules by which what the code asks is reckoned; loops' heads; results told dimly.
-/
import Derived.Test.YtfoeaeeaflmkfaaGreatAL10
namespace Go.AL
open Go.RowKit
theorem get_set (env:Env) (d:Nat) (e:Ent) (t:Nat):Env.set env (some d) e t=bif t==d then e else env t:=rfl
theorem set_none (env:Env) (e:Ent):Env.set env none e=env:=rfl
theorem get_newBox (env:Env) (d:Nat) (cs:List AVal) (t:Nat):Env.newBox env d cs t=bif t==d then .box cs else(env t).kill d:=rfl
theorem get_setBox (env:Env) (d:Nat) (cs:List AVal) (t:Nat):Env.setBox env d cs t=bif t==d then .box cs else env t:=rfl
theorem kill_val (s:Nat) (a:AVal):Ent.kill s (.val a)=.val a:=rfl
theorem kill_box (s:Nat) (a:List AVal):Ent.kill s (.box a)=.box a:=rfl
theorem kill_lptr (s q o:Nat):Ent.kill s (.lptr q o)=bif q==s then .val .top else .lptr q o:=rfl
theorem get_args (as:List AVal) (t:Nat):Env.args as t=match as[t]? with
 |some a=>.val a
 |none=>.val .top:=rfl
def Env.of (l:List (Nat × Ent)):Env:=fun t=>match l.find? (fun p=>p.1==t)with
 |some p=>p.2
 |none=>.val .top
theorem Env.le_of {env:Env} {l:List (Nat × Ent)} (h:∀p∈l,env p.1=p.2):env.Le (Env.of l):=by
 intro s
 unfold Env.of
 cases hf:l.find? (fun p=>p.1==s)with
 |none=>exact .inl rfl
 |some p=>
  have h1:=List.mem_of_find?_eq_some hf
  have h2:=List.find?_some hf
  have:p.1=s:=by simpa using h2
  exact .inr (.inl (by rw[←this];exact h p h1))
theorem dim_of {K:Env→Store→Prop} {env:Env} {σ:Store} (l:List (Nat × Ent)) (τ:Store) (h:∀p∈l,env p.1=p.2) (hs:τ.Sub σ) (hk:K (Env.of l) τ):Dim K env σ:=⟨_,_,Env.le_of h,hs,hk⟩
theorem get_of (l:List (Nat × Ent)) (t:Nat):Env.of l t=match l.find? (fun p=>p.1==t)with
 |some p=>p.2
 |none=>.val .top:=rfl
def DimQ (Q:AVal→Store→Prop) (a:AVal) (σ:Store):Prop:=∃b τ,a.Le b∧τ.Sub σ∧Q b τ
theorem acall_dim {P:Program} (hm:P.follows .mixedOrders=true) {f:FuncId} {fn:Func} {esc:List Nat} {af:AFun} {as:List AVal} {σ:Store} {Q:AVal→Store→Prop} (hf:P.funcs[f]? =some fn) (ha:ofFunc P esc fn=some af) (hn:as.length≤af.n)
  (h:vc P af.body (retPost af.res (DimQ Q)) (Env.args as) σ):ACall P f as σ Q:=(acall_of hm hf ha hn h).weak fun _ _ h=>h
theorem DimQ.of {Q:AVal→Store→Prop} {a:AVal} {σ:Store} (h:Q a σ):DimQ Q a σ:=⟨a,σ,.refl a,.refl σ,h⟩
theorem slice_le_tok {xs:List AVal} {nl:Bool} {t:Option Nat}:(AVal.slice xs nl t).Le (.slice xs nl none):=by
 intro I v h
 cases h with
 |nilS=>exact .nilS
 |slice b o n cap sz xs tok vs hl hc hm hs h hr ht=>exact .slice b o n cap sz xs none vs hl hc hm hs h hr (fun g hg=>by cases hg)
 |sliceZ a=>exact .sliceZ a
theorem sub_setOpn {σ τ:Store} (h:τ.Sub σ) {g:Nat} {r:Nat × Nat × Nat} (hf:τ.opn g=none):τ.Sub (σ.setOpn g r):=
 ⟨h.obj,fun b q e=>by
  have:b≠g:=by rintro rfl;rw[hf]at e;cases e
  have hb:(b==g)=false:=by simpa using this
  simpa[Store.setOpn,hb]using h.opn b q e,h.mp⟩
theorem sub_dropOpn {σ τ:Store} (h:τ.Sub σ) {t:Option Nat} (hf:∀g,t=some g→τ.opn g=none):τ.Sub (σ.dropOpn t):=
 ⟨h.obj,fun b q e=>by
  have:¬some b=t:=by rintro rfl;rw[hf b rfl]at e;cases e
  have hb:(some b==t)=false:=by simpa using this
  simpa[Store.dropOpn,hb]using h.opn b q e,h.mp⟩
theorem sub_setOpn_same {σ τ:Store} (h:τ.Sub σ) {g:Nat} {r:Nat × Nat × Nat}:(τ.setOpn g r).Sub (σ.setOpn g r):=
 ⟨h.obj,fun b q e=>by
  by_cases hb:b=g
  ·subst hb;simpa[Store.setOpn]using e
  ·have hb':(b==g)=false:=by simpa using hb
   simp only[Store.setOpn,hb',cond_false]at e⊢
   exact h.opn b q e,h.mp⟩
theorem sub_setObj {σ τ:Store} (h:τ.Sub σ) {b:Nat} {cs:List AVal} (hf:τ.obj b=none):τ.Sub (σ.setObj b cs):=
 ⟨fun x q e=>by
  have:x≠b:=by rintro rfl;rw[hf]at e;cases e
  have hb:(x==b)=false:=by simpa using this
  simpa[Store.setObj,hb]using h.obj x q e,h.opn,h.mp⟩
theorem fresh_setOpn {σ:Store} {g b:Nat} {r:Nat × Nat × Nat}:(σ.setOpn g r).fresh b↔σ.fresh b∧b≠g:=by
 unfold Store.fresh Store.setOpn
 by_cases h:b=g
 ·subst h;simp
 ·have hb:(b==g)=false:=by simpa using h
  simp[hb,h]
theorem fresh_setObj {σ:Store} {g b:Nat} {r:List AVal}:(σ.setObj g r).fresh b↔σ.fresh b∧b≠g:=by
 unfold Store.fresh Store.setObj
 by_cases h:b=g
 ·subst h;simp
 ·have hb:(b==g)=false:=by simpa using h
  simp[hb,h]
@[simp] theorem cells_agg (l:List AVal):(AVal.agg l).cells=l:=rfl
@[simp] theorem one_agg (l:List AVal):(AVal.agg l).one=false:=rfl
@[simp] theorem cells_top:(AVal.cells .top)=[.top]:=rfl
@[simp] theorem one_top:(AVal.one .top)=false:=rfl
@[simp] theorem cells_bool (b:Bool):(AVal.cells (.bool b))=[(.bool b)]:=rfl
@[simp] theorem one_bool (b:Bool):(AVal.one (.bool b))=true:=rfl
@[simp] theorem cells_int (k:IntKind) (n:Int):(AVal.cells (.int k n))=[(.int k n)]:=rfl
@[simp] theorem one_int (k:IntKind) (n:Int):(AVal.one (.int k n))=true:=rfl
@[simp] theorem cells_str (s:List UInt8):(AVal.cells (.str s))=[(.str s)]:=rfl
@[simp] theorem one_str (s:List UInt8):(AVal.one (.str s))=true:=rfl
@[simp] theorem cells_nilP:(AVal.cells .nilP)=[.nilP]:=rfl
@[simp] theorem one_nilP:(AVal.one .nilP)=true:=rfl
@[simp] theorem cells_ptr (b o:Nat):(AVal.cells (.ptr b o))=[(.ptr b o)]:=rfl
@[simp] theorem one_ptr (b o:Nat):(AVal.one (.ptr b o))=true:=rfl
@[simp] theorem cells_sptr (l:List AVal):(AVal.cells (.sptr l))=[(.sptr l)]:=rfl
@[simp] theorem one_sptr (l:List AVal):(AVal.one (.sptr l))=true:=rfl
@[simp] theorem cells_slice (xs:List AVal) (nl:Bool) (t:Option Nat):(AVal.cells (.slice xs nl t))=[(.slice xs nl t)]:=rfl
@[simp] theorem one_slice (xs:List AVal) (nl:Bool) (t:Option Nat):(AVal.one (.slice xs nl t))=true:=rfl
@[simp] theorem cells_ref (b o n c:Nat):(AVal.cells (.ref b o n c))=[(.ref b o n c)]:=rfl
@[simp] theorem one_ref (b o n c:Nat):(AVal.one (.ref b o n c))=true:=rfl
@[simp] theorem cells_raw (g n:Nat):(AVal.cells (.raw g n))=[(.raw g n)]:=rfl
@[simp] theorem one_raw (g n:Nat):(AVal.one (.raw g n))=true:=rfl
@[simp] theorem cells_tuple (l:List AVal):(AVal.cells (.tuple l))=[(.tuple l)]:=rfl
@[simp] theorem one_tuple (l:List AVal):(AVal.one (.tuple l))=false:=rfl
@[simp] theorem cells_iface (t:Nat) (v:AVal):(AVal.cells (.iface t v))=[(.iface t v)]:=rfl
@[simp] theorem one_iface (t:Nat) (v:AVal):(AVal.one (.iface t v))=true:=rfl
@[simp] theorem cells_nilI:(AVal.cells .nilI)=[.nilI]:=rfl
@[simp] theorem one_nilI:(AVal.one .nilI)=true:=rfl
@[simp] theorem cells_func (f:Fn) (a c:List AVal):(AVal.cells (.func f a c))=[(.func f a c)]:=rfl
@[simp] theorem one_func (f:Fn) (a c:List AVal):(AVal.one (.func f a c))=true:=rfl
@[simp] theorem cells_nilF:(AVal.cells .nilF)=[.nilF]:=rfl
@[simp] theorem one_nilF:(AVal.one .nilF)=true:=rfl
@[simp] theorem cells_map (r:Option Nat):(AVal.cells (.map r))=[(.map r)]:=rfl
@[simp] theorem one_map (r:Option Nat):(AVal.one (.map r))=true:=rfl
theorem elemsOk_nil (sz:Nat):ElemsOk sz []:=fun y h=>by cases h
theorem elemsOk_append {sz:Nat} {xs ys:List AVal}:ElemsOk sz (xs++ys)↔ElemsOk sz xs∧ElemsOk sz ys:=
 ⟨fun h=>⟨fun y hy=>h y (List.mem_append_left _ hy),fun y hy=>h y (List.mem_append_right _ hy)⟩,fun h y hy=>(List.mem_append.1 hy).elim (h.1 y) (h.2 y)⟩
theorem elemsOk_bytes (l:List UInt8):ElemsOk 1 (bytesA l):=by
 intro y hy
 obtain⟨c,_,rfl⟩:=List.mem_map.1 hy
 exact⟨rfl,rfl⟩
theorem elemsOk_map {α:Type} {f:α→AVal} {sz:Nat} (l:List α) (h:∀x,(f x).cells.length=sz∧(f x).cells.all AVal.one=true):ElemsOk sz (l.map f):=by
 intro y hy
 obtain⟨c,_,rfl⟩:=List.mem_map.1 hy
 exact h c
theorem elemsOk_take {sz n:Nat} {xs:List AVal} (h:ElemsOk sz xs):ElemsOk sz (xs.take n):=fun y hy=>h y (List.mem_of_mem_take hy)
theorem elemsOk_drop {sz n:Nat} {xs:List AVal} (h:ElemsOk sz xs):ElemsOk sz (xs.drop n):=fun y hy=>h y (List.mem_of_mem_drop hy)
theorem bytesA_length (l:List UInt8):(bytesA l).length=l.length:=by simp[bytesA]
theorem appRes_dim {σ τ:Store} {xs ys:List AVal} {nl:Bool} {tok:Option Nat} {sz e:Nat} {a:AVal} {σ':Store} (h:AppRes σ xs nl tok ys sz e a σ') (hs:τ.Sub σ) (ht:∀g,tok=some g→τ.opn g=none):
  a.Le (.slice (xs++ys) (nl&&ys.isEmpty) none)∧τ.Sub σ':=by
 rcases h with⟨rfl,rfl,rfl⟩|⟨hy,g,rfl,rfl,hg⟩
 ·simp only[List.append_nil,List.isEmpty_nil,Bool.and_true]
  exact⟨slice_le_tok,hs⟩
 ·have:ys.isEmpty=false:=by cases ys<;>simp_all
  rw[this,Bool.and_false]
  refine⟨slice_le_tok,sub_setOpn (sub_dropOpn hs ht) ?_⟩
  rcases hg with hg|hg
  ·exact ht g hg
  ·exact(hs.fresh hg).2.1
theorem vcOp_mono {P:Program} {o:AOp} {d:Option Nat} {k k':Env→Store→Prop} {env:Env} {σ:Store} (h:vcOp P o d k env σ) (hk:∀env σ,k env σ→k' env σ):vcOp P o d k' env σ:=by
 by_cases ht:o.mayTurn=true
 ·exact turn_frame (W:=[]) o ht (d1:=none) (e1:=.val .top) (.inl id) (fun _ _ _ _=>by simp) (.inl rfl) (fun _ _ _ h=>hk _ _ h) h
 by_cases hp:o.isPure=true
 ·rw[vcOp_pure P o d _ env σ hp]at h⊢
  cases hq:pureV env o with
  |none=>rw[hq]at h;exact h.elim
  |some e=>rw[hq]at h;exact hk _ _ h
 cases o<;>first|exact absurd rfl hp|exact absurd rfl ht|skip
 all_goals simp only[vcOp]at h⊢
 case pick c a b=>
  split at h
  ·exact⟨fun ht=>hk _ _ (h.1 ht),fun ht=>hk _ _ (h.2 ht)⟩
  ·exact h.elim
 case box cs=>split at h<;>first|exact hk _ _ h|exact h.elim
 case boxv x=>split at h<;>first|exact⟨h.1,hk _ _ h.2⟩|exact h.elim
 case bslice own sz e n z ps=>
  split at h
  ·cases own
   ·simp only[Bool.false_eq_true,if_false]at h⊢;exact hk _ _ h
   ·simp only[if_true]at h⊢;exact fun g hg=>hk _ _ (h g hg)
  ·exact h.elim
 case bytesStr x=>split at h<;>first|(obtain⟨l,h1,h2⟩:=h;exact⟨l,h1,hk _ _ h2⟩)|exact h.elim
 case strBytes q x=>split at h<;>first|exact⟨h.1,hk _ _ h.2⟩|exact h.elim
 case cut sz x lo hi=>
  generalize evalOpd env x=ex at h⊢
  split at h
  ·exact⟨h.1,bound_mono (fun n h=>⟨h.1,bound_mono (fun m h=>⟨h.1,hk _ _ h.2⟩) h.2⟩) h.2⟩
  ·exact bound_mono (fun n h=>⟨h.1,bound_mono (fun m h=>⟨h.1,hk _ _ h.2⟩) h.2⟩) h
  ·exact bound_mono (fun n h=>⟨h.1,bound_mono (fun m h=>⟨h.1,hk _ _ h.2⟩) h.2⟩) h
  ·exact h.elim
 case cut3 sz x lo hi mx=>
  split at h
  ·exact⟨h.1,bound_mono (fun n h=>⟨h.1,bound_mono (fun m h=>⟨h.1,bound_mono (fun q h=>⟨h.1,hk _ _ h.2⟩) h.2⟩) h.2⟩) h.2⟩
  ·exact h.elim
 case cutStr x lo hi=>
  split at h
  ·exact bound_mono (fun n h=>⟨h.1,bound_mono (fun m h=>⟨h.1,hk _ _ h.2⟩) h.2⟩) h
  ·exact h.elim
 case iaddr sz x i=>
  generalize evalOpd env x=ex at h⊢
  split at h
  ·split at h
   ·obtain⟨h1,a,h2,h3,h4⟩:=h;exact⟨h1,a,h2,h3,hk _ _ h4⟩
   ·exact⟨h.1,h.2.1,hk _ _ h.2.2⟩
   ·exact h.elim
  ·exact h.elim
 case istr x i=>
  split at h
  ·obtain⟨h1,a,h2,h4⟩:=h;exact⟨h1,a,h2,hk _ _ h4⟩
  ·exact h.elim
theorem vcOper_mono {P:Program} {o:AOper} {k k':Env→Store→Prop} {env:Env} {σ:Store} (h:vcOper P o k env σ) (hk:∀env σ,k env σ→k' env σ):vcOper P o k' env σ:=by
 unfold vcOper at h⊢
 split at h
 ·exact vcOp_mono h hk
 ·split at h
  ·exact⟨fun ht=>vcOp_mono (h.1 ht) hk,fun ht=>hk _ _ (h.2 ht)⟩
  ·exact hk _ _ h
  ·exact h.elim
theorem vcOps_mono {P:Program} {k k':Env→Store→Prop} (hk:∀env σ,k env σ→k' env σ):∀{l:List AOper} {env:Env} {σ:Store},vcOps P l k env σ→vcOps P l k' env σ
 | [],_,_,h=>hk _ _ h
 |_::_,_,_,h=>vcOper_mono (k:=vcOps P _ k) h fun _ _ h=>vcOps_mono hk h
theorem vcOpD_mono {P:Program} {W:List Nat} {o:AOp} {d:Option Nat} {k k':Env→Store→Prop} {env:Env} {σ:Store} (h:vcOpD P W o d k env σ) (hk:∀env σ,k env σ→k' env σ):vcOpD P W o d k' env σ:=by
 cases o
 case load agg n x=>
  simp only[vcOpD]at h⊢
  split at h
  ·obtain⟨cs,h1,h2,h3⟩:=h;exact⟨cs,h1,h2,hk _ _ h3⟩
  ·exact⟨h.1,hk _ _ h.2⟩
  ·refine⟨h.1,?_⟩
   have h:=h.2
   split at h
   ·exact⟨h.1,hk _ _ h.2⟩
   ·exact h.elim
  ·exact h.elim
 case call f as=>
  simp only[vcOpD]at h⊢
  split at h
  ·obtain⟨c,h1,h2⟩:=h;exact⟨c,h1,hk _ _ h2⟩
  ·exact h.elim
 case callv f as=>
  simp only[vcOpD]at h⊢
  split at h
  ·obtain⟨h0,c,h1,h2⟩:=h;exact⟨h0,c,h1,hk _ _ h2⟩
  ·exact h.elim
 case inv tbl x as=>
  simp only[vcOpD]at h⊢
  split at h
  ·obtain⟨f,h0,c,h1,h2⟩:=h;exact⟨f,h0,c,h1,hk _ _ h2⟩
  ·exact h.elim
 case cut sz x lo hi=>
  simp only[vcOpD]at h⊢
  generalize evalOpd env x=ex at h⊢
  split at h
  ·exact⟨h.1,bound_mono (fun n h=>⟨h.1,bound_mono (fun m h=>⟨h.1,hk _ _ h.2⟩) h.2⟩) h.2⟩
  ·exact bound_mono (fun n h=>⟨h.1,bound_mono (fun m h=>⟨h.1,hk _ _ h.2⟩) h.2⟩) h
  ·exact h.elim
 all_goals (simp only[vcOpD]at h⊢;exact vcOp_mono h hk)
theorem vcOperD_mono {P:Program} {W:List Nat} {o:AOper} {k k':Env→Store→Prop} {env:Env} {σ:Store} (h:vcOperD P W o k env σ) (hk:∀env σ,k env σ→k' env σ):vcOperD P W o k' env σ:=by
 unfold vcOperD at h⊢
 split at h
 ·exact vcOpD_mono h hk
 ·split at h
  ·exact⟨fun ht=>vcOpD_mono (h.1 ht) hk,fun ht=>hk _ _ (h.2 ht)⟩
  ·exact hk _ _ h
  ·exact h.elim
theorem vcD_mono {P:Program} {W:List Nat} {k k':Env→Store→Prop} (hk:∀env σ,k env σ→k' env σ):∀{l:List (Nat × AOper)} {env:Env} {σ:Store},vcD P W l k env σ→vcD P W l k' env σ
 | [],_,_,h=>hk _ _ h
 |(κ,o)::r,env,σ,h=>by
  have ih:=fun env σ (h:vcD P W r k env σ)=>vcD_mono (k:=k) (k':=k') hk h
  simp only[vcD]at h⊢
  by_cases h2:κ=2
  ·rw[if_pos h2]at h⊢;exact⟨h.1,vcOper_mono h.2 ih⟩
  rw[if_neg h2]at h⊢
  by_cases h3:κ=3
  ·rw[if_pos h3]at h⊢;exact vcOper_mono h ih
  rw[if_neg h3]at h⊢
  by_cases h4:κ=4
  ·rw[if_pos h4]at h⊢;exact⟨h.1,h.2.1,vcOper_mono h.2.2 ih⟩
  rw[if_neg h4]at h⊢
  by_cases h5:κ=5
  ·rw[if_pos h5]at h⊢;exact⟨h.1,vcOperD_mono h.2 ih⟩
  rw[if_neg h5]at h⊢
  by_cases h6:κ=6
  ·rw[if_pos h6]at h⊢;exact⟨h.1,vcOperD_mono h.2 ih⟩
  ·rw[if_neg h6]at h⊢;exact vcOperD_mono h ih
theorem vc_mono {P:Program}:∀{c:ACode} {K K':Ex→Env→Store→Prop} {env:Env} {σ:Store},vc P c K env σ→(∀e env σ,K e env σ→K' e env σ)→vc P c K' env σ
 |.skip,_,_,_,_,h,hk=>hk _ _ _ h
 |.region _,_,_,_,_,h,hk=>vcOps_mono (hk .normal) h
 |.drawn _ _,_,_,_,_,h,hk=>vcD_mono (hk .normal) h
 |.seq a b,K,K',_,_,h,hk=>vc_mono (c:=a) h fun e env σ h=>by
  cases e with
  |normal=>exact vc_mono (c:=b) h hk
  |exit id=>exact hk _ _ _ h
  |ret=>exact hk _ _ _ h
 |.cond c a b,_,_,env,_,h,hk=>by
  simp only[vc]at h⊢
  split at h
  ·exact⟨fun ht=>vc_mono (h.1 ht) hk,fun ht=>vc_mono (h.2 ht) hk⟩
  ·exact h.elim
 |.block id b,K,K',_,_,h,hk=>vc_mono (c:=b) h fun e env σ h=>by
  cases e with
  |normal=>exact hk _ _ _ h
  |ret=>exact hk _ _ _ h
  |exit id'=>
   simp only[Ex.inBlock]at h⊢
   cases hq:(id'==id)with
   |true=>rw[hq]at h;exact hk _ _ _ h
   |false=>rw[hq]at h;exact hk _ _ _ h
 |.loop b,K,K',_,_,h,hk=>by
  obtain⟨Inv,h0,hr⟩:=h
  refine⟨Inv,h0,fun n env σ hi=>vc_mono (c:=b) (hr n env σ hi) fun e env σ h=> ?_⟩
  cases e with
  |normal=>exact h
  |exit id=>exact hk _ _ _ h
  |ret=>exact hk _ _ _ h
 |.exit _,_,_,_,_,h,hk=>hk _ _ _ h
 |.ret,_,_,_,_,h,hk=>hk _ _ _ h
section
variable {P:Program} {K:Ex→Env→Store→Prop} {env:Env} {σ:Store}
@[simp] theorem vc_skip:vc P .skip K env σ=K .normal env σ:=rfl
@[simp] theorem vc_region (ops:List AOper):vc P (.region ops) K env σ=vcOps P ops (K .normal) env σ:=rfl
@[simp] theorem vc_drawn (W:List Nat) (ops:List (Nat × AOper)):vc P (.drawn W ops) K env σ=vcD P W ops (K .normal) (env.forget ops) σ:=rfl
@[simp] theorem vc_seq (a b:ACode):vc P (.seq a b) K env σ=vc P a (Ex.then (vc P b K) K) env σ:=rfl
@[simp] theorem vc_cond (c:Opd) (a b:ACode):vc P (.cond c a b) K env σ=match evalOpd env c with
  |.val (.bool t)=>(t=true→vc P a K env σ)∧(t=false→vc P b K env σ)
  |_=>False:=rfl
@[simp] theorem vc_block (id:Nat) (body:ACode):vc P (.block id body) K env σ=vc P body (Ex.inBlock id K) env σ:=rfl
@[simp] theorem vc_exit (id:Nat):vc P (.exit id) K env σ=K (.exit id) env σ:=rfl
@[simp] theorem vc_ret:vc P .ret K env σ=K .ret env σ:=rfl
theorem vc_loop {body:ACode} {S:Type} (μ:S→Nat) (J:S→Store→Prop) (L:S→List (Nat × Ent)) (s0:S) (τ0:Store) (h0:∀p∈L s0,env p.1=p.2) (hs:τ0.Sub σ) (hJ:J s0 τ0)
  (hr:∀s τ,J s τ→vc P body (Ex.then (fun env' σ'=>∃s',μ s'<μ s∧(∀p∈L s',env' p.1=p.2)∧∃τ',τ'.Sub σ'∧J s' τ') K) (Env.of (L s)) τ):vc P (.loop body) K env σ:=by
 refine⟨fun n env' σ'=>∃s,μ s=n∧env'=Env.of (L s)∧J s σ',⟨μ s0,dim_of (L s0) τ0 h0 hs ⟨s0,rfl,rfl,hJ⟩⟩,?_⟩
 rintro n env' σ' ⟨s,rfl,rfl,hj⟩
 refine vc_mono (hr s σ' hj) fun e env'' σ'' h=> ?_
 cases e with
 |normal=>
  obtain⟨s',h1,h2,τ',h3,h4⟩:=h
  exact dim_of (L s') τ' h2 h3 ⟨μ s',h1,s',rfl,rfl,h4⟩
 |exit id=>exact h
 |ret=>exact h
end
attribute [simp] vcOps vcOper vcOp vcPure pureV evalOpd Ex.then Ex.inBlock get_set get_newBox get_setBox set_none kill_val kill_box kill_lptr get_args binV intV intCmpV eqV nilConst retPost resAll resVs resV mkv splice partV fillV setAll vals vcD vcOperD vcOpD rel bound get_of
end Go.AL
