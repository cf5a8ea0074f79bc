/-
  AN ABSTRACT LOGIC OVER THE MODEL, part 22: the evaluator's operations on maps, its calls; an operation, a region, a function's code, a function.
-/
import Derived.Test.YtfoeaeeaflmkfaaGreatAL21
namespace Go.AL
open Go.RowKit
section
variable {P:Program} {R:Store} {ρ:Names} {V:VS} {σ:Store} {env:VE} {e':Env} {k:EK} {r:ER} {K:Env→Store→Prop} {d:Option Nat}
theorem map_get (hR:Rel R ρ V σ) {i:Nat} {ko:Option KeyK} {es:List (AVal × AVal)} (hat:V.at i=.map ko es) {z:Nm} (hz:ρ i=some z):
  ∃es',MR ρ es es'∧σ.obj z.b=none∧σ.opn z.b=none∧σ.mp z.b=some (.map es')∧(∀kk,ko=some kk→∀e∈es,kk.is e.1=true)∧(ko=none→es=[]):=by
 obtain⟨z',hz',⟨es',m1,m2,m3,m4⟩,_⟩:=hR.get hat (by intro hh;cases hh)
 rw[hz]at hz';cases hz'
 obtain⟨o1,o2,o3⟩:=blk_inv m2
 exact⟨es',m1,o1,o2,o3,m3,m4⟩
theorem mapKk_keys {kk:KeyK} {ko:Option KeyK} {es:List (AVal × AVal)} (h:mapKk kk ko=true) (h1:∀kk,ko=some kk→∀e∈es,kk.is e.1=true) (h2:ko=none→es=[]):∀e∈es,kk.is e.1=true:=by
 cases ko with
 |none=>rw[h2 rfl];intro e he;cases he
 |some k'=>rw[←kkEq_eq (a:=k') (b:=kk) h];exact h1 k' rfl
theorem map_put (hR:Rel R ρ V σ) {i:Nat} {ko:Option KeyK} {es:List (AVal × AVal)} (hat:V.at i=.map ko es) {z:Nm} (hz:ρ i=some z) (hg:V.g≤i) {ko':Option KeyK} {fs fs':List (AVal × AVal)} (hv:MR ρ fs fs')
  (h1:∀kk,ko'=some kk→∀e∈fs,kk.is e.1=true) (h2:ko'=none→fs=[]):Rel R ρ (V.put i (.map ko' fs)) (σ.setMap z.b (.map fs'))∧Gd V (V.put i (.map ko' fs)):=by
 obtain⟨es',_,o1,o2,_⟩:=map_get hR hat hz
 exact hR.put hz (live_of hat (by intro hh;cases hh)) hg (but_setMap σ z.b _) ⟨fs',hv,by rw[blk_setMap,o1,o2],h1,h2⟩
theorem mmap_sound (hk:KS R ρ V k r K) (hR:Rel R ρ V σ) (hE:EnvR ρ env e') (h:opMmap d k env V=r):vcOp P .mmap d K e' σ:=by
 intro b hb
 obtain⟨h1,h2,h3⟩:=new_rep hR (σ':=σ.setMap b (.map [])) hb (x:=⟨b,0,[]⟩) rfl (o:=.map none []) (but_setMap σ b _) ⟨[],rfl,by rw[blk_setMap,hb.1,hb.2.1],fun _ hh=>(by cases hh),fun _=>rfl⟩
 exact hk.fin2 hE h2 h3 h1 (.ofV (by simp only[VR];exact⟨_,Names.add_get ..,rfl⟩)) h
theorem plain_tuple2 {z:AVal} {b:Bool} (hz:z.plain=true):(AVal.tuple [z,.bool b]).plain=true:=by
 simp only[AVal.plain,plains,hz,Bool.and_self]
theorem mRes_none {z:AVal} {ok:Bool} (hz:z.plain=true):VR ρ (mRes z ok none) (if ok=true then .tuple [z,.bool false]else z):=by
 cases ok with
 |true=>exact VR.of_plain _ (plain_tuple2 hz)
 |false=>exact VR.of_plain _ hz
theorem mget_out (hk:KS R ρ V k r K) (hr:r≠.bad) (hR:Rel R ρ V σ) (hE:EnvR ρ env e') {kk:KeyK} {z:AVal} {ok:Bool} {x i:Opd} (hz:z.plain=true) (hp:x.plain=true) (hq:i.plain=true) (h:opMget kk z ok x i d k env V=r):
  (∃key,evalOpd e' x=.val (.map none)∧evalOpd e' i=.val key∧kk.is key=true∧K (e'.set d (.val (if ok=true then .tuple [z,.bool false]else z))) σ)∨
  (∃b key es,evalOpd e' x=.val (.map (some b))∧evalOpd e' i=.val key∧σ.mp b=some (.map es)∧KeysOk kk key es∧
   K (e'.set d (.val (if ok=true then .tuple [(mfind key es).getD z,.bool (mfind key es).isSome]else(mfind key es).getD z))) σ):=by
 have hi:=eo_rep hE hq;have hx:=eo_rep hE hp
 unfold opMget mget0 at h
 split at h
 case h_2=>exact absurd h.symm hr
 rename_i key heq
 rw[heq]at hi;obtain⟨v,k1,k2⟩:=hi.val_inv
 obtain⟨hkey,h⟩:=bif_bad h hr
 have:=KeyK.is_plain hkey k1
 subst this
 unfold mget1 at h
 split at h
 ·rename_i heq2
  rw[heq2]at hx;obtain⟨w,m1,m2⟩:=hx.val_inv;simp only[VR]at m1;subst m1
  exact .inl ⟨_,m2,k2,hkey,hk.fin hR hE (.ofV (mRes_none hz)) h⟩
 ·rename_i g heq2
  rw[heq2]at hx;obtain⟨w,m1,m2⟩:=hx.val_inv;simp only[VR]at m1;obtain⟨y,hy,rfl⟩:=m1
  unfold mgetK at h
  split at h
  ·rename_i ko es hat
   obtain⟨hko,h⟩:=bif_bad h hr
   obtain⟨es',q1,q2,q3,q4,q5,q6⟩:=map_get hR hat hy
   refine .inr ⟨y.b,_,es',m2,k2,q4,⟨hkey,q1.keys (mapKk_keys hko q5 q6)⟩,hk.fin hR hE (.ofV ?_) h⟩
   rcases q1.find v with⟨f1,f2⟩|⟨a,b,f1,f2,f3⟩
   ·rw[f1,←mfindF_eq,f2];exact mRes_none hz
   ·rw[f1,←mfindF_eq,f2]
    cases ok with
    |true=>
     show VR ρ (.tuple [a,.bool true]) (.tuple [b,.bool true])
     simp only[VR]
     exact⟨_,.cons f3 (.cons (by simp only[VR]) .nil),rfl⟩
    |false=>exact f3
  ·exact absurd h.symm hr
 ·exact absurd h.symm hr
theorem mget_sound (hk:KS R ρ V k r K) (hr:r≠.bad) (hR:Rel R ρ V σ) (hE:EnvR ρ env e') {kk:KeyK} {z:AVal} {ok:Bool} {x i:Opd} (hz:z.plain=true) (hp:x.plain=true) (hq:i.plain=true) (h:opMget kk z ok x i d k env V=r):
  vcOp P (.mget kk z ok x i) d K e' σ:=by
 rcases mget_out hk hr hR hE hz hp hq h with⟨key,h1,h2,h3,h4⟩|⟨b,key,es,h1,h2,h3,h4,h5⟩
 ·simp only[vcOp,h1,h2];exact⟨h3,h4⟩
 ·simp only[vcOp,h1,h2];exact⟨es,h3,h4,h5⟩
theorem mset_sound (hk:KS R ρ V k r K) (hr:r≠.bad) (hR:Rel R ρ V σ) (hE:EnvR ρ env e') {kk:KeyK} {x i v:Opd} (hp:x.plain=true) (hq:i.plain=true) (hv:v.plain=true) (h:opMset kk x i v d k env V=r):
  vcOp P (.mset kk x i v) d K e' σ:=by
 have hi:=eo_rep hE hq;have hx:=eo_rep hE hp;have hw:=eo_rep hE hv
 unfold opMset mset3 at h
 split at h
 case h_2=>exact absurd h.symm hr
 rename_i a heq0
 rw[heq0]at hw;obtain⟨a',w1,w2⟩:=hw.val_inv
 unfold mset2 at h
 split at h
 case h_2=>exact absurd h.symm hr
 rename_i key heq
 rw[heq]at hi;obtain⟨v,k1,k2⟩:=hi.val_inv
 obtain⟨hkey,h⟩:=bif_bad h hr
 have:=KeyK.is_plain hkey k1
 subst this
 unfold mset1 at h
 split at h
 ·rename_i g heq2
  rw[heq2]at hx;obtain⟨w,m1,m2⟩:=hx.val_inv;simp only[VR]at m1;obtain⟨y,hy,rfl⟩:=m1
  unfold msetK at h
  split at h
  ·rename_i ko es hat
   obtain⟨hko,h⟩:=bif_bad h hr
   simp only[Bool.and_eq_true,ble_eq,decide_eq_true_eq]at hko
   obtain⟨es',q1,q2,q3,q4,q5,q6⟩:=map_get hR hat hy
   have hkeys:=mapKk_keys hko.1 q5 q6
   obtain⟨r1,r2⟩:=map_put hR hat hy hko.2 (ko':=some kk) (q1.put v w1) (fun kk' hh=>by cases hh;exact keys_put hkey hkeys) (fun hh=>by cases hh)
   simp only[vcOp,m2,k2,w2]
   refine⟨es',q4,⟨hkey,q1.keys hkeys⟩,?_⟩
   rw[←mputF_eq]
   exact hk.fin2 hE (.refl _) r2 r1 .top h
  ·exact absurd h.symm hr
 ·exact absurd h.symm hr
theorem mdel_sound (hk:KS R ρ V k r K) (hr:r≠.bad) (hR:Rel R ρ V σ) (hE:EnvR ρ env e') {kk:KeyK} {x i:Opd} (hp:x.plain=true) (hq:i.plain=true) (h:opMdel kk x i d k env V=r):
  vcOp P (.mdel kk x i) d K e' σ:=by
 have hi:=eo_rep hE hq;have hx:=eo_rep hE hp
 unfold opMdel mdel0 at h
 split at h
 case h_2=>exact absurd h.symm hr
 rename_i key heq
 rw[heq]at hi;obtain⟨v,k1,k2⟩:=hi.val_inv
 obtain⟨hkey,h⟩:=bif_bad h hr
 have:=KeyK.is_plain hkey k1
 subst this
 unfold mdel1 at h
 split at h
 ·rename_i g heq2
  rw[heq2]at hx;obtain⟨w,m1,m2⟩:=hx.val_inv;simp only[VR]at m1;obtain⟨y,hy,rfl⟩:=m1
  unfold mdelK at h
  split at h
  ·rename_i ko es hat
   obtain⟨hko,h⟩:=bif_bad h hr
   simp only[Bool.and_eq_true,ble_eq,decide_eq_true_eq]at hko
   obtain⟨es',q1,q2,q3,q4,q5,q6⟩:=map_get hR hat hy
   have hkeys:=mapKk_keys hko.1 q5 q6
   obtain⟨r1,r2⟩:=map_put hR hat hy hko.2 (ko':=ko) (q1.del v) (fun kk' hh e he=>q5 kk' hh e (mem_del he)) (fun hh=>by rw[q6 hh];rfl)
   simp only[vcOp,m2,k2]
   refine⟨es',q4,⟨hkey,q1.keys hkeys⟩,?_⟩
   rw[←mdelF_eq]
   exact hk.fin2 hE (.refl _) r2 r1 (.plain rfl) h
  ·exact absurd h.symm hr
 ·exact absurd h.symm hr
theorem mlen_out (hk:KS R ρ V k r K) (hr:r≠.bad) (hR:Rel R ρ V σ) (hE:EnvR ρ env e') {x:Opd} (hp:x.plain=true) (h:opMlen x d k env V=r):
  (evalOpd e' x=.val (.map none)∧K (e'.set d (.val (.int .i64 0))) σ)∨(∃b es,evalOpd e' x=.val (.map (some b))∧σ.mp b=some (.map es)∧K (e'.set d (.val (.int .i64 es.length))) σ):=by
 have hx:=eo_rep hE hp
 unfold opMlen mlen1 at h
 split at h
 ·rename_i heq2
  rw[heq2]at hx;obtain⟨w,m1,m2⟩:=hx.val_inv;simp only[VR]at m1;subst m1
  exact .inl ⟨m2,hk.fin hR hE (.plain rfl) h⟩
 ·rename_i g heq2
  rw[heq2]at hx;obtain⟨w,m1,m2⟩:=hx.val_inv;simp only[VR]at m1;obtain⟨y,hy,rfl⟩:=m1
  unfold mlenK at h
  split at h
  ·rename_i ko es hat
   obtain⟨es',q1,q2,q3,q4,q5,q6⟩:=map_get hR hat hy
   rw[lenM_eq,Nat.zero_add,←q1.length]at h
   exact .inr ⟨y.b,es',m2,q4,hk.fin hR hE (.plain rfl) h⟩
  ·exact absurd h.symm hr
 ·exact absurd h.symm hr
theorem mlen_sound (hk:KS R ρ V k r K) (hr:r≠.bad) (hR:Rel R ρ V σ) (hE:EnvR ρ env e') {x:Opd} (hp:x.plain=true) (h:opMlen x d k env V=r):vcOp P (.mlen x) d K e' σ:=by
 rcases mlen_out hk hr hR hE hp h with⟨h1,h2⟩|⟨b,es,h1,h2,h3⟩
 ·simp only[vcOp,h1];exact h2
 ·simp only[vcOp,h1];exact⟨es,h2,h3⟩
theorem clearM_sound (hk:KS R ρ V k r K) (hr:r≠.bad) (hR:Rel R ρ V σ) (hE:EnvR ρ env e') {x:Opd} (hp:x.plain=true) (h:opClearM x d k env V=r):vcOp P (.clearM x) d K e' σ:=by
 have hx:=eo_rep hE hp
 unfold opClearM clearM1 at h
 split at h
 ·rename_i heq2
  rw[heq2]at hx;obtain⟨w,m1,m2⟩:=hx.val_inv;simp only[VR]at m1;subst m1
  simp only[vcOp,m2];exact hk.fin hR hE (.plain rfl) h
 ·rename_i g heq2
  rw[heq2]at hx;obtain⟨w,m1,m2⟩:=hx.val_inv;simp only[VR]at m1;obtain⟨y,hy,rfl⟩:=m1
  unfold clearMK at h
  split at h
  ·rename_i ko es hat
   obtain⟨hg,h⟩:=bif_bad h hr
   obtain⟨es',q1,q2,q3,q4,q5,q6⟩:=map_get hR hat hy
   obtain⟨r1,r2⟩:=map_put hR hat hy (Nat.le_of_ble_eq_true hg) (ko':=none) (fs:=[]) (fs':=[]) rfl (fun kk' hh=>by cases hh) (fun hh=>rfl)
   simp only[vcOp,m2]
   exact⟨es',q4,hk.fin2 hE (.refl _) r2 r1 (.plain rfl) h⟩
  ·exact absurd h.symm hr
 ·exact absurd h.symm hr
theorem VR.self_getD {cs:List AVal} (h:plains cs=true) (i:Nat):VR ρ (cs.getD i .top) (cs.getD i .top):=by
 rw[List.getD_eq_getElem?_getD]
 cases e:cs[i]? with
 |none=>simp only[Option.getD_none,VR]
 |some x=>
  obtain⟨y,h1,h2⟩:=(VRs.of_plain (ρ:=ρ) cs h).get e
  rw[e]at h1;cases h1;exact h2
theorem VRs.map_self {f:Nat→AVal} (h:∀i,VR ρ (f i) (f i)):∀(l:List Nat),VRs ρ (l.map f) (l.map f)
 | []=>.nil
 |x::xs=>.cons (h x) (VRs.map_self h xs)
theorem plains_cells {z:AVal} (h:z.plain=true):plains z.cells=true:=by
 cases z<;>first|exact h|(simp only[AVal.cells,plains,h,Bool.and_self];done)|(simp[AVal.cells,plains,h];done)|cases h
theorem zerosF_rep {n sz:Nat} {z:AVal} (h:z.plain=true):VRs ρ (zerosF n sz z) ((List.range (n*sz)).map fun q=>z.cells.getD (q%sz) .top):=
 VRs.map_self (fun _=>VR.self_getD (plains_cells h) _) _
theorem zerosF_len {n sz:Nat} {z:AVal}:(zerosF n sz z).length=n*sz:=by unfold zerosF;rw[List.length_map,List.length_range];rfl
theorem clearS_sound (hk:KS R ρ V k r K) (hr:r≠.bad) (hR:Rel R ρ V σ) (hE:EnvR ρ env e') {sz:Nat} {z:AVal} {x:Opd} (hz:z.plain=true) (hp:x.plain=true) (h:opClearS sz z x d k env V=r):vcOp P (.clearS sz z x) d K e' σ:=by
 have hx:=eo_rep hE hp
 unfold opClearS clearS1 at h
 split at h
 ·rename_i nl tok heq2
  rw[heq2]at hx;obtain⟨w,m1,m2⟩:=hx.val_inv
  obtain⟨ys,t,k1,rfl,_⟩:=m1.slice_inv
  rw[k1.nil_inv]at m2
  simp only[vcOp,m2];exact hk.fin hR hE (.plain rfl) h
 ·rename_i i o n c heq2
  rw[heq2]at hx;obtain⟨w,m1,m2⟩:=hx.val_inv;simp only[VR]at m1;obtain⟨y,hy,rfl⟩:=m1
  have hzr:VRs ρ (zerosF n sz z) ((List.range (n*sz)).map fun q=>z.cells.getD (q%sz) .top):=zerosF_rep hz
  have hzl:=hzr.length
  rw[zerosF_len]at hzl
  unfold clearSK at h
  split at h
  ·rename_i sz' cs hat
   obtain⟨hf,h⟩:=bif_bad h hr
   simp only[Bool.and_eq_true,ble_eq,decide_eq_true_eq]at hf
   have hf1:o+n*sz≤cs.length:=fits_some hf.1
   rw[putAt_eq (by rw[zerosF_len];exact hf1)]at h
   obtain⟨z',hz',⟨ds,d1,d2,d3⟩,_⟩:=hR.get hat (by intro hh;cases hh)
   rw[hy]at hz';cases hz'
   obtain⟨o1,o2,o3⟩:=blk_inv d2
   have dl:=d1.length
   have hsp:o+((List.range (n*sz)).map fun q=>z.cells.getD (q%sz) .top).length≤ds.length:=by rw[hzl];omega
   obtain⟨r1,r2⟩:=hR.put (σ':=σ.setObj y.b (splice (ds++y.rest) o ((List.range (n*sz)).map fun q=>z.cells.getD (q%sz) .top))) hy (live_of hat (by intro hh;cases hh)) hf.2 (but_setObj σ y.b _) (o:=.row sz' (splice cs o (zerosF n sz z)))
    ⟨_,d1.splice o hzr,by rw[blk_setObj,o2,o3,splice_app hsp],by rw[List.length_append,splice_len hsp,←List.length_append];exact d3⟩
   simp only[vcOp,m2]
   exact⟨ds++y.rest,o1,by rw[List.length_append];omega,hk.fin2 hE (.refl _) r2 r1 (.plain rfl) h⟩
  ·rename_i cs hat
   obtain⟨hf,h⟩:=bif_bad h hr
   simp only[Bool.and_eq_true,ble_eq,decide_eq_true_eq]at hf
   have hf1:o+n*sz≤cs.length:=fits_some hf.1
   rw[putAt_eq (by rw[zerosF_len];exact hf1)]at h
   obtain⟨z',hz',⟨ds,d1,d2⟩,_⟩:=hR.get hat (by intro hh;cases hh)
   rw[hy]at hz';cases hz'
   obtain⟨o1,o2,o3⟩:=blk_inv d2
   have dl:=d1.length
   obtain⟨r1,r2⟩:=hR.put (σ':=σ.setObj y.b (splice ds o ((List.range (n*sz)).map fun q=>z.cells.getD (q%sz) .top))) hy (live_of hat (by intro hh;cases hh)) hf.2 (but_setObj σ y.b _) (o:=.obj (splice cs o (zerosF n sz z)))
    ⟨_,d1.splice o hzr,by rw[blk_setObj,o2,o3]⟩
   simp only[vcOp,m2]
   exact⟨ds,o1,by omega,hk.fin2 hE (.refl _) r2 r1 (.plain rfl) h⟩
  ·exact absurd h.symm hr
 ·exact absurd h.symm hr
end
theorem RepC.slice_shut {I:Sealed} {v:Value} {xs ys:List AVal} {nl:Bool} {tok:Option Nat} (h:RepC I v (.slice xs nl tok)) (hl:ys.length=xs.length) (hc:∀i,(ys.getD i .top).cells.length=(xs.getD i .top).cells.length)
  (hr:∀i j,((xs.getD i .top).cells.getD j .top).Le ((ys.getD i .top).cells.getD j .top)):RepC I v (.slice ys nl none):=by
 cases h with
 |nilS=>have:ys=[]:=List.length_eq_zero_iff.1 hl;subst this;exact .nilS
 |slice b o n cap sz xs tok vs hl1 hc1 hm hs h hr1 ht=>
  exact .slice b o n cap sz ys none vs (hl.trans hl1) hc1 hm (fun i hi=>(hc i).trans (hs i hi)) h (fun i j=>hr i j I _ (hr1 i j)) (fun g hg=>by cases hg)
 |sliceZ a=>have:ys=[]:=List.length_eq_zero_iff.1 hl;subst this;exact .sliceZ a
theorem shuts_len:∀(xs:List AVal),(shuts xs).length=xs.length
 | []=>rfl
 |x::xs=>by show(shuts xs).length+1=xs.length+1;rw[shuts_len xs]
theorem getD_shuts:∀(xs:List AVal) (i:Nat),(shuts xs).getD i .top=(xs.getD i .top).shut
 | [],i=>by simp[shuts,AVal.shut]
 |x::xs,0=>rfl
 |x::xs,i+1=>by
  show(x.shut::shuts xs).getD (i+1) .top=_
  simp only[List.getD_cons_succ]
  exact getD_shuts xs i
theorem cells_shut (v:AVal):v.shut.cells=shuts v.cells:=by
 cases v<;>simp only[AVal.shut,AVal.cells,shuts]
theorem AVal.one_cell {x:AVal} (h:x.cells=[x]) (hx:x.Le x.shut) (j:Nat):(x.cells.getD j .top).Le (x.cells.getD j .top).shut:=by
 rw[h]
 cases j with
 |zero=>exact hx
 |succ j=>simpa[AVal.shut]using AVal.Le.refl .top
mutual
theorem AVal.le_shut:∀(v:AVal),v.Le v.shut
 |.top=>.refl _
 |.bool _=>.refl _
 |.int _ _=>.refl _
 |.str _=>.refl _
 |.nilP=>.refl _
 |.ptr _ _=>.refl _
 |.raw _ _=>.refl _
 |.ref _ _ _ _=>.refl _
 |.nilI=>.refl _
 |.nilF=>.refl _
 |.map _=>.refl _
 |.slice xs nl tok=>fun I v h=>by
  refine h.slice_shut (ys:=shuts xs) (shuts_len xs) (fun i=> ?_) (fun i j=> ?_)
  ·rw[getD_shuts,cells_shut,shuts_len]
  ·rw[getD_shuts,cells_shut,getD_shuts];exact AVal.les_cells xs i j
 |.agg cs=>fun I v h=>by
  cases h with
  |agg vs as hl hr=>exact .agg vs _ (hl.trans (shuts_len cs).symm) (fun j=>by rw[getD_shuts];exact AVal.les cs j I _ (hr j))
 |.tuple cs=>fun I v h=>by
  cases h with
  |tuple vs as hl hr=>exact .tuple vs _ (hl.trans (shuts_len cs).symm) (fun j=>by rw[getD_shuts];exact AVal.les cs j I _ (hr j))
 |.sptr cs=>fun I v h=>by
  cases h with
  |sptr b o cs vs h hr=>exact .sptr b o _ vs (fun j hj=>h j (by rw[shuts_len]at hj;exact hj)) (fun j=>by rw[getD_shuts];exact AVal.les cs j I _ (hr j))
 |.iface t x=>fun I v h=>by
  cases h with
  |iface t v a h=>exact .iface t _ _ (AVal.le_shut x I _ h)
 |.func fn f c=>fun I v h=>by
  cases h with
  |func fn f' c' as bs h1 h2 hr1 hr2=>exact .func fn _ _ _ _ (h1.trans (shuts_len f).symm) (h2.trans (shuts_len c).symm) (fun j=>by rw[getD_shuts];exact AVal.les f j I _ (hr1 j)) (fun j=>by rw[getD_shuts];exact AVal.les c j I _ (hr2 j))
theorem AVal.les:∀(cs:List AVal) (j:Nat),(cs.getD j .top).Le (cs.getD j .top).shut
 | [],j=>by simpa[AVal.shut]using AVal.Le.refl .top
 |x::xs,0=>AVal.le_shut x
 |x::xs,j+1=>by simpa using AVal.les xs j
theorem AVal.les_cells:∀(xs:List AVal) (i j:Nat),((xs.getD i .top).cells.getD j .top).Le ((xs.getD i .top).cells.getD j .top).shut
 | [],i,j=>by
  have:(([]:List AVal).getD i .top).cells=[.top]:=by simp[AVal.cells]
  rw[this]
  cases j<;>simpa[AVal.shut]using AVal.Le.refl .top
 |x::xs,i+1,j=>by simpa using AVal.les_cells xs i j
 |.agg cs::xs,0,j=>AVal.les cs j
 |(.top)::xs,0,j=>AVal.one_cell rfl (AVal.le_shut (.top)) j
 |(.bool b)::xs,0,j=>AVal.one_cell rfl (AVal.le_shut (.bool b)) j
 |(.int k n)::xs,0,j=>AVal.one_cell rfl (AVal.le_shut (.int k n)) j
 |(.str s)::xs,0,j=>AVal.one_cell rfl (AVal.le_shut (.str s)) j
 |(.nilP)::xs,0,j=>AVal.one_cell rfl (AVal.le_shut (.nilP)) j
 |(.ptr b o)::xs,0,j=>AVal.one_cell rfl (AVal.le_shut (.ptr b o)) j
 |(.sptr cs)::xs,0,j=>AVal.one_cell rfl (AVal.le_shut (.sptr cs)) j
 |(.slice ys nl t)::xs,0,j=>AVal.one_cell rfl (AVal.le_shut (.slice ys nl t)) j
 |(.raw g n)::xs,0,j=>AVal.one_cell rfl (AVal.le_shut (.raw g n)) j
 |(.ref b o n c)::xs,0,j=>AVal.one_cell rfl (AVal.le_shut (.ref b o n c)) j
 |(.tuple vs)::xs,0,j=>AVal.one_cell rfl (AVal.le_shut (.tuple vs)) j
 |(.iface t v)::xs,0,j=>AVal.one_cell rfl (AVal.le_shut (.iface t v)) j
 |(.nilI)::xs,0,j=>AVal.one_cell rfl (AVal.le_shut (.nilI)) j
 |(.func fn f c)::xs,0,j=>AVal.one_cell rfl (AVal.le_shut (.func fn f c)) j
 |(.nilF)::xs,0,j=>AVal.one_cell rfl (AVal.le_shut (.nilF)) j
 |(.map r)::xs,0,j=>AVal.one_cell rfl (AVal.le_shut (.map r)) j
end
end Go.AL
