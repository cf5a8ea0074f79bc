/-
  A WALKER OF CODE IN SMALL, part 25: all code; functions gone through where they are called.
-/
import Derived.Test.YtfoeaeeaflmkfaaGreatSX21
import Derived.Test.YtfoeaeeaflmkfaaGreatAL25
set_option linter.unusedSectionVars false
set_option linter.unusedVariables false
set_option linter.unusedSimpArgs false
namespace Go.AL.SX
variable {T:Tab} [TabOk T] {E:En} {ρ ρ':Val} {G G':Nat→Cl} {W:SW} {V:VS} {se:SE} {env:VE}
theorem codeS_ok {an:An} {call:Nat→Callee'} {sc:SC} (hsc:SCok T call sc):∀(c:ACode) (la:List LA),CodeOk T (codeS T an sc c la) (codeR c call rounds none)
 |.skip,la=>fun E hE ρ G W V se env outs hS hSE ho=>by
  cases ho
  exact⟨.normal,env,V,se,W,ρ,G,rfl,List.mem_singleton.2 rfl,.refl _ _,hS,hSE⟩
 |.region ops,la=>fun E hE ρ G W V se env outs hS hSE ho=>outN_ok (opsS_ok hsc hE ops hS hSE) ho
 |.drawn B ops,la=>fun E hE ρ G W V se env outs hS hSE ho=>outN_ok (drawnS_ok hsc hE ops hS (forget_ok hSE ops)) ho
 |.seq a b,la=>seqC_ok (codeS_ok hsc a la) (codeS_ok hsc b (tlLA (nLoops a) la))
 |.cond c a b,la=>fun E hE ρ G W V se env outs hS hSE ho=>by
  simp only[codeS]at ho
  split at ho
  ·rename_i s hs
   obtain⟨e1,c1⟩:=ev_ok hSE hs
   split at ho
   ·rename_i f hf
    obtain⟨e2,c2⟩:=toB_ok (ρ:=ρ) hf
    obtain⟨W',l,k1,k2,k3,k4,k5⟩:=both_ok hS (c2 _ c1) ho
    have hSE':SatE ρ W'.nv se env:=by rw[k3];exact hSE
    have hrun:codeR (.cond c a b) call rounds none env V= @Bool.rec (fun _=>ER) (codeR b call rounds none env V) (codeR a call rounds none env V) (f.ev ρ):=by
     show Go.AL.condT (eo c env) _ _ env V=_
     rw[e1,e2];rfl
    rw[hrun]
    cases hv:f.ev ρ with
    |true=>
     rw[hv]at k4
     exact((codeS_ok hsc a la E hE ρ G W' V se env l k2 hSE' k4).mem k5).later k1
    |false=>
     rw[hv]at k4
     exact((codeS_ok hsc b (tlLA (nLoops a) la) E hE ρ G W' V se env l k2 hSE' k4).mem k5).later k1
   ·cases ho
  ·cases ho
 |.block id b,la=>block_ok (codeS_ok hsc b la)
 |.loop b,la=>fun E hE ρ G W V se env outs hS hSE ho=>by
  simp only[codeS]at ho
  split at ho
  ·rename_i hn
   have hrun:codeR (.loop b) call rounds none env V=loopN (codeR b call rounds none) rounds env V:=by
    show loopR (nextSlot b) (codeR b call rounds) rounds env V=_
    rw[hn];rfl
   rw[hrun]
   exact loopS_ok (codeS_ok hsc b (tlLA 1 la)) E hE ρ G W V se env outs hS hSE ho
  ·cases ho
 |.exit id,la=>fun E hE ρ G W V se env outs hS hSE ho=>by
  cases ho
  exact⟨.exit id,env,V,se,W,ρ,G,rfl,List.mem_singleton.2 rfl,.refl _ _,hS,hSE⟩
 |.ret,la=>fun E hE ρ G W V se env outs hS hSE ho=>by
  cases ho
  exact⟨.ret,env,V,se,W,ρ,G,rfl,List.mem_singleton.2 rfl,.refl _ _,hS,hSE⟩
theorem args_ok {n:Nat}:∀{l:List SV} {i:Nat} {se:SE} {env:VE},SatE ρ n se env→cls n l=true→SatE ρ n (argsS l i se) (argsE (evs ρ l) i env)
 | [],i,se,env,h,_=>h
 |s::l,i,se,env,h,hc=>args_ok (l:=l) (h.put i (x:=.val s) rfl (and2 hc).1) (and2 hc).2
theorem lf_ok (ρ:Val) (n:Nat):SatE ρ n .lf .lf:=⟨fun s=>by rw[sat_lf];trivial,fun s=>by rw[sat_lf];rfl⟩
theorem resS_ok (h:Sat T E ρ G W V) (he:SatE ρ W.nv se env) {r:ARes} {s:SV} {W':SW} (hr:resS T se W r=some (s,W')):∃ρ',Later ρ W ρ' W'∧Sat T E ρ' G W' V∧s.cl W'.nv=true∧resE env V r=some (s.ev ρ'):=by
 cases r with
 |tmp t=>
  simp only[resS]at hr
  obtain⟨h1,h2⟩:=eo_ok he (.tmp t)
  split at hr
  ·rename_i x hx
   cases hr
   rw[hx]at h1 h2
   simp only[EntOk]at h1
   refine⟨ρ,.refl _ _,h,h2,?_⟩
   simp only[resE]
   rw[h1]
  ·cases hr
 |cell agg n t=>
  simp only[resS]at hr
  obtain⟨h1,h2⟩:=eo_ok he (.tmp t)
  split at hr
  ·rename_i b o hx
   rw[hx]at h1
   simp only[EntOk]at h1
   simp only[resE]
   rw[h1]
   have hb:=he.ent b
   have hbc:=he.cl b
   simp only[loadS]at hr
   split at hr
   ·rename_i l hl
    rw[hl]at hb hbc
    simp only[EntOk]at hb
    split at hr
    ·rename_i q hq
     cases hr
     obtain⟨p1,p2⟩:=partS_ok (n:=W.nv) (ρ:=ρ) hq
     refine⟨ρ,.refl _ _,h,p2 hbc,?_⟩
     simp only
     rw[loadB_eq,hb]
     exact p1
    ·cases hr
   ·cases hr
  ·rename_i v o hx
   rw[hx]at h1 h2
   simp only[EntOk,SV.ev]at h1
   obtain⟨ρ',i,m1,m2,m3,m4,m5⟩:=loadP_ok h (bltN h2) hr
   refine⟨ρ',m1,m2,m3,?_⟩
   simp only[resE]
   rw[h1,m4]
   show loadC agg n (0+o) (objCells V i)=_
   rw[Nat.zero_add];exact m5
  ·rename_i v hx
   rw[hx]at h1 h2
   simp only[EntOk,SV.ev]at h1
   obtain⟨ρ',i,m1,m2,m3,m4,m5⟩:=loadP_ok h (bltN h2) hr
   refine⟨ρ',m1,m2,m3,?_⟩
   simp only[resE]
   rw[h1,m4]
   exact m5
  ·cases hr
theorem ressS_ok:∀{res:List ARes} {ρ:Val} {W:SW} {ss:List SV} {W':SW},Sat T E ρ G W V→SatE ρ W.nv se env→ressS T se res W=some (ss,W')→∃ρ',Later ρ W ρ' W'∧Sat T E ρ' G W' V∧cls W'.nv ss=true∧ressE env V res=some (evs ρ' ss)
 | [],ρ,W,ss,W',h,he,hr=>by cases hr;exact⟨ρ,.refl _ _,h,rfl,rfl⟩
 |r::l,ρ,W,ss,W',h,he,hr=>by
  simp only[ressS]at hr
  split at hr
  ·rename_i s W1 h1
   split at hr
   ·rename_i ss1 W2 h2
    cases hr
    obtain⟨ρ1,k1,k2,k3,k4⟩:=resS_ok h he h1
    obtain⟨ρ2,m1,m2,m3,m4⟩:=ressS_ok k2 (he.later k1) h2
    obtain⟨n1,n2⟩:=m1.ev k3
    refine⟨ρ2,k1.trans m1,m2,by simp only[cls,n2,m3];rfl,?_⟩
    show resC (resE env V r) (ressE env V l)=_
    rw[k4,m4]
    simp only[evs,n1];rfl
   ·cases hr
  ·cases hr
theorem tupS_ev (ρ:Val) (l:List SV):(tupS l).ev ρ=tupO (evs ρ l):=by
 cases l with
 |nil=>rfl
 |cons a l=>cases l<;>rfl
theorem tupS_cl {n:Nat} {l:List SV} (h:cls n l=true):(tupS l).cl n=true:=by
 cases l with
 |nil=>rfl
 |cons a l=>
  cases l with
  |nil=>exact(and2 h).1
  |cons b l=>exact h
theorem endS_mem {res:List ARes}:∀{l:List OUT} {o:List (SV × SW)},endS T res l=some o→∀x e W,(x,e,W)∈l→(∀i,x≠.exit i)∧∃ss W',ressS T e res W=some (ss,W')∧(tupS ss,W')∈o
 | [],o,_,x,e,W,h=>by cases h
 |(x0,e0,W0)::l,o,ho,x,e,W,h=>by
  have step:(∀i,x0≠.exit i)∧∃ss W' r,ressS T e0 res W0=some (ss,W')∧endS T res l=some r∧o=(tupS ss,W')::r:=by
   cases x0 with
   |exit i=>cases ho
   |normal=>
    simp only[endS]at ho
    split at ho
    ·rename_i ss W' r h1 h2;cases ho;exact⟨(fun i hh=>by cases hh),ss,W',r,h1,h2,rfl⟩
    ·cases ho
   |ret=>
    simp only[endS]at ho
    split at ho
    ·rename_i ss W' r h1 h2;cases ho;exact⟨(fun i hh=>by cases hh),ss,W',r,h1,h2,rfl⟩
    ·cases ho
  obtain⟨h0,ss,W',r,h1,h2,h3⟩:=step
  rcases List.mem_cons.1 h with h|h
  ·cases h;exact⟨h0,ss,W',h1,by rw[h3];exact List.mem_cons_self ..⟩
  ·obtain⟨q0,ss',W'',q1,q2⟩:=endS_mem h2 x e W h
   exact⟨q0,ss',W'',q1,by rw[h3];exact List.mem_cons_of_mem _ q2⟩
theorem inS_ok {an:An} {la:List LA} {af:AFun} {call:Nat→Callee'} {sc:SC} (hsc:SCok T call sc) (hE:EnOk E) (h:Sat T E ρ G W V) {as:List SV} {outs:List (SV × SW)} (hc:cls W.nv as=true) (ho:inS T an la af sc as W=some outs):
  ∃a V' s W' ρ' G',runF call af (evs ρ as) V=.got a V'∧(s,W')∈outs∧Later ρ W ρ' W'∧Sat T E ρ' G' W' V'∧s.ev ρ'=a∧s.cl W'.nv=true:=by
 unfold inS at ho
 obtain⟨hn,ho⟩:=cond_some ho
 split at ho
 ·rename_i l hl
  obtain⟨x,env',V',se',W',ρ',G',b1,b2,b3,b4,b5⟩:=codeS_ok hsc af.body la E hE ρ G W V _ (argsE (evs ρ as) 0 .lf) l h (args_ok (lf_ok ρ W.nv) hc) hl
  obtain⟨q0,ss,W2,q1,q2⟩:=endS_mem ho x se' W' b2
  obtain⟨ρ2,k1,k2,k3,k4⟩:=ressS_ok b4 b5 q1
  refine⟨_,V',tupS ss,W2,ρ2,G',?_,q2,b3.trans k1,k2,rfl,tupS_cl k3⟩
  have hn':Nat.ble (lenF (evs ρ as) 0) af.n=true:=by
   rw[lenF_eq,Nat.zero_add,evs_len,←lenS_eq];exact hn
  show(bif Nat.ble (lenF (evs ρ as) 0) af.n then endK af (codeR af.body call rounds none (argsE (evs ρ as) 0 .lf) V)else .fail)=_
  rw[hn',b1]
  have hend:endK af (.done x env' V')=finK V' (ressE env' V' af.res):=by
   cases x with
   |exit i=>exact absurd rfl (q0 i)
   |normal=>rfl
   |ret=>rfl
  show endK af (.done x env' V')=_
  rw[hend,k4,tupS_ev];rfl
 ·cases ho
theorem scN_ok {F:FSs} {FTb:FT} {R0:Nat} (hF:∀f an la af,F f=.code an la af→Tr.get .none FTb f=.code af)
  (hC:∀f c,F f=.con c→∀k,R0≤k→SCok T (callN FTb k) (fun g as W=>if g=f then conS T c as W else none)):∀(n k:Nat),R0+n≤k→SCok T (callN FTb k) (scN T F n)
 |0,k,_=>fun E ρ G W V f as outs hE hS hc ho=>by cases ho
 |n+1,0,hk=>by omega
 |n+1,k+1,hk=>by
  intro E ρ G W V f as outs hE hS hc ho
  simp only[scN]at ho
  split at ho
  ·cases ho
  ·rename_i c hf
   exact hC f c hf (k+1) (by omega) E ρ G W V f as outs hE hS hc (by simpa using ho)
  ·rename_i an la af hf
   have ih:=scN_ok hF hC n k (by omega)
   obtain⟨a,V',s,W',ρ',G',q1,q2⟩:=inS_ok ih hE hS hc ho
   refine⟨a,V',s,W',ρ',G',?_,q2⟩
   show callF (callN FTb k) (Tr.get .none FTb f) (evs ρ as) V=_
   rw[hF f an la af hf]
   exact q1
end Go.AL.SX
namespace Go.AL.SX
variable {T:Tab} [TabOk T] {E:En} {ρ ρ':Val} {G G':Nat→Cl} {W:SW} {V V':VS}
noncomputable def cellsV (V:VS) (as:List AVal) (ce:List (Nat × List Nat)):List AVal:=ce.map fun p=>pathV V p.2 ((as[p.1]?).getD .top)
theorem readPs_ok {as:List SV}:∀{ce:List (Nat × List Nat)} {xs:List SV} {ρ:Val} {W W':SW},Sat T E ρ G W V→cls W.nv as=true→readPs T as ce W=some (xs,W')→∃ρ',Later ρ W ρ' W'∧Sat T E ρ' G W' V∧evs ρ' xs=cellsV V (evs ρ as) ce∧cls W'.nv xs=true
 | [],xs,ρ,W,W',h,hc,hr=>by cases hr;exact⟨ρ,.refl _ _,h,rfl,rfl⟩
 |(k,p)::r,xs,ρ,W,W',h,hc,hr=>by
  simp only[readPs]at hr
  split at hr
  ·rename_i s hs
   rw[nthS_eq]at hs
   split at hr
   ·rename_i x W1 h1
    split at hr
    ·rename_i ys W2 h2
     cases hr
     obtain⟨ρ1,k1,k2,k3,k4⟩:=readPath_ok h (cls_get hs hc) h1
     obtain⟨n1,n2⟩:=k1.evs hc
     obtain⟨ρ2,m1,m2,m3,m4⟩:=readPs_ok k2 n2 h2
     obtain⟨q1,q2⟩:=m1.ev k4
     refine⟨ρ2,k1.trans m1,m2,?_,by simp only[cls,q2,m4];rfl⟩
     simp only[evs,q1,m3,n1,k3]
     simp only[cellsV,List.map_cons]
     rw[evs_get hs];rfl
    ·cases hr
   ·cases hr
  ·cases hr
noncomputable def argV (ls:List (List AVal)) (v:Nat):AVal:=(((ls[v/100]?).getD [])[v%100]?).getD .top
noncomputable def argA (ls:List (List AVal)):At→Int
 |.i v=>intOf (argV ls v)
 |.l v=>lenOf (argV ls v)
noncomputable def argT (ls:List (List AVal)):List (Int × At)→Int
 | []=>0
 |(k,a)::r=>k*argA ls a+argT ls r
noncomputable def argSem (ls:List (List AVal)) (l:Lin):Int:=l.c+argT ls l.t
def clss (n:Nat) (ls:List (List SV)):Prop:=∀l∈ls,cls n l=true
theorem argV_ok {ls:List (List SV)} {v n:Nat} {s:SV} (ha:clss n ls) (h:argAt ls v=some s):argV (ls.map (evs ρ)) v=s.ev ρ∧s.cl n=true:=by
 unfold argAt at h
 have h1:Nat.div v 100=v/100:=rfl
 have h2:Nat.mod v 100=v%100:=rfl
 rw[h1,h2,nthS_eq]at h
 unfold argV
 rw[List.getElem?_map]
 split at h
 ·rename_i l hl
  rw[nthS_eq]at h
  rw[hl]
  simp only[Option.map_some,Option.getD_some]
  rw[evs_get h]
  exact⟨rfl,cls_get h (ha l (List.mem_of_getElem? hl))⟩
 ·cases h
theorem argLin_ok (h:Sat T E ρ G W V) {ls:List (List SV)} (ha:clss W.nv ls) {a:At} {l:Lin} (hl:argLin W ls a=some l):l.ev ρ=argA (ls.map (evs ρ)) a∧l.cl W.nv=true:=by
 cases a with
 |i v=>
  simp only[argLin]at hl
  split at hl
  ·rename_i s hs
   obtain⟨e1,c1⟩:=argV_ok (ρ:=ρ) ha hs
   split at hl
   ·rename_i k x hx
    cases hl
    obtain⟨e2,c2⟩:=toI_ok (ρ:=ρ) hx
    exact⟨by simp only[argA,e1,e2,intOf],c2 _ c1⟩
   ·cases hl
  ·cases hl
 |l v=>
  simp only[argLin]at hl
  split at hl
  ·rename_i s hs
   obtain⟨e1,c1⟩:=argV_ok (ρ:=ρ) ha hs
   split at hl
   ·rename_i x hx
    cases hl
    obtain⟨⟨xs,nl,tok,e2,e3⟩,c2⟩:=toLen_ok h hx
    exact⟨by simp only[argA,e1,e2,lenOf,e3],c2 c1⟩
   ·obtain⟨⟨xs,e2,e3⟩,c2⟩:=toSlen_ok h hl
    exact⟨by simp only[argA,e1,e2,lenOf,e3],c2 c1⟩
  ·cases hl
theorem argSum_ok (h:Sat T E ρ G W V) {ls:List (List SV)} (ha:clss W.nv ls):∀{t:List (Int × At)} {l:Lin},argSum W ls t=some l→l.ev ρ=argT (ls.map (evs ρ)) t∧l.cl W.nv=true
 | [],l,hl=>by cases hl;exact⟨by simp[argT],rfl⟩
 |(k,a)::r,l,hl=>by
  simp only[argSum]at hl
  split at hl
  ·rename_i x y hx hy
   cases hl
   obtain⟨h1,h2⟩:=argLin_ok h ha hx
   obtain⟨h3,h4⟩:=argSum_ok h ha hy
   exact⟨by rw[ev_add,ev_mul,h1,h3];rfl,cl_add (cl_mul h2) h4⟩
  ·cases hl
theorem argLins_ok (h:Sat T E ρ G W V) {ls:List (List SV)} (ha:clss W.nv ls):∀{l x:List Lin},argLins W ls l=some x→x.map (Lin.ev ρ)=l.map (argSem (ls.map (evs ρ)))∧∀y∈x,y.cl W.nv=true
 | [],x,hl=>by cases hl;exact⟨rfl,fun y hy=>by cases hy⟩
 |a::l,x,hl=>by
  simp only[argLins]at hl
  split at hl
  ·rename_i y z hy hz
   cases hl
   obtain⟨h1,h2⟩:=argSum_ok h ha hy
   obtain⟨h3,h4⟩:=argLins_ok h ha hz
   refine⟨?_,fun w hw=>(List.mem_cons.1 hw).elim (fun e=>e▸cl_addc h2) (h4 w)⟩
   simp only[List.map_cons,h3]
   rw[ev_addc,h1]
   simp only[argSem]
   rw[Int.add_comm]
  ·cases hl
theorem argLins_pos (h:Sat T E ρ G W V) {ls:List (List SV)} (ha:clss W.nv ls) {l x:List Lin} (hl:argLins W ls l=some x) (hg:geAll W x=true):∀y∈l,0≤argSem (ls.map (evs ρ)) y:=by
 intro y hy
 have:argSem (ls.map (evs ρ)) y∈l.map (argSem (ls.map (evs ρ))):=List.mem_map.2 ⟨y,hy,rfl⟩
 rw[←(argLins_ok h ha hl).1]at this
 obtain⟨z,hz,hq⟩:=List.mem_map.1 this
 rw[←hq];exact geAll_ok h hg z hz
theorem argLins_add (h:Sat T E ρ G W V) {ls:List (List SV)} (ha:clss W.nv ls) {l x:List Lin} (hl:argLins W ls l=some x) (hg:∀y∈l,0≤argSem (ls.map (evs ρ)) y):Sat T E ρ G (addGes x W) V∧(addGes x W).nv=W.nv:=by
 obtain⟨l1,l2⟩:=argLins_ok h ha hl
 refine addGes_ok h fun y hy=>⟨?_,l2 y hy⟩
 have:y.ev ρ∈x.map (Lin.ev ρ):=List.mem_map.2 ⟨y,hy,rfl⟩
 rw[l1]at this
 obtain⟨z,hz,hq⟩:=List.mem_map.1 this
 rw[←hq];exact hg z hz
theorem argSVs_ok {n:Nat} {ls:List (List SV)} (ha:clss n ls):∀{l:List Nat} {r:List SV},argSVs ls l=some r→evs ρ r=l.map (argV (ls.map (evs ρ)))∧cls n r=true
 | [],r,h=>by cases h;exact⟨rfl,rfl⟩
 |v::l,r,h=>by
  simp only[argSVs]at h
  split at h
  ·rename_i s q hs hq
   cases h
   obtain⟨h1,h2⟩:=argV_ok (ρ:=ρ) ha hs
   obtain⟨h3,h4⟩:=argSVs_ok ha hq
   exact⟨by simp only[evs,List.map_cons,h1,h3],by simp only[cls,h2,h4];rfl⟩
  ·cases h
noncomputable def prSem (ls:List (List AVal)) (p:Nat × List Nat):Nat × List AVal:=(p.1,p.2.map (argV ls))
theorem argPrs_ok {n:Nat} {ls:List (List SV)} (ha:clss n ls):∀{l:List (Nat × List Nat)} {q:List (Nat × List SV)},argPrs ls l=some q→q.map (fun p=>(p.1,evs ρ p.2))=l.map (prSem (ls.map (evs ρ)))∧∀p∈q,cls n p.2=true
 | [],q,h=>by cases h;exact⟨rfl,fun p hp=>by cases hp⟩
 |(k,l)::r,q,h=>by
  simp only[argPrs]at h
  split at h
  ·rename_i s q' hs hq
   cases h
   obtain⟨h1,h2⟩:=argSVs_ok (ρ:=ρ) ha hs
   obtain⟨h3,h4⟩:=argPrs_ok ha hq
   exact⟨by simp only[List.map_cons,h1,h3,prSem],fun p hp=>(List.mem_cons.1 hp).elim (fun e=>e▸h2) (h4 p)⟩
  ·cases h
theorem argPrs_pos (hO:Ok T G ρ W) {n:Nat} {ls:List (List SV)} (ha:clss n ls) {l:List (Nat × List Nat)} {q:List (Nat × List SV)} (hq:argPrs ls l=some q) (hp:prAll T W q=true):∀p∈l,phi T (prSem (ls.map (evs ρ)) p).1 (prSem (ls.map (evs ρ)) p).2:=by
 intro p hm
 have:prSem (ls.map (evs ρ)) p∈l.map (prSem (ls.map (evs ρ))):=List.mem_map.2 ⟨p,hm,rfl⟩
 rw[←(argPrs_ok ha hq).1]at this
 obtain⟨y,hy,e⟩:=List.mem_map.1 this
 rw[←e];exact prAll_ok hO hp y hy
theorem argPrs_add (h:Sat T E ρ G W V) {ls:List (List SV)} (ha:clss W.nv ls) {l:List (Nat × List Nat)} {q:List (Nat × List SV)} (hq:argPrs ls l=some q) (hp:∀p∈l,phi T (prSem (ls.map (evs ρ)) p).1 (prSem (ls.map (evs ρ)) p).2):
  Sat T E ρ G (addPrs q W) V∧(addPrs q W).nv=W.nv:=by
 obtain⟨h1,h2⟩:=argPrs_ok (ρ:=ρ) ha hq
 refine addPrs_ok h fun p hm=>⟨?_,h2 p hm⟩
 have:(p.1,evs ρ p.2)∈q.map (fun p=>(p.1,evs ρ p.2)):=List.mem_map.2 ⟨p,hm,rfl⟩
 rw[h1]at this
 obtain⟨y,hy,e⟩:=List.mem_map.1 this
 have:=hp y hy
 rw[e]at this;exact this
theorem noteAll_ok:∀{q:List (Nat × List SV)} {W:SW},Sat T E ρ G W V→(∀p∈q,phi T p.1 (evs ρ p.2)∧cls W.nv p.2=true)→Sat T E ρ G (noteAll T q W) V∧(noteAll T q W).nv=W.nv
 | [],W,h,_=>⟨h,rfl⟩
 |(k,as)::r,W,h,hq=>by
  obtain⟨h1,h2⟩:=hq _ (List.mem_cons_self ..)
  obtain⟨n1,n2⟩:=h.note h2 h1
  have:=noteAll_ok (q:=r) n1 fun p hp=>by rw[n2];exact hq p (List.mem_cons_of_mem _ hp)
  rw[n2]at this;exact this
theorem argPrs_note (h:Sat T E ρ G W V) {ls:List (List SV)} (ha:clss W.nv ls) {l:List (Nat × List Nat)} {q:List (Nat × List SV)} (hq:argPrs ls l=some q) (hp:∀p∈l,phi T (prSem (ls.map (evs ρ)) p).1 (prSem (ls.map (evs ρ)) p).2):
  Sat T E ρ G (noteAll T q W) V∧(noteAll T q W).nv=W.nv:=by
 obtain⟨h1,h2⟩:=argPrs_ok (ρ:=ρ) ha hq
 refine noteAll_ok h fun p hm=>⟨?_,h2 p hm⟩
 have:(p.1,evs ρ p.2)∈q.map (fun p=>(p.1,evs ρ p.2)):=List.mem_map.2 ⟨p,hm,rfl⟩
 rw[h1]at this
 obtain⟨y,hy,e⟩:=List.mem_map.1 this
 have:=hp y hy
 rw[e]at this;exact this
theorem deadW_no (h:Ok T G ρ W):deadW W=false:=by
 cases hd:deadW W with
 |false=>rfl
 |true=>
  obtain⟨l,hl,hq⟩:=List.any_eq_true.1 hd
  have h0:=h.ge l hl
  split at hq
  ·rename_i ht
   rw[leZ_eq]at hq
   simp only[Lin.ev,ht,evT]at h0
   have:¬(0:Int)≤l.c:=by simpa using hq
   omega
  ·cases hq
inductive touch (con:Con) (G:Nat→Cl) (as:List AVal):Nat→Prop
 |cls (i c:Nat) (hc:c∈con.M) (h:G i=.cls c):touch con G as i
 |arg (i k:Nat) (a:AVal) (hk:k∈con.P) (ha:as[k]? =some a) (h:idxOf a=some i):touch con G as i
 |row (i:Nat) (h:i∈gtoks con.ps as):touch con G as i
 |tok (i j o:Nat) (h:G i=.tok j o) (hj:touch con G as j):touch con G as i
def enOf (con:Con) (V:VS) (G:Nat→Cl) (as:List AVal):En:=⟨V,G,touch con G as⟩
structure World (T:Tab) (E:En) (G:Nat→Cl) (V:VS):Prop where
 wf:∀i c,G i=.cls c→i<V.n∧ObjOk T G V (fun _ _=>False) i (T.K c)
 out:∀i,V.n≤i→G i=.no
 n:E.V.n≤V.n
 g:V.g=E.V.g
 fr:∀i,i<E.V.n→¬E.Tc i→V.at i=E.V.at i∧G i=E.G i
 cls:∀i,i<E.V.n→∀c,G i=.cls c↔E.G i=.cls c
 tok:∀g,g<E.V.n→∀i j,G g=.tok i j→E.G g=.tok i j∨E.Tc g
 tkw:∀g i j,G g=.tok i j→i<V.n
structure Entry (T:Tab) (con:Con) (V:VS) (G:Nat→Cl) (as:List AVal):Prop where
 en:EnOk (enOf con V G as)
 wd:World T (enOf con V G as) G V
 len:con.ps.length=as.length
 gives:∀(j:Nat) (t:Ty) (a:AVal),con.ps[j]? =some t→as[j]? =some a→Gives T (enOf con V G as) G V t a
 nd:(gtoks con.ps as).Nodup
 nums:∀l∈con.pre,0≤argSem [as,[],cellsV V as con.ce] l
 pr:∀q∈con.pp,phi T (prSem [as,[],cellsV V as con.ce] q).1 (prSem [as,[],cellsV V as con.ce] q).2
structure Exit (T:Tab) (con:Con) (V:VS) (G:Nat→Cl) (as:List AVal) (p:List Ty × List Lin × List (Nat × List Nat)) (rs:List AVal) (V':VS) (G':Nat→Cl):Prop where
 wd:World T (enOf con V G as) G' V'
 len:p.1.length=rs.length
 gives:∀(j:Nat) (t:Ty) (a:AVal),p.1[j]? =some t→rs[j]? =some a→Gives T (enOf con V G as) G' V' t a
 nd:(gtoks p.1 rs).Nodup
 nums:∀l∈p.2.1,0≤argSem [as,rs,cellsV V as con.ce,cellsV V' as con.ce] l
 pr:∀q∈p.2.2,phi T (prSem [as,rs,cellsV V as con.ce,cellsV V' as con.ce] q).1 (prSem [as,rs,cellsV V as con.ce,cellsV V' as con.ce] q).2
def ConSem (T:Tab) (call:Callee') (con:Con):Prop:=
 ∀V G as,Entry T con V G as→∃rs V' G' p,call as V=.got (tupO rs) V'∧p∈con.outs∧Exit T con V G as p rs V' G'
theorem world_sto (h:World T E G V) (hb:W.bro=[]) (hc:∀p∈W.cells,∃i cs c,ρ p.1=.ptr i 0∧V.at i=.obj cs∧cs[p.2.1]? =some (p.2.2.ev ρ)∧G i=.cls c) (hl:∀p∈W.live,LiveC E G V p.2.1 p.2.2 (ρ p.1))
  (hd:W.live.Pairwise fun p q=>∀g,tokOf (ρ p.1)=some g→tokOf (ρ q.1)≠some g) (hw:∀v∈W.wr,∀i,idxOf (ρ v)=some i→E.V.n≤i∨E.Tc i) (hM:∀c∈W.M,∀i,E.G i=.cls c→E.Tc i):Sto T E ρ G W V where
 wf i c hi:=by
  have:Xof ρ W.bro=fun _ _=>False:=by
   funext i j
   rw[hb]
   exact propext ⟨(fun⟨p,hp,_⟩=>by cases hp),fun h=>h.elim⟩
  rw[this];exact h.wf i c hi
 cells:=hc
 live:=hl
 dis:=hd
 wr:=hw
 M:=hM
 out:=h.out
 n:=h.n
 g:=h.g
 fr:=h.fr
 cls:=h.cls
 tok:=h.tok
 tkw:=h.tkw
theorem Sat.world (h:Sat T E ρ G W V) (hb:W.bro=[]):World T E G V where
 wf i c hi:=by
  have:Xof ρ W.bro=fun _ _=>False:=by
   funext i j
   rw[hb]
   exact propext ⟨(fun⟨p,hp,_⟩=>by cases hp),fun h=>h.elim⟩
  rw[←this];exact h.sto.wf i c hi
 out:=h.sto.out
 n:=h.sto.n
 g:=h.sto.g
 fr:=h.sto.fr
 cls:=h.sto.cls
 tok:=h.sto.tok
 tkw:=h.sto.tkw
theorem ptrVars_ok {as:List SV}:∀{P:List Nat} {v:Nat},v∈ptrVars as P→∃k∈P,as[k]? =some (.x v)
 | [],v,h=>by cases as<;>cases h
 |k::l,v,h=>by
  have h:v∈(match nthS as k with
   |some (.x v)=>v::ptrVars as l
   |_=>ptrVars as l):=by cases as<;>exact h
  split at h
  ·rename_i w hw
   rcases List.mem_cons.1 h with rfl|h
   ·exact⟨k,List.mem_cons_self ..,by rw[←nthS_eq];exact hw⟩
   ·obtain⟨k',h1,h2⟩:=ptrVars_ok h
    exact⟨k',List.mem_cons_of_mem _ h1,h2⟩
  ·obtain⟨k',h1,h2⟩:=ptrVars_ok h
   exact⟨k',List.mem_cons_of_mem _ h1,h2⟩
theorem tyOf_lf (W:SW) (h:W.ty=.lf) (v:Nat):W.tyOf v=.any:=by
 unfold SW.tyOf;rw[h]
 cases pathOf v<;>rfl
theorem clss_nil {n:Nat}:clss n []:=fun l h=>by cases h
theorem clss_cons {n:Nat} {l:List SV} {ls:List (List SV)} (h:cls n l=true) (hs:clss n ls):clss n (l::ls):=fun x hx=>(List.mem_cons.1 hx).elim (fun e=>e▸h) (hs x)
theorem begin_ok {con:Con} {as:List AVal} (he:Entry T con V G as) {ss c0:List SV} {W:SW} (hb:begin T con=some (ss,c0,W)):
  ∃ρ,Sat T (enOf con V G as) ρ G W V∧evs ρ ss=as∧cls W.nv ss=true∧evs ρ c0=cellsV V as con.ce∧cls W.nv c0=true:=by
 unfold begin at hb
 cases hf:freshTys (W00 con) con.ps with
 |mk s1 W1=>
  rw[hf]at hb
  simp only at hb
  split at hb
  case h_2=>cases hb
  rename_i c1 W2 hrd
  split at hb
  ·rename_i l q hl hq
   simp only[Option.some.injEq,Prod.mk.injEq]at hb
   obtain⟨rfl,rfl,rfl⟩:=hb
   have h0:Sat T (enOf con V G as) (fun _=>.top) G (W00 con) V:=by
    refine⟨⟨fun v=>by rw[tyOf_lf _ rfl];exact .any _,fun v _=>tyOf_lf _ rfl v,(fun l hl=>by cases hl),(fun l hl=>by cases hl),(fun l hl=>by cases hl),(fun l hl=>by cases hl)⟩,⟨(fun l hl=>by cases hl),(fun l hl=>by cases hl),(fun l hl=>by cases hl),(fun l hl=>by cases hl),(fun l hl=>by cases hl),(fun l hl=>by cases hl),(fun l hl=>by cases hl),(fun l hl=>by cases hl)⟩,?_⟩
    exact world_sto he.wd rfl (fun p hp=>by cases hp) (fun p hp=>by cases hp) .nil (fun p hp=>by cases hp) (fun c hc i hi=>.cls i c hc hi)
   obtain⟨ρ1,k1,k2,k3,k4⟩:=freshTys_gives con.ps h0 he.len he.gives he.nd (fun g hg p hp=>by cases hp) hf
   obtain⟨ρ,r1,r2,r3,r4⟩:=readPs_ok k2 k4 hrd
   obtain⟨n1,n2⟩:=r1.evs k4
   rw[k3]at n1 r3
   have hcl:clss W2.nv [s1,[],c1]:=clss_cons n2 (clss_cons rfl (clss_cons r4 clss_nil))
   obtain⟨a1,a2⟩:=argLins_add r2 hcl hl (fun y hy=>by
    have:=he.nums y hy
    simp only[List.map_cons,List.map_nil,n1,r3]
    exact this)
   obtain⟨a1,a3⟩:=argPrs_add a1 (by rw[a2];exact hcl) hq (fun y hy=>by
    have:=he.pr y hy
    simp only[List.map_cons,List.map_nil,n1,r3]
    exact this)
   rw[a2]at a3
   have hwr:∀v∈ptrVars s1 con.P,v<W2.nv∧∀i,idxOf (ρ v)=some i→touch con G as i:=by
    intro v hv
    obtain⟨k,hk,hs⟩:=ptrVars_ok hv
    refine⟨bltN (cls_get hs n2),fun i hi=>.arg i k (ρ v) hk ?_ hi⟩
    rw[←n1];exact evs_get hs
   refine⟨ρ,⟨⟨a1.ok.ty,a1.ok.top,a1.ok.ge,a1.ok.fx,a1.ok.ln,a1.ok.pr⟩,⟨a1.clo.ge,a1.clo.fx,a1.clo.ln,a1.clo.cells,a1.clo.live,a1.clo.bro,fun v hv=> ?_,a1.clo.pr⟩,
    ⟨a1.sto.wf,a1.sto.cells,a1.sto.live,a1.sto.dis,fun v hv i hi=>.inr ((hwr v hv).2 i hi),a1.sto.M,a1.sto.out,a1.sto.n,a1.sto.g,a1.sto.fr,a1.sto.cls,a1.sto.tok,a1.sto.tkw⟩⟩,n1,?_,r3,?_⟩
   ·show v<(addPrs q (addGes l W2)).nv
    rw[a3];exact(hwr v hv).1
   ·show cls (addPrs q (addGes l W2)).nv s1=true
    rw[a3];exact n2
   ·show cls (addPrs q (addGes l W2)).nv c1=true
    rw[a3];exact r4
  ·cases hb
theorem conOk_mem {con:Con} {ss c0:List SV}:∀{l:List (SV × SW)},conOk T con ss c0 l=true→∀s W,(s,W)∈l→W.bro=[]∧∃p∈con.outs,conEnd T ss con.ce c0 (untup (lenS p.1) s) W p=true
 | [],_,s,W,h=>by cases h
 |(s0,W0)::l,ho,s,W,h=>by
  simp only[conOk]at ho
  obtain⟨h1,h2⟩:=and2 ho
  rcases List.mem_cons.1 h with h|h
  ·cases h
   split at h1
   ·rename_i hb
    obtain⟨p,hp,hq⟩:=List.any_eq_true.1 h1
    exact⟨hb,p,hp,hq⟩
   ·cases h1
  ·exact conOk_mem h2 s W h
theorem untup_ok {n:Nat} {s:SV} {m:Nat} (hl:n=(untup n s).length) (hc:s.cl m=true):s.ev ρ=tupO (evs ρ (untup n s))∧cls m (untup n s)=true:=by
 unfold untup at hl⊢
 split at hl
 ·exact⟨rfl,by simp only[cls,hc];rfl⟩
 ·rename_i hn
  split at hl
  ·rename_i l ht
   obtain⟨h1,h2⟩:=toTup_ok (ρ:=ρ) ht
   refine⟨?_,h2 _ hc⟩
   rw[h1]
   cases l with
   |nil=>rfl
   |cons a l=>
    cases l with
    |nil=>exact absurd hl hn
    |cons b l=>rfl
  ·exact absurd hl hn
theorem untup_cl {n:Nat} {s:SV} {m:Nat} (hc:s.cl m=true):cls m (untup n s)=true:=by
 unfold untup
 split
 ·simp only[cls,hc];rfl
 ·split
  ·rename_i l ht
   exact(toTup_ok (ρ:=fun _=>.top) ht).2 _ hc
  ·simp only[cls,hc];rfl
theorem runF_con {F:FSs} {call:Nat→Callee'} {n:Nat} {con:Con} {an:An} {la:List LA} {af:AFun} (hsc:SCok T call (scN T F n)) (hck:check T F n con an la af=true):ConSem T (runF call af) con:=by
 intro V G as he
 unfold check at hck
 split at hck
 ·rename_i ss c0 W hb
  obtain⟨ρ,h,e1,c1,e2,c2⟩:=begin_ok he hb
  split at hck
  ·rename_i o ho
   obtain⟨a,V',s,W',ρ',G',k1,k2,k3,k4,k5,k6⟩:=inS_ok hsc he.en h c1 ho
   obtain⟨m1,p,m2,m3⟩:=conOk_mem hck s W' k2
   unfold conEnd at m3
   split at m3
   case h_2=>cases m3
   rename_i d1 W2 hrd
   obtain⟨n1,n2⟩:=k3.evs c1
   obtain⟨n3,n4⟩:=k3.evs c2
   obtain⟨ρ2,r1,r2,r3,r4⟩:=readPs_ok k4 n2 hrd
   obtain⟨o1,o2⟩:=r1.evs n2
   obtain⟨o3,o4⟩:=r1.evs n4
   obtain⟨o5,o6⟩:=r1.ev k6
   rw[n1,e1]at r3
   split at m3
   ·rename_i l W3 l2 q2' hg hl hqq
    obtain⟨m3,m4⟩:=and2 m3
    obtain⟨q,q1,q2,q3,q4,q5,q6⟩:=giveTys_ok r2 hg
    rw[lenS_eq]at q3 hg hl hqq
    obtain⟨u1,u2⟩:=untup_ok (ρ:=ρ2) (n:=p.1.length) q3 o6
    have hcl:clss W2.nv [ss,untup p.1.length s,c0,d1]:=clss_cons o2 (clss_cons u2 (clss_cons o4 (clss_cons r4 clss_nil)))
    have hw:=k4.world m1
    refine⟨evs ρ2 (untup p.1.length s),V',G',p,?_,m2,⟨hw,by rw[evs_len];exact q3,fun j t a ht ha=>q4 j t a ht (by rw[lenS_eq];exact ha),by rw[lenS_eq]at q5;exact q5,fun x hx=> ?_,fun x hx=> ?_⟩⟩
    ·rw[←u1,o5,k5,←k1,←e1]
    ·have:=argLins_pos r2 hcl hl m3 x hx
     simp only[List.map_cons,List.map_nil,o1,n1,e1,o3,n3,e2,r3]at this
     exact this
    ·have:=argPrs_pos r2.ok hcl hqq m4 x hx
     simp only[List.map_cons,List.map_nil,o1,n1,e1,o3,n3,e2,r3]at this
     exact this
   ·cases m3
  ·cases hck
 ·cases hck
end Go.AL.SX
namespace Go.AL.SX
variable {T:Tab} [TabOk T] {E:En} {ρ ρ':Val} {G G':Nat→Cl} {W:SW} {V V':VS}
theorem ptrVar_idx {s:SV} {v i:Nat} (hp:ptrVar s=some v) (hi:idxOf (s.ev ρ)=some i):idxOf (ρ v)=some i:=by
 unfold ptrVar at hp
 split at hp
 ·cases hp;exact hi
 ·simp only[Option.some.injEq]at hp
  rw[hp]at hi
  simp only[SV.ev]at hi
  cases hv:ρ v<;>rw[hv]at hi<;>simp only[offP,idxOf]at hi<;>first|(cases hi;rfl)|cases hi
 ·cases hp
theorem mayP_ok (h:Sat T E ρ G W V) {as:List SV} {k i:Nat} {a:AVal} (hm:mayP W as k=true) (ha:(evs ρ as)[k]? =some a) (hi:idxOf a=some i):(E.V.n≤i∨E.Tc i)∧∃c,G i=.cls c∧classP W as k=some c:=by
 unfold mayP at hm
 split at hm
 ·rename_i s hs
  split at hm
  ·rename_i v hv
   have hs':=hs
   rw[nthS_eq]at hs'
   rw[evs_get hs']at ha
   cases ha
   have hidx:=ptrVar_idx hv hi
   have hty:=h.ok.ty v
   split at hm
   ·rename_i c nl hc
    obtain⟨h1,h2⟩:=and2 hm
    rw[hc]at hty
    have hcls:G i=.cls c:=by
     generalize ρ v=x at hty hidx
     cases hty with
     |ptr _ _ j hg=>simp only[idxOf,Option.some.injEq]at hidx;subst hidx;exact hg
     |nilP=>cases hidx
    refine⟨mayWr_ok h h2 hidx hcls,c,hcls,?_⟩
    unfold classP
    rw[hs]
    simp only
    rw[hv]
    simp only
    rw[hc]
   ·rename_i c nl hc
    obtain⟨h1,h2⟩:=and2 hm
    rw[hc]at hty
    have hcls:G i=.cls c:=by
     generalize ρ v=x at hty hidx
     cases hty with
     |map _ _ j hg=>simp only[idxOf,Option.some.injEq]at hidx;subst hidx;exact hg
     |nilM=>cases hidx
    refine⟨mayWr_ok h h2 hidx hcls,c,hcls,?_⟩
    unfold classP
    rw[hs]
    simp only
    rw[hv]
    simp only
    rw[hc]
   ·cases hm
  ·cases hm
 ·cases hm
theorem live_tok {sz e g:Nat} {a:AVal} (h:LiveC E G V sz e a) (hg:tokOf a=some g):∃xs nl,a=.slice xs nl (some g)∧V.at g=.opn xs.length sz e∧G g=.no∧(E.V.n≤g∨E.Tc g)∧g<V.n:=by
 rcases h with rfl|⟨xs,nl,g',rfl,h1,h2,h3,h4⟩
 ·cases hg
 ·simp only[tokOf,Option.some.injEq]at hg
  subst hg
  exact⟨xs,nl,rfl,h1,h2,h3,h4⟩
theorem conOuts_mem {as c0:List SV} {ce:List (Nat × List Nat)}:∀{l:List (List Ty × List Lin × List (Nat × List Nat))} {outs:List (SV × SW)} {W:SW},conOuts T W as ce c0 l=some outs→∀p∈l,∃rs W1 c1 W2 x q,freshTys W p.1=(rs,W1)∧readPs T as ce W1=some (c1,W2)∧argLins W2 [as,rs,c0,c1] p.2.1=some x∧argPrs [as,rs,c0,c1] p.2.2=some q∧(deadW (noteAll T q (addGes x W2))=false→(tupS rs,noteAll T q (addGes x W2))∈outs)
 | [],outs,W,_,p,hp=>by cases hp
 |(tys,fs,ps)::r,outs,W,h,p,hp=>by
  simp only[conOuts]at h
  cases hf:freshTys W tys with
  |mk rs W1=>
   rw[hf]at h
   simp only at h
   split at h
   case h_2=>cases h
   rename_i c1 W2 hrd
   split at h
   ·rename_i l q o hl hq ho
    cases h
    rcases List.mem_cons.1 hp with rfl|hp
    ·exact⟨rs,W1,c1,W2,l,q,hf,hrd,hl,hq,fun hd=>by rw[hd];exact List.mem_cons_self ..⟩
    ·obtain⟨rs',W1',c1',W2',x,q',q1,q2,q3,q5,q4⟩:=conOuts_mem ho p hp
     refine⟨rs',W1',c1',W2',x,q',q1,q2,q3,q5,fun hd=> ?_⟩
     cases deadW (noteAll T q (addGes l W2))with
     |true=>exact q4 hd
     |false=>exact List.mem_cons_of_mem _ (q4 hd)
   ·cases h
mutual
theorem freshTy_bro:∀{t:Ty} {W W1:SW} {s:SV},freshTy W t=(s,W1)→W1.bro=W.bro
 |.agg l,W,W1,s,hf=>by
  simp only[freshTy]at hf
  cases hg:freshTys W l with
  |mk x W2=>rw[hg]at hf;cases hf;exact freshTys_bro hg
 |.tup l,W,W1,s,hf=>by
  simp only[freshTy]at hf
  cases hg:freshTys W l with
  |mk x W2=>rw[hg]at hf;cases hf;exact freshTys_bro hg
 |.own _ _ _ _ _,W,W1,s,hf=>by cases hf;rfl
 |.int _ _ _,W,W1,s,hf=>by cases hf;rfl
 |.inu _,W,W1,s,hf=>by cases hf;rfl
 |.bool,W,W1,s,hf=>by cases hf;rfl
 |.any,W,W1,s,hf=>by cases hf;rfl
 |.str _,W,W1,s,hf=>by cases hf;rfl
 |.sl _ _ _,W,W1,s,hf=>by cases hf;rfl
 |.ptr _ _,W,W1,s,hf=>by cases hf;rfl
 |.map _ _,W,W1,s,hf=>by cases hf;rfl
 |.ifc _ _,W,W1,s,hf=>by cases hf;rfl
 |.fn _ _,W,W1,s,hf=>by cases hf;rfl
 |.nm _,W,W1,s,hf=>by cases hf;rfl
 |.con _,W,W1,s,hf=>by cases hf;rfl
theorem freshTys_bro:∀{l:List Ty} {W W1:SW} {ss:List SV},freshTys W l=(ss,W1)→W1.bro=W.bro
 | [],W,W1,ss,hf=>by cases hf;rfl
 |t::l,W,W1,ss,hf=>by
  simp only[freshTys]at hf
  cases h1:freshTy W t with
  |mk s W2=>
   rw[h1]at hf
   simp only at hf
   cases h2:freshTys W2 l with
   |mk ss2 W3=>
    rw[h2]at hf
    cases hf
    exact(freshTys_bro h2).trans (freshTy_bro h1)
end
theorem load1_bro {v o:Nat} {t:Ty} {s:SV} {W':SW} (h:load1 W v o t=(s,W')):W'.bro=W.bro:=by
 unfold load1 at h
 split at h
 ·cases h;rfl
 ·cases hf:freshTy W (readT t)with
  |mk x W1=>
   rw[hf]at h
   cases h
   show W1.bro=W.bro
   exact freshTy_bro hf
theorem readPath_bro:∀{p:List Nat} {s x:SV} {W W':SW},readPath T p s W=some (x,W')→W'.bro=W.bro
 | [],s,x,W,W',h=>by cases h;rfl
 |o::r,s,x,W,W',h=>by
  simp only[readPath]at h
  split at h
  ·split at h
   ·split at h
    ·rename_i v _ _ _ _ _ t _
     cases hl:load1 W v o t with
     |mk y W1=>
      rw[hl]at h
      exact(readPath_bro h).trans (load1_bro hl)
    ·cases h
   ·cases h
  ·cases h
theorem readPs_bro {as:List SV}:∀{ce:List (Nat × List Nat)} {xs:List SV} {W W':SW},readPs T as ce W=some (xs,W')→W'.bro=W.bro
 | [],xs,W,W',h=>by cases h;rfl
 |(k,p)::r,xs,W,W',h=>by
  simp only[readPs]at h
  split at h
  ·split at h
   ·rename_i x W1 h1
    split at h
    ·rename_i ys W2 h2
     cases h
     exact(readPs_bro h2).trans (readPath_bro h1)
    ·cases h
   ·cases h
  ·cases h
theorem conS0_ok {call:Callee'} {con:Con} (hsem:ConSem T call con) (hE:EnOk E) (h:Sat T E ρ G W V) {as c0:List SV} {outs:List (SV × SW)} {W1:SW} {l:List Lin} (hc:cls W.nv as=true) (hc0:cls W.nv c0=true) (hv0:evs ρ c0=cellsV V (evs ρ as) con.ce)
  (hbro:W.bro=[]) (hg:giveTys T W as con.ps=some W1) (hl:argLins W [as,[],c0] con.pre=some l) {qs:List (Nat × List SV)} (hqs:argPrs [as,[],c0] con.pp=some qs)
  (ho:(bif(geAll W l&&prAll T W qs)&&(con.M.all (fun c=>hasN c W.M)&&con.P.all (mayP W as))then conOuts T {W1 with cells:=callC W1 con as} as con.ce c0 con.outs else none)=some outs):
  ∃a V' s W' ρ' G',call (evs ρ as) V=.got a V'∧(s,W')∈outs∧Later ρ W ρ' W'∧Sat T E ρ' G' W' V'∧s.ev ρ'=a∧s.cl W'.nv=true:=by
 ··obtain⟨hge,ho⟩:=cond_some ho
   obtain⟨hge,hMP⟩:=and2 hge
   obtain⟨hge,hpq⟩:=and2 hge
   obtain⟨hM,hP⟩:=and2 hMP
   rw[List.all_eq_true]at hM hP
   obtain⟨lv,rfl,s1,s2,s3,s4,s5⟩:=giveTys_ok h hg
   have hown:∀i,touch con G (evs ρ as) i→E.V.n≤i∨E.Tc i:=by
    have hM1:∀i c,c∈con.M→G i=.cls c→E.V.n≤i∨E.Tc i:=by
     intro i c hcm hi
     have:=hM c hcm
     simp only[hasN,List.any_eq_true]at this
     obtain⟨c',hc',he⟩:=this
     have:=beqN he;subst this
     rcases Nat.lt_or_ge i E.V.n with hlt|hge
     ·exact .inr (h.sto.M c hc' i ((h.sto.cls i hlt c).1 hi))
     ·exact .inl hge
    intro i hi
    induction hi with
    |cls i c hcm hi=>exact hM1 i c hcm hi
    |arg i k a hk ha hi=>exact(mayP_ok h (hP k hk) ha hi).1
    |row i hi=>exact(toks_of s3).new i hi
    |tok i j o hi _ hj'=>
     rcases Nat.lt_or_ge i E.V.n with hlt|hge
     ·rcases h.sto.tok i hlt j o hi with h1|h1
      ·obtain⟨h2,h3⟩:=hE.tct i j o h1
       rcases hj' with hj'|hj'
       ·omega
       ·exact .inr (h3 hj')
      ·exact .inr h1
     ·exact .inl hge
   have htok:=toks_of s3
   have hent:Entry T con V G (evs ρ as):=by
    refine⟨⟨?_,?_,?_,h.sto.out⟩,?_,by rw[evs_len];exact s2,fun j t a ht ha=> ?_,s4,fun x hx=> ?_,fun x hx=> ?_⟩
    ·show V.g≤V.n
     rw[h.sto.g];exact Nat.le_trans hE.g h.sto.n
    ·intro i hi
     show V.g≤i
     rw[h.sto.g]
     rcases hown i hi with h1|h1
     ·exact Nat.le_trans hE.g h1
     ·exact hE.tcg i h1
    ·intro g i j hgt
     exact⟨h.sto.tkw g i j hgt,fun hi=>.tok g i j hgt hi⟩
    ·have hw:=h.world hbro
     exact⟨hw.wf,hw.out,Nat.le_refl _,rfl,fun _ _ _=>⟨rfl,rfl⟩,fun _ _ _=>.rfl,fun _ _ _ _ hh=>.inl hh,hw.tkw⟩
    ·obtain⟨q1,q2⟩:=s3 j t a ht ha
     refine⟨q1,fun t' sz e lo hi he=> ?_⟩
     rcases q2 t' sz e lo hi he with q|⟨xs,nl,g,q3,q4,q5,q6,q7⟩
     ·exact .inl q
     ·refine .inr ⟨xs,nl,g,q3,q4,q5,.inr (.row g ?_),q7⟩
      exact mem_gtoks ht ha (by rw[he];rfl) (by rw[q3];rfl)
    ·have:=argLins_pos h (clss_cons hc (clss_cons (l:=[]) rfl (clss_cons hc0 clss_nil))) hl hge x hx
     simp only[List.map_cons,List.map_nil,hv0]at this
     exact this
    ·have:=argPrs_pos h.ok (clss_cons hc (clss_cons (l:=[]) rfl (clss_cons hc0 clss_nil))) hqs hpq x hx
     simp only[List.map_cons,List.map_nil,hv0]at this
     exact this
   obtain⟨rs,V',G',p,k1,k2,k3⟩:=hsem V G (evs ρ as) hent
   have hno:∀i,(∀k∈con.P,∀a,(evs ρ as)[k]? =some a→idxOf a≠some i)→(∀j o,G i≠.tok j o)→(∀c∈con.M,G i≠.cls c)→i∉gtoks con.ps (evs ρ as)→¬touch con G (evs ρ as) i:=by
    intro i h1 h2 h3 h4 ht
    cases ht with
    |cls _ c hcm hi=>exact h3 c hcm hi
    |arg _ k a hk ha hi=>exact h1 k hk a ha hi
    |row _ hi=>exact h4 hi
    |tok _ j o hi _=>exact h2 j o hi
   have hrow:∀g,G g=.no→g∉gtoks con.ps (evs ρ as)→¬touch con G (evs ρ as) g:=by
    intro g hg hn
    refine hno g (fun k hk a ha hi=> ?_) (fun j o he=>by rw[hg]at he;cases he) (fun c _ he=>by rw[hg]at he;cases he) hn
    obtain⟨_,c,h1,_⟩:=mayP_ok h (hP k hk) ha hi
    rw[hg]at h1;cases h1
   have hcls:∀i c,G i=.cls c→G' i=.cls c:=fun i c hi=>(k3.wd.cls i (h.sto.wf i c hi).1 c).2 hi
   have h2:Sat T E ρ G' {{W with live:=lv}with cells:=callC {W with live:=lv} con as} V':=by
    have hok:=h.ok.mono hcls
    refine⟨⟨hok.ty,hok.top,hok.ge,hok.fx,hok.ln,hok.pr⟩,⟨h.clo.ge,h.clo.fx,h.clo.ln,fun p hp=>h.clo.cells p (List.mem_filter.1 hp).1,fun p hp=>h.clo.live p (s1.subset hp),h.clo.bro,h.clo.wr,h.clo.pr⟩,?_⟩
    refine world_sto ⟨k3.wd.wf,k3.wd.out,Nat.le_trans h.sto.n k3.wd.n,k3.wd.g.trans h.sto.g,fun i hi hnt=> ?_,fun i hi c=> ?_,fun g hg i j hgt=> ?_,k3.wd.tkw⟩ hbro (fun p hp=> ?_) (fun p hp=> ?_) (h.sto.dis.sublist s1) h.sto.wr h.sto.M
    ·have hnt':¬touch con G (evs ρ as) i:=fun ht=>(hown i ht).elim (fun h1=>by omega) hnt
     obtain⟨q1,q2⟩:=k3.wd.fr i (Nat.lt_of_lt_of_le hi h.sto.n) hnt'
     obtain⟨q3,q4⟩:=h.sto.fr i hi hnt
     exact⟨q1.trans q3,q2.trans q4⟩
    ·exact(k3.wd.cls i (Nat.lt_of_lt_of_le hi h.sto.n) c).trans (h.sto.cls i hi c)
    ·rcases k3.wd.tok g (Nat.lt_of_lt_of_le hg h.sto.n) i j hgt with h1|h1
     ·exact h.sto.tok g hg i j h1
     ·exact .inr ((hown g h1).elim (fun h1=>by omega) id)
    ·obtain⟨hp1,hp2⟩:=List.mem_filter.1 hp
     obtain⟨i,cs,c,q1,q2,q3,q4⟩:=h.sto.cells p hp1
     have hlt:=(h.sto.wf i c q4).1
     have hnt:¬touch con G (evs ρ as) i:=by
      split at hp2
      ·rename_i c' nl hty
       obtain⟨r1,r2⟩:=and2 hp2
       have hp1':=h.ok.ty p.1
       have hty':W.tyOf p.1=.ptr c' nl:=hty
       rw[hty',q1]at hp1'
       have hcc:c'=c:=by
        cases hp1' with
        |ptr _ _ _ hg=>rw[q4]at hg;cases hg;rfl
       subst hcc
       refine hno i (fun k hk a ha hi=> ?_) (fun j o he=>by rw[q4]at he;cases he) (fun c'' hcm he=> ?_) (fun hm=> ?_)
       ·obtain⟨_,c2,m1,m2⟩:=mayP_ok h (hP k hk) ha hi
        rw[List.all_eq_true]at r2
        have:=r2 k hk
        have m2':classP {W with live:=lv} as k=some c2:=m2
        rw[m2']at this
        rw[q4]at m1
        cases m1
        simp at this
       ·rw[q4]at he
        cases he
        have:hasN c' con.M=true:=by
         simp only[hasN,List.any_eq_true]
         exact⟨c',hcm,by simp⟩
        rw[this]at r1;cases r1
       ·have:=htok.no i hm
        rw[q4]at this;cases this
      ·cases hp2
     obtain⟨m1,m2⟩:=k3.wd.fr i hlt hnt
     exact⟨i,cs,c,q1,by rw[m1];exact q2,q3,by rw[m2];exact q4⟩
    ·have hp':=s1.subset hp
     rcases h.sto.live p hp' with q|⟨xs,nl,g,q3,q4,q5,q6,q7⟩
     ·exact .inl q
     ·have hnt:=hrow g q5 (fun hm=>(s5 g hm).2 p hp (by rw[q3];rfl))
      obtain⟨m1,m2⟩:=k3.wd.fr g q7 hnt
      exact .inr ⟨xs,nl,g,q3,by rw[m1];exact q4,by rw[m2];exact q5,q6,Nat.lt_of_lt_of_le q7 k3.wd.n⟩
   obtain⟨ss,W2,d1,W3,x,xq,t1,trd,t2,tq,t3⟩:=conOuts_mem ho p k2
   have hgv:∀(j:Nat) (t:Ty) (a:AVal),p.1[j]? =some t→rs[j]? =some a→Gives T E G' V' t a:=by
    intro j t a ht ha
    obtain⟨q1,q2⟩:=k3.gives j t a ht ha
    refine⟨q1,fun t' sz e lo hi he=> ?_⟩
    rcases q2 t' sz e lo hi he with q|⟨xs,nl,g,q3,q4,q5,q6,q7⟩
    ·exact .inl q
    ·exact .inr ⟨xs,nl,g,q3,q4,q5,q6.elim (fun h1=>.inl (Nat.le_trans h.sto.n h1)) (fun h1=>hown g h1),q7⟩
   obtain⟨ρ1,u1,u2,u3,u4⟩:=freshTys_gives p.1 h2 k3.len hgv k3.nd (fun g hg q hq=>by
    intro hqt
    rcases h.sto.live q (s1.subset hq)with q0|⟨xs,nl,g',q3,q4,q5,q6,q7⟩
    ·rw[q0]at hqt;cases hqt
    ·rw[q3]at hqt
     simp only[tokOf,Option.some.injEq]at hqt
     subst hqt
     have hnt:=hrow g' q5 (fun hm=>(s5 g' hm).2 q hq (by rw[q3];rfl))
     rcases(toks_of k3.gives).new g' hg with h1|h1
     ·have h1:V.n≤g':=h1
      omega
     ·exact hnt h1) t1
   obtain⟨n1,n2⟩:=u1.evs hc
   obtain⟨n3,n4⟩:=u1.evs hc0
   obtain⟨ρ2,r1,r2,r3,r4⟩:=readPs_ok u2 n2 trd
   obtain⟨o1,o2⟩:=r1.evs n2
   obtain⟨o3,o4⟩:=r1.evs n4
   obtain⟨o5,o6⟩:=r1.evs u4
   obtain⟨a1,a2⟩:=argLins_add r2 (clss_cons o2 (clss_cons o6 (clss_cons o4 (clss_cons r4 clss_nil)))) t2 (fun y hy=>by
    have:=k3.nums y hy
    simp only[List.map_cons,List.map_nil,o1,n1,o3,n3,hv0,o5,u3,r3]
    exact this)
   obtain⟨a1,a3⟩:=argPrs_note a1 (by rw[a2];exact clss_cons o2 (clss_cons o6 (clss_cons o4 (clss_cons r4 clss_nil)))) tq (fun y hy=>by
    have:=k3.pr y hy
    simp only[List.map_cons,List.map_nil,o1,n1,o3,n3,hv0,o5,u3,r3]
    exact this)
   rw[a2]at a3
   have a2:=a3
   have hlt:=u1.trans r1
   refine⟨tupO rs,V',tupS ss,noteAll T xq (addGes x W3),ρ2,G',k1,t3 (deadW_no a1.ok),⟨by rw[a2];exact hlt.n,hlt.agr⟩,a1,by rw[tupS_ev,o5,u3],by rw[a2];exact tupS_cl o6⟩
theorem conS_ok {call:Callee'} {con:Con} (hsem:ConSem T call con) (hE:EnOk E) (h:Sat T E ρ G W V) {as:List SV} {outs:List (SV × SW)} (hc:cls W.nv as=true) (ho:conS T con as W=some outs):
  ∃a V' s W' ρ' G',call (evs ρ as) V=.got a V'∧(s,W')∈outs∧Later ρ W ρ' W'∧Sat T E ρ' G' W' V'∧s.ev ρ'=a∧s.cl W'.nv=true:=by
 unfold conS at ho
 split at ho
 ·rename_i hbro
  split at ho
  ·rename_i c0 W0 hrd
   obtain⟨ρ0,r1,r2,r3,r4⟩:=readPs_ok h hc hrd
   obtain⟨n1,n2⟩:=r1.evs hc
   split at ho
   ·rename_i W1 l q hg hl hq
    obtain⟨a,V',s,W',ρ',G',k1,k2,k3,k4⟩:=conS0_ok hsem hE r2 n2 r4 (by rw[n1];exact r3) (by rw[readPs_bro hrd];exact hbro) hg hl hq ho
    rw[n1]at k1
    exact⟨a,V',s,W',ρ',G',k1,k2,r1.trans k3,k4⟩
   ·cases ho
  ·cases ho
 ·cases ho
end Go.AL.SX
namespace Go.AL.SX
variable {T:Tab} [TabOk T]
def below (rank:Nat→Nat) (F:FSs) (r:Nat):FSs:=fun f=>bif Nat.blt (rank f) r then F f else .none
structure Layers (T:Tab) (FTb:FT) (F:FSs) (rank:Nat→Nat) (B N:Nat):Prop where
 code:∀f an la af,F f=.code an la af→Tr.get .none FTb f=.code af
 con:∀f c,F f=.con c→(∀k,B≤k→ConSem T (callN FTb k f) c)∨∃an la af,Tr.get .none FTb f=.code af∧check T (below rank F (rank f)) N c an la af=true
theorem below_some {rank:Nat→Nat} {F:FSs} {r f:Nat} (h:below rank F r f≠.none):rank f<r∧below rank F r f=F f:=by
 unfold below at h⊢
 rw[blt_eq]at h⊢
 by_cases hr:rank f<r
 ·rw[decide_eq_true hr];exact⟨hr,rfl⟩
 ·rw[decide_eq_false hr]at h;exact absurd rfl h
theorem scok_con {call:Nat→Callee'} {f:Nat} {c:Con} (h:ConSem T (call f) c):SCok T call (fun g as W=>if g=f then conS T c as W else none):=by
 intro E ρ G W V g as outs hE hS hc ho
 simp only at ho
 by_cases hg:g=f
 ·subst hg
  rw[if_pos rfl]at ho
  exact conS_ok h hE hS hc ho
 ·rw[if_neg hg]at ho;cases ho
theorem layers_sc {FTb:FT} {F:FSs} {rank:Nat→Nat} {B N:Nat} (h:Layers T FTb F rank B N) {r:Nat} (ih:∀g c,rank g<r→F g=.con c→∀k,B+(rank g+1)*(N+1)≤k→ConSem T (callN FTb k g) c) {k:Nat} (hk':B+r*(N+1)+N≤k):SCok T (callN FTb k) (scN T (below rank F r) N):=by
 refine scN_ok (R0:=B+r*(N+1)) (fun g an la af hg=> ?_) (fun g c' hg k' hk'=> ?_) N k hk'
 ·obtain⟨_,q⟩:=below_some (rank:=rank) (F:=F) (r:=r) (f:=g) (by rw[hg];intro hh;cases hh)
  exact h.code g an la af (q▸hg)
 ·obtain⟨q1,q2⟩:=below_some (rank:=rank) (F:=F) (r:=r) (f:=g) (by rw[hg];intro hh;cases hh)
  refine scok_con (ih g c' q1 (q2▸hg) k' (Nat.le_trans ?_ hk'))
  have:(rank g+1)*(N+1)≤r*(N+1):=Nat.mul_le_mul_right _ q1
  omega
theorem layers_ok {FTb:FT} {F:FSs} {rank:Nat→Nat} {B N:Nat} (h:Layers T FTb F rank B N):∀(r f:Nat) (c:Con),rank f=r→F f=.con c→∀k,B+(r+1)*(N+1)≤k→ConSem T (callN FTb k f) c:=by
 intro r
 induction r using Nat.strongRecOn with
 |_ r ih=>
  intro f c hr hf k hk
  rcases h.con f c hf with h1|⟨an,la,af,h1,h2⟩
  ·refine h1 k (Nat.le_trans (Nat.le_add_right _ _) hk)
  ·cases k with
   |zero=>exact absurd hk (by rw[Nat.succ_mul];omega)
   |succ k=>
    have hk':B+r*(N+1)+N≤k:=by rw[Nat.succ_mul]at hk;omega
    show ConSem T (callF (callN FTb k) (Tr.get .none FTb f)) c
    rw[h1]
    rw[hr]at h2
    exact runF_con (layers_sc h (fun g c' hg hc k hk=>ih (rank g) hg g c' rfl hc k hk) hk') h2
theorem layers_check {FTb:FT} {F:FSs} {rank:Nat→Nat} {B N:Nat} (h:Layers T FTb F rank B N) {r f:Nat} {c:Con} {an:An} {la:List LA} {af:AFun} (hf:Tr.get .none FTb f=.code af) (hck:check T (below rank F r) N c an la af=true) {k:Nat} (hk:B+r*(N+1)+N≤k):ConSem T (callN FTb (k+1) f) c:=by
 show ConSem T (callF (callN FTb k) (Tr.get .none FTb f)) c
 rw[hf]
 exact runF_con (layers_sc h (fun g c' hg hc k hk=>layers_ok h (rank g) g c' rfl hc k hk) hk) hck
end Go.AL.SX
namespace Go.AL.SX
variable {T:Tab} [TabOk T]
def V00:VS:=⟨0,0,.lf⟩
def G00:Nat→Cl:=fun _=>.no
theorem at_V00 (i:Nat):V00.at i=.dead:=Tr.get_lf _ _
theorem world00 (E:En) (hv:E.V=V00):World T E G00 V00 where
 wf i c hi:=by cases hi
 out _ _:=rfl
 n:=by rw[hv];exact Nat.le_refl _
 g:=by rw[hv]
 fr i hi:=by rw[hv]at hi;exact absurd hi (Nat.not_lt_zero i)
 cls i hi:=by rw[hv]at hi;exact absurd hi (Nat.not_lt_zero i)
 tok i hi:=by rw[hv]at hi;exact absurd hi (Nat.not_lt_zero i)
 tkw g i j h:=by cases h
theorem readT_of {t:Ty} (h:ownT t=false):readT t=t:=by cases t<;>first|rfl|cases h
theorem gtoks_of:∀{ts:List Ty} {as:List AVal},(∀t∈ts,ownT t=false)→gtoks ts as=[]
 | [],as,_=>by cases as<;>rfl
 |t::ts,[],_=>rfl
 |t::ts,a::as,h=>by
  simp only[gtoks,gtok,h t (List.mem_cons_self ..)]
  rw[gtoks_of fun t ht=>h t (List.mem_cons_of_mem _ ht)]
  rfl
theorem entry00 {con:Con} {as:List AVal} (hps:con.ps.all (fun t=> !ownT t)=true) (hl:con.ps.length=as.length) (ht:∀(j:Nat) (t:Ty) (a:AVal),con.ps[j]? =some t→as[j]? =some a→HasTy T.D G00 t a)
  (hP:con.P=[]) (hn:∀l∈con.pre,0≤argSem [as,[],cellsV V00 as con.ce] l) (hpp:con.pp=[]):Entry T con V00 G00 as:=by
 have hps:∀t∈con.ps,ownT t=false:=fun t ht=>by simpa using List.all_eq_true.1 hps t ht
 have hno:∀i,¬touch con G00 as i:=by
  intro i hi
  induction hi with
  |cls i c _ h=>cases h
  |arg i k a hk=>rw[hP]at hk;cases hk
  |row i h=>rw[gtoks_of hps]at h;cases h
  |tok i j o h=>cases h
 refine⟨⟨Nat.le_refl _,fun i hi=>absurd hi (hno i),fun g i j h=>(by cases h),fun _ _=>rfl⟩,world00 _ rfl,hl,fun j t a hj ha=>⟨?_,fun t' sz e lo hi he=> ?_⟩,?_,hn,fun q hq=>by rw[hpp]at hq;cases hq⟩
 ·rw[readT_of (hps t (List.mem_of_getElem? hj))];exact ht j t a hj ha
 ·have:=hps t (List.mem_of_getElem? hj)
  rw[he]at this;cases this
 ·rw[gtoks_of hps];exact .nil
theorem con_call {P:Program} {FTb:FT} {f k:Nat} {con:Con} (hm:P.follows .mixedOrders=true) (hT:TOk P FTb) (h:ConSem T (callN FTb k f) con) {as:List AVal} (hp:plains as=true) (he:Entry T con V00 G00 as) (σ:Store)
  {Q:AVal→Prop} (hq:∀rs V' G' p,p∈con.outs→Exit T con V00 G00 as p rs V' G'→(tupO rs).shut.plain=true∧Q (tupO rs).shut):ACall P f as σ fun b τ=>Q b∧τ=σ:=by
 obtain⟨rs,V',G',p,h1,h2,h3⟩:=h V00 G00 as he
 obtain⟨q1,q2⟩:=hq rs V' G' p h2 h3
 exact((callN_sound hm hT k f).plain h1 (VRs.of_plain as hp) q1 σ).mono fun b τ ⟨e1,e2⟩=>⟨by rw[e1];exact q2,e2⟩
theorem true_call {P:Program} {FTb:FT} {f k:Nat} {con:Con} (hm:P.follows .mixedOrders=true) (hT:TOk P FTb) (h:ConSem T (callN FTb k f) con) (ho:con.outs=[([.con (.bool true)],[],[])]) {as:List AVal} (hp:plains as=true) (he:Entry T con V00 G00 as) (σ:Store):
  ACall P f as σ fun b τ=>b=.bool true∧τ=σ:=by
 refine con_call hm hT h hp he σ fun rs V' G' p hmem hx=> ?_
 rw[ho]at hmem
 have hp:=List.mem_singleton.1 hmem
 subst hp
 have hl:=hx.len
 match rs,hl with
 | [r],_=>
  have h0:=(hx.gives 0 _ r rfl rfl).1
  cases h0
  exact⟨rfl,rfl⟩
end Go.AL.SX
