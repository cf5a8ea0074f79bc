/-
  AN ABSTRACT LOGIC OVER THE MODEL, part 20: the evaluator's operations that look at the slots alone are those of the model.
-/
import Derived.Test.YtfoeaeeaflmkfaaGreatAL19
namespace Go.AL
open Go.RowKit
section
variable {ρ:Names} {env:VE} {e':Env} {e:Ent}
theorem VR.slice_mk {xs ys:List AVal} {nl:Bool} {tok t:Option Nat} (h:VRs ρ xs ys) (hn:tok=none→t=none) (hs:∀g,tok=some g→∃x,ρ g=some x∧x.m=xs.length∧t=some x.b):
  VR ρ (.slice xs nl tok) (.slice ys nl t):=by
 cases tok with
 |none=>rw[hn rfl];simp only[VR];exact⟨ys,h,rfl⟩
 |some g=>obtain⟨x,h1,h2,h3⟩:=hs g rfl;subst h3;simp only[VR];exact⟨ys,x,h,⟨h1,h2⟩,rfl⟩
theorem pMv_rep (hE:EnvR ρ env e') {x:Opd} (hp:x.plain=true) (h:pMv x env=some e):∃f,pureV e' (.mv x)=some f∧EntR ρ e f:=by
 cases h;exact⟨_,rfl,eo_rep hE hp⟩
theorem pNil_rep (hE:EnvR ρ env e') {x:Opd} (hp:x.plain=true) (h:pNil x env=some e):∃f,pureV e' (.nilCheck x)=some f∧EntR ρ e f:=by
 have hx:=eo_rep hE hp
 unfold pNil at h
 rw[nilE_eq]at h
 unfold nilE0 at h
 split at h
 ·rename_i heq;rw[heq]at hx;obtain⟨a,h1,h2⟩:=hx.val_inv
  have h1':=h1
  simp only[VR]at h1;obtain⟨y,_,rfl⟩:=h1;cases h
  exact⟨_,by simp only[pureV,h2]<;>rfl,.ofV h1'⟩
 ·rename_i heq;rw[heq]at hx;obtain⟨a,h1,h2⟩:=hx.val_inv
  have h1':=h1
  simp only[VR]at h1;obtain⟨y,_,rfl⟩:=h1;cases h
  exact⟨_,by simp only[pureV,h2]<;>rfl,.ofV h1'⟩
 ·rename_i heq;rw[heq]at hx;have h2:=hx.lptr_inv;cases h
  exact⟨_,by simp only[pureV,h2]<;>rfl,rfl⟩
 ·cases h
theorem pBin_rep (hE:EnvR ρ env e') {op:BinOp} {q:EqK} {x y:Opd} (hp:x.plain=true) (hq:y.plain=true) (h:pBin op q x y env=some e):∃f,pureV e' (.bin op q x y)=some f∧EntR ρ e f:=by
 obtain⟨v,h1,rfl,h3⟩:=binE_rep h (eo_rep hE hp) (eo_rep hE hq)
 exact⟨.val v,by simp only[pureV,h1]<;>rfl,.plain h3⟩
theorem pNot_rep (hE:EnvR ρ env e') {x:Opd} (hp:x.plain=true) (h:pNot x env=some e):∃f,pureV e' (.not x)=some f∧EntR ρ e f:=by
 have hx:=eo_rep hE hp
 unfold pNot at h
 rw[notE_eq]at h
 unfold notE0 at h
 split at h
 ·rename_i heq;rw[heq]at hx;obtain⟨a,h1,h2⟩:=hx.val_inv;simp only[VR]at h1;subst h1;cases h
  exact⟨_,by simp only[pureV,h2]<;>rfl,.plain rfl⟩
 ·cases h
theorem pConv_rep (hE:EnvR ρ env e') {k:IntKind} {x:Opd} (hp:x.plain=true) (h:pConv k x env=some e):∃f,pureV e' (.convInt k x)=some f∧EntR ρ e f:=by
 have hx:=eo_rep hE hp
 unfold pConv at h
 rw[convE_eq]at h
 unfold convE0 at h
 split at h
 ·rename_i heq;rw[heq]at hx;obtain⟨a,h1,h2⟩:=hx.val_inv;simp only[VR]at h1;subst h1;cases h
  exact⟨_,by simp only[pureV,h2]<;>rfl,by rw[wrapF_eq];exact .plain rfl⟩
 ·cases h
theorem pSame_rep (hE:EnvR ρ env e') {x:Opd} (hp:x.plain=true) (h:pSame x env=some e):∃f,pureV e' (.same x)=some f∧EntR ρ e f:=by
 have hx:=eo_rep hE hp
 unfold pSame sameE at h
 split at h
 ·rename_i heq;rw[heq]at hx;obtain⟨a,h1,h2⟩:=hx.val_inv;simp only[VR]at h1;subst h1;cases h
  exact⟨_,by simp only[pureV,h2]<;>rfl,.plain rfl⟩
 ·cases h
theorem pIface_rep (hE:EnvR ρ env e') {t:Nat} {x:Opd} (hp:x.plain=true) (h:pIface t x env=some e):∃f,pureV e' (.iface t x)=some f∧EntR ρ e f:=by
 have hx:=eo_rep hE hp
 unfold pIface ifaceE at h
 split at h
 ·rename_i heq;rw[heq]at hx;obtain⟨a,h1,h2⟩:=hx.val_inv;cases h
  exact⟨_,by simp only[pureV,h2]<;>rfl,.ofV (by simp only[VR];exact⟨a,h1,rfl⟩)⟩
 ·cases h
theorem pMk_rep (hE:EnvR ρ env e') {fn:Fn} {f c:List Opd} (hf:∀x∈f,x.plain=true) (hc:∀x∈c,x.plain=true) (h:pMk fn f c env=some e):∃g,pureV e' (.mkFunc fn f c)=some g∧EntR ρ e g:=by
 unfold pMk mkF1 at h
 split at h
 ·rename_i fs hfs
  unfold mkF2 at h
  split at h
  ·rename_i cs hcs
   cases h
   obtain⟨fs',h1,h2⟩:=evals_rep hE hfs hf
   obtain⟨cs',k1,k2⟩:=evals_rep hE hcs hc
   exact⟨_,by simp only[pureV,h1,k1]<;>rfl,.ofV (by simp only[VR];exact⟨fs',cs',h2,k2,rfl⟩)⟩
  ·cases h
 ·cases h
theorem foffE_rep {off:Nat} {x y:Ent} (hx:EntR ρ x y) (h:foffE off x=some e):∃f,(match y with
   |.val (.ptr b o)=>some (.val (.ptr b (o+off)))
   |.val (.sptr cs)=>some (.val (.sptr (cs.drop off)))
   |.lptr s o=>some (.lptr s (o+off))
   |_=>none)=some f∧EntR ρ e f:=by
 rw[foffE_eq]at h
 unfold foffE0 at h
 split at h
 ·obtain⟨a,h1,rfl⟩:=hx.val_inv
  simp only[VR]at h1;obtain⟨z,hz,rfl⟩:=h1;cases h
  exact⟨_,rfl,.ofV (by simp only[VR];exact⟨z,hz,rfl⟩)⟩
 ·obtain⟨a,h1,rfl⟩:=hx.val_inv
  simp only[VR]at h1;obtain⟨z,hz,rfl⟩:=h1;cases h
  exact⟨_,rfl,.ofV (by simp only[VR];exact⟨_,hz.drop _,rfl⟩)⟩
 ·rw[hx.lptr_inv];cases h;exact⟨_,rfl,rfl⟩
 ·cases h
theorem pFoff_rep (hE:EnvR ρ env e') {off:Nat} {x:Opd} (hp:x.plain=true) (h:pFoff off x env=some e):∃f,pureV e' (.foff off x)=some f∧EntR ρ e f:=by
 obtain⟨f,h1,h2⟩:=foffE_rep (eo_rep hE hp) h
 exact⟨f,by simp only[pureV];exact h1,h2⟩
theorem pAidx_rep (hE:EnvR ρ env e') {n sz:Nat} {x i:Opd} (hp:x.plain=true) (hq:i.plain=true) (h:pAidx n sz x i env=some e):∃f,pureV e' (.aidx n sz x i)=some f∧EntR ρ e f:=by
 have hi:=eo_rep hE hq
 unfold pAidx aidxE at h
 split at h
 ·rename_i heq
  rw[heq]at hi;obtain⟨a,h1,h2⟩:=hi.val_inv;simp only[VR]at h1;subst h1
  unfold aidxE2 at h
  split at h
  ·rename_i j
   rw[blt_eq]at h
   by_cases hj:j<n
   ·rw[decide_eq_true hj,cond_true]at h
    obtain⟨f,k1,k2⟩:=foffE_rep (eo_rep hE hp) h
    refine⟨f,?_,k2⟩
    simp only[pureV,h2]
    rw[if_pos ⟨by simp only[Int.ofNat_eq_natCast];omega,by simp only[Int.ofNat_eq_natCast];omega⟩]
    exact k1
   ·rw[decide_eq_false hj]at h;cases h
  ·cases h
 ·cases h
theorem pArr_rep (hE:EnvR ρ env e') {n:Nat} {x:Opd} (hp:x.plain=true) (h:pArr n x env=some e):∃f,pureV e' (.arr n x)=some f∧EntR ρ e f:=by
 have hx:=eo_rep hE hp
 unfold pArr arrE at h
 split at h
 ·rename_i b o heq
  rw[heq]at hx;obtain⟨a,h1,h2⟩:=hx.val_inv;simp only[VR]at h1;obtain⟨z,hz,rfl⟩:=h1
  cases hc:(Nat.ble n maxLen&&Nat.blt 0 n)with
  |false=>rw[hc]at h;cases h
  |true=>
   rw[hc,cond_true]at h;cases h
   simp only[Bool.and_eq_true,ble_eq,decide_eq_true_eq]at hc
   refine⟨_,by simp only[pureV,h2];rw[if_pos hc.1],.ofV ?_⟩
   simp only[VR]
   refine⟨z,hz,?_⟩
   congr 1
   show n=capOf z.m (2*n)
   unfold capOf
   rw[if_neg (by omega)];omega
 ·cases h
theorem pNeg_rep (hE:EnvR ρ env e') {x:Opd} (hp:x.plain=true) (h:pNeg x env=some e):∃f,pureV e' (.neg x)=some f∧EntR ρ e f:=by
 have hx:=eo_rep hE hp
 unfold pNeg negE at h
 split at h
 ·rename_i heq;rw[heq]at hx;obtain⟨a,h1,h2⟩:=hx.val_inv;simp only[VR]at h1;subst h1;cases h
  exact⟨_,by simp only[pureV,h2]<;>rfl,by rw[wrapF_eq];exact .plain rfl⟩
 ·cases h
theorem pAget_rep (hE:EnvR ρ env e') {m n:Nat} {agg:Bool} {x i:Opd} (hp:x.plain=true) (hq:i.plain=true) (h:pAget m n agg x i env=some e):∃f,pureV e' (.aget m n agg x i)=some f∧EntR ρ e f:=by
 have hx:=eo_rep hE hp
 have hi:=eo_rep hE hq
 unfold pAget agetE at h
 split at h
 ·rename_i cs heq;rw[heq]at hx;obtain⟨a,h1,h2⟩:=hx.val_inv;simp only[VR]at h1;obtain⟨ds,hd,rfl⟩:=h1
  unfold agetE2 at h
  split at h
  ·rename_i k j heq2;rw[heq2]at hi;obtain⟨b,h3,h4⟩:=hi.val_inv;simp only[VR]at h3;subst h3
   cases hb:Nat.blt j m&&Nat.ble (Nat.add (Nat.mul j n) n) (lenF cs 0)with
   |false=>rw[hb]at h;cases h
   |true=>
    rw[hb]at h
    simp only[Bool.and_eq_true]at hb
    obtain⟨b1,b2⟩:=hb
    rw[blt_eq,decide_eq_true_iff]at b1
    have b2:=Nat.le_of_ble_eq_true b2
    rw[lenF_eq,Nat.zero_add,Nat.add_eq,Nat.mul_eq]at b2
    cases h
    have hc:(0:Int)≤Int.ofNat j∧Int.ofNat j<(m:Int)∧(Int.ofNat j).toNat*n+n≤ds.length:=by
     refine⟨Int.natCast_nonneg j,Int.ofNat_lt.2 b1,?_⟩
     rw[hd.length];exact b2
    exact⟨.val (mkv agg ((ds.drop (j*n)).take n)),by simp only[pureV,h2,h4];rw[if_pos hc];rfl,.ofV (VR.mkv' agg ((hd.drop _).take n))⟩
  ·cases h
 ·cases h
theorem pTas_rep (hE:EnvR ρ env e') {t:Nat} {x:Opd} (hp:x.plain=true) (h:pTas t x env=some e):∃f,pureV e' (.tassert t x)=some f∧EntR ρ e f:=by
 have hx:=eo_rep hE hp
 unfold pTas tassertE at h
 split at h
 ·rename_i u v heq;rw[heq]at hx;obtain⟨a,h1,h2⟩:=hx.val_inv;simp only[VR]at h1;obtain⟨d,hd,rfl⟩:=h1;cases h
  by_cases hu:u=t
  ·refine⟨_,by simp only[pureV,h2,hu,if_true]<;>rfl,?_⟩
   rw[hu,beq_eq]
   simp only[decide_true,cond_true]
   exact .ofV (by simp only[VR];exact⟨_,.cons hd (.cons (by simp only[VR]) .nil),rfl⟩)
  ·refine⟨_,by simp only[pureV,h2,if_neg hu]<;>rfl,?_⟩
   rw[beq_eq,decide_eq_false hu]
   exact .plain rfl
 ·rename_i heq;rw[heq]at hx;obtain⟨a,h1,h2⟩:=hx.val_inv;simp only[VR]at h1;subst h1;cases h
  exact⟨_,by simp only[pureV,h2]<;>rfl,.plain rfl⟩
 ·cases h
theorem pExt_rep (hE:EnvR ρ env e') {i:Nat} {x:Opd} (hp:x.plain=true) (h:pExt x i env=some e):∃f,pureV e' (.extract x i)=some f∧EntR ρ e f:=by
 have hx:=eo_rep hE hp
 unfold pExt at h
 rw[extE_eq]at h
 unfold extE0 at h
 split at h
 ·rename_i heq;rw[heq]at hx;obtain⟨a,h1,h2⟩:=hx.val_inv;simp only[VR]at h1;obtain⟨ds,hd,rfl⟩:=h1
  obtain⟨v,k1,rfl⟩:=toE_some h
  rw[nthV_eq]at k1
  obtain⟨w,k2,k3⟩:=hd.get k1
  exact⟨.val w,by simp only[pureV,h2,k2]<;>rfl,.ofV k3⟩
 ·cases h
theorem pField_rep (hE:EnvR ρ env e') {off n:Nat} {agg:Bool} {x:Opd} (hp:x.plain=true) (h:pField off n agg x env=some e):∃f,pureV e' (.field off n agg x)=some f∧EntR ρ e f:=by
 have hx:=eo_rep hE hp
 unfold pField at h
 rw[fieldE_eq]at h
 unfold fieldE0 at h
 split at h
 ·rename_i heq;rw[heq]at hx;obtain⟨a,h1,h2⟩:=hx.val_inv;simp only[VR]at h1;obtain⟨ds,hd,rfl⟩:=h1
  obtain⟨v,k1,rfl⟩:=toE_some h
  obtain⟨k2,rfl⟩:=partAt_some k1
  refine⟨_,by simp only[pureV,h2];rw[if_pos (by rw[hd.length];exact k2)],.ofV (VR.mkv' agg ((hd.drop off).take n))⟩
 ·cases h
theorem pLen_rep (hE:EnvR ρ env e') {x:Opd} (hp:x.plain=true) (h:pLen x env=some e):∃f,pureV e' (.len x)=some f∧EntR ρ e f:=by
 have hx:=eo_rep hE hp
 unfold pLen at h
 rw[lenE_eq]at h
 unfold lenE0 at h
 split at h
 ·rename_i heq;rw[heq]at hx;obtain⟨a,h1,h2⟩:=hx.val_inv
  obtain⟨ys,t,k1,rfl,_⟩:=h1.slice_inv;cases h
  refine⟨_,by simp only[pureV,h2]<;>rfl,?_⟩
  rw[lenF_eq,Nat.zero_add,k1.length];exact .plain rfl
 ·rename_i heq;rw[heq]at hx;obtain⟨a,h1,h2⟩:=hx.val_inv;simp only[VR]at h1;obtain⟨z,hz,rfl⟩:=h1;cases h
  exact⟨_,by simp only[pureV,h2]<;>rfl,.plain rfl⟩
 ·rename_i i n heq;rw[heq]at hx;obtain⟨a,h1,h2⟩:=hx.val_inv
  have h1':=h1
  simp only[VR]at h1';obtain⟨z,hz,ho⟩:=h1'
  unfold rawLen at h
  cases hb:Nat.beq n 2 with
  |false=>rw[hb]at h;cases h
  |true=>
   rw[hb,cond_true]at h
   cases h
   have hn:n=2:=Nat.eq_of_beq_eq_true hb
   subst hn
   obtain⟨_,hr,l,hl,rfl⟩:=ho
   refine⟨_,by simp only[pureV,h2]<;>rfl,.ofV ?_⟩
   simp only[VR,List.length_map]
   exact⟨z,hz,rfl,l,hl,hr,rfl⟩
 ·cases h
theorem pLenS_rep (hE:EnvR ρ env e') {x:Opd} (hp:x.plain=true) (h:pLenS x env=some e):∃f,pureV e' (.lenStr x)=some f∧EntR ρ e f:=by
 have hx:=eo_rep hE hp
 unfold pLenS lenSE at h
 split at h
 ·rename_i heq;rw[heq]at hx;obtain⟨a,h1,h2⟩:=hx.val_inv;simp only[VR]at h1;subst h1;cases h
  refine⟨_,by simp only[pureV,h2]<;>rfl,?_⟩
  rw[lenB_eq,Nat.zero_add];exact .plain rfl
 ·cases h
theorem pMin_rep (hE:EnvR ρ env e') {x y:Opd} (hp:x.plain=true) (hq:y.plain=true) (h:pMin x y env=some e):∃f,pureV e' (.min x y)=some f∧EntR ρ e f:=by
 have hx:=eo_rep hE hp;have hy:=eo_rep hE hq
 unfold pMin minE at h
 split at h
 ·rename_i k a k' b hx1 hy1
  rw[hx1]at hx;rw[hy1]at hy
  obtain⟨a,h1,h2⟩:=hx.val_inv;simp only[VR]at h1;subst h1
  obtain⟨b,k1,k2⟩:=hy.val_inv;simp only[VR]at k1;subst k1
  cases h
  refine⟨_,by simp only[pureV,h2,k2]<;>rfl,?_⟩
  rw[ltI_eq,Bool.cond_decide];exact .plain rfl
 ·cases h
theorem pMax_rep (hE:EnvR ρ env e') {x y:Opd} (hp:x.plain=true) (hq:y.plain=true) (h:pMax x y env=some e):∃f,pureV e' (.max x y)=some f∧EntR ρ e f:=by
 have hx:=eo_rep hE hp;have hy:=eo_rep hE hq
 unfold pMax maxE at h
 split at h
 ·rename_i k a k' b hx1 hy1
  rw[hx1]at hx;rw[hy1]at hy
  obtain⟨a,h1,h2⟩:=hx.val_inv;simp only[VR]at h1;subst h1
  obtain⟨b,k1,k2⟩:=hy.val_inv;simp only[VR]at k1;subst k1
  cases h
  refine⟨_,by simp only[pureV,h2,k2]<;>rfl,?_⟩
  rw[ltI_eq,Bool.cond_decide];exact .plain rfl
 ·cases h
theorem maxI_eq (a b:Int):maxI a b=if b>a then b else a:=by
 unfold maxI;rw[ltI_eq,Bool.cond_decide]
theorem pMax3_rep (hE:EnvR ρ env e') {x y z:Opd} (hp:x.plain=true) (hq:y.plain=true) (hz:z.plain=true) (h:pMax3 x y z env=some e):∃f,pureV e' (.max3 x y z)=some f∧EntR ρ e f:=by
 have hx:=eo_rep hE hp;have hy:=eo_rep hE hq;have hz:=eo_rep hE hz
 unfold pMax3 max3E at h
 split at h
 ·rename_i k a k' b k'' c hx1 hy1 hz1
  rw[hx1]at hx;rw[hy1]at hy;rw[hz1]at hz
  obtain⟨a,h1,h2⟩:=hx.val_inv;simp only[VR]at h1;subst h1
  obtain⟨b,k1,k2⟩:=hy.val_inv;simp only[VR]at k1;subst k1
  obtain⟨c,l1,l2⟩:=hz.val_inv;simp only[VR]at l1;subst l1
  cases h
  refine⟨_,by simp only[pureV,h2,k2,l2]<;>rfl,?_⟩
  rw[maxI_eq,maxI_eq];exact .plain rfl
 ·cases h
theorem fillE_rep (hE:EnvR ρ env e'):∀{ps:List (Nat × Nat × Opd)} {cs cs' ds:List AVal},fillE cs ps env=some ds→VRs ρ cs cs'→(∀p∈ps,p.2.2.plain=true)→
  ∃qs ds',partV (evalOpd e') ps=some qs∧fillV cs' qs=some ds'∧VRs ρ ds ds'
 | [],cs,cs',ds,h,hc,_=>by
  have h:some cs=some ds:=h
  cases h;exact⟨[],cs',rfl,rfl,hc⟩
 |(o,n,x)::r,cs,cs',ds,h,hc,hp=>by
  have hx:=eo_rep hE (hp _ (List.mem_cons_self ..))
  unfold fillE at h
  split at h
  ·rename_i v heq
   rw[show eo (o,n,x).2.2 env=.val v from heq]at hx
   obtain⟨a,h1,h2⟩:=hx.val_inv
   cases hb:(cellsOk n v&&fits (Nat.add o n) cs)with
   |false=>rw[hb]at h;cases h
   |true=>
    rw[hb,cond_true]at h
    simp only[Bool.and_eq_true]at hb
    obtain⟨c1,c2⟩:=cellsOk_eq hb.1
    have c3:o+n≤cs.length:=fits_some hb.2
    rw[putAt_eq (by rw[c1];exact c3)]at h
    obtain⟨qs,ds',k1,k2,k3⟩:=fillE_rep hE h (hc.splice o h1.cells) (fun p hq=>hp p (List.mem_cons_of_mem _ hq))
    refine⟨(o,n,a)::qs,ds',?_,?_,k3⟩
    ·unfold partV;rw[show evalOpd e' x=.val a from h2,k1]
    ·unfold fillV
     rw[if_pos ⟨by rw[h1.cells.length];exact c1,by rw[h1.cells.all_one];exact c2,by rw[hc.length];exact c3⟩];exact k2
  ·cases h
theorem buildE_rep (hE:EnvR ρ env e') {z:List AVal} {ps:List (Nat × Nat × Opd)} (hz:plains z=true) (hp:∀p∈ps,p.2.2.plain=true) (h:buildE z ps env=some e):∃f,pureV e' (.build z ps)=some f∧EntR ρ e f:=by
 unfold buildE at h
 obtain⟨a,h1,rfl⟩:=toE_some h
 cases hf:fillE z ps env with
 |none=>rw[hf]at h1;cases h1
 |some ds=>
  rw[hf]at h1;cases h1
  obtain⟨qs,ds',k1,k2,k3⟩:=fillE_rep hE hf (VRs.of_plain z hz) hp
  exact⟨_,by simp only[pureV,k1,k2]<;>rfl,.ofV (by simp only[VR];exact⟨ds',k3,rfl⟩)⟩
theorem setE_rep (hE:EnvR ρ env e') {sz:Nat}:∀{ps:List (Nat × Opd)} {xs xs' ys:List AVal},setE sz xs ps env=some ys→VRs ρ xs xs'→(∀p∈ps,p.2.plain=true)→
  ∃ys',setAll sz xs' (evalOpd e') ps=some ys'∧VRs ρ ys ys'∧ys.length=xs.length
 | [],xs,xs',ys,h,hc,_=>by
  have h:some xs=some ys:=h
  cases h;exact⟨xs',rfl,hc,rfl⟩
 |(i,x)::r,xs,xs',ys,h,hc,hp=>by
  have hx:=eo_rep hE (hp _ (List.mem_cons_self ..))
  unfold setE at h
  split at h
  ·rename_i v heq
   rw[show eo (i,x).2 env=.val v from heq]at hx
   obtain⟨a,h1,h2⟩:=hx.val_inv
   cases hb:(cellsOk sz v&&fits (Nat.add i 1) xs)with
   |false=>rw[hb]at h;cases h
   |true=>
    rw[hb,cond_true]at h
    simp only[Bool.and_eq_true]at hb
    obtain⟨c1,c2⟩:=cellsOk_eq hb.1
    have c3:i+1≤xs.length:=fits_some hb.2
    rw[elemAt_eq]at h
    obtain⟨ys',k1,k2,k3⟩:=setE_rep hE h (hc.set i h1) (fun p hq=>hp p (List.mem_cons_of_mem _ hq))
    refine⟨ys',?_,k2,by rw[k3,List.length_set]⟩
    unfold setAll
    rw[show evalOpd e' x=.val a from h2]
    simp only
    rw[if_pos ⟨by rw[hc.length];omega,by rw[h1.cells.length];exact c1,by rw[h1.cells.all_one];exact c2⟩];exact k1
  ·cases h
theorem two_some {a b:Option Nat} {k:Nat→Nat→Option Ent} (h:two a b k=some e):∃m n,a=some m∧b=some n∧k m n=some e:=by
 cases a with
 |none=>cases h
 |some m=>
  cases b with
  |none=>cases h
  |some n=>exact⟨m,n,rfl,rfl,h⟩
theorem bnd_rep (hE:EnvR ρ env e') {d n:Nat}:∀{hi:Option Opd},bndE d env hi=some n→(∀x,hi=some x→x.plain=true)→∀{k:Nat→Prop},k n→bound e' d hi k
 |none,h,_,k,hk=>by
  have h:some d=some n:=h
  cases h;exact hk
 |some x,h,hp,k,hk=>by
  have hx:=eo_rep hE (hp x rfl)
  unfold bndE at h
  simp only at h
  split at h
  ·rename_i heq
   rw[heq]at hx;obtain⟨a,h1,h2⟩:=hx.val_inv;simp only[VR]at h1;subst h1
   cases h
   unfold bound
   simp only[h2]
   exact⟨by simp only[Int.ofNat_eq_natCast];omega,hk⟩
  ·cases h
theorem szIs_rep {sz:Nat} {xs ys:List AVal} (h:szIs sz xs=true) (hv:VRs ρ xs ys):∀x,ys[0]? =some x→x.cells.length=sz:=by
 intro x hx
 cases xs with
 |nil=>rw[hv.nil_inv]at hx;cases hx
 |cons z zs=>
  obtain⟨y,ys',h1,_,rfl⟩:=hv.cons_inv
  simp only[List.getElem?_cons_zero,Option.some.injEq]at hx
  subst hx
  rw[h1.cells.length];exact lenIs_eq h
def GivesE (P:Program) (o:AOp) (e':Env) (ρ:Names) (e:Ent):Prop:=∃f,EntR ρ e f∧∀(d:Option Nat) (K:Env→Store→Prop) (σ:Store) (W:List Nat),K (e'.set d f) σ→vcOp P o d K e' σ∧vcOpD P W o d K e' σ
variable {P:Program}
theorem givesE_pure {o:AOp} (hp:o.isPure=true) (hD:∀W d K σ,vcOpD P W o d K e' σ=vcOp P o d K e' σ) (h:∃f,pureV e' o=some f∧EntR ρ e f):GivesE P o e' ρ e:=by
 obtain⟨f,h1,h2⟩:=h
 refine⟨f,h2,fun d K σ W hk=> ?_⟩
 have:vcOp P o d K e' σ:=by
  rw[vcOp_pure P o d K e' σ hp,h1];exact hk
 exact⟨this,by rw[hD];exact this⟩
theorem pPick_rep (hE:EnvR ρ env e') {c a b:Opd} (hc:c.plain=true) (ha:a.plain=true) (hb:b.plain=true) (h:pPick c a b env=some e):GivesE P (.pick c a b) e' ρ e:=by
 have hx:=eo_rep hE hc
 unfold pPick at h
 rw[pickE_eq]at h
 unfold pickE0 at h
 split at h
 ·rename_i t heq
  rw[heq]at hx;obtain⟨v,h1,h2⟩:=hx.val_inv;simp only[VR]at h1;subst h1
  cases h
  refine⟨bif t then evalOpd e' a else evalOpd e' b,?_,fun d K σ W hk=> ?_⟩
  ·cases t
   ·exact eo_rep hE hb
   ·exact eo_rep hE ha
  ·have:vcOp P (.pick c a b) d K e' σ:=by
    simp only[vcOp,h2]
    cases t
    ·exact⟨fun h=>(by cases h),fun _=>hk⟩
    ·exact⟨fun _=>hk,fun h=>(by cases h)⟩
   exact⟨this,this⟩
 ·cases h
theorem sliceO_some {o:Option (List AVal)} (h:sliceO o=some e):∃xs,o=some xs∧e=.val (.slice xs false none):=by
 cases o with
 |none=>cases h
 |some xs=>cases h;exact⟨xs,rfl,rfl⟩
theorem pBsl_rep (hE:EnvR ρ env e') {own:Bool} {sz q n:Nat} {z:AVal} {ps:List (Nat × Opd)} (hz:z.plain=true) (hp:∀p∈ps,p.2.plain=true) (h:pBsl own sz n z ps env=some e):GivesE P (.bslice own sz q n z ps) e' ρ e:=by
 unfold pBsl at h
 cases own with
 |true=>cases h
 |false=>
  rw[cond_false]at h
  obtain⟨xs,h1,rfl⟩:=sliceO_some h
  obtain⟨ys,k1,k2,_⟩:=setE_rep hE h1 (VRs.replicate n (VR.of_plain z hz)) hp
  refine⟨.val (.slice ys false none),.ofV (by simp only[VR];exact⟨ys,k2,rfl⟩),fun d K σ W hk=> ?_⟩
  have:vcOp P (.bslice false sz q n z ps) d K e' σ:=by
   simp only[vcOp,k1]
   simpa using hk
  exact⟨this,this⟩
theorem strO_some {o:Option (List UInt8)} (h:strO o=some e):∃xs,o=some xs∧e=.val (.str xs):=by
 cases o with
 |none=>cases h
 |some xs=>cases h;exact⟨xs,rfl,rfl⟩
theorem plains_bytes (l:List UInt8):plains (bytesA l)=true:=by
 induction l with
 |nil=>rfl
 |cons c l ih=>exact ih
theorem pBstr_rep (hE:EnvR ρ env e') {x:Opd} (hp:x.plain=true) (h:pBstr x env=some e):GivesE P (.bytesStr x) e' ρ e:=by
 have hx:=eo_rep hE hp
 unfold pBstr bstrE at h
 split at h
 ·rename_i xs nl tok heq
  rw[heq]at hx;obtain⟨v,h1,h2⟩:=hx.val_inv
  obtain⟨ys,t,k1,rfl,_⟩:=h1.slice_inv
  obtain⟨l,m1,rfl⟩:=strO_some h
  have hxs:=bytesOf_some m1
  subst hxs
  have hys:ys=bytesA l:=VRs.det _ k1 (VRs.of_plain _ (plains_bytes l))
  subst hys
  refine⟨.val (.str l),.plain rfl,fun d K σ W hk=> ?_⟩
  have:vcOp P (.bytesStr x) d K e' σ:=by
   simp only[vcOp,h2]
   exact⟨l,rfl,hk⟩
  exact⟨this,this⟩
 ·cases h
theorem pStrb_rep (hE:EnvR ρ env e') {q:Nat} {x:Opd} (hp:x.plain=true) (h:pStrb x env=some e):GivesE P (.strBytes q x) e' ρ e:=by
 have hx:=eo_rep hE hp
 unfold pStrb strbE at h
 split at h
 ·rename_i l heq
  rw[heq]at hx;obtain⟨v,h1,h2⟩:=hx.val_inv;simp only[VR]at h1;subst h1
  rw[ble_eq,lenB_eq,Nat.zero_add]at h
  by_cases hl:l.length≤maxLen
  ·rw[decide_eq_true hl,cond_true]at h
   cases h
   refine⟨.val (.slice (bytesA l) false none),?_,fun d K σ W hk=> ?_⟩
   ·rw[ofBytes_eq];exact .plain (plains_bytes l)
   ·have:vcOp P (.strBytes q x) d K e' σ:=by
     simp only[vcOp,h2]
     exact⟨hl,hk⟩
    exact⟨this,this⟩
  ·rw[decide_eq_false hl]at h;cases h
 ·cases h
theorem pCut_rep (hE:EnvR ρ env e') {sz:Nat} {x:Opd} {lo hi:Option Opd} (hp:x.plain=true) (hlo:∀x,lo=some x→x.plain=true) (hhi:∀x,hi=some x→x.plain=true) (h:pCut sz x lo hi env=some e):GivesE P (.cut sz x lo hi) e' ρ e:=by
 have hx:=eo_rep hE hp
 unfold pCut cutE at h
 split at h
 ·rename_i xs nl tok heq
  rw[heq]at hx;obtain⟨v,h1,h2⟩:=hx.val_inv
  obtain⟨ys,t,k1,rfl,k2,k3⟩:=h1.slice_inv
  cases hs:szIs sz xs with
  |false=>rw[hs]at h;cases h
  |true=>
   rw[hs,cond_true,lenF_eq,Nat.zero_add]at h
   obtain⟨m,n,b1,b2,b3⟩:=two_some h
   unfold cutF at b3
   cases hb:(Nat.ble m xs.length&&Nat.ble n m)with
   |false=>rw[hb]at b3;cases b3
   |true=>
    rw[hb,cond_true]at b3;cases b3
    simp only[Bool.and_eq_true,ble_eq,decide_eq_true_eq]at hb
    have hlen:=k1.length
    refine⟨.val (.slice ((ys.take m).drop n) nl (bif n==0&&m==ys.length then t else none)),.ofV (VR.slice_mk ((k1.take m).drop n) ?_ ?_),fun d K σ W hk=> ?_⟩
    ·intro hn
     by_cases hc:n=0∧m=xs.length
     ·obtain⟨rfl,rfl⟩:=hc
      simp only[beq_eq,decide_true,Bool.and_self,cond_true]at hn
      rw[k2 hn];simp
     ·have:(n==0&&m==ys.length)=false:=by
       simp only[hlen,Bool.and_eq_false_iff,beq_eq_false_iff_ne,ne_eq];omega
      rw[this];rfl
    ·intro g hg
     by_cases hc:n=0∧m=xs.length
     ·obtain⟨rfl,rfl⟩:=hc
      simp only[beq_eq,decide_true,Bool.and_self,cond_true]at hg
      obtain⟨z,z1,z2,z3⟩:=k3 g hg
      exact⟨z,z1,by simp[z2],by simp[hlen,z3]⟩
     ·have:(Nat.beq n 0&&Nat.beq m xs.length)=false:=by
       simp only[beq_eq,Bool.and_eq_false_iff,decide_eq_false_iff_not];omega
      rw[this]at hg;cases hg
    ·have b1':bndE ys.length env hi=some m:=by rw[hlen];exact b1
     constructor
     ·simp only[vcOp,h2]
      exact⟨szIs_rep hs k1,bnd_rep hE b1' hhi ⟨by rw[hlen];exact hb.1,bnd_rep hE b2 hlo ⟨hb.2,hk⟩⟩⟩
     ·simp only[vcOpD,h2]
      exact⟨szIs_rep hs k1,bnd_rep hE b1' hhi ⟨by rw[hlen];exact hb.1,bnd_rep hE b2 hlo ⟨hb.2,hk⟩⟩⟩
 ·rename_i b o n c heq
  rw[heq]at hx;obtain⟨v,h1,h2⟩:=hx.val_inv
  simp only[VR]at h1;obtain⟨z,hz,rfl⟩:=h1
  obtain⟨m,l,b1,b2,b3⟩:=two_some h
  unfold cutR at b3
  cases hb:(Nat.ble m n&&Nat.ble l m)with
  |false=>rw[hb]at b3;cases b3
  |true=>
   rw[hb,cond_true]at b3
   simp only[Bool.and_eq_true,ble_eq,decide_eq_true_eq]at hb
   refine⟨.val (cutRef z.b o (capOf z.m c) sz m l),?_,fun d K σ W hk=> ?_⟩
   ·unfold cutRef
    rw[beq_eq,beq_eq,beq_eq]at b3
    by_cases h0:l=0
    ·rw[decide_eq_true h0,cond_true]at b3;cases b3
     rw[if_pos h0];exact .ofV (by simp only[VR];exact⟨z,hz,rfl⟩)
    ·rw[decide_eq_false h0,cond_false]at b3
     rw[if_neg h0]
     by_cases h3:m=l
     ·rw[decide_eq_true h3,cond_true]at b3;cases b3
      rw[if_pos h3];exact .plain rfl
     ·rw[decide_eq_false h3,cond_false]at b3
      rw[if_neg h3]
      by_cases h4:c%2=1
      ·rw[show Nat.mod c 2=c%2 from rfl,decide_eq_true h4,cond_true]at b3;cases b3
       refine .ofV ?_
       simp only[VR]
       refine⟨z,hz,?_⟩
       show AVal.ref z.b (o+l*sz) (m-l) (capOf z.m c-l)=.ref z.b (o+l*sz) (m-l) (capOf z.m (c+2*l))
       congr 1
       unfold capOf
       rw[if_pos h4,if_pos (by omega)];omega
      ·rw[show Nat.mod c 2=c%2 from rfl,decide_eq_false h4,cond_false]at b3;cases b3
       refine .ofV ?_
       simp only[VR]
       refine⟨z,hz,?_⟩
       show AVal.ref z.b (o+l*sz) (m-l) (capOf z.m c-l)=.ref z.b (o+l*sz) (m-l) (capOf z.m (c-2*l))
       congr 1
       unfold capOf
       rw[if_neg h4,if_neg (by omega)];omega
   ·constructor
    ·simp only[vcOp,h2]
     exact bnd_rep hE b1 hhi ⟨hb.1,bnd_rep hE b2 hlo ⟨hb.2,hk⟩⟩
    ·simp only[vcOpD,h2]
     exact bnd_rep hE b1 hhi ⟨hb.1,bnd_rep hE b2 hlo ⟨hb.2,hk⟩⟩
 ·cases h
theorem pCut3_rep (hE:EnvR ρ env e') {sz:Nat} {x:Opd} {lo:Option Opd} {hi mx:Opd} (hp:x.plain=true) (hlo:∀x,lo=some x→x.plain=true) (hhi:hi.plain=true) (hmx:mx.plain=true) (h:pCut3 sz x lo hi mx env=some e):GivesE P (.cut3 sz x lo hi mx) e' ρ e:=by
 have hx:=eo_rep hE hp
 unfold pCut3 cut3E at h
 split at h
 ·rename_i xs nl tok heq
  rw[heq]at hx;obtain⟨v,h1,h2⟩:=hx.val_inv
  obtain⟨ys,t,k1,rfl,k2,k3⟩:=h1.slice_inv
  cases hs:szIs sz xs with
  |false=>rw[hs]at h;cases h
  |true=>
   rw[hs,cond_true,lenF_eq,Nat.zero_add]at h
   unfold cut3G at h
   cases hm:bndE 0 env (some mx)with
   |none=>rw[hm]at h;cases h
   |some q=>
    rw[hm]at h
    obtain⟨m,n,b1,b2,b3⟩:=two_some h
    unfold cut3F at b3
    cases hb:(Nat.ble q xs.length&&(Nat.ble m q&&Nat.ble n m))with
    |false=>rw[hb]at b3;cases b3
    |true=>
     rw[hb,cond_true]at b3;cases b3
     simp only[Bool.and_eq_true,ble_eq,decide_eq_true_eq]at hb
     refine⟨.val (.slice ((ys.take m).drop n) nl none),.ofV (by simp only[VR];exact⟨_,(k1.take m).drop n,rfl⟩),fun d K σ W hk=> ?_⟩
     have:vcOp P (.cut3 sz x lo hi mx) d K e' σ:=by
      simp only[vcOp,h2]
      exact⟨szIs_rep hs k1,bnd_rep hE hm (fun x hx=>by cases hx;exact hmx) ⟨by rw[k1.length];exact hb.1,bnd_rep hE b1 (fun x hx=>by cases hx;exact hhi) ⟨hb.2.1,bnd_rep hE b2 hlo ⟨hb.2.2,hk⟩⟩⟩⟩
     exact⟨this,this⟩
 ·cases h
theorem pCutS_rep (hE:EnvR ρ env e') {x:Opd} {lo hi:Option Opd} (hp:x.plain=true) (hlo:∀x,lo=some x→x.plain=true) (hhi:∀x,hi=some x→x.plain=true) (h:pCutS x lo hi env=some e):GivesE P (.cutStr x lo hi) e' ρ e:=by
 have hx:=eo_rep hE hp
 unfold pCutS cutSE at h
 split at h
 ·rename_i s heq
  rw[heq]at hx;obtain⟨v,h1,h2⟩:=hx.val_inv;simp only[VR]at h1;subst h1
  rw[lenB_eq,Nat.zero_add]at h
  obtain⟨m,n,b1,b2,b3⟩:=two_some h
  unfold cutSF at b3
  cases hb:(Nat.ble m s.length&&Nat.ble n m)with
  |false=>rw[hb]at b3;cases b3
  |true=>
   rw[hb,cond_true]at b3;cases b3
   simp only[Bool.and_eq_true,ble_eq,decide_eq_true_eq]at hb
   refine⟨_,.plain rfl,fun d K σ W hk=> ?_⟩
   have:vcOp P (.cutStr x lo hi) d K e' σ:=by
    simp only[vcOp,h2]
    exact bnd_rep hE b1 hhi ⟨hb.1,bnd_rep hE b2 hlo ⟨hb.2,hk⟩⟩
   exact⟨this,this⟩
 ·cases h
theorem pIaddr_rep (hE:EnvR ρ env e') {sz:Nat} {x i:Opd} (hp:x.plain=true) (hq:i.plain=true) (h:pIaddr sz x i env=some e):GivesE P (.iaddr sz x i) e' ρ e:=by
 have hx:=eo_rep hE hp;have hi:=eo_rep hE hq
 unfold pIaddr at h
 rw[iaddrE_eq]at h
 unfold iaddrE0 at h
 split at h
 ·rename_i k n heq
  rw[heq]at hi;obtain⟨v,h1,h2⟩:=hi.val_inv;simp only[VR]at h1;subst h1
  have hn:(0:Int)≤Int.ofNat n:=by simp only[Int.ofNat_eq_natCast];omega
  rw[idx1_eq]at h
  unfold idx10 at h
  split at h
  ·rename_i xs nl tok heq2
   rw[heq2]at hx;obtain⟨v,k1,k2⟩:=hx.val_inv
   obtain⟨ys,t,m1,rfl,_⟩:=k1.slice_inv
   cases hv:nthV xs n with
   |none=>rw[hv]at h;cases h
   |some a=>
    rw[hv]at h
    have h:sptrE sz a=some e:=h
    unfold sptrE at h
    cases hl:lenIs sz (cellsC a)with
    |false=>rw[hl]at h;cases h
    |true=>
     rw[hl,cond_true]at h;cases h
     rw[cellsC_eq]at hl⊢
     rw[nthV_eq]at hv
     obtain⟨w,w1,w2⟩:=m1.get hv
     refine⟨.val (.sptr w.cells),.ofV (by simp only[VR];exact⟨_,w2.cells,rfl⟩),fun d K σ W hk=> ?_⟩
     have:vcOp P (.iaddr sz x i) d K e' σ:=by
      simp only[vcOp,h2,k2]
      exact⟨hn,w,w1,by rw[w2.cells.length];exact lenIs_eq hl,hk⟩
     exact⟨this,this⟩
  ·rename_i b o m c heq2
   rw[heq2]at hx;obtain⟨v,k1,k2⟩:=hx.val_inv
   simp only[VR]at k1;obtain⟨z,hz,rfl⟩:=k1
   rw[blt_eq]at h
   by_cases hm:n<m
   ·rw[decide_eq_true hm,cond_true]at h;cases h
    refine⟨.val (.ptr z.b (o+n*sz)),.ofV (by simp only[VR];exact⟨z,hz,rfl⟩),fun d K σ W hk=> ?_⟩
    have:vcOp P (.iaddr sz x i) d K e' σ:=by
     simp only[vcOp,h2,k2]
     exact⟨hn,by simp only[Int.ofNat_eq_natCast];omega,hk⟩
    exact⟨this,this⟩
   ·rw[decide_eq_false hm]at h;cases h
  ·cases h
 ·cases h
theorem pIstr_rep (hE:EnvR ρ env e') {x i:Opd} (hp:x.plain=true) (hq:i.plain=true) (h:pIstr x i env=some e):GivesE P (.istr x i) e' ρ e:=by
 have hx:=eo_rep hE hp;have hi:=eo_rep hE hq
 unfold pIstr istrE at h
 split at h
 ·rename_i k n heq
  rw[heq]at hi;obtain⟨v,h1,h2⟩:=hi.val_inv;simp only[VR]at h1;subst h1
  have hn:(0:Int)≤Int.ofNat n:=by simp only[Int.ofNat_eq_natCast];omega
  split at h
  ·rename_i s heq2
   rw[heq2]at hx;obtain⟨v,k1,k2⟩:=hx.val_inv;simp only[VR]at k1;subst k1
   unfold istrE2 at h
   split at h
   ·rename_i c hc
    cases h
    refine⟨.val (ofByte c),.plain rfl,fun d K σ W hk=> ?_⟩
    have:vcOp P (.istr x i) d K e' σ:=by
     simp only[vcOp,h2,k2]
     exact⟨hn,c,hc,hk⟩
    exact⟨this,this⟩
   ·cases h
  ·cases h
 ·cases h
end
end Go.AL
