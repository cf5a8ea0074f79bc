/-
  AN ABSTRACT LOGIC OVER THE MODEL, part 7: operations all together; a function's code; a function.
-/
import Derived.Test.YtfoeaeeaflmkfaaGreatAL14
namespace Go.AL
open Go.RowKit
section
variable {P:Program} {E:Entry} {I:Sealed} {σ:Store} {env:Env} {bx:Nat→Nat} {a:Act} {w:World} {o:Oper}
variable {k:Env→Store→Prop} {Q:Exit→Act→World→Prop}
theorem sound_pure (st:St E I σ env bx a w) (hd:∀x,o.dst=some x→x<E.n) {esc:List Nat} {ao:AOp} (hc:ofOp P esc o.dst o.op=some ao) (hp:ao.isPure=true) (h:vcOp P ao o.dst k env σ):o.wp P a w (Up E k) Q:=by
 rw[vcOp_pure P ao o.dst k env σ hp]at h
 cases he:pureV env ao with
 |none=>rw[he]at h;exact h.elim
 |some e=>
  rw[he]at h
  obtain⟨v,h1,h2⟩:=gives_pure st hc he
  exact wp_quiet st hd (h1 w) h2 h
theorem op_sound (st:St E I σ env bx a w) (hd:∀x,o.dst=some x→x<E.n) {esc:List Nat} {ao:AOp} (hc:ofOp P esc o.dst o.op=some ao) (h:vcOp P ao o.dst k env σ):o.wp P a w (Up E k) Q:=by
 by_cases hp:ao.isPure=true
 ·exact sound_pure st hd hc hp h
 cases ho:o.op
 all_goals
  rw[ho]at hc
  simp only[ofOp,reduceCtorEq]at hc
 case pick c x z=>
  split at hc
  ·simp only[Option.some.injEq]at hc;subst hc;exact sound_pick st hd ho ‹_› ‹_› ‹_› h
  ·cases hc
 case alloc t=>
  split at hc
  ·rename_i z d hz hdst
   simp only[Option.some.injEq]at hc
   split at hc
   ·subst hc;exact sound_obj st hd ho hz h
   ·subst hc;exact sound_box st (hd d hdst) hdst ho hz h
  ·cases hc
 case box t x=>
  split at hc
  ·rename_i y d hy hdst
   simp only[Option.some.injEq]at hc
   split at hc
   ·subst hc;exact sound_objv st hd ho hy h
   ·subst hc;exact sound_boxv st (hd d hdst) hdst ho hy h
  ·cases hc
 case buildSlice t n parts=>
  split at hc
  ·split at hc
   ·split at hc
    ·rename_i hcond
     split at hc
     ·simp only[Option.some.injEq]at hc;subst hc
      exact sound_mslice st hd ho ‹_› ‹_› ‹_› ‹_› hcond.1 hcond.2.1 hcond.2.2 h
     ·simp only[Option.some.injEq]at hc;subst hc
      exact sound_bslice st hd ho ‹_› ‹_› ‹_› ‹_› hcond.1 hcond.2.1 hcond.2.2 h
    ·cases hc
   ·cases hc
  ·cases hc
 case load t x=>
  split at hc
  ·simp only[Option.some.injEq]at hc;subst hc;exact sound_load st hd ho ‹_› ‹_› h
  ·cases hc
 case store t x v=>
  split at hc
  ·simp only[Option.some.injEq]at hc;subst hc;exact sound_store st hd ho ‹_› ‹_› ‹_› h
  ·cases hc
 case convert s d x=>
  split at hc
  ·rename_i hsd
   subst hsd
   split at hc
   ·split at hc
    ·simp only[Option.some.injEq]at hc;subst hc;exact sound_mark st hd ho ‹_› ‹_› ‹_› h
    ·cases hc
   ·simp only[Option.some.injEq]at hc;subst hc;exact absurd rfl hp
   ·simp only[Option.some.injEq]at hc;subst hc;exact absurd rfl hp
   ·cases hc
  split at hc
  ·simp only[Option.some.injEq]at hc;subst hc;exact absurd rfl hp
  ·simp only[Option.some.injEq]at hc;subst hc;exact absurd rfl hp
  ·split at hc
   ·simp only[Option.some.injEq]at hc;subst hc;exact sound_bytesStr st hd ho ‹_› ‹_› ‹_› ‹_› h
   ·cases hc
  ·split at hc
   ·simp only[Option.some.injEq]at hc;subst hc;exact sound_strBytes st hd ho ‹_› ‹_› ‹_› ‹_› h
   ·cases hc
  ·cases hc
 case slice t x lo hi mx=>
  split at hc
  ·split at hc
   ·simp only[Option.some.injEq]at hc;subst hc;exact absurd rfl hp
   ·cases hc
  ·clear hp
   rename_i lo hi mx _ _ _ _ _
   split at hc
   ·rename_i hx hlo hhi hmx ht
    split at hc
    ·simp only[Option.some.injEq]at hc;subst hc
     cases mx with
     |none=>exact sound_cut st hd ho ht ‹_› hx hlo hhi h
     |some q=>simp only[ofOpdO]at hmx;split at hmx<;>cases hmx
    ·cases hc
   ·rename_i hx hlo hhi hmx ht
    split at hc
    ·simp only[Option.some.injEq]at hc;subst hc
     cases mx with
     |none=>simp[ofOpdO]at hmx
     |some q=>
      cases hi with
      |none=>simp[ofOpdO]at hhi
      |some q2=>exact sound_cut3 st hd ho ht ‹_› hx hlo hhi hmx h
    ·cases hc
   ·rename_i hx hlo hhi hmx ht
    simp only[Option.some.injEq]at hc;subst hc
    cases mx with
    |none=>exact sound_cutStr st hd ho ht hx hlo hhi h
    |some q=>simp only[ofOpdO]at hmx;split at hmx<;>cases hmx
   ·cases hc
 case indexAddr t x i=>
  split at hc
  ·split at hc
   ·split at hc
    ·simp only[Option.some.injEq]at hc;subst hc;exact absurd rfl hp
    ·cases hc
   ·simp only[Option.some.injEq]at hc;subst hc;exact absurd rfl hp
   ·cases hc
  ·split at hc
   ·split at hc
    ·simp only[Option.some.injEq]at hc;subst hc;exact sound_iaddr st hd ho ‹_› ‹_› ‹_› ‹_› h
    ·cases hc
   ·cases hc
 case makeMap t r=>
  cases r with
  |none=>simp only[Option.some.injEq]at hc;subst hc;exact sound_mmap st hd ho h
  |some r=>cases hc
 case lookup t x i ok=>
  split at hc
  ·split at hc
   ·simp only[Option.some.injEq]at hc;subst hc;exact sound_mget st hd ho ‹_› ‹_› ‹_› ‹_› ‹_› h
   ·cases hc
  ·cases hc
 case mapUpdate t m i v=>
  split at hc
  ·split at hc
   ·simp only[Option.some.injEq]at hc;subst hc;exact sound_mset st hd (.inl ho) ‹_› ‹_› ‹_› ‹_› ‹_› h
   ·cases hc
  ·cases hc
 case insert t m i v=>
  split at hc
  ·split at hc
   ·simp only[Option.some.injEq]at hc;subst hc;exact sound_mset st hd (.inr ho) ‹_› ‹_› ‹_› ‹_› ‹_› h
   ·cases hc
  ·cases hc
 case range t x=>
  split at hc
  ·simp only[Option.some.injEq]at hc;subst hc;exact sound_range st hd ho ‹_› ‹_› h
  ·cases hc
 case next x b=>
  cases b with
  |true=>cases hc
  |false=>
   dsimp only at hc
   split at hc
   ·simp only[Option.some.injEq]at hc;subst hc;exact sound_next st hd ho ‹_› h
   ·cases hc
 case entry x=>
  split at hc
  ·simp only[Option.some.injEq]at hc;subst hc;exact sound_entry st hd ho ‹_› h
  ·cases hc
 case index t x i=>
  split at hc
  ·simp only[Option.some.injEq]at hc;subst hc;exact sound_istr st hd ho ‹_› ‹_› ‹_› h
  ·split at hc
   ·split at hc
    ·simp only[Option.some.injEq]at hc;subst hc;exact absurd rfl hp
    ·cases hc
   ·cases hc
  ·cases hc
 case call c=>
  split at hc
  case h_2=>cases hc
  rename_i o' hc'
  simp only[Option.some.injEq]at hc
  have hoo:ao=o'∨∃sz e b x y,o'=.append sz e b x y∧ao=.appendM sz e b x y:=by
   subst hc
   split
   ·cases o'<;>first|exact .inl rfl|exact .inr ⟨_,_,_,_,_,rfl,rfl⟩
   ·exact .inl rfl
  replace hc:=hc'
  clear hc'
  rcases hoo with rfl|⟨sz',e',b',x',y',rfl,rfl⟩
  rotate_left
  ·unfold ofCall at hc
   split at hc
   ·split at hc
    ·split at hc
     ·split at hc<;>cases hc
     ·cases hc
    ·split at hc<;>cases hc
   ·rename_i b hcal
    obtain⟨callee,⟨args⟩,⟨argTypes⟩⟩:=c
    simp only at hcal
    subst hcal
    cases b<;>simp only[ofBuiltin,reduceCtorEq]at hc
    case append=>
     split at hc
     ·split at hc
      ·split at hc
       ·split at hc
        ·rename_i hcond
         obtain⟨hzl,rfl⟩:=hcond
         simp only[Option.some.injEq,AOp.append.injEq]at hc
         obtain⟨rfl,rfl,rfl,rfl,rfl⟩:=hc
         exact sound_appendM st hd ho ‹_› ‹_› ‹_› ‹_› ‹_› ‹_› hzl h
        ·cases hc
       ·cases hc
      ·split at hc
       ·split at hc<;>cases hc
       ·cases hc
      ·cases hc
     ·cases hc
    all_goals
     repeat' (split at hc)
     all_goals cases hc
   ·split at hc<;>cases hc
  unfold ofCall at hc
  split at hc
  ·rename_i f hcal
   split at hc
   ·split at hc
    ·split at hc
     ·simp only[Option.some.injEq]at hc;subst hc;exact sound_call st hd ho hcal ‹_› ‹_› ‹_› h
     ·cases hc
    ·cases hc
   ·split at hc
    ·simp only[Option.some.injEq]at hc;subst hc;exact sound_callv st hd ho hcal ‹_› ‹_› h
    ·cases hc
  ·rename_i b hcal
   obtain⟨callee,⟨args⟩,⟨argTypes⟩⟩:=c
   simp only at hcal
   subst hcal
   cases b<;>simp only[ofBuiltin,reduceCtorEq]at hc
   case append=>
    split at hc
    ·split at hc
     ·split at hc
      ·split at hc
       ·rename_i hcond
        obtain⟨hzl,rfl⟩:=hcond
        simp only[Option.some.injEq]at hc;subst hc
        exact sound_append st hd ho ‹_› ‹_› ‹_› ‹_› ‹_› ‹_› hzl h
       ·cases hc
      ·cases hc
     ·split at hc
      ·split at hc
       ·rename_i hzl
        simp only[Option.some.injEq]at hc;subst hc
        exact sound_appendZ st hd ho ‹_› ‹_› ‹_› ‹_› ‹_› ‹_› ‹_› hzl h
       ·cases hc
      ·cases hc
     ·cases hc
    ·cases hc
   case cap=>
    split at hc
    ·split at hc
     ·simp only[Option.some.injEq]at hc;subst hc
      exact sound_cap st hd ho ‹_› ‹_› h
     ·cases hc
    ·cases hc
   case len=>
    split at hc
    ·split at hc
     ·simp only[Option.some.injEq]at hc;subst hc;exact absurd rfl hp
     ·simp only[Option.some.injEq]at hc;subst hc;exact absurd rfl hp
     ·simp only[Option.some.injEq]at hc;subst hc;exact sound_mlen st hd ho ‹_› ‹_› h
     ·cases hc
    ·cases hc
   case delete=>
    split at hc
    ·split at hc
     ·split at hc
      ·simp only[Option.some.injEq]at hc;subst hc;exact sound_mdel st hd ho ‹_› ‹_› ‹_› ‹_› h
      ·cases hc
     ·cases hc
    ·cases hc
   case clear=>
    split at hc
    ·split at hc
     ·simp only[Option.some.injEq]at hc;subst hc;exact sound_clearM st hd ho ‹_› ‹_› h
     ·split at hc
      ·split at hc
       ·rename_i hcond
        simp only[Option.some.injEq]at hc;subst hc
        exact sound_clearS st hd ho ‹_› ‹_› ‹_› ‹_› hcond.1 hcond.2 h
       ·cases hc
      ·cases hc
     ·cases hc
    ·cases hc
   all_goals
    repeat' (split at hc)
    all_goals first
     |cases hc;done
     |(simp only[Option.some.injEq]at hc;subst hc;exact absurd rfl hp)
  ·rename_i hcal
   split at hc
   ·simp only[Option.some.injEq]at hc;subst hc;exact sound_inv st hd ho hcal ‹_› ‹_› h
   ·cases hc
 case typeAssert x xt t ok=>
  cases ok with
  |false=>cases hc
  |true=>
   dsimp only at hc
   split at hc
   ·simp only[Option.some.injEq]at hc;subst hc;exact absurd rfl hp
   ·cases hc
 case unOp op t x=>
  cases op<;>simp only[reduceCtorEq]at hc
  all_goals
   split at hc
   ·simp only[Option.some.injEq]at hc;subst hc;exact absurd rfl hp
   ·cases hc
 all_goals
  repeat' (split at hc)
  all_goals first
   |cases hc;done
   |(simp only[Option.some.injEq]at hc;subst hc;exact absurd rfl hp)
theorem Env.set_self (env:Env) (s:Nat):env.set (some s) (env s)=env:=by
 funext t
 rw[Env.set_some]
 by_cases h:t=s
 ·rw[if_pos h,h]
 ·rw[if_neg h]
theorem ofOper_some {esc:List Nat} {n:Nat} {all:Array Oper} {ao:AOper} (h:ofOper P esc n all o=some ao):
  ao.dst=o.dst∧(ofOp P esc o.dst o.op=some ao.op∨ao.op=.dead)∧(∀x,o.dst=some x→x<n)∧
  ((o.guard=none∧ao.guard=none)∨∃j want oj s,o.guard=some (j,want)∧all[j]? =some oj∧oj.dst=some s∧s<n∧ao.guard=some (s,want)):=by
 unfold ofOper at h
 have hop:ofOp P esc o.dst o.op=some ((ofOp P esc o.dst o.op).getD .dead)∨(ofOp P esc o.dst o.op).getD .dead=.dead:=by
  cases ofOp P esc o.dst o.op with
  |none=>exact .inr rfl
  |some x=>exact .inl rfl
 generalize (ofOp P esc o.dst o.op).getD .dead=op at h hop
 simp only[]at h
 split at h
 case isFalse=>cases h
 rename_i hd
 have hd':∀x,o.dst=some x→x<n:=by
  intro x hx;rw[hx]at hd;simpa[dstOk]using hd
 split at h
 ·rename_i hg
  simp only[Option.some.injEq]at h;subst h
  exact⟨rfl,hop,hd',.inl ⟨hg,rfl⟩⟩
 ·rename_i j want hg
  split at h
  ·rename_i oj hj
   split at h
   ·rename_i s hs
    split at h
    ·simp only[Option.some.injEq]at h;subst h
     exact⟨rfl,hop,hd',.inr ⟨j,want,oj,s,hg,hj,hs,‹_›,rfl⟩⟩
    ·cases h
   ·cases h
  ·cases h
theorem op_sound' (st:St E I σ env bx a w) (hd:∀x,o.dst=some x→x<E.n) {esc:List Nat} {ao:AOp} (hc:ofOp P esc o.dst o.op=some ao∨ao=.dead) (h:vcOp P ao o.dst k env σ):o.wp P a w (Up E k) Q:=by
 rcases hc with hc|hc
 ·exact op_sound st hd hc h
 ·subst hc;exact h.elim
theorem St.yields (st:St E I σ env bx a w) {ops:Array Oper} {j s:Nat} {oj:Oper} {t:Bool} (hj:ops[j]? =some oj) (hs:oj.dst=some s) (hn:s<E.n) (he:env s=.val (.bool t)):yielded ops a.tmps j=some t:=by
 have hlt:s<a.tmps.size:=by rw[st.size];exact hn
 have hv:=st.ents s
 rw[he]at hv
 have hb:a.tmps.getD s undef=.bool t:=RepC.bool_inv hv
 have:a.tmps[s]? =some (.bool t):=by
  rw[Array.getD_eq_getD_getElem?,Array.getElem?_eq_getElem hlt]at hb
  rw[Array.getElem?_eq_getElem hlt]
  simpa using hb
 simp[yielded,hj,hs,this]
theorem St.yields_not (st:St E I σ env bx a w) {ops:Array Oper} {j s:Nat} {oj:Oper} (hj:ops[j]? =some oj) (hs:oj.dst=some s) (hn:s<E.n) (he:env s=.val (.tuple [])):yielded ops a.tmps j=none:=by
 have hlt:s<a.tmps.size:=by rw[st.size];exact hn
 have hv:=st.ents s
 rw[he]at hv
 have hb:a.tmps.getD s undef=.tuple #[]:=by
  generalize a.tmps.getD s undef=v at hv
  cases hv with
  |tuple vs _ hl _=>simp at hl;subst hl;rfl
 have:a.tmps[s]? =some (.tuple #[]):=by
  rw[Array.getD_eq_getD_getElem?,Array.getElem?_eq_getElem hlt]at hb
  rw[Array.getElem?_eq_getElem hlt]
  simpa using hb
 simp[yielded,hj,hs,this]
theorem rep_undone {J:Sealed}:EntVal J bx undef undone:=RepC.tuple #[] [] rfl fun j=>by simpa using RepC.top _
theorem oper_sound (st:St E I σ env bx a w) {esc:List Nat} {ops:Array Oper} {ao:AOper} (hc:ofOper P esc E.n ops o=some ao) {k:Env→Store→Prop}
  (h:vcOper P ao k env σ):
  if Region.wanted o (yielded ops a.tmps)=true then o.wp P a w (Up E k) Q else Up E k (a.put o.dst undef) w:=by
 obtain⟨h1,h2,h3,h4⟩:=ofOper_some hc
 unfold vcOper at h
 rcases h4 with⟨g1,g2⟩|⟨j,want,oj,s,g1,g2,g3,g4,g5⟩
 ·rw[g2,h1]at h
  have hw:Region.wanted o (yielded ops a.tmps)=true:=by simp[Region.wanted,g1]
  rw[if_pos hw]
  exact op_sound' st h3 h2 h
 ·rw[g5]at h
  simp only[]at h
  split at h
  case h_3=>exact h.elim
  case h_2=>
   rename_i he
   have hy:=st.yields_not g2 g3 g4 he
   have hw:¬Region.wanted o (yielded ops a.tmps)=true:=by simp[Region.wanted,g1,hy]
   rw[if_neg hw]
   rw[h1]at h
   exact⟨I,σ,_,bx,st.step (.refl _ _ _) st.models h3 (e:=undone) rep_undone,h⟩
  rename_i t he
  have hy:=st.yields g2 g3 g4 he
  by_cases htw:t=want
  ·subst htw
   have hw:Region.wanted o (yielded ops a.tmps)=true:=by simp[Region.wanted,g1,hy]
   rw[if_pos hw]
   have:=h.1 rfl
   rw[←he,Env.set_self,h1]at this
   exact op_sound' st h3 h2 this
  ·have hw:¬Region.wanted o (yielded ops a.tmps)=true:=by simp[Region.wanted,g1,hy,htw]
   rw[if_neg hw]
   have ht:t= !want:=by cases t<;>cases want<;>simp_all
   have:=h.2 ht
   rw[←ht,←he,Env.set_self,h1]at this
   exact⟨I,σ,_,bx,st.step (.refl _ _ _) st.models h3 (e:=undone) rep_undone,this⟩
theorem ops_sound {esc:List Nat} {ops:Array Oper} (hQ:∀a w,Up E k a w→Q .normal a w):∀(l:List Oper) (i:Nat) (aops:List AOper) (a:Act) (w:World),ops.toList.drop i=l→ofOpers P esc E.n ops l=some aops→
  Up E (vcOps P aops k) a w→wpOps P ops Q ((List.range l.length).map (· +i)) a w
 | [],i,aops,a,w,_,hc,h=>by
  simp only[ofOpers,Option.some.injEq]at hc
  subst hc
  simp only[List.length_nil,List.range_zero,List.map_nil,wpOps]
  exact hQ a w h
 |o::r,i,aops,a,w,hl,hc,h=>by
  simp only[ofOpers]at hc
  cases ho:ofOper P esc E.n ops o with
  |none=>rw[ho]at hc;cases hc
  |some ao=>
   cases hr:ofOpers P esc E.n ops r with
   |none=>rw[ho,hr]at hc;cases hc
   |some aos=>
    rw[ho,hr]at hc
    simp only[Option.some.injEq]at hc
    subst hc
    obtain⟨I,σ,env,bx,st,h⟩:=h
    have hstep:=oper_sound (Q:=Q) st ho (k:=vcOps P aos k) h
    have hoi:ops[i]? =some o:=by
     have:(ops.toList.drop i)[0]? =some o:=by rw[hl];rfl
     rw[List.getElem?_drop]at this
     simpa using this
    have hl':ops.toList.drop (i+1)=r:=by rw[←List.drop_drop,hl];rfl
    have ih:=fun a w h=>ops_sound (esc:=esc) (ops:=ops) hQ r (i+1) aos a w hl' hr h
    have hrange:(List.range (o::r).length).map (· +i)=i::(List.range r.length).map (· +(i+1)):=by
     rw[List.length_cons,List.range_succ_eq_map,List.map_cons,List.map_map]
     simp only[Nat.zero_add,List.cons.injEq,true_and]
     apply List.map_congr_left
     intro x _
     simp only[Function.comp]
     omega
    rw[hrange]
    simp only[wpOps,hoi]
    split at hstep
    ·rename_i hw
     rw[if_pos hw]
     exact .inl (Oper.wp_mono ih hstep)
    ·rename_i hw
     rw[if_neg hw]
     exact ih _ _ hstep
theorem Up.dim {K:Env→Store→Prop} (h:Up E (Dim K) a w):Up E K a w:=by
 obtain⟨I,σ,env,bx,st,env',σ',hle,hsub,hk⟩:=h
 have hbox:∀s,(env' s).isBox→(env s).isBox:=by
  intro s hs
  rcases hle s with h|h|⟨x,y,_,h,_⟩
  ·rw[h]at hs;exact hs.elim
  ·rw[h];exact hs
  ·rw[h]at hs;exact hs.elim
 refine⟨I,σ',env',bx,⟨st.models.sub hsub,fun s=> ?_,fun s s' h h'=>st.inj s s' (hbox s h) (hbox s' h'),fun s h=>st.low s (hbox s h),st.evo.sub hsub,st.size,st.defers⟩,hk⟩
 have he:=st.ents s
 rcases hle s with h|h|⟨x,y,hx,hy,hxy⟩
 ·rw[h];exact RepC.top _
 ·rw[←h]
  cases hes:env s with
  |val x=>rw[hes]at he;exact he
  |lptr q off=>rw[hes]at he;exact he
  |box c=>
   rw[hes]at he
   obtain⟨p1,vs,T,p2,p3,p4,p5,p6⟩:=he
   exact⟨p1,vs,T,p2,p3,p4,hsub.fresh p5,p6⟩
 ·rw[hy]
  rw[hx]at he
  exact hxy I _ he
end
end Go.AL
