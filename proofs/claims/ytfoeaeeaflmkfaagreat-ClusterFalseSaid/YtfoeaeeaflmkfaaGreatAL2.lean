/-
  AN ABSTRACT LOGIC OVER THE MODEL, part 2: the frame's state over one step; operations that hang on the slots alone.
-/
import Derived.Test.YtfoeaeeaflmkfaaGreatAL1
namespace Go.AL
open Go.RowKit
section
variable {P:Program} {E:Entry} {I I':Sealed} {σ σ':Store} {env:Env} {bx:Nat→Nat} {a:Act} {w w':World}
def EntVal (I:Sealed) (bx:Nat→Nat) (v:Value):Ent→Prop
 |.val x=>RepC I v x
 |.lptr s o=>v=.pointer (some ⟨bx s,o,none⟩)
 |.box _=>False
theorem EntVal.rep {s:Nat} {v:Value} {e:Ent} (h:EntVal I bx v e):EntRep I σ bx w s v e:=by
 cases e with
 |val x=>exact h
 |lptr s o=>exact h
 |box c=>exact h.elim
theorem EntVal.mono (hle:I.Le I') {v:Value} {e:Ent} (h:EntVal I bx v e):EntVal I' bx v e:=by
 cases e with
 |val x=>exact RepC.mono hle h
 |lptr s o=>exact h
 |box c=>exact h.elim
theorem EntVal.noBox {v:Value} {e:Ent} (h:EntVal I bx v e):¬e.isBox:=by
 cases e with
 |val x=>exact id
 |lptr s o=>exact id
 |box c=>exact h.elim
mutual
theorem ofV_sound:∀(v:Value) (x:AVal),ofV v=some x→RepC I v x
 |.bool b,x,h=>by simp only[ofV,Option.some.injEq]at h;subst h;exact .bool b
 |.int k n,x,h=>by simp only[ofV,Option.some.injEq]at h;subst h;exact .int k n
 |.string s,x,h=>by simp only[ofV,Option.some.injEq]at h;subst h;exact .str s _ rfl
 |.pointer none,x,h=>by simp only[ofV,Option.some.injEq]at h;subst h;exact .nilP
 |.pointer (some _),x,h=>by simp[ofV]at h
 |.slice none 0 0,x,h=>by simp only[ofV,Option.some.injEq]at h;subst h;exact .nilS
 |.slice none 0 (_+1),x,h=>by simp[ofV]at h
 |.slice none (_+1) _,x,h=>by simp[ofV]at h
 |.slice (some _) _ _,x,h=>by simp[ofV]at h
 |.nilIface,x,h=>by simp only[ofV,Option.some.injEq]at h;subst h;exact .nilI
 |.nilFunc,x,h=>by simp only[ofV,Option.some.injEq]at h;subst h;exact .nilF
 |.map none,x,h=>by simp only[ofV,Option.some.injEq]at h;subst h;exact .map none
 |.map (some _),x,h=>by simp[ofV]at h
 |.agg ⟨cs⟩,x,h=>by
  simp only[ofV]at h
  cases hc:ofVs cs with
  |none=>rw[hc]at h;cases h
  |some as=>
   rw[hc]at h
   simp only[Option.some.injEq]at h
   subst h
   obtain⟨h1,h2⟩:=ofVs_sound cs as hc
   refine .agg _ _ (by simpa using h1) (fun j=> ?_)
   have:=h2 j
   simpa[Array.getD,List.getD,Array.getElem?_eq_getElem,List.getElem?_eq_getElem]using this
 |.float _ _,x,h=>by simp[ofV]at h
 |.complex _ _ _,x,h=>by simp[ofV]at h
 |.chan _,x,h=>by simp[ofV]at h
 |.func _ _ _,x,h=>by simp[ofV]at h
 |.iface _ _,x,h=>by simp[ofV]at h
 |.tuple _,x,h=>by simp[ofV]at h
theorem ofVs_sound:∀(cs:List Value) (as:List AVal),ofVs cs=some as→cs.length=as.length∧∀j,RepC I ((cs.toArray).getD j undef) (as.getD j .top)
 | [],as,h=>by simp only[ofVs,Option.some.injEq]at h;subst h;exact⟨rfl,fun j=>by simpa using RepC.top _⟩
 |v::r,as,h=>by
  simp only[ofVs]at h
  cases hv:ofV v with
  |none=>rw[hv]at h;cases h
  |some x=>
   cases hr:ofVs r with
   |none=>rw[hv,hr]at h;cases h
   |some xs=>
    rw[hv,hr]at h
    simp only[Option.some.injEq]at h
    subst h
    obtain⟨h1,h2⟩:=ofVs_sound r xs hr
    refine⟨by simp[h1],fun j=> ?_⟩
    cases j with
    |zero=>simpa using ofV_sound v x hv
    |succ j=>have:=h2 j;simpa[Array.getD_eq_getD_getElem?]using this
end
theorem St.opd (st:St E I σ env bx a w) {x:Operand} {y:Opd} (h:ofOpd x=some y):EntVal I bx (a.eval x) (evalOpd env y):=by
 cases x with
 |tmp t=>
  simp only[ofOpd,Option.some.injEq]at h
  subst h
  have:=st.ents t
  simp only[evalOpd,Act.eval]
  cases he:env t with
  |val x=>rw[he]at this;exact this
  |lptr s o=>rw[he]at this;exact this
  |box c=>rw[he]at this;exact this.1
 |const v=>
  simp only[ofOpd]at h
  cases hv:ofV v with
  |none=>rw[hv]at h;cases h
  |some x=>
   rw[hv]at h
   simp only[Option.some.injEq]at h
   subst h
   exact ofV_sound v x hv
 |global g=>simp[ofOpd]at h
 |func f=>
  simp only[ofOpd,Option.some.injEq]at h
  subst h
  exact .func _ _ _ _ _ rfl rfl (fun j=>by simpa using RepC.top _) (fun j=>by simpa using RepC.top _)
theorem Act.tmps_put (a:Act) (d:Option Tmp) (v:Value) (s:Nat):(a.put d v).tmps.getD s undef=if d=some s∧s<a.tmps.size then v else a.tmps.getD s undef:=by
 cases d with
 |none=>simp[Act.put]
 |some d=>
  simp only[Act.put,Array.getD_eq_getD_getElem?,Array.getElem?_setIfInBounds,Option.some.injEq]
  by_cases h:d=s
  ·subst h
   by_cases hl:d<a.tmps.size<;>simp[hl]
  ·simp[h]
theorem Act.size_put (a:Act) (d:Option Tmp) (v:Value):(a.put d v).tmps.size=a.tmps.size:=by cases d<;>simp[Act.put]
theorem Act.defers_put (a:Act) (d:Option Tmp) (v:Value):(a.put d v).defers=a.defers:=by cases d<;>rfl
theorem Env.set_some (env:Env) (d:Nat) (e:Ent) (s:Nat):env.set (some d) e s=if s=d then e else env s:=by
 by_cases h:s=d
 ·simp[Env.set,h]
 ·have:(s==d)=false:=by simpa using h
  simp[Env.set,h,this]
theorem EntRep.evo {s:Nat} {v:Value} {e:Ent} (h:EntRep I σ bx w s v e) (ev:Evo I σ w I' σ' w'):EntRep I' σ' bx w' s v e:=by
 cases e with
 |val x=>exact RepC.mono ev.le h
 |lptr s o=>exact h
 |box c=>
  obtain⟨h1,vs,T,h2,h3,h4,h5,h6,h7⟩:=h
  obtain⟨k1,k2,k3,k4⟩:=ev.keep _ (lt_of_heap h2) h5
  exact⟨h1,vs,T,k1.trans h2,h3,fun j=>(h4 j).mono ev.le,k2,fun o=>(k3 o).trans (h6 o),k4.trans h7⟩
theorem St.step (st:St E I σ env bx a w) (ev:Evo I σ w I' σ' w') (m:Models I' σ' w') {d:Option Nat} (hd:∀x,d=some x→x<E.n) {v:Value} {e:Ent}
  (hv:EntVal I' bx v e):St E I' σ' (env.set d e) bx (a.put d v) w' where
 models:=m
 ents s:=by
  rw[Act.tmps_put]
  cases d with
  |none=>simpa[Env.set]using(st.ents s).evo ev
  |some d=>
   rw[Env.set_some]
   by_cases h:s=d
   ·subst h
    have:s<a.tmps.size:=by rw[st.size];exact hd s rfl
    simp only[this,and_self,if_true]
    exact hv.rep
   ·have h':¬(some d=some s∧s<a.tmps.size):=fun h2=>h (Option.some.inj h2.1).symm
    rw[if_neg h',if_neg h]
    exact(st.ents s).evo ev
 inj s s' h h':=by
  cases d with
  |none=>exact st.inj s s' h h'
  |some d=>
   rw[Env.set_some]at h h'
   by_cases e1:s=d
   ·rw[if_pos e1]at h;exact(hv.noBox h).elim
   ·by_cases e2:s'=d
    ·rw[if_pos e2]at h';exact(hv.noBox h').elim
    ·rw[if_neg e1]at h;rw[if_neg e2]at h';exact st.inj s s' h h'
 low s h:=by
  cases d with
  |none=>exact st.low s h
  |some d=>
   rw[Env.set_some]at h
   by_cases e1:s=d
   ·rw[if_pos e1]at h;exact(hv.noBox h).elim
   ·rw[if_neg e1]at h;exact st.low s h
 evo:=st.evo.trans ev
 size:=by rw[Act.size_put];exact st.size
 defers:=by rw[Act.defers_put];exact st.defers
theorem wp_of_value {o:Oper} {next:Act→World→Prop} {Q:Exit→Act→World→Prop} {v:Value} (h:(execOp a.eval o).run P w=.ok (.value v) w') (hn:next (a.put o.dst v) w'):
  o.wp P a w next Q:=by unfold Oper.wp;rw[h];exact hn
theorem wp_of_skip {o:Oper} {next:Act→World→Prop} {Q:Exit→Act→World→Prop} (h:(execOp a.eval o).run P w=.ok .skip w') (hn:next (a.put o.dst undef) w'):
  o.wp P a w next Q:=by unfold Oper.wp;rw[h];exact hn
theorem wp_quiet (st:St E I σ env bx a w) {o:Oper} {k:Env→Store→Prop} {Q:Exit→Act→World→Prop} (hd:∀x,o.dst=some x→x<E.n) {v:Value} {e:Ent}
  (h:(execOp a.eval o).run P w=.ok (.value v) w) (hv:EntVal I bx v e) (hk:k (env.set o.dst e) σ):o.wp P a w (Up E k) Q:=
 wp_of_value h ⟨I,σ,_,bx,st.step (.refl _ _ _) st.models hd hv,hk⟩
theorem RepC.int_inv {v:Value} {k:IntKind} {n:Int} (h:RepC I v (.int k n)):v=.int k n:=by cases h;rfl
theorem RepC.bool_inv {v:Value} {b:Bool} (h:RepC I v (.bool b)):v=.bool b:=by cases h;rfl
theorem RepC.str_inv {v:Value} {l:List UInt8} (h:RepC I v (.str l)):∃s:ByteArray,v=.string s∧s.data.toList=l:=by cases h with|str s l h=>exact⟨s,rfl,h⟩
theorem RepC.ptr_inv {v:Value} {b o:Nat} (h:RepC I v (.ptr b o)):v=.pointer (some ⟨b,o,none⟩):=by cases h;rfl
theorem RepC.nilP_inv {v:Value} (h:RepC I v .nilP):v=.pointer none:=by cases h;rfl
theorem repC_bool (b:Bool):EntVal I bx (.bool b) (.val (.bool b)):=.bool b
end
end Go.AL
