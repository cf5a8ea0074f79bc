/-
  AN ABSTRACT LOGIC OVER THE MODEL, part 13: single cells and structs of such: alike or not.
-/
import Derived.Test.YtfoeaeeaflmkfaaGreatAL2
import Derived.MapKept
import Derived.WideKeyRuns
namespace Go.AL
open Go.RowKit Go.MapKept
section
variable {P:Program} {E:Entry} {I:Sealed} {σ:Store} {env:Env} {bx:Nat→Nat} {a:Act} {w:World} {o:Oper} {k:Env→Store→Prop} {Q:Exit→Act→World→Prop}
def SK.desc:SK→TypeDesc
 |.bool=>.bool
 |.int k=>.int k
 |.str=>.string
theorem tSK_under {t:TypeId} {s:SK} (h:tSK P t=some s):P.underlying t=some s.desc:=by
 unfold tSK at h
 split at h<;>simp only[Option.some.injEq,reduceCtorEq]at h<;>subst h<;>assumption
theorem tSK_plain {t:TypeId} {s:SK} (h:tSK P t=some s):P.plainKey t=true:=by
 have:=tSK_under h
 unfold Program.plainKey
 rw[this]
 cases s<;>rfl
theorem SK.cases {s:SK} {a:AVal} (h:s.is a=true):(s=.bool∧∃b,a=.bool b)∨(∃k n,s=.int k∧a=.int k n)∨(s=.str∧∃l,a=.str l):=by
 cases s<;>cases a<;>simp only[SK.is,Bool.false_eq_true]at h
 ·exact .inl ⟨rfl,_,rfl⟩
 ·exact .inr (.inl ⟨_,_,rfl,by rw[of_decide_eq_true h]⟩)
 ·exact .inr (.inr ⟨rfl,_,rfl⟩)
theorem bytes_same {x y:ByteArray}:(x==y)=(x.data.toList==y.data.toList):=by
 have h:=bytes_beq x y
 by_cases e:x=y
 ·subst e;rw[h.2 rfl];simp
 ·have h1:(x==y)=false:=by cases hq:(x==y)with
   |false=>rfl
   |true=>exact absurd (h.1 hq) e
  rw[h1]
  have h2:x.data.toList≠y.data.toList:=fun hh=>e (by cases x;cases y;simp only[ByteArray.mk.injEq];exact Array.toList_inj.1 hh)
  exact(beq_eq_false_iff_ne.2 h2).symm
theorem sameNow_sk {s:SK} {a b:AVal} {u v:Value} (ha:s.is a=true) (hb:s.is b=true) (hu:RepC I u a) (hv:RepC I v b):Instr.sameNow s.desc u v=some (keyEq a b)∧IsKey s.desc u∧IsKey s.desc v:=by
 rcases SK.cases ha with⟨rfl,x,rfl⟩|⟨q,n,rfl,rfl⟩|⟨rfl,l,rfl⟩
 ·rcases SK.cases hb with⟨_,y,rfl⟩|⟨_,_,h,_⟩|⟨h,_⟩
  ·cases hu;cases hv;exact⟨rfl,trivial,trivial⟩
  ·cases h
  ·cases h
 ·rcases SK.cases hb with⟨h,_⟩|⟨_,m,h,rfl⟩|⟨h,_⟩
  ·cases h
  ·cases h;cases hu;cases hv;exact⟨by simp[Instr.sameNow,SK.desc,keyEq,cellEq],rfl,rfl⟩
  ·cases h
 ·rcases SK.cases hb with⟨h,_⟩|⟨_,_,h,_⟩|⟨_,m,rfl⟩
  ·cases h
  ·cases h
  ·obtain⟨x,rfl,hx⟩:=RepC.str_inv hu
   obtain⟨y,rfl,hy⟩:=RepC.str_inv hv
   exact⟨by simp only[Instr.sameNow,SK.desc,keyEq,cellEq,bytes_same,hx,hy],trivial,trivial⟩
theorem equal_sk {t:TypeId} {s:SK} {a b:AVal} {u v:Value} (ht:tSK P t=some s) (ha:s.is a=true) (hb:s.is b=true) (hu:RepC I u a) (hv:RepC I v b) (d:Nat) (W:World):
  (Op.equalIn (d+1) t u v).run P W=.ok (cellEq a b) W:=by
 have hd:=tSK_under ht
 rcases SK.cases ha with⟨rfl,x,rfl⟩|⟨q,n,rfl,rfl⟩|⟨rfl,l,rfl⟩
 ·rcases SK.cases hb with⟨_,y,rfl⟩|⟨_,_,h,_⟩|⟨h,_⟩
  ·cases hu;cases hv;simp[Op.equalIn,run_underlying hd,SK.desc,cellEq]
  ·cases h
  ·cases h
 ·rcases SK.cases hb with⟨h,_⟩|⟨_,m,h,rfl⟩|⟨h,_⟩
  ·cases h
  ·cases h;cases hu;cases hv;simp[Op.equalIn,run_underlying hd,SK.desc,cellEq]
  ·cases h
 ·rcases SK.cases hb with⟨h,_⟩|⟨_,_,h,_⟩|⟨_,m,rfl⟩
  ·cases h
  ·cases h
  ·obtain⟨x,rfl,hx⟩:=RepC.str_inv hu
   obtain⟨y,rfl,hy⟩:=RepC.str_inv hv
   have e:(x==y)=(l==m):=by rw[bytes_same,hx,hy]
   simp only[Op.equalIn,Sem.run_bind,run_underlying hd,SK.desc,cellEq,Result.andThen_ok,Sem.run_pure,e]
theorem fieldsSK_cons {f:Field} {r:List Field} {off:Nat} {ss:List SK} (h:fieldsSK P (f::r) off=some ss):∃s ss',ss=s::ss'∧tSK P f.type=some s∧fieldsSK P r (off+1)=some ss'∧f.offset=off∧f.name≠ "_" :=by
 simp only[fieldsSK]at h
 split at h
 ·rename_i s ss' h1 h2
  split at h
  ·rename_i hc
   simp only[Option.some.injEq]at h
   exact⟨s,ss',h.symm,h1,h2,hc.1,hc.2⟩
  ·cases h
 ·cases h
theorem rep_at {xs:Array Value} {as:List AVal} (hr:∀j,RepC I (xs.getD j undef) (as.getD j .top)) (hl:xs.size=as.length) {off:Nat} {x:AVal} {r:List AVal} (h:as.drop off=x::r):∃v,xs[off]? =some v∧RepC I v x:=by
 have hlt:off<as.length:=by
  rcases Nat.lt_or_ge off as.length with h1|h1
  ·exact h1
  ·rw[List.drop_eq_nil_of_le h1]at h;cases h
 have hx:as.getD off .top=x:=by
  have:(as.drop off)[0]? =some x:=by rw[h];rfl
  rw[List.getElem?_drop]at this
  simp[List.getD_eq_getElem?_getD,show as[off]? =some x from this]
 refine⟨xs.getD off undef,?_,by have:=hr off;rw[hx]at this;exact this⟩
 rw[Array.getD_eq_getD_getElem?,Array.getElem?_eq_getElem (by omega)];rfl
theorem run_fields {d:Nat} {xs ys:Array Value} {as bs:List AVal} (hx:∀j,RepC I (xs.getD j undef) (as.getD j .top)) (hxl:xs.size=as.length) (hy:∀j,RepC I (ys.getD j undef) (bs.getD j .top)) (hyl:ys.size=bs.length) (W:World):
  ∀(fs:List Field) (off:Nat) (ss:List SK) (as' bs':List AVal),fieldsSK P fs off=some ss→as.drop off=as'→bs.drop off=bs'→rowIs ss as'=true→rowIs ss bs'=true→
  (forIn (m:=Sem) fs (none,()) fun f (_:Option Bool × Unit)=>
   if f.name≠ "_" then do
    let b←Op.equalIn (d+1) f.type (←part f.type xs f.offset) (←part f.type ys f.offset)
    if !b then pure (ForInStep.done (some false,()))else pure (ForInStep.yield (none,()))
   else pure (ForInStep.yield (none,()))).run P W=.ok (if cellsEq as' bs' then(none,())else(some false,())) W
 | [],off,ss,as',bs',h,h1,h2,h3,h4=>by
  simp only[fieldsSK,Option.some.injEq]at h
  subst h
  cases as'<;>cases bs'<;>simp_all [rowIs,cellsEq]
 |f::r,off,ss,as',bs',h,h1,h2,h3,h4=>by
  obtain⟨s,ss',rfl,e1,e2,e3,e4⟩:=fieldsSK_cons h
  cases as' with
  |nil=>simp[rowIs]at h3
  |cons x as'=>
   cases bs' with
   |nil=>simp[rowIs]at h4
   |cons y bs'=>
    simp only[rowIs,Bool.and_eq_true]at h3 h4
    obtain⟨u,u1,u2⟩:=rep_at hx hxl h1
    obtain⟨v,v1,v2⟩:=rep_at hy hyl h2
    have p1:=run_part_plain W (tSK_plain e1) u1
    have p2:=run_part_plain W (tSK_plain e1) v1
    have p3:=equal_sk (P:=P) e1 h3.1 h4.1 u2 v2 d W
    have ih:=run_fields (d:=d) hx hxl hy hyl W r (off+1) ss' as' bs' e2 (by rw[←List.drop_drop,h1];rfl) (by rw[←List.drop_drop,h2];rfl) h3.2 h4.2
    rw[List.forIn_cons,Sem.run_bind]
    rw[if_pos e4]
    simp only[Sem.run_bind,e3,p1,p2,p3,Result.andThen_ok]
    cases hc:cellEq x y with
    |true=>simp only[Bool.not_true,Bool.false_eq_true,if_false,Sem.run_pure,Result.andThen_ok,ih,cellsEq,hc,Bool.true_and]
    |false=>simp[cellsEq,hc]
theorem tFlat_some {t:TypeId} {ss:List SK} (h:tFlat P t=some ss):∃fs,P.underlying t=some (.struct fs)∧fieldsSK P fs.toList 0=some ss∧P.stoodInHeld t=false∧P.eqGuardType P.depth t=false:=by
 unfold tFlat at h
 split at h
 ·rename_i fs hu
  split at h
  ·rename_i ss' hs
   split at h
   ·rename_i hc
    simp only[Option.some.injEq]at h;subst h
    exact⟨fs,hu,hs,hc.1,hc.2⟩
   ·cases h
  ·cases h
 ·cases h
theorem equal_flat {t:TypeId} {ss:List SK} {as bs:List AVal} {u v:Value} (ht:tFlat P t=some ss) (ha:rowIs ss as=true) (hb:rowIs ss bs=true) (hu:RepC I u (.agg as)) (hv:RepC I v (.agg bs)) (d:Nat) (W:World):
  (Op.equalIn (d+2) t u v).run P W=.ok (cellsEq as bs) W:=by
 obtain⟨fs,hus,hf,hs,_⟩:=tFlat_some ht
 cases hu with
 |agg xs _ hl hr=>
  cases hv with
  |agg ys _ hl2 hr2=>
   have:=run_fields (d:=d) hr hl hr2 hl2 W fs.toList 0 ss as bs hf rfl rfl ha hb
   unfold Op.equalIn
   simp only[Sem.run_bind,run_underlying hus,Result.andThen_ok,run_program,hs]
   rw[if_neg (by decide),Sem.run_bind,←Array.forIn_toList,this]
   cases cellsEq as bs<;>rfl
end
end Go.AL
