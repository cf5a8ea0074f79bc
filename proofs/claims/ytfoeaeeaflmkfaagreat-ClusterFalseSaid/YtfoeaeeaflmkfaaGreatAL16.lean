/-
  AN ABSTRACT LOGIC OVER THE MODEL, part 16: an evaluator's data: trees by number; values whose blocks bear names of the evaluator's own, and what they have to do with values whose blocks are the store's.
-/
import Derived.Test.YtfoeaeeaflmkfaaGreatAL8
namespace Go.AL
inductive Pa where
 |z
 |a (p:Pa)
 |b (p:Pa)
 deriving DecidableEq
def Pa.num:Pa→Nat
 |.z=>0
 |.a p=>2*p.num+1
 |.b p=>2*p.num+2
def pathF:Nat→Nat→Pa
 |0,_=>.z
 |f+1,n=>bif Nat.beq n 0 then .z else bif Nat.beq (Nat.mod n 2) 1 then .a (pathF f (Nat.div n 2))else .b (pathF f (Nat.sub (Nat.div n 2) 1))
def pathOf (n:Nat):Pa:=pathF (Nat.add n 1) n
theorem pathF_num:∀(f n:Nat),n<f→(pathF f n).num=n
 |0,n,h=>by omega
 |f+1,n,h=>by
  unfold pathF
  by_cases h0:n=0
  ·subst h0;rfl
  ·have e0:Nat.beq n 0=false:=by
    cases hb:Nat.beq n 0 with
    |false=>rfl
    |true=>exact absurd (Nat.eq_of_beq_eq_true hb) h0
   have hm:Nat.mod n 2=n%2:=rfl
   have hd:Nat.div n 2=n/2:=rfl
   rw[e0,cond_false,hm,hd]
   by_cases h1:n%2=1
   ·have e1:Nat.beq (n%2) 1=true:=by rw[h1];rfl
    rw[e1,cond_true]
    simp only[Pa.num]
    rw[pathF_num f (n/2) (by omega)]
    omega
   ·have e1:Nat.beq (n%2) 1=false:=by
     cases hb:Nat.beq (n%2) 1 with
     |false=>rfl
     |true=>exact absurd (Nat.eq_of_beq_eq_true hb) h1
    rw[e1,cond_false]
    simp only[Pa.num]
    have hs:Nat.sub (n/2) 1=n/2-1:=rfl
    rw[hs,pathF_num f (n/2-1) (by omega)]
    omega
theorem pathOf_num (n:Nat):(pathOf n).num=n:=pathF_num _ _ (by show n<n+1;omega)
theorem pathOf_inj {m n:Nat}:pathOf m=pathOf n↔m=n:=
 ⟨fun h=>by rw[←pathOf_num m,h,pathOf_num],fun h=>by rw[h]⟩
inductive Tr (α:Type) where
 |lf
 |nd (v:α) (l r:Tr α)
namespace Tr
variable {α:Type}
noncomputable def val (d:α) (t:Tr α):α:=Tr.rec d (fun v _ _ _ _=>v) t
noncomputable def left (t:Tr α):Tr α:=Tr.rec .lf (fun _ l _ _ _=>l) t
noncomputable def right (t:Tr α):Tr α:=Tr.rec .lf (fun _ _ r _ _=>r) t
noncomputable def setV (e:α) (t:Tr α):Tr α:=Tr.rec (.nd e .lf .lf) (fun _ l r _ _=>.nd e l r) t
noncomputable def setL (d:α) (l:Tr α) (t:Tr α):Tr α:=Tr.rec (.nd d l .lf) (fun v _ r _ _=>.nd v l r) t
noncomputable def setR (d:α) (r:Tr α) (t:Tr α):Tr α:=Tr.rec (.nd d .lf r) (fun v l _ _ _=>.nd v l r) t
noncomputable def getP (d:α) (p:Pa):Tr α→α:=Pa.rec (val d) (fun _ ih t=>ih (left t)) (fun _ ih t=>ih (right t)) p
noncomputable def setP (d:α) (e:α) (p:Pa):Tr α→Tr α:=Pa.rec (setV e) (fun _ ih t=>setL d (ih (left t)) t) (fun _ ih t=>setR d (ih (right t)) t) p
noncomputable def get (d:α) (t:Tr α) (n:Nat):α:=getP d (pathOf n) t
noncomputable def set (d:α) (t:Tr α) (n:Nat) (e:α):Tr α:=setP d e (pathOf n) t
theorem getP_lf (d:α) (p:Pa):getP d p .lf=d:=by
 induction p with
 |z=>rfl
 |a p ih=>exact ih
 |b p ih=>exact ih
theorem getP_setP (d e:α):∀(p q:Pa) (t:Tr α),getP d q (setP d e p t)=if p=q then e else getP d q t
 |.z,.z,t=>by cases t<;>rfl
 |.z,.a q,t=>by
  rw[if_neg (by intro h;cases h)]
  cases t<;>rfl
 |.z,.b q,t=>by
  rw[if_neg (by intro h;cases h)]
  cases t<;>rfl
 |.a p,.z,t=>by
  rw[if_neg (by intro h;cases h)]
  cases t<;>rfl
 |.b p,.z,t=>by
  rw[if_neg (by intro h;cases h)]
  cases t<;>rfl
 |.a p,.a q,t=>by
  have h1:getP d (.a q) (setP d e (.a p) t)=getP d q (setP d e p (left t)):=by cases t<;>rfl
  rw[h1,getP_setP d e p q]
  by_cases h:p=q
  ·rw[if_pos h,if_pos (by rw[h])]
  ·rw[if_neg h,if_neg (by intro hh;injection hh;contradiction)];rfl
 |.b p,.b q,t=>by
  have h1:getP d (.b q) (setP d e (.b p) t)=getP d q (setP d e p (right t)):=by cases t<;>rfl
  rw[h1,getP_setP d e p q]
  by_cases h:p=q
  ·rw[if_pos h,if_pos (by rw[h])]
  ·rw[if_neg h,if_neg (by intro hh;injection hh;contradiction)];rfl
 |.a p,.b q,t=>by
  rw[if_neg (by intro h;cases h)]
  cases t<;>rfl
 |.b p,.a q,t=>by
  rw[if_neg (by intro h;cases h)]
  cases t<;>rfl
theorem get_set (d:α) (t:Tr α) (n m:Nat) (e:α):(t.set d n e).get d m=if n=m then e else t.get d m:=by
 unfold get set
 rw[getP_setP]
 by_cases h:n=m
 ·rw[if_pos h,if_pos (by rw[h])]
 ·rw[if_neg h,if_neg (fun hh=>h (pathOf_inj.1 hh))]
theorem get_lf (d:α) (n:Nat):(Tr.lf:Tr α).get d n=d:=getP_lf d _
end Tr
structure Nm where
 b:Nat
 m:Nat
 rest:List AVal
abbrev Names:=Nat→Option Nm
def capOf (m c:Nat):Nat:=if c%2=1 then m-c/2 else c/2
def Names.Le (ρ ρ':Names):Prop:=∀i x,ρ i=some x→ρ' i=some x
theorem Names.Le.refl (ρ:Names):ρ.Le ρ:=fun _ _ h=>h
theorem Names.Le.trans {a b c:Names} (h:a.Le b) (k:b.Le c):a.Le c:=fun i x e=>k i x (h i x e)
mutual
def AVal.plain:AVal→Bool
 |.bool _|.int _ _|.str _|.nilP|.nilI|.nilF|.map none=>true
 |.sptr cs|.agg cs|.tuple cs=>plains cs
 |.slice xs _ none=>plains xs
 |.iface _ v=>v.plain
 |.func _ f c=>plains f&&plains c
 |_=>false
def plains:List AVal→Bool
 | []=>true
 |x::xs=>x.plain&&plains xs
end
structure Pc where
 key:List UInt8
 shard:Int
 epoch:Int
def Pc.A (p:Pc):AVal:=.agg [.str p.key,.int .i64 p.shard,.int .i64 p.epoch]
def Pc.Good (p:Pc):Prop:=p.key.length≤16∧0≤p.shard∧p.shard<4∧1≤p.epoch∧p.epoch≤1099511627776
def Begins (l:List Pc) (i:Nat):Prop:=∀p,l[i]? =some p→if i=0 then p.key=[]else∃q,l[i-1]? =some q∧Op.bytesLess q.key p.key=true
def Pieces (l:List Pc):Prop:=l≠[]∧l.length≤32∧(∀p∈l,p.Good)∧∀i,Begins l i
def Opq (n:Nat) (r:List AVal) (a:AVal):Prop:=a.plain=true∧match n with
 |0=>r=[a]∧∃xs nl,a=.slice xs nl none
 |1=>∃l:List Pc,Pieces l∧r=[.slice (l.map Pc.A) false none]∧a=.int .i64 l.length
 |2=>r=[a]∧∃l:List Pc,Pieces l∧a=.slice (l.map Pc.A) false none
 |_=>False
theorem Opq.det {n:Nat} {r:List AVal} {a b:AVal} (h:Opq n r a) (k:Opq n r b):a=b:=by
 obtain⟨_,h⟩:=h
 obtain⟨_,k⟩:=k
 match n,h,k with
 |0,h,k=>have:=h.1;rw[k.1]at this;simpa using this.symm
 |1,⟨l,_,h1,h2⟩,⟨m,_,k1,k2⟩=>
  rw[h1]at k1
  simp only[List.cons.injEq,AVal.slice.injEq,and_true]at k1
  have:=congrArg List.length k1
  simp only[List.length_map]at this
  rw[h2,k2,this]
 |2,h,k=>have:=h.1;rw[k.1]at this;simpa using this.symm
theorem Opq.no_bool {n:Nat} {r:List AVal} {b:Bool}:¬Opq n r (.bool b):=by
 rintro⟨_,h⟩
 match n,h with
 |0,⟨_,_,_,h⟩=>cases h
 |1,⟨_,_,_,h⟩=>cases h
 |2,⟨_,_,_,h⟩=>cases h
theorem Opq.one {n:Nat} {r:List AVal} {a:AVal} (h:Opq n r a):a.cells=[a]∧a.one=true:=by
 obtain⟨_,h⟩:=h
 match n,h with
 |0,⟨_,_,_,h⟩=>subst h;exact⟨rfl,rfl⟩
 |1,⟨_,_,_,h⟩=>subst h;exact⟨rfl,rfl⟩
 |2,⟨_,_,_,h⟩=>subst h;exact⟨rfl,rfl⟩
mutual
def VR (ρ:Names):AVal→AVal→Prop
 |.top,a=>a=.top
 |.bool b,a=>a=.bool b
 |.int k n,a=>a=.int k n
 |.str s,a=>a=.str s
 |.nilP,a=>a=.nilP
 |.ptr i o,a=>∃x,ρ i=some x∧a=.ptr x.b o
 |.sptr cs,a=>∃ds,VRs ρ cs ds∧a=.sptr ds
 |.slice xs nl none,a=>∃ys,VRs ρ xs ys∧a=.slice ys nl none
 |.slice xs nl (some g),a=>∃ys x,VRs ρ xs ys∧(ρ g=some x∧x.m=xs.length)∧a=.slice ys nl (some x.b)
 |.raw i n,a=>∃x,ρ i=some x∧Opq n x.rest a
 |.ref i o n c,a=>∃x,ρ i=some x∧a=.ref x.b o n (capOf x.m c)
 |.agg cs,a=>∃ds,VRs ρ cs ds∧a=.agg ds
 |.tuple cs,a=>∃ds,VRs ρ cs ds∧a=.tuple ds
 |.iface t v,a=>∃w,VR ρ v w∧a=.iface t w
 |.nilI,a=>a=.nilI
 |.func fn f c,a=>∃f' c',VRs ρ f f'∧VRs ρ c c'∧a=.func fn f' c'
 |.nilF,a=>a=.nilF
 |.map none,a=>a=.map none
 |.map (some i),a=>∃x,ρ i=some x∧a=.map (some x.b)
def VRs (ρ:Names):List AVal→List AVal→Prop
 | [],ys=>ys=[]
 |x::xs,ys=>∃y ys',VR ρ x y∧VRs ρ xs ys'∧ys=y::ys'
end
theorem VRs.nil {ρ:Names}:VRs ρ [] []:=by simp[VRs]
theorem VRs.cons {ρ:Names} {x y:AVal} {xs ys:List AVal} (h:VR ρ x y) (hs:VRs ρ xs ys):VRs ρ (x::xs) (y::ys):=by
 rw[VRs];exact⟨_,_,h,hs,rfl⟩
theorem VRs.nil_inv {ρ:Names} {ys:List AVal} (h:VRs ρ [] ys):ys=[]:=by rw[VRs]at h;exact h
theorem VRs.cons_inv {ρ:Names} {x:AVal} {xs ys:List AVal} (h:VRs ρ (x::xs) ys):∃y ys',VR ρ x y∧VRs ρ xs ys'∧ys=y::ys':=by rw[VRs]at h;exact h
mutual
theorem VR.mono {ρ ρ':Names} (hle:ρ.Le ρ'):∀(v:AVal) {a:AVal},VR ρ v a→VR ρ' v a
 |.top,a,h=>by rw[VR]at h⊢;exact h
 |.bool b,a,h=>by rw[VR]at h⊢;exact h
 |.int k n,a,h=>by rw[VR]at h⊢;exact h
 |.str s,a,h=>by rw[VR]at h⊢;exact h
 |.nilP,a,h=>by rw[VR]at h⊢;exact h
 |.ptr i o,a,h=>by rw[VR]at h⊢;obtain⟨x,h1,h2⟩:=h;exact⟨x,hle _ _ h1,h2⟩
 |.sptr cs,a,h=>by rw[VR]at h⊢;obtain⟨ds,h1,h2⟩:=h;exact⟨ds,VRs.mono hle cs h1,h2⟩
 |.slice xs nl none,a,h=>by rw[VR]at h⊢;obtain⟨ds,h1,h2⟩:=h;exact⟨ds,VRs.mono hle xs h1,h2⟩
 |.slice xs nl (some g),a,h=>by rw[VR]at h⊢;obtain⟨ds,x,h1,h2,h3⟩:=h;exact⟨ds,x,VRs.mono hle xs h1,⟨hle _ _ h2.1,h2.2⟩,h3⟩
 |.raw i n,a,h=>by rw[VR]at h⊢;obtain⟨x,h1,h2⟩:=h;exact⟨x,hle _ _ h1,h2⟩
 |.ref i o n c,a,h=>by rw[VR]at h⊢;obtain⟨x,h1,h2⟩:=h;exact⟨x,hle _ _ h1,h2⟩
 |.agg cs,a,h=>by rw[VR]at h⊢;obtain⟨ds,h1,h2⟩:=h;exact⟨ds,VRs.mono hle cs h1,h2⟩
 |.tuple cs,a,h=>by rw[VR]at h⊢;obtain⟨ds,h1,h2⟩:=h;exact⟨ds,VRs.mono hle cs h1,h2⟩
 |.iface t v,a,h=>by rw[VR]at h⊢;obtain⟨w,h1,h2⟩:=h;exact⟨w,VR.mono hle v h1,h2⟩
 |.nilI,a,h=>by rw[VR]at h⊢;exact h
 |.func fn f c,a,h=>by rw[VR]at h⊢;obtain⟨f',c',h1,h2,h3⟩:=h;exact⟨f',c',VRs.mono hle f h1,VRs.mono hle c h2,h3⟩
 |.nilF,a,h=>by rw[VR]at h⊢;exact h
 |.map none,a,h=>by rw[VR]at h⊢;exact h
 |.map (some i),a,h=>by rw[VR]at h⊢;obtain⟨x,h1,h2⟩:=h;exact⟨x,hle _ _ h1,h2⟩
theorem VRs.mono {ρ ρ':Names} (hle:ρ.Le ρ'):∀(vs:List AVal) {as:List AVal},VRs ρ vs as→VRs ρ' vs as
 | [],as,h=>by rw[VRs]at h⊢;exact h
 |x::xs,as,h=>by rw[VRs]at h⊢;obtain⟨y,ys,h1,h2,h3⟩:=h;exact⟨y,ys,VR.mono hle x h1,VRs.mono hle xs h2,h3⟩
end
mutual
theorem VR.det {ρ:Names}:∀(v:AVal) {a b:AVal},VR ρ v a→VR ρ v b→a=b
 |.top,a,b,h,k=>by rw[VR]at h k;rw[h,k]
 |.bool _,a,b,h,k=>by rw[VR]at h k;rw[h,k]
 |.int _ _,a,b,h,k=>by rw[VR]at h k;rw[h,k]
 |.str _,a,b,h,k=>by rw[VR]at h k;rw[h,k]
 |.nilP,a,b,h,k=>by rw[VR]at h k;rw[h,k]
 |.ptr i o,a,b,h,k=>by
  rw[VR]at h k;obtain⟨x1,h1,rfl⟩:=h;obtain⟨x2,k1,rfl⟩:=k
  rw[h1]at k1;simp only[Option.some.injEq]at k1;rw[k1]
 |.sptr cs,a,b,h,k=>by rw[VR]at h k;obtain⟨d1,h1,rfl⟩:=h;obtain⟨d2,k1,rfl⟩:=k;rw[VRs.det cs h1 k1]
 |.slice xs nl none,a,b,h,k=>by rw[VR]at h k;obtain⟨d1,h1,rfl⟩:=h;obtain⟨d2,k1,rfl⟩:=k;rw[VRs.det xs h1 k1]
 |.slice xs nl (some g),a,b,h,k=>by
  rw[VR]at h k;obtain⟨d1,x1,h1,h2,rfl⟩:=h;obtain⟨d2,x2,k1,k2,rfl⟩:=k
  have k3:=k2.1
  rw[h2.1]at k3;simp only[Option.some.injEq]at k3;rw[VRs.det xs h1 k1,k3]
 |.raw i n,a,b,h,k=>by
  rw[VR]at h k;obtain⟨x1,h1,h2⟩:=h;obtain⟨x2,k1,k2⟩:=k
  rw[h1]at k1;simp only[Option.some.injEq]at k1;subst k1;exact h2.det k2
 |.ref i o n c,a,b,h,k=>by
  rw[VR]at h k;obtain⟨x1,h1,rfl⟩:=h;obtain⟨x2,k1,rfl⟩:=k
  rw[h1]at k1;simp only[Option.some.injEq]at k1;rw[k1]
 |.agg cs,a,b,h,k=>by rw[VR]at h k;obtain⟨d1,h1,rfl⟩:=h;obtain⟨d2,k1,rfl⟩:=k;rw[VRs.det cs h1 k1]
 |.tuple cs,a,b,h,k=>by rw[VR]at h k;obtain⟨d1,h1,rfl⟩:=h;obtain⟨d2,k1,rfl⟩:=k;rw[VRs.det cs h1 k1]
 |.iface t v,a,b,h,k=>by rw[VR]at h k;obtain⟨d1,h1,rfl⟩:=h;obtain⟨d2,k1,rfl⟩:=k;rw[VR.det v h1 k1]
 |.nilI,a,b,h,k=>by rw[VR]at h k;rw[h,k]
 |.func fn f c,a,b,h,k=>by
  rw[VR]at h k;obtain⟨f1,c1,h1,h2,rfl⟩:=h;obtain⟨f2,c2,k1,k2,rfl⟩:=k;rw[VRs.det f h1 k1,VRs.det c h2 k2]
 |.nilF,a,b,h,k=>by rw[VR]at h k;rw[h,k]
 |.map none,a,b,h,k=>by rw[VR]at h k;rw[h,k]
 |.map (some i),a,b,h,k=>by
  rw[VR]at h k;obtain⟨x1,h1,rfl⟩:=h;obtain⟨x2,k1,rfl⟩:=k
  rw[h1]at k1;simp only[Option.some.injEq]at k1;rw[k1]
theorem VRs.det {ρ:Names}:∀(vs:List AVal) {as bs:List AVal},VRs ρ vs as→VRs ρ vs bs→as=bs
 | [],as,bs,h,k=>by rw[VRs]at h k;rw[h,k]
 |x::xs,as,bs,h,k=>by
  rw[VRs]at h k;obtain⟨y,ys,h1,h2,rfl⟩:=h;obtain⟨z,zs,k1,k2,rfl⟩:=k;rw[VR.det x h1 k1,VRs.det xs h2 k2]
end
section
variable {ρ:Names}
theorem VRs.length:∀{xs ys:List AVal},VRs ρ xs ys→ys.length=xs.length
 | [],ys,h=>by rw[h.nil_inv]
 |x::xs,ys,h=>by obtain⟨y,ys',_,h2,rfl⟩:=h.cons_inv;simp[h2.length]
theorem VRs.append:∀{xs ys xs' ys':List AVal},VRs ρ xs ys→VRs ρ xs' ys'→VRs ρ (xs++xs') (ys++ys')
 | [],ys,xs',ys',h,k=>by rw[h.nil_inv];exact k
 |x::xs,ys,xs',ys',h,k=>by obtain⟨y,zs,h1,h2,rfl⟩:=h.cons_inv;exact .cons h1 (h2.append k)
theorem VRs.append_inv:∀{xs xs' zs:List AVal},VRs ρ (xs++xs') zs→∃ys ys',VRs ρ xs ys∧VRs ρ xs' ys'∧zs=ys++ys'
 | [],xs',zs,h=>⟨[],zs,.nil,h,rfl⟩
 |x::xs,xs',zs,h=>by
  obtain⟨y,ws,h1,h2,rfl⟩:=VRs.cons_inv (xs:=xs++xs') h
  obtain⟨ys,ys',k1,k2,rfl⟩:=h2.append_inv
  exact⟨y::ys,ys',.cons h1 k1,k2,rfl⟩
theorem VRs.take:∀{xs ys:List AVal} (n:Nat),VRs ρ xs ys→VRs ρ (xs.take n) (ys.take n)
 | [],ys,n,h=>by rw[h.nil_inv];simp[VRs]
 |x::xs,ys,0,h=>by simp[VRs]
 |x::xs,ys,n+1,h=>by obtain⟨y,zs,h1,h2,rfl⟩:=h.cons_inv;exact .cons h1 (h2.take n)
theorem VRs.drop:∀{xs ys:List AVal} (n:Nat),VRs ρ xs ys→VRs ρ (xs.drop n) (ys.drop n)
 | [],ys,n,h=>by rw[h.nil_inv];simp[VRs]
 |x::xs,ys,0,h=>h
 |x::xs,ys,n+1,h=>by obtain⟨y,zs,h1,h2,rfl⟩:=h.cons_inv;exact h2.drop n
theorem VRs.get:∀{xs ys:List AVal} {n:Nat} {x:AVal},VRs ρ xs ys→xs[n]? =some x→∃y,ys[n]? =some y∧VR ρ x y
 | [],ys,n,x,h,e=>by simp at e
 |x::xs,ys,0,x',h,e=>by
  obtain⟨y,zs,h1,h2,rfl⟩:=h.cons_inv
  simp only[List.getElem?_cons_zero,Option.some.injEq]at e;subst e
  exact⟨y,rfl,h1⟩
 |x::xs,ys,n+1,x',h,e=>by
  obtain⟨y,zs,h1,h2,rfl⟩:=h.cons_inv
  rw[List.getElem?_cons_succ]at e
  obtain⟨w,k1,k2⟩:=h2.get e
  exact⟨w,by rw[List.getElem?_cons_succ];exact k1,k2⟩
theorem VRs.set:∀{xs ys:List AVal} (n:Nat) {x y:AVal},VRs ρ xs ys→VR ρ x y→VRs ρ (xs.set n x) (ys.set n y)
 | [],ys,n,x,y,h,k=>by rw[h.nil_inv];simp[VRs]
 |_::_,_,0,x,y,h,k=>by obtain⟨_,zs,_,h2,rfl⟩:=h.cons_inv;exact .cons k h2
 |_::_,_,n+1,x,y,h,k=>by obtain⟨_,zs,h1,h2,rfl⟩:=h.cons_inv;exact .cons h1 (h2.set n k)
theorem VRs.replicate (n:Nat) {x y:AVal} (h:VR ρ x y):VRs ρ (List.replicate n x) (List.replicate n y):=by
 induction n with
 |zero=>exact .nil
 |succ n ih=>exact .cons h ih
theorem VRs.splice {cs ds vs us:List AVal} (o:Nat) (h:VRs ρ cs ds) (k:VRs ρ vs us):VRs ρ (splice cs o vs) (splice ds o us):=by
 unfold Go.AL.splice
 rw[k.length]
 exact((h.take o).append k).append (h.drop _)
theorem VR.cells:∀{v a:AVal},VR ρ v a→VRs ρ v.cells a.cells:=by
 intro v a h
 cases v with
 |agg cs=>rw[VR]at h;obtain⟨ds,h1,rfl⟩:=h;exact h1
 |top=>rw[VR]at h;subst h;exact .cons (by rw[VR]) .nil
 |bool b=>rw[VR]at h;subst h;exact .cons (by rw[VR]) .nil
 |int k n=>rw[VR]at h;subst h;exact .cons (by rw[VR]) .nil
 |str s=>rw[VR]at h;subst h;exact .cons (by rw[VR]) .nil
 |nilP=>rw[VR]at h;subst h;exact .cons (by rw[VR]) .nil
 |ptr i o=>have h':=h;rw[VR]at h;obtain⟨x,h1,rfl⟩:=h;exact .cons h' .nil
 |sptr cs=>have h':=h;rw[VR]at h;obtain⟨ds,h1,rfl⟩:=h;exact .cons h' .nil
 |slice xs nl tok=>
  have h':=h
  cases tok with
  |none=>rw[VR]at h;obtain⟨ds,h1,rfl⟩:=h;exact .cons h' .nil
  |some g=>rw[VR]at h;obtain⟨ds,x,h1,h2,rfl⟩:=h;exact .cons h' .nil
 |raw g n=>have h':=h;rw[VR]at h;obtain⟨x,h1,h2⟩:=h;rw[h2.one.1];exact .cons h' .nil
 |ref i o n c=>have h':=h;rw[VR]at h;obtain⟨x,h1,rfl⟩:=h;exact .cons h' .nil
 |tuple cs=>have h':=h;rw[VR]at h;obtain⟨ds,h1,rfl⟩:=h;exact .cons h' .nil
 |iface t v=>have h':=h;rw[VR]at h;obtain⟨ds,h1,rfl⟩:=h;exact .cons h' .nil
 |nilI=>rw[VR]at h;subst h;exact .cons (by rw[VR]) .nil
 |func fn f c=>have h':=h;rw[VR]at h;obtain⟨_,_,_,_,rfl⟩:=h;exact .cons h' .nil
 |nilF=>rw[VR]at h;subst h;exact .cons (by rw[VR]) .nil
 |map r=>
  have h':=h
  cases r with
  |none=>rw[VR]at h;subst h;exact .cons h' .nil
  |some i=>rw[VR]at h;obtain⟨x,h1,rfl⟩:=h;exact .cons h' .nil
theorem VR.one:∀{v a:AVal},VR ρ v a→a.one=v.one:=by
 intro v a h
 cases v with
 |slice xs nl tok=>
  cases tok with
  |none=>rw[VR]at h;obtain⟨ds,h1,rfl⟩:=h;rfl
  |some g=>rw[VR]at h;obtain⟨ds,x,h1,h2,rfl⟩:=h;rfl
 |raw g n=>rw[VR]at h;obtain⟨x,h1,h2⟩:=h;exact h2.one.2
 |map r=>
  cases r with
  |none=>rw[VR]at h;subst h;rfl
  |some i=>rw[VR]at h;obtain⟨x,h1,rfl⟩:=h;rfl
 |agg cs=>rw[VR]at h;obtain⟨ds,h1,rfl⟩:=h;rfl
 |ptr i o=>rw[VR]at h;obtain⟨x,h1,rfl⟩:=h;rfl
 |sptr cs=>rw[VR]at h;obtain⟨ds,h1,rfl⟩:=h;rfl
 |ref i o n c=>rw[VR]at h;obtain⟨x,h1,rfl⟩:=h;rfl
 |tuple cs=>rw[VR]at h;obtain⟨ds,h1,rfl⟩:=h;rfl
 |iface t v=>rw[VR]at h;obtain⟨ds,h1,rfl⟩:=h;rfl
 |func fn f c=>rw[VR]at h;obtain⟨_,_,_,_,rfl⟩:=h;rfl
 |top=>rw[VR]at h;subst h;rfl
 |bool b=>rw[VR]at h;subst h;rfl
 |int k n=>rw[VR]at h;subst h;rfl
 |str s=>rw[VR]at h;subst h;rfl
 |nilP=>rw[VR]at h;subst h;rfl
 |nilI=>rw[VR]at h;subst h;rfl
 |nilF=>rw[VR]at h;subst h;rfl
theorem VRs.all_one:∀{xs ys:List AVal},VRs ρ xs ys→ys.all AVal.one=xs.all AVal.one
 | [],ys,h=>by rw[h.nil_inv]
 |x::xs,ys,h=>by obtain⟨y,zs,h1,h2,rfl⟩:=h.cons_inv;simp only[List.all_cons];rw[h1.one,h2.all_one]
theorem VRs.flat:∀{xs ys:List AVal},VRs ρ xs ys→VRs ρ (xs.flatMap AVal.cells) (ys.flatMap AVal.cells)
 | [],ys,h=>by rw[h.nil_inv];exact .nil
 |x::xs,ys,h=>by
  obtain⟨y,zs,h1,h2,rfl⟩:=h.cons_inv
  simp only[List.flatMap_cons]
  exact h1.cells.append h2.flat
theorem VRs.elemsOk {sz:Nat}:∀{xs ys:List AVal},VRs ρ xs ys→ElemsOk sz xs→ElemsOk sz ys
 | [],ys,h,_=>by rw[h.nil_inv];exact elemsOk_nil sz
 |x::xs,ys,h,k=>by
  obtain⟨y,zs,h1,h2,rfl⟩:=h.cons_inv
  intro w hw
  rcases List.mem_cons.1 hw with rfl|hw
  ·obtain⟨k1,k2⟩:=k x (List.mem_cons_self ..)
   exact⟨by rw[h1.cells.length];exact k1,by rw[h1.cells.all_one];exact k2⟩
  ·exact h2.elemsOk (fun z hz=>k z (List.mem_cons_of_mem _ hz)) w hw
theorem VR.mkv {cs ds:List AVal} (agg:Bool) (h:VRs ρ cs ds) (hn:agg=false→cs≠[]):VR ρ (mkv agg cs) (mkv agg ds):=by
 cases agg with
 |true=>show VR ρ (.agg cs) (.agg ds);rw[VR];exact⟨ds,h,rfl⟩
 |false=>
  cases cs with
  |nil=>exact absurd rfl (hn rfl)
  |cons x xs=>obtain⟨y,ys,h1,h2,rfl⟩:=h.cons_inv;exact h1
theorem VR.mkv' {cs ds:List AVal} (agg:Bool) (h:VRs ρ cs ds):VR ρ (Go.AL.mkv agg cs) (Go.AL.mkv agg ds):=by
 cases agg with
 |true=>show VR ρ (.agg cs) (.agg ds);rw[VR];exact⟨ds,h,rfl⟩
 |false=>
  cases cs with
  |nil=>rw[h.nil_inv];show VR ρ .top .top;rw[VR]
  |cons x xs=>obtain⟨y,ys,h1,h2,rfl⟩:=h.cons_inv;exact h1
end
mutual
theorem VR.of_plain {ρ:Names}:∀(v:AVal),v.plain=true→VR ρ v v
 |.top,h=>by simp[AVal.plain]at h
 |.bool _,_=>by rw[VR]
 |.int _ _,_=>by rw[VR]
 |.str _,_=>by rw[VR]
 |.nilP,_=>by rw[VR]
 |.ptr _ _,h=>by simp[AVal.plain]at h
 |.sptr cs,h=>by rw[VR];exact⟨cs,VRs.of_plain cs (by simpa[AVal.plain]using h),rfl⟩
 |.slice xs nl none,h=>by rw[VR];exact⟨xs,VRs.of_plain xs (by simpa[AVal.plain]using h),rfl⟩
 |.slice xs nl (some g),h=>by simp[AVal.plain]at h
 |.raw _ _,h=>by simp[AVal.plain]at h
 |.ref _ _ _ _,h=>by simp[AVal.plain]at h
 |.agg cs,h=>by rw[VR];exact⟨cs,VRs.of_plain cs (by simpa[AVal.plain]using h),rfl⟩
 |.tuple cs,h=>by rw[VR];exact⟨cs,VRs.of_plain cs (by simpa[AVal.plain]using h),rfl⟩
 |.iface t v,h=>by rw[VR];exact⟨v,VR.of_plain v (by simpa[AVal.plain]using h),rfl⟩
 |.nilI,_=>by rw[VR]
 |.func fn f c,h=>by
  simp only[AVal.plain,Bool.and_eq_true]at h
  rw[VR];exact⟨f,c,VRs.of_plain f h.1,VRs.of_plain c h.2,rfl⟩
 |.nilF,_=>by rw[VR]
 |.map none,_=>by rw[VR]
 |.map (some i),h=>by simp[AVal.plain]at h
theorem VRs.of_plain {ρ:Names}:∀(vs:List AVal),plains vs=true→VRs ρ vs vs
 | [],_=>.nil
 |x::xs,h=>by
  simp only[plains,Bool.and_eq_true]at h
  exact .cons (VR.of_plain x h.1) (VRs.of_plain xs h.2)
end
def EntR (ρ:Names):Ent→Ent→Prop
 |.val v,e=>∃a,VR ρ v a∧e=.val a
 |.box cs,e=>∃ds,VRs ρ cs ds∧e=.box ds
 |.lptr s o,e=>e=.lptr s o
theorem EntR.mono {ρ ρ':Names} (hle:ρ.Le ρ') {e e':Ent} (h:EntR ρ e e'):EntR ρ' e e':=by
 cases e with
 |val v=>obtain⟨a,h1,h2⟩:=h;exact⟨a,h1.mono hle,h2⟩
 |box cs=>obtain⟨a,h1,h2⟩:=h;exact⟨a,h1.mono hle,h2⟩
 |lptr s o=>exact h
end Go.AL
