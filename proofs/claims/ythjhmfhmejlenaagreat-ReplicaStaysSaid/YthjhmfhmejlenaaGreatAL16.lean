/-
  AN ABSTRACT LOGIC OVER THE MODEL, part 16: an evaluator's data: trees by number; values whose blocks bear names of the evaluator's own, and what they have to do with values whose blocks are the store's.
-/
import Derived.Test.YthjhmfhmejlenaaGreatAL8
set_option linter.unusedSectionVars false
set_option linter.unusedVariables false
set_option linter.unusedSimpArgs false
section
namespace Go.bO
inductive iR where
 |z
 |a (p:iR)
 |b (p:iR)
 deriving DecidableEq
def iR.num:iR→Nat
 |.z=>0
 |.a p=>2*p.num+1
 |.b p=>2*p.num+2
def G2:Nat→Nat→iR
 |0,_=>.z
 |f+1,n=>bif Nat.beq n 0 then .z else bif Nat.beq (Nat.mod n 2) 1 then .a (G2 f (Nat.div n 2))else .b (G2 f (Nat.sub (Nat.div n 2) 1))
def ja (n:Nat):iR:=G2 (Nat.add n 1) n
theorem Tw:∀(f n:Nat),n<f→(G2 f n).num=n
 |0,n,h=>by omega
 |f+1,n,h=>by
  unfold G2;by_cases aV:n=0
  ·subst aV;rfl
  ·have cE:Nat.beq n 0=false:=by
    cases aj:Nat.beq n 0 with
    |false=>rfl
    |true=>exact absurd (oT aj) aV
   have hm:Nat.mod n 2=n%2:=rfl;have aQ:Nat.div n 2=n/2:=rfl;rw[cE,cond_false,hm,aQ];by_cases U:n%2=1
   ·have e1:Nat.beq (n%2) 1=true:=by rw[U];rfl
    rw[e1,cond_true];simp only[iR.num];rw[Tw f (n/2) (by omega)]
    omega
   ·have e1:Nat.beq (n%2) 1=false:=by
     cases aj:Nat.beq (n%2) 1 with
     |false=>rfl
     |true=>exact absurd (oT aj) U
    rw[e1,cond_false];simp only[iR.num];have hs:Nat.sub (n/2) 1=n/2-1:=rfl;rw[hs,Tw f (n/2-1) (by omega)]
    omega
theorem aed (n:Nat):(ja n).num=n:=Tw _ _ (by show n<n+1;omega)
theorem G3 {m n:Nat}:ja m=ja n↔m=n:=
 ⟨fun h=>by rw[←aed m,h,aed],fun h=>by rw[h]⟩
inductive cg (α:Type) where
 |dL
 |fr (v:α) (l r:cg α)
namespace cg
variable {α:Type}
noncomputable def val (d:α) (t:cg α):α:=cg.rec d (fun v _ _ _ _=>v) t
noncomputable def left (t:cg α):cg α:=cg.rec .dL (fun _ l _ _ _=>l) t
noncomputable def right (t:cg α):cg α:=cg.rec .dL (fun _ _ r _ _=>r) t
noncomputable def att (e:α) (t:cg α):cg α:=cg.rec (.fr e .dL .dL) (fun _ l r _ _=>.fr e l r) t
noncomputable def DD (d:α) (l:cg α) (t:cg α):cg α:=cg.rec (.fr d l .dL) (fun v _ r _ _=>.fr v l r) t
noncomputable def ats (d:α) (r:cg α) (t:cg α):cg α:=cg.rec (.fr d .dL r) (fun v l _ _ _=>.fr v l r) t
noncomputable def jG (d:α) (p:iR):cg α→α:=iR.rec (val d) (fun _ bm t=>bm (left t)) (fun _ bm t=>bm (right t)) p
noncomputable def DE (d:α) (e:α) (p:iR):cg α→cg α:=iR.rec (att e) (fun _ bm t=>DD d (bm (left t)) t) (fun _ bm t=>ats d (bm (right t)) t) p
noncomputable def get (d:α) (t:cg α) (n:Nat):α:=jG d (ja n) t
noncomputable def set (d:α) (t:cg α) (n:Nat) (e:α):cg α:=DE d e (ja n) t
theorem y3 (d:α) (p:iR):jG d p .dL=d:=by
 induction p with
 |z=>rfl
 |a p bm=>exact bm
 |b p bm=>exact bm
theorem PG (d e:α):∀(p q:iR) (t:cg α),jG d q (DE d e p t)=if p=q then e else jG d q t
 |.z,.z,t=>by cases t<;>rfl
 |.z,.a q,t=>by
  rw[if_neg (by intro h;cases h)]
  cases t<;>rfl
 |.z,.b q,t=>by
  rw[if_neg (by intro h;cases h)]
  cases t<;>rfl
 |.a p,.z,t=>by
  rw[if_neg (by intro h;cases h)]
  cases t<;>rfl
 |.b p,.z,t=>by
  rw[if_neg (by intro h;cases h)]
  cases t<;>rfl
 |.a p,.a q,t=>by
  have U:jG d (.a q) (DE d e (.a p) t)=jG d q (DE d e p (left t)):=by cases t<;>rfl
  rw[U,PG d e p q];by_cases h:p=q
  ·rw[if_pos h,if_pos (by rw[h])]
  ·rw[if_neg h,if_neg (by intro aF;injection aF;contradiction)];rfl
 |.b p,.b q,t=>by
  have U:jG d (.b q) (DE d e (.b p) t)=jG d q (DE d e p (right t)):=by cases t<;>rfl
  rw[U,PG d e p q];by_cases h:p=q
  ·rw[if_pos h,if_pos (by rw[h])]
  ·rw[if_neg h,if_neg (by intro aF;injection aF;contradiction)];rfl
 |.a p,.b q,t=>by
  rw[if_neg (by intro h;cases h)]
  cases t<;>rfl
 |.b p,.a q,t=>by
  rw[if_neg (by intro h;cases h)]
  cases t<;>rfl
theorem o4 (d:α) (t:cg α) (n m:Nat) (e:α):(t.set d n e).get d m=if n=m then e else t.get d m:=by
 unfold get set;rw[PG];by_cases h:n=m
 ·rw[if_pos h,if_pos (by rw[h])]
 ·rw[if_neg h,if_neg (fun aF=>h (G3.1 aF))]
theorem PH (d:α) (n:Nat):(cg.dL:cg α).get d n=d:=y3 d _
end cg
structure nT where
 b:Nat
 m:Nat
 rest:List ab
abbrev cV:=Nat→Option nT
def oX (m c:Nat):Nat:=if c%2=1 then m-c/2 else c/2
def cV.dY (R aL:cV):Prop:=∀i x,R i=some x→aL i=some x
theorem cV.dY.refl (R:cV):R.dY R:=fun _ _ h=>h
theorem cV.dY.trans {a b c:cV} (h:a.dY b) (k:b.dY c):a.dY c:=fun i x e=>k i x (h i x e)
mutual
def ab.plain:ab→Bool
 |.bool _|.int _ _|.str _|.cX|.dC|.fj|.map none=>true
 |.dK cs|.agg cs|.tuple cs=>gV cs
 |.slice xs _ none=>gV xs
 |.iface _ v=>v.plain
 |.func _ f c=>gV f&&gV c
 |_=>false
def gV:List ab→Bool
 | []=>true
 |x::xs=>x.plain&&gV xs
end
structure sV where
 key:List UInt8
 Un:Int
 O9:Int
def sV.A (p:sV):ab:=.agg [.str p.key,.int .i64 p.Un,.int .i64 p.O9]
def sV.Good (p:sV):Prop:=p.key.length≤16∧0≤p.Un∧p.Un<4∧1≤p.O9∧p.O9≤1099511627776
def ahc (l:List sV) (i:Nat):Prop:=∀p,l[i]? =some p→if i=0 then p.key=[]else∃q,l[i-1]? =some q∧Op.bytesLess q.key p.key=true
def VB (l:List sV):Prop:=l≠[]∧l.length≤32∧(∀p∈l,p.Good)∧∀i,ahc l i
def uj (n:Nat) (r:List ab) (a:ab):Prop:=a.plain=true∧match n with
 |0=>r=[a]∧∃xs nl,a=.slice xs nl none
 |1=>∃l:List sV,VB l∧r=[.slice (l.map sV.A) false none]∧a=.int .i64 l.length
 |2=>r=[a]∧∃l:List sV,VB l∧a=.slice (l.map sV.A) false none
 |_=>False
theorem uj.fw {n:Nat} {r:List ab} {a b:ab} (h:uj n r a) (k:uj n r b):a=b:=by
 obtain⟨_,h⟩:=h;obtain⟨_,k⟩:=k
 match n,h,k with
 |0,h,k=>have:=h.1;rw[k.1]at this;simpa using this.symm
 |1,⟨l,_,U,aa⟩,⟨m,_,az,ao⟩=>
  rw[U]at az;simp only[wA,ab.slice.injEq,and_true]at az;have:=congrArg List.length az;simp only[ng]at this;rw[aa,ao,this]
 |2,h,k=>have:=h.1;rw[k.1]at this;simpa using this.symm
theorem uj.ars {n:Nat} {r:List ab} {b:Bool}:¬uj n r (.bool b):=by
 rintro⟨_,h⟩
 match n,h with
 |0,⟨_,_,_,h⟩=>cases h
 |1,⟨_,_,_,h⟩=>cases h
 |2,⟨_,_,_,h⟩=>cases h
theorem uj.one {n:Nat} {r:List ab} {a:ab} (h:uj n r a):a.cells=[a]∧a.one=true:=by
 obtain⟨_,h⟩:=h
 match n,h with
 |0,⟨_,_,_,h⟩=>subst h;exact⟨rfl,rfl⟩
 |1,⟨_,_,_,h⟩=>subst h;exact⟨rfl,rfl⟩
 |2,⟨_,_,_,h⟩=>subst h;exact⟨rfl,rfl⟩
mutual
def aY (R:cV):ab→ab→Prop
 |.top,a=>a=.top
 |.bool b,a=>a=.bool b
 |.int k n,a=>a=.int k n
 |.str s,a=>a=.str s
 |.cX,a=>a=.cX
 |.ptr i o,a=>∃x,R i=some x∧a=.ptr x.b o
 |.dK cs,a=>∃ds,bW R cs ds∧a=.dK ds
 |.slice xs nl none,a=>∃ys,bW R xs ys∧a=.slice ys nl none
 |.slice xs nl (some g),a=>∃ys x,bW R xs ys∧(R g=some x∧x.m=xs.length)∧a=.slice ys nl (some x.b)
 |.raw i n,a=>∃x,R i=some x∧uj n x.rest a
 |.ref i o n c,a=>∃x,R i=some x∧a=.ref x.b o n (oX x.m c)
 |.agg cs,a=>∃ds,bW R cs ds∧a=.agg ds
 |.tuple cs,a=>∃ds,bW R cs ds∧a=.tuple ds
 |.iface t v,a=>∃w,aY R v w∧a=.iface t w
 |.dC,a=>a=.dC
 |.func fn f c,a=>∃n_ bF,bW R f n_∧bW R c bF∧a=.func fn n_ bF
 |.fj,a=>a=.fj
 |.map none,a=>a=.map none
 |.map (some i),a=>∃x,R i=some x∧a=.map (some x.b)
def bW (R:cV):List ab→List ab→Prop
 | [],ys=>ys=[]
 |x::xs,ys=>∃y en,aY R x y∧bW R xs en∧ys=y::en
end
theorem bW.nil {R:cV}:bW R [] []:=by simp[bW]
theorem bW.cons {R:cV} {x y:ab} {xs ys:List ab} (h:aY R x y) (hs:bW R xs ys):bW R (x::xs) (y::ys):=by
 rw[bW];exact⟨_,_,h,hs,rfl⟩
theorem bW.js {R:cV} {ys:List ab} (h:bW R [] ys):ys=[]:=by rw[bW]at h;exact h
theorem bW.cons_inv {R:cV} {x:ab} {xs ys:List ab} (h:bW R (x::xs) ys):∃y en,aY R x y∧bW R xs en∧ys=y::en:=by rw[bW]at h;exact h
mutual
theorem aY.mono {R aL:cV} (bz:R.dY aL):∀(v:ab) {a:ab},aY R v a→aY aL v a
 |.top,a,h=>by rw[aY]at h⊢;exact h
 |.bool b,a,h=>by rw[aY]at h⊢;exact h
 |.int k n,a,h=>by rw[aY]at h⊢;exact h
 |.str s,a,h=>by rw[aY]at h⊢;exact h
 |.cX,a,h=>by rw[aY]at h⊢;exact h
 |.ptr i o,a,h=>by rw[aY]at h⊢;obtain⟨x,U,aa⟩:=h;exact⟨x,bz _ _ U,aa⟩
 |.dK cs,a,h=>by rw[aY]at h⊢;obtain⟨ds,U,aa⟩:=h;exact⟨ds,bW.mono bz cs U,aa⟩
 |.slice xs nl none,a,h=>by rw[aY]at h⊢;obtain⟨ds,U,aa⟩:=h;exact⟨ds,bW.mono bz xs U,aa⟩
 |.slice xs nl (some g),a,h=>by rw[aY]at h⊢;obtain⟨ds,x,U,aa,au⟩:=h;exact⟨ds,x,bW.mono bz xs U,⟨bz _ _ aa.1,aa.2⟩,au⟩
 |.raw i n,a,h=>by rw[aY]at h⊢;obtain⟨x,U,aa⟩:=h;exact⟨x,bz _ _ U,aa⟩
 |.ref i o n c,a,h=>by rw[aY]at h⊢;obtain⟨x,U,aa⟩:=h;exact⟨x,bz _ _ U,aa⟩
 |.agg cs,a,h=>by rw[aY]at h⊢;obtain⟨ds,U,aa⟩:=h;exact⟨ds,bW.mono bz cs U,aa⟩
 |.tuple cs,a,h=>by rw[aY]at h⊢;obtain⟨ds,U,aa⟩:=h;exact⟨ds,bW.mono bz cs U,aa⟩
 |.iface t v,a,h=>by rw[aY]at h⊢;obtain⟨w,U,aa⟩:=h;exact⟨w,aY.mono bz v U,aa⟩
 |.dC,a,h=>by rw[aY]at h⊢;exact h
 |.func fn f c,a,h=>by rw[aY]at h⊢;obtain⟨n_,bF,U,aa,au⟩:=h;exact⟨n_,bF,bW.mono bz f U,bW.mono bz c aa,au⟩
 |.fj,a,h=>by rw[aY]at h⊢;exact h
 |.map none,a,h=>by rw[aY]at h⊢;exact h
 |.map (some i),a,h=>by rw[aY]at h⊢;obtain⟨x,U,aa⟩:=h;exact⟨x,bz _ _ U,aa⟩
theorem bW.mono {R aL:cV} (bz:R.dY aL):∀(vs:List ab) {as:List ab},bW R vs as→bW aL vs as
 | [],as,h=>by rw[bW]at h⊢;exact h
 |x::xs,as,h=>by rw[bW]at h⊢;obtain⟨y,ys,U,aa,au⟩:=h;exact⟨y,ys,aY.mono bz x U,bW.mono bz xs aa,au⟩
end
mutual
theorem aY.fw {R:cV}:∀(v:ab) {a b:ab},aY R v a→aY R v b→a=b
 |.top,a,b,h,k=>by rw[aY]at h k;rw[h,k]
 |.bool _,a,b,h,k=>by rw[aY]at h k;rw[h,k]
 |.int _ _,a,b,h,k=>by rw[aY]at h k;rw[h,k]
 |.str _,a,b,h,k=>by rw[aY]at h k;rw[h,k]
 |.cX,a,b,h,k=>by rw[aY]at h k;rw[h,k]
 |.ptr i o,a,b,h,k=>by
  rw[aY]at h k;obtain⟨hd,U,rfl⟩:=h;obtain⟨kD,az,rfl⟩:=k;rw[U]at az;simp only[bk]at az;rw[az]
 |.dK cs,a,b,h,k=>by rw[aY]at h k;obtain⟨d1,U,rfl⟩:=h;obtain⟨d2,az,rfl⟩:=k;rw[bW.fw cs U az]
 |.slice xs nl none,a,b,h,k=>by rw[aY]at h k;obtain⟨d1,U,rfl⟩:=h;obtain⟨d2,az,rfl⟩:=k;rw[bW.fw xs U az]
 |.slice xs nl (some g),a,b,h,k=>by
  rw[aY]at h k;obtain⟨d1,hd,U,aa,rfl⟩:=h;obtain⟨d2,kD,az,ao,rfl⟩:=k;have aX:=ao.1;rw[aa.1]at aX;simp only[bk]at aX;rw[bW.fw xs U az,aX]
 |.raw i n,a,b,h,k=>by
  rw[aY]at h k;obtain⟨hd,U,aa⟩:=h;obtain⟨kD,az,ao⟩:=k;rw[U]at az;simp only[bk]at az;subst az;exact aa.fw ao
 |.ref i o n c,a,b,h,k=>by
  rw[aY]at h k;obtain⟨hd,U,rfl⟩:=h;obtain⟨kD,az,rfl⟩:=k;rw[U]at az;simp only[bk]at az;rw[az]
 |.agg cs,a,b,h,k=>by rw[aY]at h k;obtain⟨d1,U,rfl⟩:=h;obtain⟨d2,az,rfl⟩:=k;rw[bW.fw cs U az]
 |.tuple cs,a,b,h,k=>by rw[aY]at h k;obtain⟨d1,U,rfl⟩:=h;obtain⟨d2,az,rfl⟩:=k;rw[bW.fw cs U az]
 |.iface t v,a,b,h,k=>by rw[aY]at h k;obtain⟨d1,U,rfl⟩:=h;obtain⟨d2,az,rfl⟩:=k;rw[aY.fw v U az]
 |.dC,a,b,h,k=>by rw[aY]at h k;rw[h,k]
 |.func fn f c,a,b,h,k=>by
  rw[aY]at h k;obtain⟨f1,bf,U,aa,rfl⟩:=h;obtain⟨f2,c2,az,ao,rfl⟩:=k;rw[bW.fw f U az,bW.fw c aa ao]
 |.fj,a,b,h,k=>by rw[aY]at h k;rw[h,k]
 |.map none,a,b,h,k=>by rw[aY]at h k;rw[h,k]
 |.map (some i),a,b,h,k=>by
  rw[aY]at h k;obtain⟨hd,U,rfl⟩:=h;obtain⟨kD,az,rfl⟩:=k;rw[U]at az;simp only[bk]at az;rw[az]
theorem bW.fw {R:cV}:∀(vs:List ab) {as bs:List ab},bW R vs as→bW R vs bs→as=bs
 | [],as,bs,h,k=>by rw[bW]at h k;rw[h,k]
 |x::xs,as,bs,h,k=>by
  rw[bW]at h k;obtain⟨y,ys,U,aa,rfl⟩:=h;obtain⟨z,fm,az,ao,rfl⟩:=k;rw[aY.fw x U az,bW.fw xs aa ao]
end
section
variable {R:cV}
theorem bW.length:∀{xs ys:List ab},bW R xs ys→ys.length=xs.length
 | [],ys,h=>by rw[h.js]
 |x::xs,ys,h=>by obtain⟨y,en,_,aa,rfl⟩:=h.cons_inv;simp[aa.length]
theorem bW.append:∀{xs ys nR en:List ab},bW R xs ys→bW R nR en→bW R (xs++nR) (ys++en)
 | [],ys,nR,en,h,k=>by rw[h.js];exact k
 |x::xs,ys,nR,en,h,k=>by obtain⟨y,fm,U,aa,rfl⟩:=h.cons_inv;exact .cons U (aa.append k)
theorem bW.take:∀{xs ys:List ab} (n:Nat),bW R xs ys→bW R (xs.take n) (ys.take n)
 | [],ys,n,h=>by rw[h.js];simp[bW]
 |x::xs,ys,0,h=>by simp[bW]
 |x::xs,ys,n+1,h=>by obtain⟨y,fm,U,aa,rfl⟩:=h.cons_inv;exact .cons U (aa.take n)
theorem bW.drop:∀{xs ys:List ab} (n:Nat),bW R xs ys→bW R (xs.drop n) (ys.drop n)
 | [],ys,n,h=>by rw[h.js];simp[bW]
 |x::xs,ys,0,h=>h
 |x::xs,ys,n+1,h=>by obtain⟨y,fm,U,aa,rfl⟩:=h.cons_inv;exact aa.drop n
theorem bW.get:∀{xs ys:List ab} {n:Nat} {x:ab},bW R xs ys→xs[n]? =some x→∃y,ys[n]? =some y∧aY R x y
 | [],ys,n,x,h,e=>by simp at e
 |x::xs,ys,0,c3,h,e=>by
  obtain⟨y,fm,U,aa,rfl⟩:=h.cons_inv;simp only[l5,bk]at e;subst e;exact⟨y,rfl,U⟩
 |x::xs,ys,n+1,c3,h,e=>by
  obtain⟨y,fm,U,aa,rfl⟩:=h.cons_inv;rw[nV]at e;obtain⟨w,az,ao⟩:=aa.get e;exact⟨w,by rw[nV];exact az,ao⟩
theorem bW.set:∀{xs ys:List ab} (n:Nat) {x y:ab},bW R xs ys→aY R x y→bW R (xs.set n x) (ys.set n y)
 | [],ys,n,x,y,h,k=>by rw[h.js];simp[bW]
 |_::_,_,0,x,y,h,k=>by obtain⟨_,fm,_,aa,rfl⟩:=h.cons_inv;exact .cons k aa
 |_::_,_,n+1,x,y,h,k=>by obtain⟨_,fm,U,aa,rfl⟩:=h.cons_inv;exact .cons U (aa.set n k)
theorem bW.replicate (n:Nat) {x y:ab} (h:aY R x y):bW R (List.replicate n x) (List.replicate n y):=by
 induction n with
 |zero=>exact .nil
 |succ n bm=>exact .cons h bm
theorem bW.ft {cs ds vs us:List ab} (o:Nat) (h:bW R cs ds) (k:bW R vs us):bW R (ft cs o vs) (ft ds o us):=by
 unfold Go.bO.ft;rw[k.length];exact((h.take o).append k).append (h.drop _)
theorem aY.cells:∀{v a:ab},aY R v a→bW R v.cells a.cells:=by
 intro v a h;cases v with
 |agg cs=>rw[aY]at h;obtain⟨ds,U,rfl⟩:=h;exact U
 |top=>rw[aY]at h;subst h;exact .cons (by rw[aY]) .nil
 |bool b=>rw[aY]at h;subst h;exact .cons (by rw[aY]) .nil
 |int k n=>rw[aY]at h;subst h;exact .cons (by rw[aY]) .nil
 |str s=>rw[aY]at h;subst h;exact .cons (by rw[aY]) .nil
 |cX=>rw[aY]at h;subst h;exact .cons (by rw[aY]) .nil
 |ptr i o=>have b0:=h;rw[aY]at h;obtain⟨x,U,rfl⟩:=h;exact .cons b0 .nil
 |dK cs=>have b0:=h;rw[aY]at h;obtain⟨ds,U,rfl⟩:=h;exact .cons b0 .nil
 |slice xs nl tok=>
  have b0:=h;cases tok with
  |none=>rw[aY]at h;obtain⟨ds,U,rfl⟩:=h;exact .cons b0 .nil
  |some g=>rw[aY]at h;obtain⟨ds,x,U,aa,rfl⟩:=h;exact .cons b0 .nil
 |raw g n=>have b0:=h;rw[aY]at h;obtain⟨x,U,aa⟩:=h;rw[aa.one.1];exact .cons b0 .nil
 |ref i o n c=>have b0:=h;rw[aY]at h;obtain⟨x,U,rfl⟩:=h;exact .cons b0 .nil
 |tuple cs=>have b0:=h;rw[aY]at h;obtain⟨ds,U,rfl⟩:=h;exact .cons b0 .nil
 |iface t v=>have b0:=h;rw[aY]at h;obtain⟨ds,U,rfl⟩:=h;exact .cons b0 .nil
 |dC=>rw[aY]at h;subst h;exact .cons (by rw[aY]) .nil
 |func fn f c=>have b0:=h;rw[aY]at h;obtain⟨_,_,_,_,rfl⟩:=h;exact .cons b0 .nil
 |fj=>rw[aY]at h;subst h;exact .cons (by rw[aY]) .nil
 |map r=>
  have b0:=h;cases r with
  |none=>rw[aY]at h;subst h;exact .cons b0 .nil
  |some i=>rw[aY]at h;obtain⟨x,U,rfl⟩:=h;exact .cons b0 .nil
theorem aY.one:∀{v a:ab},aY R v a→a.one=v.one:=by
 intro v a h;cases v with
 |slice xs nl tok=>
  cases tok with
  |none=>rw[aY]at h;obtain⟨ds,U,rfl⟩:=h;rfl
  |some g=>rw[aY]at h;obtain⟨ds,x,U,aa,rfl⟩:=h;rfl
 |raw g n=>rw[aY]at h;obtain⟨x,U,aa⟩:=h;exact aa.one.2
 |map r=>
  cases r with
  |none=>rw[aY]at h;subst h;rfl
  |some i=>rw[aY]at h;obtain⟨x,U,rfl⟩:=h;rfl
 |agg cs=>rw[aY]at h;obtain⟨ds,U,rfl⟩:=h;rfl
 |ptr i o=>rw[aY]at h;obtain⟨x,U,rfl⟩:=h;rfl
 |dK cs=>rw[aY]at h;obtain⟨ds,U,rfl⟩:=h;rfl
 |ref i o n c=>rw[aY]at h;obtain⟨x,U,rfl⟩:=h;rfl
 |tuple cs=>rw[aY]at h;obtain⟨ds,U,rfl⟩:=h;rfl
 |iface t v=>rw[aY]at h;obtain⟨ds,U,rfl⟩:=h;rfl
 |func fn f c=>rw[aY]at h;obtain⟨_,_,_,_,rfl⟩:=h;rfl
 |top=>rw[aY]at h;subst h;rfl
 |bool b=>rw[aY]at h;subst h;rfl
 |int k n=>rw[aY]at h;subst h;rfl
 |str s=>rw[aY]at h;subst h;rfl
 |cX=>rw[aY]at h;subst h;rfl
 |dC=>rw[aY]at h;subst h;rfl
 |fj=>rw[aY]at h;subst h;rfl
theorem bW.s3:∀{xs ys:List ab},bW R xs ys→ys.all ab.one=xs.all ab.one
 | [],ys,h=>by rw[h.js]
 |x::xs,ys,h=>by obtain⟨y,fm,U,aa,rfl⟩:=h.cons_inv;simp only[rG];rw[U.one,aa.s3]
theorem bW.flat:∀{xs ys:List ab},bW R xs ys→bW R (xs.flatMap ab.cells) (ys.flatMap ab.cells)
 | [],ys,h=>by rw[h.js];exact .nil
 |x::xs,ys,h=>by
  obtain⟨y,fm,U,aa,rfl⟩:=h.cons_inv;simp only[wx];exact U.cells.append aa.flat
theorem bW.Jc {sz:Nat}:∀{xs ys:List ab},bW R xs ys→sT sz xs→sT sz ys
 | [],ys,h,_=>by rw[h.js];exact XG sz
 |x::xs,ys,h,k=>by
  obtain⟨y,fm,U,aa,rfl⟩:=h.cons_inv;intro w hw;rcases cu.1 hw with rfl|hw
  ·obtain⟨az,ao⟩:=k x (cz ..);exact⟨by rw[U.cells.length];exact az,by rw[U.cells.s3];exact ao⟩
  ·exact aa.Jc (fun z a'=>k z (cv _ a')) w hw
theorem aY.CK {cs ds:List ab} (agg:Bool) (h:bW R cs ds):aY R (Go.bO.gh agg cs) (Go.bO.gh agg ds):=by
 cases agg with
 |true=>show aY R (.agg cs) (.agg ds);rw[aY];exact⟨ds,h,rfl⟩
 |false=>
  cases cs with
  |nil=>rw[h.js];show aY R .top .top;rw[aY]
  |cons x xs=>obtain⟨y,ys,U,aa,rfl⟩:=h.cons_inv;exact U
end
mutual
theorem aY.g_ {R:cV}:∀(v:ab),v.plain=true→aY R v v
 |.top,h=>by simp[ab.plain]at h
 |.bool _,_=>by rw[aY]
 |.int _ _,_=>by rw[aY]
 |.str _,_=>by rw[aY]
 |.cX,_=>by rw[aY]
 |.ptr _ _,h=>by simp[ab.plain]at h
 |.dK cs,h=>by rw[aY];exact⟨cs,bW.g_ cs (by simpa[ab.plain]using h),rfl⟩
 |.slice xs nl none,h=>by rw[aY];exact⟨xs,bW.g_ xs (by simpa[ab.plain]using h),rfl⟩
 |.slice xs nl (some g),h=>by simp[ab.plain]at h
 |.raw _ _,h=>by simp[ab.plain]at h
 |.ref _ _ _ _,h=>by simp[ab.plain]at h
 |.agg cs,h=>by rw[aY];exact⟨cs,bW.g_ cs (by simpa[ab.plain]using h),rfl⟩
 |.tuple cs,h=>by rw[aY];exact⟨cs,bW.g_ cs (by simpa[ab.plain]using h),rfl⟩
 |.iface t v,h=>by rw[aY];exact⟨v,aY.g_ v (by simpa[ab.plain]using h),rfl⟩
 |.dC,_=>by rw[aY]
 |.func fn f c,h=>by
  simp only[ab.plain,dF]at h;rw[aY];exact⟨f,c,bW.g_ f h.1,bW.g_ c h.2,rfl⟩
 |.fj,_=>by rw[aY]
 |.map none,_=>by rw[aY]
 |.map (some i),h=>by simp[ab.plain]at h
theorem bW.g_ {R:cV}:∀(vs:List ab),gV vs=true→bW R vs vs
 | [],_=>.nil
 |x::xs,h=>by
  simp only[gV,dF]at h;exact .cons (aY.g_ x h.1) (bW.g_ xs h.2)
end
def ef (R:cV):aJ→aJ→Prop
 |.val v,e=>∃a,aY R v a∧e=.val a
 |.box cs,e=>∃ds,bW R cs ds∧e=.box ds
 |.b7 s o,e=>e=.b7 s o
theorem ef.mono {R aL:cV} (bz:R.dY aL) {e aR:aJ} (h:ef R e aR):ef aL e aR:=by
 cases e with
 |val v=>obtain⟨a,U,aa⟩:=h;exact⟨a,U.mono bz,aa⟩
 |box cs=>obtain⟨a,U,aa⟩:=h;exact⟨a,U.mono bz,aa⟩
 |b7 s o=>exact h
end Go.bO
end
section
namespace Go.bO
noncomputable section
inductive eA where
 |dead
 |obj (cs:List ab)
 |row (sz:Nat) (cs:List ab)
 |cF (n sz e:Nat)
 |map (a7:Option cL) (es:List (ab × ab))
 |iter (m:Nat) (a7:Option cL) (es left:List (ab × ab)) (cur:Option (ab × ab))
 |eL
 |q5
structure aO where
 n:Nat
 g:Nat
 t:cg eA
abbrev aP:=cg aJ
def c7 (env:aP) (s:Nat):aJ:=cg.get (.val .top) env s
def wV (env:aP) (s:Nat) (e:aJ):aP:=cg.set (.val .top) env s e
def aO.at (V:aO) (i:Nat):eA:=cg.get .dead V.t i
def aO.put (V:aO) (i:Nat) (o:eA):aO:=⟨V.n,V.g,cg.set .dead V.t i o⟩
def aO.new (V:aO) (o:eA):aO:=⟨Nat.add V.n 1,V.g,cg.set .dead V.t V.n o⟩
inductive bj where
 |done (x:dT) (env:aP) (V:aO)
 |bad
 |alt (a b:bj)
inductive eS where
 |jX (a:ab) (V:aO)
 |fail
 |alt (a b:eS)
def O8 (t:Nat) (e:aJ):aJ:=aJ.rec (fun a=>.val a) (fun _=>.b7 t 0) (fun s o=>.b7 s o) e
def ak5 (t:Nat) (env:aP):aJ:=O8 t (c7 env t)
def ak4 (a:ab) (_:aP):aJ:=.val a
def bV (x:aG):aP→aJ:=aG.rec ak5 ak4 x
def wN (a:ab) (o:Option (List ab)):Option (List ab):=Option.rec none (fun as=>some (a::as)) o
def Pj (bm:aP→Option (List ab)) (env:aP):aJ→Option (List ab):= @aJ.rec (fun _=>Option (List ab)) (fun a=>wN a (bm env)) (fun _=>none) (fun _ _=>none)
def kM (l:List aG):aP→Option (List ab):=List.rec (fun _=>some []) (fun x _ bm env=>Pj bm env (bV x env)) l
def dc (d:Option Nat) (e:aJ) (env:aP):aP:=Option.rec env (fun s=>wV env s e) d
def RV (k:IntKind):Nat:=bif k.signed then Nat.pow 2 (Nat.sub k.bits 1)else Nat.pow 2 k.bits
def Vq (k:IntKind) (n:Int) (m:Nat):Int:=bif Nat.blt m (RV k)then n else k.wrap n
def Vp (k:IntKind) (n:Int) (m:Nat):Int:=bif k.signed&&Nat.blt m (RV k)then n else k.wrap n
def uf (k:IntKind) (n:Int):Int:=Int.rec (Vq k n) (Vp k n) n
def mh:Int→Int→Bool
 |.ofNat a,.ofNat b=>Nat.beq a b
 |.negSucc a,.negSucc b=>Nat.beq a b
 |_,_=>false
def my:Int→Int→Bool
 |.ofNat a,.ofNat b=>Nat.blt a b
 |.negSucc a,.negSucc b=>Nat.blt b a
 |.negSucc _,.ofNat _=>true
 |.ofNat _,.negSucc _=>false
def pH:Int→Int→Int
 |.ofNat a,.ofNat b=>.ofNat (Nat.add a b)
 |a,b=>a+b
def UG (a b:Nat):Int:=bif Nat.ble b a then .ofNat (Nat.sub a b)else .negSucc (Nat.sub (Nat.sub b a) 1)
def ya:Int→Int→Int
 |.ofNat a,.ofNat b=>UG a b
 |a,b=>a-b
def Vg (k:IntKind) (n:Int):Option ab:=some (.int k n)
def rA (b:Bool):Option ab:=some (.bool b)
def ZF (k:IntKind) (a b:Int):Option ab:=Vg k (uf k (pH a b))
def ZM (k:IntKind) (a b:Int):Option ab:=Vg k (uf k (ya a b))
def ZG (_:IntKind) (a b:Int):Option ab:=rA (mh a b)
def ZL (_:IntKind) (a b:Int):Option ab:=rA (!mh a b)
def ZK (_:IntKind) (a b:Int):Option ab:=rA (my a b)
def ZJ (_:IntKind) (a b:Int):Option ab:=rA (!my b a)
def ZI (_:IntKind) (a b:Int):Option ab:=rA (my b a)
def ZH (_:IntKind) (a b:Int):Option ab:=rA (!my a b)
def afE:Int→Int→IntKind→Option ab
 |.ofNat a,.ofNat b,k=>Vg k (.ofNat (Nat.div a (Nat.pow 2 (bif Nat.ble b k.bits then b else k.bits))))
 |a,b,k=>iZ .shr k a b
def aoJ (k:IntKind) (a b:Int):Option ab:=afE a b k
def xn (op:BinOp) (k:IntKind) (a b:Int):Option ab:=iZ op k a b
def xo:BinOp→IntKind→Int→Int→Option ab:= @BinOp.rec (fun _=>IntKind→Int→Int→Option ab) ZF ZM (xn .mul) (xn .quo) (xn .rem) (xn .and) (xn .or) (xn .xor) (xn .shl) aoJ (xn .andNot) ZG ZL ZK ZJ ZI ZH
def tk:List UInt8→List UInt8→Bool
 | [],[]=>true
 |a::as,b::bs=>bif Nat.beq a.toNat b.toNat then tk as bs else false
 |_,_=>false
def afj (a b:List UInt8):Option ab:=rA (tk a b)
def afk (a b:List UInt8):Option ab:=rA (!tk a b)
def oD (op:BinOp) (a b:List UInt8):Option ab:=vR op a b
def Hu:BinOp→List UInt8→List UInt8→Option ab:= @BinOp.rec (fun _=>List UInt8→List UInt8→Option ab) (oD .add) (oD .sub) (oD .mul) (oD .quo) (oD .rem) (oD .and) (oD .or) (oD .xor) (oD .shl) (oD .shr) (oD .andNot) afj afk (oD .lss) (oD .leq) (oD .gtr) (oD .geq)
def Bo:ab→ab→Bool
 |.bool a,.bool b=>a==b
 |.int _ a,.int _ b=>mh a b
 |.str a,.str b=>tk a b
 |_,_=>false
def wJ:List ab→List ab→Bool
 | [],[]=>true
 |a::as,b::bs=>bif Bo a b then wJ as bs else false
 |_,_=>false
def hx:ab→ab→Bool
 |.agg a,.agg b=>wJ a b
 |a,b=>Bo a b
def DF:dH→dH→Bool
 |.bool,.bool=>true
 |.int a,.int b=>decide (a=b)
 |.str,.str=>true
 |_,_=>false
def DG:List dH→List dH→Bool
 | [],[]=>true
 |a::as,b::bs=>bif DF a b then DG as bs else false
 |_,_=>false
def Ku:cL→cL→Bool
 |.one a,.one b=>DF a b
 |.row a,.row b=>DG a b
 |_,_=>false
def ky (key:ab):List (ab × ab)→Option ab
 | []=>none
 |e::r=>bif hx key e.1 then some e.2 else ky key r
def kV (key v:ab):List (ab × ab)→List (ab × ab)
 | []=>[(key,v)]
 |e::r=>bif hx key e.1 then(key,v)::r else e::kV key v r
def qb (key:ab):List (ab × ab)→List (ab × ab)
 | []=>[]
 |e::r=>bif hx key e.1 then r else e::qb key r
def mG (o:Option ab):Option aJ:=Option.rec none (fun a=>some (.val a)) o
def acQ:aJ→Option aJ
 |.val (.ptr b o)=>some (.val (.ptr b o))
 |.val (.dK cs)=>some (.val (.dK cs))
 |.b7 s o=>some (.b7 s o)
 |_=>none
def arj:ab→Option aJ:= @ab.rec (fun _=>Option aJ) (fun _=>Unit)
 (none)
 (fun(_:Bool)=>none)
 (fun(_:IntKind) (_:Int)=>none)
 (fun(_:List UInt8)=>none)
 (none)
 (fun(b:Nat) (o:Nat)=>some (.val (.ptr b o)))
 (fun(cs:List ab) (_:Unit)=>some (.val (.dK cs)))
 (fun(_:List ab) (_:Bool) (_:Option Nat) (_:Unit)=>none)
 (fun(_:Nat) (_:Nat)=>none)
 (fun(_:Nat) (_:Nat) (_:Nat) (_:Nat)=>none)
 (fun(_:List ab) (_:Unit)=>none)
 (fun(_:List ab) (_:Unit)=>none)
 (fun(_:TypeId) (_:ab) (_:Option aJ)=>none)
 (none)
 (fun(_:Fn) (_:List ab) (_:List ab) (_:Unit) (_:Unit)=>none)
 (none)
 (fun(_:Option Nat)=>none)
 () (fun _ _ _ _=>())
def arf:aJ→Option aJ:= @aJ.rec (fun _=>Option aJ) arj (fun(_:List ab)=>none) (fun(s:Nat) (o:Nat)=>some (.b7 s o))
def SQ:aJ→Option aJ:=fun e=>arf e
def Wl (op:BinOp) (k:IntKind) (a:Int):ab→Option ab
 |.int k' b=>bif sI op k k' then xo op k a b else none
 |_=>none
def apB:IntKind→Bool:= @IntKind.rec (fun _=>Bool) true false false false false false false false
def apy:IntKind→Bool:= @IntKind.rec (fun _=>Bool) false true false false false false false false
def apz:IntKind→Bool:= @IntKind.rec (fun _=>Bool) false false true false false false false false
def apA:IntKind→Bool:= @IntKind.rec (fun _=>Bool) false false false true false false false false
def apF:IntKind→Bool:= @IntKind.rec (fun _=>Bool) false false false false true false false false
def apC:IntKind→Bool:= @IntKind.rec (fun _=>Bool) false false false false false true false false
def apD:IntKind→Bool:= @IntKind.rec (fun _=>Bool) false false false false false false true false
def apE:IntKind→Bool:= @IntKind.rec (fun _=>Bool) false false false false false false false true
def mw:IntKind→IntKind→Bool:= @IntKind.rec (fun _=>IntKind→Bool) apB apy apz apA apF apC apD apE
def VT (_ _:IntKind):Bool:=true
def Ug:BinOp→IntKind→IntKind→Bool:= @BinOp.rec (fun _=>IntKind→IntKind→Bool) mw mw mw mw mw mw mw mw VT VT mw mw mw mw mw mw mw
def Z1:cG→Bool:= @cG.rec (fun _=>Bool) false false false true false false (fun _=>false) false
def ajw:ab→BinOp→IntKind→Int→Option ab:= @ab.rec (fun _=>BinOp→IntKind→Int→Option ab) (fun _=>Unit)
 (fun(_:BinOp) (_:IntKind) (_:Int)=>none)
 (fun(_:Bool)=>fun(_:BinOp) (_:IntKind) (_:Int)=>none)
 (fun(ao:IntKind) (b:Int)=>fun(op:BinOp) (k:IntKind) (a:Int)=>bif Ug op k ao then xo op k a b else none)
 (fun(_:List UInt8)=>fun(_:BinOp) (_:IntKind) (_:Int)=>none)
 (fun(_:BinOp) (_:IntKind) (_:Int)=>none)
 (fun(_:Nat) (_:Nat)=>fun(_:BinOp) (_:IntKind) (_:Int)=>none)
 (fun(_:List ab) (_:Unit)=>fun(_:BinOp) (_:IntKind) (_:Int)=>none)
 (fun(_:List ab) (_:Bool) (_:Option Nat) (_:Unit)=>fun(_:BinOp) (_:IntKind) (_:Int)=>none)
 (fun(_:Nat) (_:Nat)=>fun(_:BinOp) (_:IntKind) (_:Int)=>none)
 (fun(_:Nat) (_:Nat) (_:Nat) (_:Nat)=>fun(_:BinOp) (_:IntKind) (_:Int)=>none)
 (fun(_:List ab) (_:Unit)=>fun(_:BinOp) (_:IntKind) (_:Int)=>none)
 (fun(_:List ab) (_:Unit)=>fun(_:BinOp) (_:IntKind) (_:Int)=>none)
 (fun(_:TypeId) (_:ab) (_:BinOp→IntKind→Int→Option ab)=>fun(_:BinOp) (_:IntKind) (_:Int)=>none)
 (fun(_:BinOp) (_:IntKind) (_:Int)=>none)
 (fun(_:Fn) (_:List ab) (_:List ab) (_:Unit) (_:Unit)=>fun(_:BinOp) (_:IntKind) (_:Int)=>none)
 (fun(_:BinOp) (_:IntKind) (_:Int)=>none)
 (fun(_:Option Nat)=>fun(_:BinOp) (_:IntKind) (_:Int)=>none)
 () (fun _ _ _ _=>())
def Is (op:BinOp) (k:IntKind) (a:Int):ab→Option ab:=fun y=>ajw y op k a
def Wn (op:BinOp) (a:List UInt8):ab→Option ab
 |.str b=>Hu op a b
 |_=>none
def ajz:ab→BinOp→List UInt8→Option ab:= @ab.rec (fun _=>BinOp→List UInt8→Option ab) (fun _=>Unit)
 (fun(_:BinOp) (_:List UInt8)=>none)
 (fun(_:Bool)=>fun(_:BinOp) (_:List UInt8)=>none)
 (fun(_:IntKind) (_:Int)=>fun(_:BinOp) (_:List UInt8)=>none)
 (fun(b:List UInt8)=>fun(op:BinOp) (a:List UInt8)=>Hu op a b)
 (fun(_:BinOp) (_:List UInt8)=>none)
 (fun(_:Nat) (_:Nat)=>fun(_:BinOp) (_:List UInt8)=>none)
 (fun(_:List ab) (_:Unit)=>fun(_:BinOp) (_:List UInt8)=>none)
 (fun(_:List ab) (_:Bool) (_:Option Nat) (_:Unit)=>fun(_:BinOp) (_:List UInt8)=>none)
 (fun(_:Nat) (_:Nat)=>fun(_:BinOp) (_:List UInt8)=>none)
 (fun(_:Nat) (_:Nat) (_:Nat) (_:Nat)=>fun(_:BinOp) (_:List UInt8)=>none)
 (fun(_:List ab) (_:Unit)=>fun(_:BinOp) (_:List UInt8)=>none)
 (fun(_:List ab) (_:Unit)=>fun(_:BinOp) (_:List UInt8)=>none)
 (fun(_:TypeId) (_:ab) (_:BinOp→List UInt8→Option ab)=>fun(_:BinOp) (_:List UInt8)=>none)
 (fun(_:BinOp) (_:List UInt8)=>none)
 (fun(_:Fn) (_:List ab) (_:List ab) (_:Unit) (_:Unit)=>fun(_:BinOp) (_:List UInt8)=>none)
 (fun(_:BinOp) (_:List UInt8)=>none)
 (fun(_:Option Nat)=>fun(_:BinOp) (_:List UInt8)=>none)
 () (fun _ _ _ _=>())
def wD (op:BinOp) (a:List UInt8):ab→Option ab:=fun y=>ajz y op a
def XN (op:BinOp) (t:Option Bool):Option ab:=match op with
 |.eql=>Option.rec none (fun t=>rA t) t
 |.neq=>Option.rec none (fun t=>rA (!t)) t
 |_=>none
def ald (t:Option Bool):Option ab:=Option.rec none (fun t=>rA t) t
def ak' (t:Option Bool):Option ab:=Option.rec none (fun t=>rA (!t)) t
def oy (_:Option Bool):Option ab:=none
def ih:BinOp→Option Bool→Option ab:= @BinOp.rec (fun _=>Option Bool→Option ab) oy oy oy oy oy oy oy oy oy oy oy ald ak' oy oy oy oy
def Jo (ss:List dH) (a b:List ab):Option Bool:=bif gW ss a&&gW ss b then some (wJ a b)else none
def aeI (op:BinOp) (n:Nat) (k:IntKind) (z:Int):Option ab:=match op,k,z with
 |.gtr,.i64,.ofNat m=>bif Nat.beq n 1&&Nat.beq m 0 then some (.bool true)else none
 |_,_,_=>none
def nf (op:BinOp) (q:cG) (lit:Bool):ab→ab→Option ab
 |.int k a,y=>Is op k a y
 |.str a,y=>wD op a y
 |.dC,.dC=>bif lit then(match q with
  |.iface=>ih op (some true)
  |_=>none)else none
 |.bool a,.bool b=>match q with
  |.bool=>ih op (some (a==b))
  |_=>none
 |.cX,.cX=>match q with
  |.pointer=>ih op (some true)
  |_=>none
 |.cX,.ptr _ _=>match q with
  |.pointer=>ih op (some false)
  |_=>none
 |.cX,.dK _=>match q with
  |.pointer=>ih op (some false)
  |_=>none
 |.ptr _ _,.cX=>match q with
  |.pointer=>ih op (some false)
  |_=>none
 |.dK _,.cX=>match q with
  |.pointer=>ih op (some false)
  |_=>none
 |.slice _ nl _,.slice [] true none=>match q with
  |.slice=>ih op (some nl)
  |_=>none
 |.ref _ _ _ _,.slice [] true none=>match q with
  |.slice=>ih op (some false)
  |_=>none
 |.iface _ _,.dC=>match q with
  |.iface=>ih op (some false)
  |_=>none
 |.func _ _ _,.fj=>match q with
  |.func=>ih op (some false)
  |_=>none
 |.fj,.fj=>match q with
  |.func=>ih op (some true)
  |_=>none
 |.map none,.map none=>match q with
  |.map=>ih op (some true)
  |_=>none
 |.map (some _),.map none=>match q with
  |.map=>ih op (some false)
  |_=>none
 |.agg a,.agg b=>match q with
  |.flat ss=>ih op (Jo ss a b)
  |_=>none
 |.raw _ n,.int k z=>aeI op n k z
 |_,_=>none
def ajx:ab→BinOp→cG→Option ab:= @ab.rec (fun _=>BinOp→cG→Option ab) (fun _=>Unit)
 (fun(_:BinOp) (_:cG)=>none)
 (fun(_:Bool)=>fun(_:BinOp) (_:cG)=>none)
 (fun(_:IntKind) (_:Int)=>fun(_:BinOp) (_:cG)=>none)
 (fun(_:List UInt8)=>fun(_:BinOp) (_:cG)=>none)
 (fun(_:BinOp) (_:cG)=>none)
 (fun(_:Nat) (_:Nat)=>fun(_:BinOp) (_:cG)=>none)
 (fun(_:List ab) (_:Unit)=>fun(_:BinOp) (_:cG)=>none)
 (fun(_:List ab) (_:Bool) (_:Option Nat) (_:Unit)=>fun(_:BinOp) (_:cG)=>none)
 (fun(_:Nat) (_:Nat)=>fun(_:BinOp) (_:cG)=>none)
 (fun(_:Nat) (_:Nat) (_:Nat) (_:Nat)=>fun(_:BinOp) (_:cG)=>none)
 (fun(_:List ab) (_:Unit)=>fun(_:BinOp) (_:cG)=>none)
 (fun(_:List ab) (_:Unit)=>fun(_:BinOp) (_:cG)=>none)
 (fun(_:TypeId) (_:ab) (_:BinOp→cG→Option ab)=>fun(_:BinOp) (_:cG)=>none)
 (fun(op:BinOp) (q:cG)=>bif Z1 q then ih op (some false)else none)
 (fun(_:Fn) (_:List ab) (_:List ab) (_:Unit) (_:Unit)=>fun(_:BinOp) (_:cG)=>none)
 (fun(_:BinOp) (_:cG)=>none)
 (fun(_:Option Nat)=>fun(_:BinOp) (_:cG)=>none)
 () (fun _ _ _ _=>())
def ajy:ab→BinOp→cG→Bool→Option ab:= @ab.rec (fun _=>BinOp→cG→Bool→Option ab) (fun _=>Unit)
 (fun(_:BinOp) (_:cG) (_:Bool)=>none)
 (fun(_:Bool)=>fun(_:BinOp) (_:cG) (_:Bool)=>none)
 (fun(_:IntKind) (_:Int)=>fun(_:BinOp) (_:cG) (_:Bool)=>none)
 (fun(_:List UInt8)=>fun(_:BinOp) (_:cG) (_:Bool)=>none)
 (fun(_:BinOp) (_:cG) (_:Bool)=>none)
 (fun(_:Nat) (_:Nat)=>fun(_:BinOp) (_:cG) (_:Bool)=>none)
 (fun(_:List ab) (_:Unit)=>fun(_:BinOp) (_:cG) (_:Bool)=>none)
 (fun(_:List ab) (_:Bool) (_:Option Nat) (_:Unit)=>fun(_:BinOp) (_:cG) (_:Bool)=>none)
 (fun(_:Nat) (_:Nat)=>fun(_:BinOp) (_:cG) (_:Bool)=>none)
 (fun(_:Nat) (_:Nat) (_:Nat) (_:Nat)=>fun(_:BinOp) (_:cG) (_:Bool)=>none)
 (fun(_:List ab) (_:Unit)=>fun(_:BinOp) (_:cG) (_:Bool)=>none)
 (fun(_:List ab) (_:Unit)=>fun(_:BinOp) (_:cG) (_:Bool)=>none)
 (fun(_:TypeId) (_:ab) (_:BinOp→cG→Bool→Option ab)=>fun(_:BinOp) (_:cG) (_:Bool)=>none)
 (fun(op:BinOp) (q:cG) (lit:Bool)=>bif lit then(bif Z1 q then ih op (some true)else none)else none)
 (fun(_:Fn) (_:List ab) (_:List ab) (_:Unit) (_:Unit)=>fun(_:BinOp) (_:cG) (_:Bool)=>none)
 (fun(_:BinOp) (_:cG) (_:Bool)=>none)
 (fun(_:Option Nat)=>fun(_:BinOp) (_:cG) (_:Bool)=>none)
 () (fun _ _ _ _=>())
def ajB:ab→BinOp→cG→Bool→ab→Option ab:= @ab.rec (fun _=>BinOp→cG→Bool→ab→Option ab) (fun _=>Unit)
 (fun(op:BinOp) (q:cG) (lit:Bool) (y:ab)=>nf op q lit (.top) y)
 (fun(z0:Bool)=>fun(op:BinOp) (q:cG) (lit:Bool) (y:ab)=>nf op q lit (.bool z0) y)
 (fun(k:IntKind) (a:Int)=>fun(op:BinOp) (_:cG) (_:Bool) (y:ab)=>Is op k a y)
 (fun(a:List UInt8)=>fun(op:BinOp) (_:cG) (_:Bool) (y:ab)=>wD op a y)
 (fun(op:BinOp) (q:cG) (lit:Bool) (y:ab)=>nf op q lit (.cX) y)
 (fun(z0:Nat) (bZ:Nat)=>fun(op:BinOp) (q:cG) (lit:Bool) (y:ab)=>nf op q lit (.ptr z0 bZ) y)
 (fun(z0:List ab) (_:Unit)=>fun(op:BinOp) (q:cG) (lit:Bool) (y:ab)=>nf op q lit (.dK z0) y)
 (fun(z0:List ab) (bZ:Bool) (cB:Option Nat) (_:Unit)=>fun(op:BinOp) (q:cG) (lit:Bool) (y:ab)=>nf op q lit (.slice z0 bZ cB) y)
 (fun(z0:Nat) (bZ:Nat)=>fun(op:BinOp) (q:cG) (lit:Bool) (y:ab)=>nf op q lit (.raw z0 bZ) y)
 (fun(z0:Nat) (bZ:Nat) (cB:Nat) (z3:Nat)=>fun(op:BinOp) (q:cG) (lit:Bool) (y:ab)=>nf op q lit (.ref z0 bZ cB z3) y)
 (fun(z0:List ab) (_:Unit)=>fun(op:BinOp) (q:cG) (lit:Bool) (y:ab)=>nf op q lit (.agg z0) y)
 (fun(z0:List ab) (_:Unit)=>fun(op:BinOp) (q:cG) (lit:Bool) (y:ab)=>nf op q lit (.tuple z0) y)
 (fun(_:TypeId) (_:ab) (_:BinOp→cG→Bool→ab→Option ab)=>fun(op:BinOp) (q:cG) (_:Bool) (y:ab)=>ajx y op q)
 (fun(op:BinOp) (q:cG) (lit:Bool) (y:ab)=>ajy y op q lit)
 (fun(z0:Fn) (bZ:List ab) (cB:List ab) (_:Unit) (_:Unit)=>fun(op:BinOp) (q:cG) (lit:Bool) (y:ab)=>nf op q lit (.func z0 bZ cB) y)
 (fun(op:BinOp) (q:cG) (lit:Bool) (y:ab)=>nf op q lit (.fj) y)
 (fun(z0:Option Nat)=>fun(op:BinOp) (q:cG) (lit:Bool) (y:ab)=>nf op q lit (.map z0) y)
 () (fun _ _ _ _=>())
def Et (op:BinOp) (q:cG) (lit:Bool) (x y:ab):Option ab:=ajB x op q lit y
def Nz (op:BinOp) (q:cG) (lit:Bool):aJ→aJ→Option aJ
 |.val x,.val y=>mG (Et op q lit x y)
 |.b7 _ _,.val .cX=>match q with
  |.pointer=>mG (ih op (some false))
  |_=>none
 |_,_=>none
def aju:aJ→BinOp→cG→Bool→ab→Option aJ:= @aJ.rec (fun _=>BinOp→cG→Bool→ab→Option aJ) (fun y op q lit x=>mG (Et op q lit x y)) (fun _ _ _ _ _=>none) (fun _ _ _ _ _ _=>none)
def ajt:aJ→BinOp→cG→Bool→aJ→Option aJ:= @aJ.rec (fun _=>BinOp→cG→Bool→aJ→Option aJ) (fun x op q lit y=>aju y op q lit x) (fun _ _ _ _ _=>none) (fun s o op q lit y=>Nz op q lit (.b7 s o) y)
def k6 (op:BinOp) (q:cG) (lit:Bool):aJ→aJ→Option aJ:=fun x y=>ajt x op q lit y
def acW:aJ→Option aJ
 |.val (.bool b)=>some (.val (.bool (!b)))
 |_=>none
def arw:ab→Option aJ:= @ab.rec (fun _=>Option aJ) (fun _=>Unit)
 (none)
 (fun(b:Bool)=>some (.val (.bool (!b))))
 (fun(_:IntKind) (_:Int)=>none)
 (fun(_:List UInt8)=>none)
 (none)
 (fun(_:Nat) (_:Nat)=>none)
 (fun(_:List ab) (_:Unit)=>none)
 (fun(_:List ab) (_:Bool) (_:Option Nat) (_:Unit)=>none)
 (fun(_:Nat) (_:Nat)=>none)
 (fun(_:Nat) (_:Nat) (_:Nat) (_:Nat)=>none)
 (fun(_:List ab) (_:Unit)=>none)
 (fun(_:List ab) (_:Unit)=>none)
 (fun(_:TypeId) (_:ab) (_:Option aJ)=>none)
 (none)
 (fun(_:Fn) (_:List ab) (_:List ab) (_:Unit) (_:Unit)=>none)
 (none)
 (fun(_:Option Nat)=>none)
 () (fun _ _ _ _=>())
def aru:aJ→Option aJ:= @aJ.rec (fun _=>Option aJ) arw (fun(_:List ab)=>none) (fun(_:Nat) (_:Nat)=>none)
def acV:aJ→Option aJ:=fun e=>aru e
def Xf (k:IntKind):aJ→Option aJ
 |.val (.int _ n)=>some (.val (.int k (uf k n)))
 |_=>none
def akD:ab→IntKind→Option aJ:= @ab.rec (fun _=>IntKind→Option aJ) (fun _=>Unit)
 (fun(_:IntKind)=>none)
 (fun(_:Bool)=>fun(_:IntKind)=>none)
 (fun(_:IntKind) (n:Int)=>fun(k:IntKind)=>some (.val (.int k (uf k n))))
 (fun(_:List UInt8)=>fun(_:IntKind)=>none)
 (fun(_:IntKind)=>none)
 (fun(_:Nat) (_:Nat)=>fun(_:IntKind)=>none)
 (fun(_:List ab) (_:Unit)=>fun(_:IntKind)=>none)
 (fun(_:List ab) (_:Bool) (_:Option Nat) (_:Unit)=>fun(_:IntKind)=>none)
 (fun(_:Nat) (_:Nat)=>fun(_:IntKind)=>none)
 (fun(_:Nat) (_:Nat) (_:Nat) (_:Nat)=>fun(_:IntKind)=>none)
 (fun(_:List ab) (_:Unit)=>fun(_:IntKind)=>none)
 (fun(_:List ab) (_:Unit)=>fun(_:IntKind)=>none)
 (fun(_:TypeId) (_:ab) (_:IntKind→Option aJ)=>fun(_:IntKind)=>none)
 (fun(_:IntKind)=>none)
 (fun(_:Fn) (_:List ab) (_:List ab) (_:Unit) (_:Unit)=>fun(_:IntKind)=>none)
 (fun(_:IntKind)=>none)
 (fun(_:Option Nat)=>fun(_:IntKind)=>none)
 () (fun _ _ _ _=>())
def akB:aJ→IntKind→Option aJ:= @aJ.rec (fun _=>IntKind→Option aJ) akD (fun(_:List ab)=>fun(_:IntKind)=>none) (fun(_:Nat) (_:Nat)=>fun(_:IntKind)=>none)
def Og (k:IntKind):aJ→Option aJ:=fun e=>akB e k
def afl:aJ→Option aJ
 |.val (.str s)=>some (.val (.str s))
 |_=>none
def ZR (t:Nat):aJ→Option aJ
 |.val a=>some (.val (.iface t a))
 |_=>none
def acC (fn:Fn) (f:List ab):Option (List ab)→Option aJ
 |some c=>some (.val (.func fn f c))
 |none=>none
def Sy (fn:Fn) (c:Option (List ab)):Option (List ab)→Option aJ
 |some f=>acC fn f c
 |none=>none
def Yc (off:Nat):aJ→Option aJ
 |.val (.ptr b o)=>some (.val (.ptr b (Nat.add o off)))
 |.val (.dK cs)=>some (.val (.dK (cs.drop off)))
 |.b7 s o=>some (.b7 s (Nat.add o off))
 |_=>none
def alv:ab→Nat→Option aJ:= @ab.rec (fun _=>Nat→Option aJ) (fun _=>Unit)
 (fun(_:Nat)=>none)
 (fun(_:Bool)=>fun(_:Nat)=>none)
 (fun(_:IntKind) (_:Int)=>fun(_:Nat)=>none)
 (fun(_:List UInt8)=>fun(_:Nat)=>none)
 (fun(_:Nat)=>none)
 (fun(b:Nat) (o:Nat)=>fun(off:Nat)=>some (.val (.ptr b (Nat.add o off))))
 (fun(cs:List ab) (_:Unit)=>fun(off:Nat)=>some (.val (.dK (cs.drop off))))
 (fun(_:List ab) (_:Bool) (_:Option Nat) (_:Unit)=>fun(_:Nat)=>none)
 (fun(_:Nat) (_:Nat)=>fun(_:Nat)=>none)
 (fun(_:Nat) (_:Nat) (_:Nat) (_:Nat)=>fun(_:Nat)=>none)
 (fun(_:List ab) (_:Unit)=>fun(_:Nat)=>none)
 (fun(_:List ab) (_:Unit)=>fun(_:Nat)=>none)
 (fun(_:TypeId) (_:ab) (_:Nat→Option aJ)=>fun(_:Nat)=>none)
 (fun(_:Nat)=>none)
 (fun(_:Fn) (_:List ab) (_:List ab) (_:Unit) (_:Unit)=>fun(_:Nat)=>none)
 (fun(_:Nat)=>none)
 (fun(_:Option Nat)=>fun(_:Nat)=>none)
 () (fun _ _ _ _=>())
def alu:aJ→Nat→Option aJ:= @aJ.rec (fun _=>Nat→Option aJ) alv (fun(_:List ab)=>fun(_:Nat)=>none) (fun(s:Nat) (o:Nat)=>fun(off:Nat)=>some (.b7 s (Nat.add o off)))
def y1 (off:Nat):aJ→Option aJ:=fun e=>alu e off
def Nc (n sz:Nat) (x:aJ):Int→Option aJ
 |.ofNat j=>bif Nat.blt j n then y1 (Nat.mul j sz) x else none
 |_=>none
def VJ (n sz:Nat) (x:aJ):aJ→Option aJ
 |.val (.int _ j)=>Nc n sz x j
 |_=>none
def V7 (n:Nat):aJ→Option aJ
 |.val (.ptr b o)=>bif Nat.ble n maxLen&&Nat.blt 0 n then some (.val (.ref b o n (Nat.mul 2 n)))else none
 |_=>none
def acJ:aJ→Option aJ
 |.val (.int k n)=>some (.val (.int k (uf k (0-n))))
 |_=>none
def vx:List ab→Nat→Option ab:= @List.rec ab (fun _=>Nat→Option ab) (fun _=>none) (fun x _ bm n=> @Nat.rec (fun _=>Option ab) (some x) (fun m _=>bm m) n)
def XW (i:Nat):aJ→Option aJ
 |.val (.tuple vs)=>mG (vx vs i)
 |_=>none
def alk:ab→Nat→Option aJ:= @ab.rec (fun _=>Nat→Option aJ) (fun _=>Unit)
 (fun(_:Nat)=>none)
 (fun(_:Bool)=>fun(_:Nat)=>none)
 (fun(_:IntKind) (_:Int)=>fun(_:Nat)=>none)
 (fun(_:List UInt8)=>fun(_:Nat)=>none)
 (fun(_:Nat)=>none)
 (fun(_:Nat) (_:Nat)=>fun(_:Nat)=>none)
 (fun(_:List ab) (_:Unit)=>fun(_:Nat)=>none)
 (fun(_:List ab) (_:Bool) (_:Option Nat) (_:Unit)=>fun(_:Nat)=>none)
 (fun(_:Nat) (_:Nat)=>fun(_:Nat)=>none)
 (fun(_:Nat) (_:Nat) (_:Nat) (_:Nat)=>fun(_:Nat)=>none)
 (fun(_:List ab) (_:Unit)=>fun(_:Nat)=>none)
 (fun(vs:List ab) (_:Unit)=>fun(i:Nat)=>mG (vx vs i))
 (fun(_:TypeId) (_:ab) (_:Nat→Option aJ)=>fun(_:Nat)=>none)
 (fun(_:Nat)=>none)
 (fun(_:Fn) (_:List ab) (_:List ab) (_:Unit) (_:Unit)=>fun(_:Nat)=>none)
 (fun(_:Nat)=>none)
 (fun(_:Option Nat)=>fun(_:Nat)=>none)
 () (fun _ _ _ _=>())
def ali:aJ→Nat→Option aJ:= @aJ.rec (fun _=>Nat→Option aJ) alk (fun(_:List ab)=>fun(_:Nat)=>none) (fun(_:Nat) (_:Nat)=>fun(_:Nat)=>none)
def Pl (i:Nat):aJ→Option aJ:=fun e=>ali e i
def iw:Nat→List ab→Option (List ab):= @Nat.rec (fun _=>List ab→Option (List ab)) (fun _=>some []) (fun _ bm=> @List.rec ab (fun _=>Option (List ab)) none (fun x xs _=>wN x (bm xs)))
def Qk:List ab→Option ab:= @List.rec ab (fun _=>Option ab) none (fun x _ _=>some x)
def Eg (o:Option (List ab)):Option ab:=Option.rec none (fun cs=>some (.agg cs)) o
def nU {β:Type} (f:List ab→Option β) (o:Nat):List ab→Option β:=Nat.rec f (fun _ bm cs=>List.rec none (fun _ cs _=>bm cs) cs) o
def sF (agg:Bool) (n:Nat) (cs:List ab):Option ab:=bif agg then Eg (iw n cs)else bif Nat.beq n 1 then Qk cs else none
def partAt (agg:Bool) (n:Nat) (o:Nat):List ab→Option ab:=nU (sF agg n) o
def XZ (off n:Nat) (agg:Bool):aJ→Option aJ
 |.val (.agg cs)=>mG (partAt agg n off cs)
 |_=>none
def alq:ab→Nat→Nat→Bool→Option aJ:= @ab.rec (fun _=>Nat→Nat→Bool→Option aJ) (fun _=>Unit)
 (fun(_:Nat) (_:Nat) (_:Bool)=>none)
 (fun(_:Bool)=>fun(_:Nat) (_:Nat) (_:Bool)=>none)
 (fun(_:IntKind) (_:Int)=>fun(_:Nat) (_:Nat) (_:Bool)=>none)
 (fun(_:List UInt8)=>fun(_:Nat) (_:Nat) (_:Bool)=>none)
 (fun(_:Nat) (_:Nat) (_:Bool)=>none)
 (fun(_:Nat) (_:Nat)=>fun(_:Nat) (_:Nat) (_:Bool)=>none)
 (fun(_:List ab) (_:Unit)=>fun(_:Nat) (_:Nat) (_:Bool)=>none)
 (fun(_:List ab) (_:Bool) (_:Option Nat) (_:Unit)=>fun(_:Nat) (_:Nat) (_:Bool)=>none)
 (fun(_:Nat) (_:Nat)=>fun(_:Nat) (_:Nat) (_:Bool)=>none)
 (fun(_:Nat) (_:Nat) (_:Nat) (_:Nat)=>fun(_:Nat) (_:Nat) (_:Bool)=>none)
 (fun(cs:List ab) (_:Unit)=>fun(off:Nat) (n:Nat) (agg:Bool)=>mG (partAt agg n off cs))
 (fun(_:List ab) (_:Unit)=>fun(_:Nat) (_:Nat) (_:Bool)=>none)
 (fun(_:TypeId) (_:ab) (_:Nat→Nat→Bool→Option aJ)=>fun(_:Nat) (_:Nat) (_:Bool)=>none)
 (fun(_:Nat) (_:Nat) (_:Bool)=>none)
 (fun(_:Fn) (_:List ab) (_:List ab) (_:Unit) (_:Unit)=>fun(_:Nat) (_:Nat) (_:Bool)=>none)
 (fun(_:Nat) (_:Nat) (_:Bool)=>none)
 (fun(_:Option Nat)=>fun(_:Nat) (_:Nat) (_:Bool)=>none)
 () (fun _ _ _ _=>())
def alo:aJ→Nat→Nat→Bool→Option aJ:= @aJ.rec (fun _=>Nat→Nat→Bool→Option aJ) alq (fun(_:List ab)=>fun(_:Nat) (_:Nat) (_:Bool)=>none) (fun(_:Nat) (_:Nat)=>fun(_:Nat) (_:Nat) (_:Bool)=>none)
def Pn (off:Nat) (n:Nat) (agg:Bool):aJ→Option aJ:=fun e=>alo e off n agg
def re:List ab→List ab→List ab:= @List.rec ab (fun _=>List ab→List ab) (fun cs=>cs) (fun v _ bm=> @List.rec ab (fun _=>List ab) [] (fun _ cs _=>v::bm cs))
def gi:Nat→List ab→List ab→List ab:= @Nat.rec (fun _=>List ab→List ab→List ab) re (fun _ bm vs=> @List.rec ab (fun _=>List ab) [] (fun c cs _=>c::bm vs cs))
def vm:Nat→List ab→Bool:= @Nat.rec (fun _=>List ab→Bool) (@List.rec ab (fun _=>Bool) true (fun _ _ _=>false)) (fun _ bm=> @List.rec ab (fun _=>Bool) false (fun _ xs _=>bm xs))
def wI:ab→List ab:= @ab.rec (fun _=>List ab) (fun _=>Unit)
 ([(.top)])
 (fun(z0:Bool)=>[(.bool z0)])
 (fun(z0:IntKind) (bZ:Int)=>[(.int z0 bZ)])
 (fun(z0:List UInt8)=>[(.str z0)])
 ([(.cX)])
 (fun(z0:Nat) (bZ:Nat)=>[(.ptr z0 bZ)])
 (fun(z0:List ab) (_:Unit)=>[(.dK z0)])
 (fun(z0:List ab) (bZ:Bool) (cB:Option Nat) (_:Unit)=>[(.slice z0 bZ cB)])
 (fun(z0:Nat) (bZ:Nat)=>[(.raw z0 bZ)])
 (fun(z0:Nat) (bZ:Nat) (cB:Nat) (z3:Nat)=>[(.ref z0 bZ cB z3)])
 (fun(cs:List ab) (_:Unit)=>cs)
 (fun(z0:List ab) (_:Unit)=>[(.tuple z0)])
 (fun(z0:TypeId) (bZ:ab) (_:List ab)=>[(.iface z0 bZ)])
 ([(.dC)])
 (fun(z0:Fn) (bZ:List ab) (cB:List ab) (_:Unit) (_:Unit)=>[(.func z0 bZ cB)])
 ([(.fj)])
 (fun(z0:Option Nat)=>[(.map z0)])
 () (fun _ _ _ _=>())
def aj_:ab→Nat→Bool:= @ab.rec (fun _=>Nat→Bool) (fun _=>Unit)
 (fun(_:Nat)=>false)
 (fun(_:Bool)=>fun(n:Nat)=>Nat.beq n 1)
 (fun(_:IntKind) (_:Int)=>fun(n:Nat)=>Nat.beq n 1)
 (fun(_:List UInt8)=>fun(n:Nat)=>Nat.beq n 1)
 (fun(n:Nat)=>Nat.beq n 1)
 (fun(_:Nat) (_:Nat)=>fun(n:Nat)=>Nat.beq n 1)
 (fun(_:List ab) (_:Unit)=>fun(n:Nat)=>Nat.beq n 1)
 (fun(_:List ab) (_:Bool) (_:Option Nat) (_:Unit)=>fun(n:Nat)=>Nat.beq n 1)
 (fun(_:Nat) (_:Nat)=>fun(n:Nat)=>Nat.beq n 1)
 (fun(_:Nat) (_:Nat) (_:Nat) (_:Nat)=>fun(n:Nat)=>Nat.beq n 1)
 (fun(cs:List ab) (_:Unit)=>fun(n:Nat)=>bif vm n cs then cs.all ab.one else false)
 (fun(_:List ab) (_:Unit)=>fun(_:Nat)=>false)
 (fun(_:TypeId) (_:ab) (_:Nat→Bool)=>fun(n:Nat)=>Nat.beq n 1)
 (fun(n:Nat)=>Nat.beq n 1)
 (fun(_:Fn) (_:List ab) (_:List ab) (_:Unit) (_:Unit)=>fun(n:Nat)=>Nat.beq n 1)
 (fun(n:Nat)=>Nat.beq n 1)
 (fun(_:Option Nat)=>fun(n:Nat)=>Nat.beq n 1)
 () (fun _ _ _ _=>())
def pR (n:Nat) (v:ab):Bool:=aj_ v n
def mP (n:Nat) (cs:List ab):Bool:=Option.rec false (fun _=>true) (iw n cs)
def uS:List ab→List (Nat × Nat × aG)→aP→Option (List ab)
 |cs,[],_=>some cs
 |cs,(o,n,x)::r,env=>match bV x env with
  |.val v=>bif pR n v&&mP (Nat.add o n) cs then uS (gi o v.cells cs) r env else none
  |_=>none
def Bc (cells:List ab) (br:List (Nat × Nat × aG)) (env:aP):Option aJ:=mG (Eg (uS cells br env))
def BC (v:ab):Nat→List ab→List ab
 |_,[]=>[]
 |0,_::xs=>v::xs
 |n+1,x::xs=>x::BC v n xs
def k0 (sz:Nat):List ab→List (Nat × aG)→aP→Option (List ab)
 |xs,[],_=>some xs
 |xs,(i,x)::r,env=>match bV x env with
  |.val v=>bif pR sz v&&mP (Nat.add i 1) xs then k0 sz (BC v i xs) r env else none
  |_=>none
def Ut (o:Option (List ab)):Option aJ:=Option.rec none (fun xs=>some (.val (.slice xs false none))) o
def j9:List ab→Nat→Nat:= @List.rec ab (fun _=>Nat→Nat) (fun n=>n) (fun _ _ bm n=>bm (Nat.add n 1))
def TS (i n:Nat):Option aJ:=bif Nat.beq n 2 then some (.val (.raw i 1))else none
def ab7:aJ→Option aJ
 |.val (.slice xs _ _)=>some (.val (.int .i64 (.ofNat (j9 xs 0))))
 |.val (.ref _ _ n _)=>some (.val (.int .i64 (.ofNat n)))
 |.val (.raw i n)=>TS i n
 |_=>none
def lZ:ab→Option aJ:= @ab.rec (fun _=>Option aJ) (fun _=>Unit)
 (none)
 (fun(_:Bool)=>none)
 (fun(_:IntKind) (_:Int)=>none)
 (fun(_:List UInt8)=>none)
 (none)
 (fun(_:Nat) (_:Nat)=>none)
 (fun(_:List ab) (_:Unit)=>none)
 (fun(xs:List ab) (_:Bool) (_:Option Nat) (_:Unit)=>some (.val (.int .i64 (.ofNat (j9 xs 0)))))
 (fun(i:Nat) (n:Nat)=>TS i n)
 (fun(_:Nat) (_:Nat) (n:Nat) (_:Nat)=>some (.val (.int .i64 (.ofNat n))))
 (fun(_:List ab) (_:Unit)=>none)
 (fun(_:List ab) (_:Unit)=>none)
 (fun(_:TypeId) (_:ab) (_:Option aJ)=>none)
 (none)
 (fun(_:Fn) (_:List ab) (_:List ab) (_:Unit) (_:Unit)=>none)
 (none)
 (fun(_:Option Nat)=>none)
 () (fun _ _ _ _=>())
def aqm:aJ→Option aJ:= @aJ.rec (fun _=>Option aJ) lZ (fun(_:List ab)=>none) (fun(_:Nat) (_:Nat)=>none)
def R4:aJ→Option aJ:=fun e=>aqm e
def vl:List UInt8→Nat→Nat
 | [],n=>n
 |_::xs,n=>vl xs (Nat.add n 1)
def R6:aJ→Option aJ
 |.val (.str s)=>some (.val (.int .i64 (.ofNat (vl s 0))))
 |_=>none
def K1:aJ→aJ→Option aJ
 |.val (.int k a),.val (.int _ b)=>some (.val (.int k (bif my b a then b else a)))
 |_,_=>none
def xz:aJ→aJ→Option aJ
 |.val (.int k a),.val (.int _ b)=>some (.val (.int k (bif my a b then b else a)))
 |_,_=>none
def KR (a b:Int):Int:=bif my a b then b else a
def KQ:aJ→aJ→aJ→Option aJ
 |.val (.int k a),.val (.int _ b),.val (.int _ c)=>some (.val (.int k (KR (KR a b) c)))
 |_,_,_=>none
def aef (a b:aG) (env:aP):aJ→Option aJ
 |.val (.bool t)=>some (bif t then bV a env else bV b env)
 |_=>none
def asd:ab→aG→aG→aP→Option aJ:= @ab.rec (fun _=>aG→aG→aP→Option aJ) (fun _=>Unit)
 (fun(_:aG) (_:aG) (_:aP)=>none)
 (fun(t:Bool)=>fun(a:aG) (b:aG) (env:aP)=>some (bif t then bV a env else bV b env))
 (fun(_:IntKind) (_:Int)=>fun(_:aG) (_:aG) (_:aP)=>none)
 (fun(_:List UInt8)=>fun(_:aG) (_:aG) (_:aP)=>none)
 (fun(_:aG) (_:aG) (_:aP)=>none)
 (fun(_:Nat) (_:Nat)=>fun(_:aG) (_:aG) (_:aP)=>none)
 (fun(_:List ab) (_:Unit)=>fun(_:aG) (_:aG) (_:aP)=>none)
 (fun(_:List ab) (_:Bool) (_:Option Nat) (_:Unit)=>fun(_:aG) (_:aG) (_:aP)=>none)
 (fun(_:Nat) (_:Nat)=>fun(_:aG) (_:aG) (_:aP)=>none)
 (fun(_:Nat) (_:Nat) (_:Nat) (_:Nat)=>fun(_:aG) (_:aG) (_:aP)=>none)
 (fun(_:List ab) (_:Unit)=>fun(_:aG) (_:aG) (_:aP)=>none)
 (fun(_:List ab) (_:Unit)=>fun(_:aG) (_:aG) (_:aP)=>none)
 (fun(_:TypeId) (_:ab) (_:aG→aG→aP→Option aJ)=>fun(_:aG) (_:aG) (_:aP)=>none)
 (fun(_:aG) (_:aG) (_:aP)=>none)
 (fun(_:Fn) (_:List ab) (_:List ab) (_:Unit) (_:Unit)=>fun(_:aG) (_:aG) (_:aP)=>none)
 (fun(_:aG) (_:aG) (_:aP)=>none)
 (fun(_:Option Nat)=>fun(_:aG) (_:aG) (_:aP)=>none)
 () (fun _ _ _ _=>())
def asc:aJ→aG→aG→aP→Option aJ:= @aJ.rec (fun _=>aG→aG→aP→Option aJ) asd (fun(_:List ab)=>fun(_:aG) (_:aG) (_:aP)=>none) (fun(_:Nat) (_:Nat)=>fun(_:aG) (_:aG) (_:aP)=>none)
def aee (a:aG) (b:aG) (env:aP):aJ→Option aJ:=fun e=>asc e a b env
def byteOf:ab→Option UInt8
 |.int .u8 (.ofNat n)=>bif Nat.blt n 256 then some (UInt8.ofNat n)else none
 |_=>none
def NP (bm:Option (List UInt8)):Option UInt8→Option (List UInt8)
 |some c=>Option.rec none (fun l=>some (c::l)) bm
 |none=>none
def bytesOf:List ab→Option (List UInt8)
 | []=>some []
 |x::xs=>NP (bytesOf xs) (byteOf x)
def UD (o:Option (List UInt8)):Option aJ:=Option.rec none (fun l=>some (.val (.str l))) o
def NL:aJ→Option aJ
 |.val (.slice xs _ _)=>UD (bytesOf xs)
 |_=>none
def Lh (c:UInt8):ab:=.int .u8 (.ofNat c.toNat)
def vy:List UInt8→List ab
 | []=>[]
 |c::l=>Lh c::vy l
def UE:aJ→Option aJ
 |.val (.str l)=>bif Nat.ble (vl l 0) maxLen then some (.val (.slice (vy l) false none))else none
 |_=>none
def iB (d:Nat) (env:aP):Option aG→Option Nat
 |none=>some d
 |some x=>match bV x env with
  |.val (.int _ (.ofNat n))=>some n
  |_=>none
def sO (sz:Nat):List ab→Bool
 | []=>true
 |x::_=>vm sz x.cells
def I0 (xs:List ab) (nl:Bool) (tok:Option Nat) (len h l:Nat):Option aJ:=
 bif Nat.ble h len&&Nat.ble l h then some (.val (.slice ((xs.take h).drop l) nl (bif Nat.beq l 0&&Nat.beq h len then tok else none)))else none
def uH (b o n c sz h l:Nat):Option aJ:=
 bif Nat.ble h n&&Nat.ble l h then
  (bif Nat.beq l 0 then some (.val (.ref b o h c))else bif Nat.beq h l then some (.val (.slice [] false none))else
   bif Nat.beq (Nat.mod c 2) 1 then some (.val (.ref b (Nat.add o (Nat.mul l sz)) (Nat.sub h l) (Nat.add c (Nat.mul 2 l))))else some (.val (.ref b (Nat.add o (Nat.mul l sz)) (Nat.sub h l) (Nat.sub c (Nat.mul 2 l)))))else none
def HK (a b:Option Nat) (k:Nat→Nat→Option aJ):Option aJ:=Option.rec none (fun a=>Option.rec none (fun b=>k a b) b) a
def nr (sz:Nat) (lo hi:Option aG) (env:aP):aJ→Option aJ
 |.val (.slice xs nl tok)=>bif sO sz xs then HK (iB (j9 xs 0) env hi) (iB 0 env lo) (I0 xs nl tok (j9 xs 0))else none
 |.val (.ref b o n c)=>HK (iB n env hi) (iB 0 env lo) (uH b o n c sz)
 |_=>none
def IZ (xs:List ab) (nl:Bool) (len m h l:Nat):Option aJ:=
 bif Nat.ble m len&&(Nat.ble h m&&Nat.ble l h)then some (.val (.slice ((xs.take h).drop l) nl none))else none
def Xi (xs:List ab) (nl:Bool) (len:Nat) (a b:Option Nat) (m:Option Nat):Option aJ:=Option.rec none (fun m=>HK a b (IZ xs nl len m)) m
def E1 (sz:Nat) (lo:Option aG) (hi mx:aG) (env:aP):aJ→Option aJ
 |.val (.slice xs nl _)=>bif sO sz xs then Xi xs nl (j9 xs 0) (iB 0 env (some hi)) (iB 0 env lo) (iB 0 env (some mx))else none
 |_=>none
def Xl (s:List UInt8) (len h l:Nat):Option aJ:=
 bif Nat.ble h len&&Nat.ble l h then some (.val (.str ((s.take h).drop l)))else none
def Xk (lo hi:Option aG) (env:aP):aJ→Option aJ
 |.val (.str s)=>HK (iB (vl s 0) env hi) (iB 0 env lo) (Xl s (vl s 0))
 |_=>none
def Ax (sz:Nat) (a:ab):Option aJ:=bif vm sz (wI a)then some (.val (.dK (wI a)))else none
def Rw (sz n:Nat):aJ→Option aJ
 |.val (.slice xs _ _)=>Option.rec none (fun a=>Ax sz a) (vx xs n)
 |.val (.ref b o m _)=>bif Nat.blt n m then some (.val (.ptr b (Nat.add o (Nat.mul n sz))))else none
 |_=>none
def aoP:ab→Nat→Nat→Option aJ:= @ab.rec (fun _=>Nat→Nat→Option aJ) (fun _=>Unit)
 (fun(_:Nat) (_:Nat)=>none)
 (fun(_:Bool)=>fun(_:Nat) (_:Nat)=>none)
 (fun(_:IntKind) (_:Int)=>fun(_:Nat) (_:Nat)=>none)
 (fun(_:List UInt8)=>fun(_:Nat) (_:Nat)=>none)
 (fun(_:Nat) (_:Nat)=>none)
 (fun(_:Nat) (_:Nat)=>fun(_:Nat) (_:Nat)=>none)
 (fun(_:List ab) (_:Unit)=>fun(_:Nat) (_:Nat)=>none)
 (fun(xs:List ab) (_:Bool) (_:Option Nat) (_:Unit)=>fun(sz:Nat) (n:Nat)=>Option.rec none (fun a=>Ax sz a) (vx xs n))
 (fun(_:Nat) (_:Nat)=>fun(_:Nat) (_:Nat)=>none)
 (fun(b:Nat) (o:Nat) (m:Nat) (_:Nat)=>fun(sz:Nat) (n:Nat)=>bif Nat.blt n m then some (.val (.ptr b (Nat.add o (Nat.mul n sz))))else none)
 (fun(_:List ab) (_:Unit)=>fun(_:Nat) (_:Nat)=>none)
 (fun(_:List ab) (_:Unit)=>fun(_:Nat) (_:Nat)=>none)
 (fun(_:TypeId) (_:ab) (_:Nat→Nat→Option aJ)=>fun(_:Nat) (_:Nat)=>none)
 (fun(_:Nat) (_:Nat)=>none)
 (fun(_:Fn) (_:List ab) (_:List ab) (_:Unit) (_:Unit)=>fun(_:Nat) (_:Nat)=>none)
 (fun(_:Nat) (_:Nat)=>none)
 (fun(_:Option Nat)=>fun(_:Nat) (_:Nat)=>none)
 () (fun _ _ _ _=>())
def aoO:aJ→Nat→Nat→Option aJ:= @aJ.rec (fun _=>Nat→Nat→Option aJ) aoP (fun(_:List ab)=>fun(_:Nat) (_:Nat)=>none) (fun(_:Nat) (_:Nat)=>fun(_:Nat) (_:Nat)=>none)
def zC (sz:Nat) (n:Nat):aJ→Option aJ:=fun e=>aoO e sz n
def ZN (sz:Nat) (x:aJ):aJ→Option aJ
 |.val (.int _ (.ofNat n))=>zC sz n x
 |_=>none
def aoN (sz:Nat) (x:aJ):Int→Option aJ:= @Int.rec (fun _=>Option aJ) (fun n=>zC sz n x) (fun _=>none)
def aoM:ab→Nat→aJ→Option aJ:= @ab.rec (fun _=>Nat→aJ→Option aJ) (fun _=>Unit)
 (fun(_:Nat) (_:aJ)=>none)
 (fun(_:Bool)=>fun(_:Nat) (_:aJ)=>none)
 (fun(_:IntKind) (n:Int)=>fun(sz:Nat) (x:aJ)=>aoN sz x n)
 (fun(_:List UInt8)=>fun(_:Nat) (_:aJ)=>none)
 (fun(_:Nat) (_:aJ)=>none)
 (fun(_:Nat) (_:Nat)=>fun(_:Nat) (_:aJ)=>none)
 (fun(_:List ab) (_:Unit)=>fun(_:Nat) (_:aJ)=>none)
 (fun(_:List ab) (_:Bool) (_:Option Nat) (_:Unit)=>fun(_:Nat) (_:aJ)=>none)
 (fun(_:Nat) (_:Nat)=>fun(_:Nat) (_:aJ)=>none)
 (fun(_:Nat) (_:Nat) (_:Nat) (_:Nat)=>fun(_:Nat) (_:aJ)=>none)
 (fun(_:List ab) (_:Unit)=>fun(_:Nat) (_:aJ)=>none)
 (fun(_:List ab) (_:Unit)=>fun(_:Nat) (_:aJ)=>none)
 (fun(_:TypeId) (_:ab) (_:Nat→aJ→Option aJ)=>fun(_:Nat) (_:aJ)=>none)
 (fun(_:Nat) (_:aJ)=>none)
 (fun(_:Fn) (_:List ab) (_:List ab) (_:Unit) (_:Unit)=>fun(_:Nat) (_:aJ)=>none)
 (fun(_:Nat) (_:aJ)=>none)
 (fun(_:Option Nat)=>fun(_:Nat) (_:aJ)=>none)
 () (fun _ _ _ _=>())
def aoK:aJ→Nat→aJ→Option aJ:= @aJ.rec (fun _=>Nat→aJ→Option aJ) aoM (fun(_:List ab)=>fun(_:Nat) (_:aJ)=>none) (fun(_:Nat) (_:Nat)=>fun(_:Nat) (_:aJ)=>none)
def Cl (sz:Nat) (x:aJ):aJ→Option aJ:=fun e=>aoK e sz x
def Kn (n:Nat) (s:List UInt8):Option aJ:=match s[n]? with
 |some c=>some (.val (Lh c))
 |none=>none
def RI (x:aJ):aJ→Option aJ
 |.val (.int _ (.ofNat n))=>match x with
  |.val (.str s)=>Kn n s
  |_=>none
 |_=>none
def G0 (x:aG) (env:aP):Option aJ:=some (bV x env)
def Di (x:aG) (env:aP):Option aJ:=SQ (bV x env)
def GY (op:BinOp) (q:cG) (x y:aG) (env:aP):Option aJ:=k6 op q (qe x||qe y) (bV x env) (bV y env)
def Dj (x:aG) (env:aP):Option aJ:=acV (bV x env)
def C5 (k:IntKind) (x:aG) (env:aP):Option aJ:=Og k (bV x env)
def Dk (x:aG) (env:aP):Option aJ:=afl (bV x env)
def C' (t:Nat) (x:aG) (env:aP):Option aJ:=ZR t (bV x env)
def Dg (fn:Fn) (f c:List aG) (env:aP):Option aJ:=Sy fn (kM c env) (kM f env)
def GZ (off:Nat) (x:aG) (env:aP):Option aJ:=y1 off (bV x env)
def C3 (n sz:Nat) (x i:aG) (env:aP):Option aJ:=VJ n sz (bV x env) (bV i env)
def LB (n:Nat) (x:aG) (env:aP):Option aJ:=V7 n (bV x env)
def My (t:Nat):aJ→Option aJ
 |.val (.iface u v)=>some (.val (.tuple (bif Nat.beq u t then [v,.bool true]else [.cX,.bool false])))
 |.val .dC=>some (.val (.tuple [.cX,.bool false]))
 |_=>none
def VI (m n:Nat) (agg:Bool) (cs:List ab):aJ→Option aJ
 |.val (.int _ (.ofNat j))=>bif Nat.blt j m&&Nat.ble (Nat.add (Nat.mul j n) n) (j9 cs 0)then some (.val (gh agg ((cs.drop (Nat.mul j n)).take n)))else none
 |_=>none
def VH (m n:Nat) (agg:Bool) (x i:aJ):Option aJ:=match x with
 |.val (.agg cs)=>VI m n agg cs i
 |_=>none
def LA (m n:Nat) (agg:Bool) (x i:aG) (env:aP):Option aJ:=VH m n agg (bV x env) (bV i env)
def WR:aJ→Option aJ
 |.val (.slice [] true none)=>some (.val (.int .i64 (.ofNat 0)))
 |_=>none
def Tt (x:aG) (env:aP):Option aJ:=WR (bV x env)
def G1 (t:Nat) (x:aG) (env:aP):Option aJ:=My t (bV x env)
def Dh (x:aG) (env:aP):Option aJ:=acJ (bV x env)
def C8 (x:aG) (i:Nat) (env:aP):Option aJ:=Pl i (bV x env)
def C9 (off n:Nat) (agg:Bool) (x:aG) (env:aP):Option aJ:=Pn off n agg (bV x env)
def Db (x:aG) (env:aP):Option aJ:=R4 (bV x env)
def Dc (x:aG) (env:aP):Option aJ:=R6 (bV x env)
def Df (x y:aG) (env:aP):Option aJ:=K1 (bV x env) (bV y env)
def Dd (x y:aG) (env:aP):Option aJ:=xz (bV x env) (bV y env)
def De (x y z:aG) (env:aP):Option aJ:=KQ (bV x env) (bV y env) (bV z env)
def Aa (c a b:aG) (env:aP):Option aJ:=aee a b env (bV c env)
def Ts (own:Bool) (sz n:Nat) (z:ab) (br:List (Nat × aG)) (env:aP):Option aJ:=bif own then none else Ut (k0 sz (List.replicate n z) br env)
def C4 (x:aG) (env:aP):Option aJ:=NL (bV x env)
def Dl (x:aG) (env:aP):Option aJ:=UE (bV x env)
def C6 (sz:Nat) (x:aG) (lo hi:Option aG) (env:aP):Option aJ:=nr sz lo hi env (bV x env)
def C7 (sz:Nat) (x:aG) (lo:Option aG) (hi mx:aG) (env:aP):Option aJ:=E1 sz lo hi mx env (bV x env)
def LC (x:aG) (lo hi:Option aG) (env:aP):Option aJ:=Xk lo hi env (bV x env)
def C_ (sz:Nat) (x i:aG) (env:aP):Option aJ:=Cl sz (bV x env) (bV i env)
def Da (x i:aG) (env:aP):Option aJ:=RI (bV x env) (bV i env)
abbrev bI:=aP→aO→bj
abbrev dw:=List ab→aO→eS
def WU:eA→Option (List ab)
 |.obj cs=>some cs
 |.row _ cs=>some cs
 |_=>none
def WT:eA→Option (List ab):= @eA.rec (fun _=>Option (List ab)) none (fun cs=>some cs) (fun _ cs=>some cs) (fun _ _ _=>none) (fun _ _=>none) (fun _ _ _ _ _=>none) none none
def i' (V:aO) (i:Nat):Option (List ab):=WT (V.at i)
def vp (agg:Bool) (n o:Nat) (c:Option (List ab)):Option ab:=Option.rec none (fun cs=>partAt agg n o cs) c
def acb (agg:Bool) (n o:Nat):aJ→Option ab
 |.box cs=>partAt agg n o cs
 |_=>none
def aqx:aJ→Bool→Nat→Nat→Option ab:= @aJ.rec (fun _=>Bool→Nat→Nat→Option ab) (fun _ _ _ _=>none) (fun cs agg n o=>partAt agg n o cs) (fun _ _ _ _ _=>none)
def xt (agg:Bool) (n o:Nat):aJ→Option ab:=fun e=>aqx e agg n o
def Gq (agg:Bool) (n:Nat) (env:aP) (V:aO):aJ→Option ab
 |.val (.ptr i o)=>vp agg n o (i' V i)
 |.val (.dK cs)=>sF agg n cs
 |.b7 s o=>xt agg n o (c7 env s)
 |_=>none
def aqC:ab→Bool→Nat→aO→Option ab:= @ab.rec (fun _=>Bool→Nat→aO→Option ab) (fun _=>Unit)
 (fun(_:Bool) (_:Nat) (_:aO)=>none)
 (fun(_:Bool)=>fun(_:Bool) (_:Nat) (_:aO)=>none)
 (fun(_:IntKind) (_:Int)=>fun(_:Bool) (_:Nat) (_:aO)=>none)
 (fun(_:List UInt8)=>fun(_:Bool) (_:Nat) (_:aO)=>none)
 (fun(_:Bool) (_:Nat) (_:aO)=>none)
 (fun(i:Nat) (o:Nat)=>fun(agg:Bool) (n:Nat) (V:aO)=>vp agg n o (i' V i))
 (fun(cs:List ab) (_:Unit)=>fun(agg:Bool) (n:Nat) (_:aO)=>sF agg n cs)
 (fun(_:List ab) (_:Bool) (_:Option Nat) (_:Unit)=>fun(_:Bool) (_:Nat) (_:aO)=>none)
 (fun(_:Nat) (_:Nat)=>fun(_:Bool) (_:Nat) (_:aO)=>none)
 (fun(_:Nat) (_:Nat) (_:Nat) (_:Nat)=>fun(_:Bool) (_:Nat) (_:aO)=>none)
 (fun(_:List ab) (_:Unit)=>fun(_:Bool) (_:Nat) (_:aO)=>none)
 (fun(_:List ab) (_:Unit)=>fun(_:Bool) (_:Nat) (_:aO)=>none)
 (fun(_:TypeId) (_:ab) (_:Bool→Nat→aO→Option ab)=>fun(_:Bool) (_:Nat) (_:aO)=>none)
 (fun(_:Bool) (_:Nat) (_:aO)=>none)
 (fun(_:Fn) (_:List ab) (_:List ab) (_:Unit) (_:Unit)=>fun(_:Bool) (_:Nat) (_:aO)=>none)
 (fun(_:Bool) (_:Nat) (_:aO)=>none)
 (fun(_:Option Nat)=>fun(_:Bool) (_:Nat) (_:aO)=>none)
 () (fun _ _ _ _=>())
def aqB:aJ→Bool→Nat→aP→aO→Option ab:= @aJ.rec (fun _=>Bool→Nat→aP→aO→Option ab) (fun a agg n _ V=>aqC a agg n V) (fun _ _ _ _ _=>none) (fun s o agg n env _=>xt agg n o (c7 env s))
def xu (agg:Bool) (n:Nat) (env:aP) (V:aO):aJ→Option ab:=fun e=>aqB e agg n env V
def vL (d:Option Nat) (k:bI) (env:aP) (V:aO) (o:Option ab):bj:=Option.rec .bad (fun a=>k (dc d (.val a) env) V) o
def Lo (agg:Bool) (n:Nat) (x:aG) (d:Option Nat) (k:bI) (env:aP) (V:aO):bj:=vL d k env V (xu agg n env V (bV x env))
def vu (f:aJ→aJ) (t:aP):aP:=cg.rec .dL (fun v _ _ l r=>.fr (f v) l r) t
def RQ (s:Nat) (e:aJ):aJ:=aJ.rec (fun a=>.val a) (fun cs=>.box cs) (fun dy o=>bif Nat.beq dy s then .val .top else .b7 dy o) e
def Ba (env:aP) (s:Nat) (cs:List ab):aP:=wV (vu (RQ s) env) s (.box cs)
def Ta (cs:List ab) (d:Option Nat) (k:bI) (env:aP) (V:aO):bj:=match d with
 |some s=>k (Ba env s cs) V
 |none=>.bad
def Tc (s:Nat) (k:bI) (env:aP) (V:aO):aJ→bj
 |.val a=>bif a.cells.all ab.one then k (Ba env s a.cells) V else .bad
 |_=>.bad
def Tb (x:aG) (d:Option Nat) (k:bI) (env:aP) (V:aO):bj:=match d with
 |some s=>Tc s k env V (bV x env)
 |none=>.bad
def GN (cs:List ab) (d:Option Nat) (k:bI) (env:aP) (V:aO):bj:=k (dc d (.val (.ptr V.n 0)) env) (V.new (.obj cs))
def Tg (d:Option Nat) (k:bI) (env:aP) (V:aO):aJ→bj
 |.val a=>bif a.cells.all ab.one then GN a.cells d k env V else .bad
 |_=>.bad
def Tf (x:aG) (d:Option Nat) (k:bI) (env:aP) (V:aO):bj:=Tg d k env V (bV x env)
def GA (d:Option Nat) (k:bI) (env:aP) (V:aO) (xs:List ab) (n sz e:Nat):bj:=k (dc d (.val (.slice xs false (some V.n))) env) (V.new (.cF n sz e))
def adh (sz e n:Nat) (d:Option Nat) (k:bI) (env:aP) (V:aO) (o:Option (List ab)):bj:=Option.rec .bad (fun xs=>GA d k env V xs n sz e) o
def adg (d:Option Nat) (k:bI) (env:aP) (V:aO) (o:Option (List ab)):bj:=Option.rec .bad (fun xs=>k (dc d (.val (.slice xs false none)) env) V) o
def Ll (own:Bool) (sz e n:Nat) (z:ab) (br:List (Nat × aG)) (d:Option Nat) (k:bI) (env:aP) (V:aO):bj:=
 bif own then adh sz e n d k env V (k0 sz (List.replicate n z) br env)else adg d k env V (k0 sz (List.replicate n z) br env)
def nt (sz:Nat):List ab→Bool:= @List.rec ab (fun _=>Bool) true (fun y _ bm=>bif pR sz y then bm else false)
def k7:List ab→List ab:= @List.rec ab (fun _=>List ab) [] (fun x _ bm=>wI x++bm)
def ads (sz n:Nat) (d:Option Nat) (k:bI) (env:aP) (V:aO) (o:Option (List ab)):bj:=Option.rec .bad (fun xs=>bif nt sz xs then k (dc d (.val (.ref V.n 0 n 1)) env) (V.new (.row sz (k7 xs)))else .bad) o
def Lr (sz n:Nat) (z:ab) (br:List (Nat × aG)) (d:Option Nat) (k:bI) (env:aP) (V:aO):bj:=ads sz n d k env V (k0 sz (List.replicate n z) br env)
def HQ (i o n:Nat) (vs:List ab) (d:Option Nat) (k:bI) (env:aP) (V:aO):eA→bj
 |.obj cs=>bif mP (Nat.add o n) cs then k (dc d (.val .top) env) (V.put i (.obj (gi o vs cs)))else .bad
 |.row sz cs=>bif mP (Nat.add o n) cs then k (dc d (.val .top) env) (V.put i (.row sz (gi o vs cs)))else .bad
 |_=>.bad
def MV (s o n:Nat) (vs:List ab) (d:Option Nat) (k:bI) (env:aP) (V:aO):aJ→bj
 |.box cs=>bif mP (Nat.add o n) cs then k (dc d (.val .top) (wV env s (.box (gi o vs cs)))) V else .bad
 |_=>.bad
def Tj (n:Nat) (vs:List ab) (d:Option Nat) (k:bI) (env:aP) (V:aO):aJ→bj
 |.val (.ptr i o)=>bif Nat.ble V.g i then HQ i o n vs d k env V (V.at i)else .bad
 |.b7 s o=>MV s o n vs d k env V (c7 env s)
 |_=>.bad
def arM:ab→Nat→List ab→Option Nat→bI→aP→aO→bj:= @ab.rec (fun _=>Nat→List ab→Option Nat→bI→aP→aO→bj) (fun _=>Unit)
 (fun(_:Nat) (_:List ab) (_:Option Nat) (_:bI) (_:aP) (_:aO)=>.bad)
 (fun(_:Bool)=>fun(_:Nat) (_:List ab) (_:Option Nat) (_:bI) (_:aP) (_:aO)=>.bad)
 (fun(_:IntKind) (_:Int)=>fun(_:Nat) (_:List ab) (_:Option Nat) (_:bI) (_:aP) (_:aO)=>.bad)
 (fun(_:List UInt8)=>fun(_:Nat) (_:List ab) (_:Option Nat) (_:bI) (_:aP) (_:aO)=>.bad)
 (fun(_:Nat) (_:List ab) (_:Option Nat) (_:bI) (_:aP) (_:aO)=>.bad)
 (fun(i:Nat) (o:Nat)=>fun(n:Nat) (vs:List ab) (d:Option Nat) (k:bI) (env:aP) (V:aO)=>bif Nat.ble V.g i then HQ i o n vs d k env V (V.at i)else .bad)
 (fun(_:List ab) (_:Unit)=>fun(_:Nat) (_:List ab) (_:Option Nat) (_:bI) (_:aP) (_:aO)=>.bad)
 (fun(_:List ab) (_:Bool) (_:Option Nat) (_:Unit)=>fun(_:Nat) (_:List ab) (_:Option Nat) (_:bI) (_:aP) (_:aO)=>.bad)
 (fun(_:Nat) (_:Nat)=>fun(_:Nat) (_:List ab) (_:Option Nat) (_:bI) (_:aP) (_:aO)=>.bad)
 (fun(_:Nat) (_:Nat) (_:Nat) (_:Nat)=>fun(_:Nat) (_:List ab) (_:Option Nat) (_:bI) (_:aP) (_:aO)=>.bad)
 (fun(_:List ab) (_:Unit)=>fun(_:Nat) (_:List ab) (_:Option Nat) (_:bI) (_:aP) (_:aO)=>.bad)
 (fun(_:List ab) (_:Unit)=>fun(_:Nat) (_:List ab) (_:Option Nat) (_:bI) (_:aP) (_:aO)=>.bad)
 (fun(_:TypeId) (_:ab) (_:Nat→List ab→Option Nat→bI→aP→aO→bj)=>fun(_:Nat) (_:List ab) (_:Option Nat) (_:bI) (_:aP) (_:aO)=>.bad)
 (fun(_:Nat) (_:List ab) (_:Option Nat) (_:bI) (_:aP) (_:aO)=>.bad)
 (fun(_:Fn) (_:List ab) (_:List ab) (_:Unit) (_:Unit)=>fun(_:Nat) (_:List ab) (_:Option Nat) (_:bI) (_:aP) (_:aO)=>.bad)
 (fun(_:Nat) (_:List ab) (_:Option Nat) (_:bI) (_:aP) (_:aO)=>.bad)
 (fun(_:Option Nat)=>fun(_:Nat) (_:List ab) (_:Option Nat) (_:bI) (_:aP) (_:aO)=>.bad)
 () (fun _ _ _ _=>())
def arL:aJ→Nat→List ab→Option Nat→bI→aP→aO→bj:= @aJ.rec (fun _=>Nat→List ab→Option Nat→bI→aP→aO→bj) arM (fun(_:List ab)=>fun(_:Nat) (_:List ab) (_:Option Nat) (_:bI) (_:aP) (_:aO)=>.bad) (fun(s:Nat) (o:Nat)=>fun(n:Nat) (vs:List ab) (d:Option Nat) (k:bI) (env:aP) (V:aO)=>MV s o n vs d k env V (c7 env s))
def Ti (n:Nat) (vs:List ab) (d:Option Nat) (k:bI) (env:aP) (V:aO):aJ→bj:=fun e=>arL e n vs d k env V
def Th (n:Nat) (x:aG) (d:Option Nat) (k:bI) (env:aP) (V:aO):aJ→bj
 |.val a=>bif pR n a then Ti n (wI a) d k env V (bV x env)else .bad
 |_=>.bad
def CX (n:Nat) (x v:aG) (d:Option Nat) (k:bI) (env:aP) (V:aO):bj:=Th n x d k env V (bV v env)
def acm (g:Nat) (xs:List ab) (d:Option Nat) (k:bI) (env:aP) (V:aO):eA→bj
 |.cF _ _ _=>bif Nat.ble V.g g then k (dc d (.val (.slice xs false none)) env) (V.put g .dead)else .bad
 |_=>.bad
def adq (d:Option Nat) (k:bI) (env:aP) (V:aO):aJ→bj
 |.val (.slice xs false (some g))=>acm g xs d k env V (V.at g)
 |_=>.bad
def Te (x:aG) (d:Option Nat) (k:bI) (env:aP) (V:aO):bj:=adq d k env V (bV x env)
def oC (n bytes:Nat):Bool:=bif Nat.ble n maxLen then Nat.ble (Nat.mul n bytes) 140737488355328 else false
def afW (sz:Nat) (V:aO):aJ→Option (List ab)
 |.val (.slice ys _ _)=>bif nt sz ys then some ys else none
 |.val (.ref i o n _)=>bif Nat.beq sz 1 then Option.rec none (fun cs=>Option.rec none (fun ys=>bif ys.all ab.one then some ys else none) (nU (iw n) o cs)) (i' V i)else none
 |_=>none
def aul:ab→Nat→aO→Option (List ab):= @ab.rec (fun _=>Nat→aO→Option (List ab)) (fun _=>Unit)
 (fun(_:Nat) (_:aO)=>none)
 (fun(_:Bool)=>fun(_:Nat) (_:aO)=>none)
 (fun(_:IntKind) (_:Int)=>fun(_:Nat) (_:aO)=>none)
 (fun(_:List UInt8)=>fun(_:Nat) (_:aO)=>none)
 (fun(_:Nat) (_:aO)=>none)
 (fun(_:Nat) (_:Nat)=>fun(_:Nat) (_:aO)=>none)
 (fun(_:List ab) (_:Unit)=>fun(_:Nat) (_:aO)=>none)
 (fun(ys:List ab) (_:Bool) (_:Option Nat) (_:Unit)=>fun(sz:Nat) (_:aO)=>bif nt sz ys then some ys else none)
 (fun(_:Nat) (_:Nat)=>fun(_:Nat) (_:aO)=>none)
 (fun(i:Nat) (o:Nat) (n:Nat) (_:Nat)=>fun(sz:Nat) (V:aO)=>bif Nat.beq sz 1 then Option.rec none (fun cs=>Option.rec none (fun ys=>bif ys.all ab.one then some ys else none) (nU (iw n) o cs)) (i' V i)else none)
 (fun(_:List ab) (_:Unit)=>fun(_:Nat) (_:aO)=>none)
 (fun(_:List ab) (_:Unit)=>fun(_:Nat) (_:aO)=>none)
 (fun(_:TypeId) (_:ab) (_:Nat→aO→Option (List ab))=>fun(_:Nat) (_:aO)=>none)
 (fun(_:Nat) (_:aO)=>none)
 (fun(_:Fn) (_:List ab) (_:List ab) (_:Unit) (_:Unit)=>fun(_:Nat) (_:aO)=>none)
 (fun(_:Nat) (_:aO)=>none)
 (fun(_:Option Nat)=>fun(_:Nat) (_:aO)=>none)
 () (fun _ _ _ _=>())
def auj:aJ→Nat→aO→Option (List ab):= @aJ.rec (fun _=>Nat→aO→Option (List ab)) aul (fun(_:List ab)=>fun(_:Nat) (_:aO)=>none) (fun(_:Nat) (_:Nat)=>fun(_:Nat) (_:aO)=>none)
def Mn (sz:Nat) (V:aO):aJ→Option (List ab):=fun e=>auj e sz V
def tF:List ab→Bool:= @List.rec ab (fun _=>Bool) true (fun _ _ _=>false)
def Ig (g:Nat) (xs ys:List ab) (sz e bytes:Nat) (d:Option Nat) (k:bI) (env:aP) (V:aO):eA→bj
 |.cF n gu aR=>bif Nat.beq sz gu&&(Nat.beq e aR&&(Nat.ble V.g g&&oC (Nat.add n (j9 ys 0)) bytes))then GA d k env (V.put g .dead) (xs++ys) (Nat.add n (j9 ys 0)) sz e else .bad
 |_=>.bad
def Ei (ys:List ab) (sz e bytes:Nat) (d:Option Nat) (k:bI) (env:aP) (V:aO):bj:=bif oC (j9 ys 0) bytes then GA d k env V ys (j9 ys 0) sz e else .bad
def Ni (ys:List ab) (sz e bytes:Nat) (d:Option Nat) (k:bI) (env:aP) (V:aO):aJ→bj
 |.val (.slice xs _ (some g))=>Ig g xs ys sz e bytes d k env V (V.at g)
 |.val (.slice [] true none)=>Ei ys sz e bytes d k env V
 |_=>.bad
def ai6 (xs:List ab) (nl:Bool) (ys:List ab) (sz e bytes:Nat) (d:Option Nat) (k:bI) (env:aP) (V:aO) (tok:Option Nat):bj:=Option.rec (bif tF xs&&nl then Ei ys sz e bytes d k env V else .bad) (fun g=>Ig g xs ys sz e bytes d k env V (V.at g)) tok
def ai8:ab→List ab→Nat→Nat→Nat→Option Nat→bI→aP→aO→bj:= @ab.rec (fun _=>List ab→Nat→Nat→Nat→Option Nat→bI→aP→aO→bj) (fun _=>Unit)
 (fun(_:List ab) (_:Nat) (_:Nat) (_:Nat) (_:Option Nat) (_:bI) (_:aP) (_:aO)=>.bad)
 (fun(_:Bool)=>fun(_:List ab) (_:Nat) (_:Nat) (_:Nat) (_:Option Nat) (_:bI) (_:aP) (_:aO)=>.bad)
 (fun(_:IntKind) (_:Int)=>fun(_:List ab) (_:Nat) (_:Nat) (_:Nat) (_:Option Nat) (_:bI) (_:aP) (_:aO)=>.bad)
 (fun(_:List UInt8)=>fun(_:List ab) (_:Nat) (_:Nat) (_:Nat) (_:Option Nat) (_:bI) (_:aP) (_:aO)=>.bad)
 (fun(_:List ab) (_:Nat) (_:Nat) (_:Nat) (_:Option Nat) (_:bI) (_:aP) (_:aO)=>.bad)
 (fun(_:Nat) (_:Nat)=>fun(_:List ab) (_:Nat) (_:Nat) (_:Nat) (_:Option Nat) (_:bI) (_:aP) (_:aO)=>.bad)
 (fun(_:List ab) (_:Unit)=>fun(_:List ab) (_:Nat) (_:Nat) (_:Nat) (_:Option Nat) (_:bI) (_:aP) (_:aO)=>.bad)
 (fun(xs:List ab) (nl:Bool) (tok:Option Nat) (_:Unit)=>fun(ys:List ab) (sz:Nat) (e:Nat) (bytes:Nat) (d:Option Nat) (k:bI) (env:aP) (V:aO)=>ai6 xs nl ys sz e bytes d k env V tok)
 (fun(_:Nat) (_:Nat)=>fun(_:List ab) (_:Nat) (_:Nat) (_:Nat) (_:Option Nat) (_:bI) (_:aP) (_:aO)=>.bad)
 (fun(_:Nat) (_:Nat) (_:Nat) (_:Nat)=>fun(_:List ab) (_:Nat) (_:Nat) (_:Nat) (_:Option Nat) (_:bI) (_:aP) (_:aO)=>.bad)
 (fun(_:List ab) (_:Unit)=>fun(_:List ab) (_:Nat) (_:Nat) (_:Nat) (_:Option Nat) (_:bI) (_:aP) (_:aO)=>.bad)
 (fun(_:List ab) (_:Unit)=>fun(_:List ab) (_:Nat) (_:Nat) (_:Nat) (_:Option Nat) (_:bI) (_:aP) (_:aO)=>.bad)
 (fun(_:TypeId) (_:ab) (_:List ab→Nat→Nat→Nat→Option Nat→bI→aP→aO→bj)=>fun(_:List ab) (_:Nat) (_:Nat) (_:Nat) (_:Option Nat) (_:bI) (_:aP) (_:aO)=>.bad)
 (fun(_:List ab) (_:Nat) (_:Nat) (_:Nat) (_:Option Nat) (_:bI) (_:aP) (_:aO)=>.bad)
 (fun(_:Fn) (_:List ab) (_:List ab) (_:Unit) (_:Unit)=>fun(_:List ab) (_:Nat) (_:Nat) (_:Nat) (_:Option Nat) (_:bI) (_:aP) (_:aO)=>.bad)
 (fun(_:List ab) (_:Nat) (_:Nat) (_:Nat) (_:Option Nat) (_:bI) (_:aP) (_:aO)=>.bad)
 (fun(_:Option Nat)=>fun(_:List ab) (_:Nat) (_:Nat) (_:Nat) (_:Option Nat) (_:bI) (_:aP) (_:aO)=>.bad)
 () (fun _ _ _ _=>())
def ai7:aJ→List ab→Nat→Nat→Nat→Option Nat→bI→aP→aO→bj:= @aJ.rec (fun _=>List ab→Nat→Nat→Nat→Option Nat→bI→aP→aO→bj) ai8 (fun(_:List ab)=>fun(_:List ab) (_:Nat) (_:Nat) (_:Nat) (_:Option Nat) (_:bI) (_:aP) (_:aO)=>.bad) (fun(_:Nat) (_:Nat)=>fun(_:List ab) (_:Nat) (_:Nat) (_:Nat) (_:Option Nat) (_:bI) (_:aP) (_:aO)=>.bad)
def Ih (ys:List ab) (sz:Nat) (e1:Nat) (bytes:Nat) (d:Option Nat) (k:bI) (env:aP) (V:aO):aJ→bj:=fun e=>ai7 e ys sz e1 bytes d k env V
def Nd (sz e bytes:Nat):eA→Bool
 |.cF n gu aR=>Nat.beq sz gu&&(Nat.beq e aR&&oC n bytes)
 |_=>false
def Eh (sz e bytes:Nat) (d:Option Nat) (k:bI) (env:aP) (V:aO):aJ→bj
 |.val (.slice xs nl (some g))=>bif Nd sz e bytes (V.at g)then k (dc d (.val (.slice xs nl (some g))) env) V else .bad
 |.val (.slice [] true none)=>k (dc d (.val (.slice [] true none)) env) V
 |_=>.bad
def Np (sz e bytes:Nat) (x:aG) (d:Option Nat) (k:bI) (env:aP) (V:aO) (o:Option (List ab)):bj:=
 Option.rec .bad (fun ys=>bif tF ys then Eh sz e bytes d k env V (bV x env)else Ih ys sz e bytes d k env V (bV x env)) o
def xN (sz e bytes:Nat) (x y:aG) (d:Option Nat) (k:bI) (env:aP) (V:aO):bj:=Np sz e bytes x d k env V (Mn sz V (bV y env))
def DJ (sz:Nat) (V:aO):aJ→Option (List ab × Nat)
 |.val (.slice ys _ _)=>bif nt sz ys then some (k7 ys,j9 ys 0)else none
 |.val (.ref i o n _)=>Option.rec none (fun cs=>Option.rec none (fun ys=>bif ys.all ab.one then some (ys,n)else none) (nU (iw (Nat.mul n sz)) o cs)) (i' V i)
 |_=>none
def GB (d:Option Nat) (k:bI) (env:aP) (V:aO) (cs:List ab) (n sz:Nat):bj:=k (dc d (.val (.ref V.n 0 n 1)) env) (V.new (.row sz cs))
def Nj (i n:Nat) (ys:List ab) (m sz bytes:Nat) (d:Option Nat) (k:bI) (env:aP) (V:aO):eA→bj
 |.row gu cs=>bif Nat.beq sz gu&&(Nat.ble V.g i&&oC (Nat.add n m) bytes)then
   Option.rec .bad (fun g'=>GB d k env (V.put i .dead) (g'++ys) (Nat.add n m) sz) (iw (Nat.mul n sz) cs)else .bad
 |_=>.bad
def Ij (ys:List ab) (m sz bytes:Nat) (d:Option Nat) (k:bI) (env:aP) (V:aO):aJ→bj
 |.val (.ref i 0 n 1)=>Nj i n ys m sz bytes d k env V (V.at i)
 |.val (.slice [] true none)=>bif oC m bytes then GB d k env V ys m sz else .bad
 |_=>.bad
def RH (sz:Nat):eA→Bool
 |.row gu _=>Nat.beq sz gu
 |_=>false
def Ii (sz bytes:Nat) (d:Option Nat) (k:bI) (env:aP) (V:aO):aJ→bj
 |.val (.ref i 0 n 1)=>bif RH sz (V.at i)&&oC n bytes then k (dc d (.val (.ref i 0 n 1)) env) V else .bad
 |.val (.slice [] true none)=>k (dc d (.val (.slice [] true none)) env) V
 |_=>.bad
def Nm (sz bytes:Nat) (x:aG) (d:Option Nat) (k:bI) (env:aP) (V:aO) (o:Option (List ab × Nat)):bj:=
 Option.rec .bad (fun p=>bif Nat.beq p.2 0 then Ii sz bytes d k env V (bV x env)else Ij p.1 p.2 sz bytes d k env V (bV x env)) o
def xO (sz bytes:Nat) (x y:aG) (d:Option Nat) (k:bI) (env:aP) (V:aO):bj:=Nm sz bytes x d k env V (DJ sz V (bV y env))
def adr (d:Option Nat) (k:bI) (env:aP) (V:aO):bj:=k (dc d (.val (.map (some V.n))) env) (V.new (.map none []))
def Gt (zero:ab) (ok:Bool) (o:Option ab):ab:=bif ok then Option.rec (.tuple [zero,.bool false]) (fun v=>.tuple [v,.bool true]) o else Option.rec zero (fun v=>v) o
def vt (a7:cL) (ko:Option cL):Bool:=Option.rec true (fun k'=>Ku k' a7) ko
def KZ (a7:cL) (zero:ab) (ok:Bool) (key:ab) (d:Option Nat) (k:bI) (env:aP) (V:aO):eA→bj
 |.map ko es=>bif vt a7 ko then k (dc d (.val (Gt zero ok (ky key es))) env) V else .bad
 |_=>.bad
def KY (a7:cL) (zero:ab) (ok:Bool) (key:ab) (d:Option Nat) (k:bI) (env:aP) (V:aO):aJ→bj
 |.val (.map none)=>k (dc d (.val (Gt zero ok none)) env) V
 |.val (.map (some r))=>KZ a7 zero ok key d k env V (V.at r)
 |_=>.bad
def Sx (a7:cL) (zero:ab) (ok:Bool) (x:aG) (d:Option Nat) (k:bI) (env:aP) (V:aO):aJ→bj
 |.val key=>bif a7.is key then KY a7 zero ok key d k env V (bV x env)else .bad
 |_=>.bad
def vA (a7:cL) (zero:ab) (ok:Bool) (x i:aG) (d:Option Nat) (k:bI) (env:aP) (V:aO):bj:=Sx a7 zero ok x d k env V (bV i env)
def SK (a7:cL) (r:Nat) (key v:ab) (d:Option Nat) (k:bI) (env:aP) (V:aO):eA→bj
 |.map ko es=>bif vt a7 ko&&Nat.ble V.g r then k (dc d (.val .top) env) (V.put r (.map (some a7) (kV key v es)))else .bad
 |_=>.bad
def SH (a7:cL) (key v:ab) (d:Option Nat) (k:bI) (env:aP) (V:aO):aJ→bj
 |.val (.map (some r))=>SK a7 r key v d k env V (V.at r)
 |_=>.bad
def SI (a7:cL) (v:ab) (x:aG) (d:Option Nat) (k:bI) (env:aP) (V:aO):aJ→bj
 |.val key=>bif a7.is key then SH a7 key v d k env V (bV x env)else .bad
 |_=>.bad
def SJ (a7:cL) (x i:aG) (d:Option Nat) (k:bI) (env:aP) (V:aO):aJ→bj
 |.val v=>SI a7 v x d k env V (bV i env)
 |_=>.bad
def Lq (a7:cL) (x i v:aG) (d:Option Nat) (k:bI) (env:aP) (V:aO):bj:=SJ a7 x i d k env V (bV v env)
def Sv (a7:cL) (r:Nat) (key:ab) (d:Option Nat) (k:bI) (env:aP) (V:aO):eA→bj
 |.map ko es=>bif vt a7 ko&&Nat.ble V.g r then k (dc d (.val (.tuple [])) env) (V.put r (.map ko (qb key es)))else .bad
 |_=>.bad
def Su (a7:cL) (key:ab) (d:Option Nat) (k:bI) (env:aP) (V:aO):aJ→bj
 |.val (.map (some r))=>Sv a7 r key d k env V (V.at r)
 |_=>.bad
def St (a7:cL) (x:aG) (d:Option Nat) (k:bI) (env:aP) (V:aO):aJ→bj
 |.val key=>bif a7.is key then Su a7 key d k env V (bV x env)else .bad
 |_=>.bad
def Lp (a7:cL) (x i:aG) (d:Option Nat) (k:bI) (env:aP) (V:aO):bj:=St a7 x d k env V (bV i env)
def Gm:List (ab × ab)→Nat→Nat
 | [],n=>n
 |_::xs,n=>Gm xs (Nat.add n 1)
def SA (d:Option Nat) (k:bI) (env:aP) (V:aO):eA→bj
 |.map _ es=>k (dc d (.val (.int .i64 (.ofNat (Gm es 0)))) env) V
 |_=>.bad
def K2 (d:Option Nat) (k:bI) (env:aP) (V:aO):aJ→bj
 |.val (.map none)=>k (dc d (.val (.int .i64 (.ofNat 0))) env) V
 |.val (.map (some r))=>SA d k env V (V.at r)
 |_=>.bad
def z7 (x:aG) (d:Option Nat) (k:bI) (env:aP) (V:aO):bj:=K2 d k env V (bV x env)
def TP (r:Nat) (d:Option Nat) (k:bI) (env:aP) (V:aO):eA→bj
 |.map ko es=>bif Nat.ble V.g r then k (dc d (.val (.ptr V.n 0)) env) ((V.put r .eL).new (.iter r ko es es none))else .bad
 |_=>.bad
def LP (d:Option Nat) (k:bI) (env:aP) (V:aO):aJ→bj
 |.val (.map (some r))=>TP r d k env V (V.at r)
 |.val (.map none)=>k (dc d (.val (.ptr V.n 0)) env) (V.new .q5)
 |_=>.bad
def CW (x:aG) (d:Option Nat) (k:bI) (env:aP) (V:aO):bj:=LP d k env V (bV x env)
def O6 (d:Option Nat) (k:bI) (env:aP) (V:aO):eA→bj
 |.iter _ _ _ _ (some e)=>bif e.1.plain then k (dc d (.val (.tuple [e.1,e.2])) env) V else .bad
 |_=>.bad
def O5 (d:Option Nat) (k:bI) (env:aP) (V:aO):aJ→bj
 |.val (.ptr i 0)=>O6 d k env V (V.at i)
 |_=>.bad
def Ln (x:aG) (d:Option Nat) (k:bI) (env:aP) (V:aO):bj:=O5 d k env V (bV x env)
def N_ (r:Nat) (d:Option Nat) (k:bI) (env:aP) (V:aO):eA→bj
 |.map _ _=>bif Nat.ble V.g r then k (dc d (.val (.tuple [])) env) (V.put r (.map none []))else .bad
 |_=>.bad
def N9 (d:Option Nat) (k:bI) (env:aP) (V:aO):aJ→bj
 |.val (.map none)=>k (dc d (.val (.tuple [])) env) V
 |.val (.map (some r))=>N_ r d k env V (V.at r)
 |_=>.bad
def Lm (x:aG) (d:Option Nat) (k:bI) (env:aP) (V:aO):bj:=N9 d k env V (bV x env)
def oJ (n sz:Nat) (z:ab):List ab:=(List.range (Nat.mul n sz)).map fun q=>z.cells.getD (q%sz) .top
def N' (i o n sz:Nat) (z:ab) (d:Option Nat) (k:bI) (env:aP) (V:aO):eA→bj
 |.row gu cs=>bif mP (Nat.add o (Nat.mul n sz)) cs&&Nat.ble V.g i then k (dc d (.val (.tuple [])) env) (V.put i (.row gu (gi o (oJ n sz z) cs)))else .bad
 |.obj cs=>bif mP (Nat.add o (Nat.mul n sz)) cs&&Nat.ble V.g i then k (dc d (.val (.tuple [])) env) (V.put i (.obj (gi o (oJ n sz z) cs)))else .bad
 |_=>.bad
def ES (sz:Nat) (z:ab) (d:Option Nat) (k:bI) (env:aP) (V:aO):aJ→bj
 |.val (.slice [] _ _)=>k (dc d (.val (.tuple [])) env) V
 |.val (.ref i o n _)=>N' i o n sz z d k env V (V.at i)
 |_=>.bad
def CV (sz:Nat) (z:ab) (x:aG) (d:Option Nat) (k:bI) (env:aP) (V:aO):bj:=ES sz z d k env V (bV x env)
def x0 (d:Option Nat) (k:bI) (env:aP):eS→bj:= @eS.rec (fun _=>bj) (fun a V=>k (dc d (.val a) env) V) .bad (fun _ _ x y=>.alt x y)
def WM (call:Nat→dw) (f:Nat) (d:Option Nat) (k:bI) (env:aP) (V:aO) (as:Option (List ab)):bj:=Option.rec .bad (fun as=>x0 d k env (call f as V)) as
def adi (call:Nat→dw) (f:Nat) (args:List aG) (d:Option Nat) (k:bI) (env:aP) (V:aO):bj:=WM call f d k env V (kM args env)
def NX (call:Nat→dw) (as:List ab) (d:Option Nat) (k:bI) (env:aP) (V:aO):aJ→bj
 |.val (.func (.func f) fs cs)=>x0 d k env (call f (fs++as++cs) V)
 |_=>.bad
def adj (call:Nat→dw) (f:aG) (args:List aG) (d:Option Nat) (k:bI) (env:aP) (V:aO):bj:=Option.rec .bad (fun as=>NX call as d k env V (bV f env)) (kM args env)
def RC (call:Nat→dw) (v:ab) (as:List ab) (d:Option Nat) (k:bI) (env:aP) (V:aO):Option Nat→bj
 |some f=>x0 d k env (call f (v::as) V)
 |none=>.bad
def AL:List (Nat × Nat)→Nat→Option Nat
 | [],_=>none
 |(t,f)::r,u=>bif Nat.beq t u then some f else AL r u
def RD (call:Nat→dw) (eg:List (Nat × Nat)) (as:List ab) (d:Option Nat) (k:bI) (env:aP) (V:aO):aJ→bj
 |.val (.iface t v)=>RC call v as d k env V (AL eg t)
 |_=>.bad
def adn (call:Nat→dw) (eg:List (Nat × Nat)) (x:aG) (args:List aG) (d:Option Nat) (k:bI) (env:aP) (V:aO):bj:=Option.rec .bad (fun as=>RD call eg as d k env V (bV x env)) (kM args env)
def dN (m:aP→Option aJ) (d:Option Nat) (k:bI) (env:aP) (V:aO):bj:=Option.rec .bad (fun e=>k (dc d e env) V) (m env)
def j' (_:Option Nat) (_:bI) (_:aP) (_:aO):bj:=.bad
def GO:a2→(Nat→dw)→Option Nat→bI→aP→aO→bj:= @a2.rec (fun _=>(Nat→dw)→Option Nat→bI→aP→aO→bj)
 (fun(x:aG)=>fun _=>dN (G0 x))
 (fun(c:aG) (a:aG) (b:aG)=>fun _=>dN (Aa c a b))
 (fun(cs:List ab)=>fun _=>Ta cs)
 (fun(x:aG)=>fun _=>Tb x)
 (fun(cs:List ab)=>fun _=>GN cs)
 (fun(x:aG)=>fun _=>Tf x)
 (fun(z:List ab) (br:List (Nat × Nat × aG))=>fun _=>dN (Bc z br))
 (fun(own:Bool) (sz:Nat) (e:Nat) (n:Nat) (z:ab) (br:List (Nat × aG))=>fun _=>Ll own sz e n z br)
 (fun(agg:Bool) (n:Nat) (x:aG)=>fun _=>Lo agg n x)
 (fun(n:Nat) (x:aG) (v:aG)=>fun _=>CX n x v)
 (fun(x:aG)=>fun _=>dN (Di x))
 (fun(op:BinOp) (q:cG) (x:aG) (y:aG)=>fun _=>dN (GY op q x y))
 (fun(x:aG)=>fun _=>dN (Dj x))
 (fun(k:IntKind) (x:aG)=>fun _=>dN (C5 k x))
 (fun(x:aG)=>fun _=>dN (Dk x))
 (fun(x:aG)=>fun _=>dN (C4 x))
 (fun(_:Nat) (x:aG)=>fun _=>dN (Dl x))
 (fun(x:aG)=>fun _=>Te x)
 (fun(t:Nat) (x:aG)=>fun _=>dN (C' t x))
 (fun(fn:Fn) (f:List aG) (c:List aG)=>fun _=>dN (Dg fn f c))
 (fun(sz:Nat) (x:aG) (lo:Option aG) (hi:Option aG)=>fun _=>dN (C6 sz x lo hi))
 (fun(sz:Nat) (x:aG) (lo:Option aG) (hi:aG) (mx:aG)=>fun _=>dN (C7 sz x lo hi mx))
 (fun(x:aG) (lo:Option aG) (hi:Option aG)=>fun _=>dN (LC x lo hi))
 (fun(off:Nat) (x:aG)=>fun _=>dN (GZ off x))
 (fun(off:Nat) (n:Nat) (agg:Bool) (x:aG)=>fun _=>dN (C9 off n agg x))
 (fun(sz:Nat) (x:aG) (i:aG)=>fun _=>dN (C_ sz x i))
 (fun(x:aG) (i:aG)=>fun _=>dN (Da x i))
 (fun(x:aG) (i:Nat)=>fun _=>dN (C8 x i))
 (fun(f:Nat) (args:List aG)=>fun call=>adi call f args)
 (fun(f:aG) (args:List aG)=>fun call=>adj call f args)
 (fun(x:aG)=>fun _=>dN (Db x))
 (fun(x:aG)=>fun _=>dN (Dc x))
 (fun(sz:Nat) (e:Nat) (bytes:Nat) (x:aG) (y:aG)=>fun _=>xN sz e bytes x y)
 (fun(_:Nat) (_:Nat) (_:Nat) (_:aG) (_:aG)=>fun _=>j')
 (fun(sz:Nat) (_:Nat) (bytes:Nat) (x:aG) (y:aG)=>fun _=>xO sz bytes x y)
 (fun(sz:Nat) (_:Nat) (n:Nat) (z:ab) (br:List (Nat × aG))=>fun _=>Lr sz n z br)
 (fun(x:aG)=>fun _=>dN (Tt x))
 (fun(x:aG)=>fun _=>dN (Dh x))
 (fun(t:Nat) (x:aG)=>fun _=>dN (G1 t x))
 (fun(m:Nat) (n:Nat) (agg:Bool) (x:aG) (i:aG)=>fun _=>dN (LA m n agg x i))
 (fun _=>adr)
 (fun(a7:cL) (zero:ab) (ok:Bool) (x:aG) (i:aG)=>fun _=>vA a7 zero ok x i)
 (fun(a7:cL) (x:aG) (i:aG) (v:aG)=>fun _=>Lq a7 x i v)
 (fun(a7:cL) (x:aG) (i:aG)=>fun _=>Lp a7 x i)
 (fun(x:aG)=>fun _=>z7 x)
 (fun(x:aG)=>fun _=>CW x)
 (fun(_:aG)=>fun _=>j')
 (fun(x:aG)=>fun _=>Ln x)
 (fun(n:Nat) (x:aG)=>fun _=>dN (LB n x))
 (fun(eg:List (Nat × Nat)) (x:aG) (args:List aG)=>fun call=>adn call eg x args)
 (fun(sz:Nat) (z:ab) (x:aG)=>fun _=>CV sz z x)
 (fun(x:aG)=>fun _=>Lm x)
 (fun(n:Nat) (sz:Nat) (x:aG) (i:aG)=>fun _=>dN (C3 n sz x i))
 (fun _=>j')
 (fun(x:aG) (y:aG)=>fun _=>dN (Df x y))
 (fun(x:aG) (y:aG)=>fun _=>dN (Dd x y))
 (fun(x:aG) (y:aG) (z:aG)=>fun _=>dN (De x y z))
def vz (call:Nat→dw) (o:a2):Option Nat→bI→aP→aO→bj:=GO o call
def GS (call:Nat→dw) (op:a2) (d:Option Nat) (cO:Bool) (k:bI) (env:aP) (V:aO):aJ→bj
 |.val (.bool t)=>bif t==cO then vz call op d k env V else k (dc d h2 env) V
 |.val (.tuple [])=>k (dc d h2 env) V
 |_=>.bad
def arV (call:Nat→dw) (d:Option Nat) (op:a2) (g:Option (Nat × Bool)):bI→aP→aO→bj:=
 Option.rec (vz call op d) (fun pk k env V=>GS call op d pk.2 k env V (c7 env pk.1)) g
def vC (call:Nat→dw) (o:ca):bI→aP→aO→bj:=ca.rec (fun d g op=>arV call d op g) o
def arW (call:Nat→dw) (o:ca) (bm:bI→bI) (k:bI):bI:=vC call o (bm k)
def vD (call:Nat→dw) (l:List ca):bI→bI:=List.rec (fun k=>k) (fun o _ bm=>arW call o bm) l
mutual
def ab.shut:ab→ab
 |.slice xs nl _=>.slice (hI xs) nl none
 |.agg cs=>.agg (hI cs)
 |.tuple cs=>.tuple (hI cs)
 |.iface t v=>.iface t v.shut
 |.dK cs=>.dK (hI cs)
 |.func fn f c=>.func fn (hI f) (hI c)
 |v=>v
def hI:List ab→List ab
 | []=>[]
 |x::xs=>x.shut::hI xs
end
def LM (d:Option Nat) (k:bI) (env:aP) (V:aO):eS→bj:= @eS.rec (fun _=>bj) (fun a _=>bif a.shut.plain then k (dc d (.val a.shut) env) V else .bad) .bad (fun _ _ _ _=>.bad)
def aO.guard (V:aO):aO:=⟨V.n,V.n,V.t⟩
def LL (call:Nat→dw) (f:Nat) (as:List ab) (d:Option Nat) (k:bI) (env:aP) (V:aO):bj:=LM d k env V (call f as V.guard)
def WL (call:Nat→dw) (f:Nat) (args:List aG) (d:Option Nat) (k:bI) (env:aP) (V:aO):bj:=Option.rec .bad (fun as=>LL call f as d k env V) (kM args env)
def NW (call:Nat→dw) (as:List ab) (d:Option Nat) (k:bI) (env:aP) (V:aO):aJ→bj
 |.val (.func (.func f) fs cs)=>LL call f (fs++as++cs) d k env V
 |_=>.bad
def WQ (call:Nat→dw) (f:aG) (args:List aG) (d:Option Nat) (k:bI) (env:aP) (V:aO):bj:=Option.rec .bad (fun as=>NW call as d k env V (bV f env)) (kM args env)
def RA (call:Nat→dw) (v:ab) (as:List ab) (d:Option Nat) (k:bI) (env:aP) (V:aO):Option Nat→bj
 |some f=>LL call f (v::as) d k env V
 |none=>.bad
def RB (call:Nat→dw) (eg:List (Nat × Nat)) (as:List ab) (d:Option Nat) (k:bI) (env:aP) (V:aO):aJ→bj
 |.val (.iface t v)=>RA call v as d k env V (AL eg t)
 |_=>.bad
def ZW (call:Nat→dw) (eg:List (Nat × Nat)) (x:aG) (args:List aG) (d:Option Nat) (k:bI) (env:aP) (V:aO):bj:=Option.rec .bad (fun as=>RB call eg as d k env V (bV x env)) (kM args env)
def Sd (W:List Nat) (agg:Bool) (n:Nat) (env:aP) (V:aO):aJ→Option ab
 |.b7 s o=>bif W.contains s then none else xt agg n o (c7 env s)
 |e=>xu agg n env V e
def ado (W:List Nat) (agg:Bool) (n:Nat) (x:aG) (d:Option Nat) (k:bI) (env:aP) (V:aO):bj:=vL d k env V (Sd W agg n env V (bV x env))
def GL:a2→(Nat→dw)→List Nat→Option Nat→bI→aP→aO→bj:= @a2.rec (fun _=>(Nat→dw)→List Nat→Option Nat→bI→aP→aO→bj)
 (fun(x:aG)=>fun _ _=>dN (G0 x))
 (fun(c:aG) (a:aG) (b:aG)=>fun _ _=>dN (Aa c a b))
 (fun(_:List ab)=>fun _ _=>j')
 (fun(_:aG)=>fun _ _=>j')
 (fun(_:List ab)=>fun _ _=>j')
 (fun(_:aG)=>fun _ _=>j')
 (fun(z:List ab) (br:List (Nat × Nat × aG))=>fun _ _=>dN (Bc z br))
 (fun(own:Bool) (sz:Nat) (_:Nat) (n:Nat) (z:ab) (br:List (Nat × aG))=>fun _ _=>dN (Ts own sz n z br))
 (fun(agg:Bool) (n:Nat) (x:aG)=>fun _ W=>ado W agg n x)
 (fun(_:Nat) (_:aG) (_:aG)=>fun _ _=>j')
 (fun(x:aG)=>fun _ _=>dN (Di x))
 (fun(op:BinOp) (q:cG) (x:aG) (y:aG)=>fun _ _=>dN (GY op q x y))
 (fun(x:aG)=>fun _ _=>dN (Dj x))
 (fun(k:IntKind) (x:aG)=>fun _ _=>dN (C5 k x))
 (fun(x:aG)=>fun _ _=>dN (Dk x))
 (fun(x:aG)=>fun _ _=>dN (C4 x))
 (fun(_:Nat) (x:aG)=>fun _ _=>dN (Dl x))
 (fun(_:aG)=>fun _ _=>j')
 (fun(t:Nat) (x:aG)=>fun _ _=>dN (C' t x))
 (fun(fn:Fn) (f:List aG) (c:List aG)=>fun _ _=>dN (Dg fn f c))
 (fun(sz:Nat) (x:aG) (lo:Option aG) (hi:Option aG)=>fun _ _=>dN (C6 sz x lo hi))
 (fun(sz:Nat) (x:aG) (lo:Option aG) (hi:aG) (mx:aG)=>fun _ _=>dN (C7 sz x lo hi mx))
 (fun(x:aG) (lo:Option aG) (hi:Option aG)=>fun _ _=>dN (LC x lo hi))
 (fun(off:Nat) (x:aG)=>fun _ _=>dN (GZ off x))
 (fun(off:Nat) (n:Nat) (agg:Bool) (x:aG)=>fun _ _=>dN (C9 off n agg x))
 (fun(sz:Nat) (x:aG) (i:aG)=>fun _ _=>dN (C_ sz x i))
 (fun(x:aG) (i:aG)=>fun _ _=>dN (Da x i))
 (fun(x:aG) (i:Nat)=>fun _ _=>dN (C8 x i))
 (fun(f:Nat) (args:List aG)=>fun call _=>WL call f args)
 (fun(f:aG) (args:List aG)=>fun call _=>WQ call f args)
 (fun(x:aG)=>fun _ _=>dN (Db x))
 (fun(x:aG)=>fun _ _=>dN (Dc x))
 (fun(_:Nat) (_:Nat) (_:Nat) (_:aG) (_:aG)=>fun _ _=>j')
 (fun(_:Nat) (_:Nat) (_:Nat) (_:aG) (_:aG)=>fun _ _=>j')
 (fun(_:Nat) (_:Nat) (_:Nat) (_:aG) (_:aG)=>fun _ _=>j')
 (fun(_:Nat) (_:Nat) (_:Nat) (_:ab) (_:List (Nat × aG))=>fun _ _=>j')
 (fun(_:aG)=>fun _ _=>j')
 (fun(x:aG)=>fun _ _=>dN (Dh x))
 (fun(t:Nat) (x:aG)=>fun _ _=>dN (G1 t x))
 (fun(m:Nat) (n:Nat) (agg:Bool) (x:aG) (i:aG)=>fun _ _=>dN (LA m n agg x i))
 (fun _ _=>j')
 (fun(a7:cL) (zero:ab) (ok:Bool) (x:aG) (i:aG)=>fun _ _=>vA a7 zero ok x i)
 (fun(_:cL) (_:aG) (_:aG) (_:aG)=>fun _ _=>j')
 (fun(_:cL) (_:aG) (_:aG)=>fun _ _=>j')
 (fun(x:aG)=>fun _ _=>z7 x)
 (fun(_:aG)=>fun _ _=>j')
 (fun(_:aG)=>fun _ _=>j')
 (fun(_:aG)=>fun _ _=>j')
 (fun(n:Nat) (x:aG)=>fun _ _=>dN (LB n x))
 (fun(eg:List (Nat × Nat)) (x:aG) (args:List aG)=>fun call _=>ZW call eg x args)
 (fun(_:Nat) (_:ab) (_:aG)=>fun _ _=>j')
 (fun(_:aG)=>fun _ _=>j')
 (fun(n:Nat) (sz:Nat) (x:aG) (i:aG)=>fun _ _=>dN (C3 n sz x i))
 (fun _ _=>j')
 (fun(x:aG) (y:aG)=>fun _ _=>dN (Df x y))
 (fun(x:aG) (y:aG)=>fun _ _=>dN (Dd x y))
 (fun(x:aG) (y:aG) (z:aG)=>fun _ _=>dN (De x y z))
def sE (call:Nat→dw) (W:List Nat) (o:a2):Option Nat→bI→aP→aO→bj:=GL o call W
def z8 (call:Nat→dw) (W:List Nat) (op:a2) (d:Option Nat) (cO:Bool) (k:bI) (env:aP) (V:aO):aJ→bj
 |.val (.bool t)=>bif t==cO then sE call W op d k env V else k (dc d h2 env) V
 |.val (.tuple [])=>k (dc d h2 env) V
 |_=>.bad
def arT (call:Nat→dw) (W:List Nat) (d:Option Nat) (op:a2) (g:Option (Nat × Bool)):bI→aP→aO→bj:=
 Option.rec (sE call W op d) (fun pk k env V=>z8 call W op d pk.2 k env V (c7 env pk.1)) g
def xR (call:Nat→dw) (W:List Nat) (o:ca):bI→aP→aO→bj:=ca.rec (fun d g op=>arT call W d op g) o
def rY (W:List Nat) (s:Nat):Bool:=List.rec false (fun t _ bm=>bif Nat.beq t s then true else bm) W
def UA (W:List Nat):aJ→Bool
 |.b7 s _=>rY W s
 |_=>true
def DK (W:List Nat) (env:aP):a2→Bool
 |.store _ x _=>UA W (bV x env)
 |_=>true
def F':aJ→Bool
 |.b7 _ _=>true
 |_=>false
def Mp (env:aP):a2→Bool
 |.store _ x _=>F' (bV x env)
 |_=>false
def zM (env:aP):a2→Bool
 |.load _ _ x=>F' (bV x env)
 |_=>false
def KB (cO:Bool) (env:aP) (op:a2):aJ→Bool
 |.val (.bool t)=>bif t==cO then zM env op else true
 |_=>true
def KA (env:aP) (op:a2) (g:Option (Nat × Bool)):Bool:=Option.rec (zM env op) (fun pk=>KB pk.2 env op (c7 env pk.1)) g
def GH (b:Bool) (m:bI):bI:=fun env V=>bif b then m env V else .bad
def RT (call:Nat→dw) (W:List Nat):Nat→ca→bI→bI
 |0,o,k=>xR call W o k
 |1,o,k=>xR call W o k
 |2,o,k=>fun env V=>GH (DK W env o.op) (vC call o k) env V
 |3,o,k=>vC call o k
 |4,o,k=>fun env V=>GH (DK W env o.op&&Mp env o.op) (vC call o k) env V
 |5,o,k=>fun env V=>GH (KA env o.op o.guard) (xR call W o k) env V
 |6,o,k=>fun env V=>GH (KA env o.op o.guard) (xR call (ns W) o k) env V
 |_+7,o,k=>xR call W o k
def akN (call:Nat→dw) (W:List Nat) (o:Nat × ca) (bm:bI→bI) (k:bI):bI:=RT call W o.1 o.2 (bm k)
def Kt (B:List Nat) (e:aJ):aJ:=aJ.rec (fun a=>.val a) (fun cs=>.box cs) (fun s o=>bif rY B s then .val .top else .b7 s o) e
def aly (env:aP) (B:List Nat):aP:=List.rec env (fun _ _ _=>vu (Kt B) env) B
def Fe (l:List (Nat × ca)) (env:aP):aP:=aly env (zX l)
def BA (call:Nat→dw) (W:List Nat) (l:List (Nat × ca)):bI→bI:=List.rec (fun k=>k) (fun o _ bm=>akN call W o bm) l
def OQ (call:Nat→dw) (W:List Nat) (l:List (Nat × ca)) (k:bI):bI:=fun env V=>BA call W l k (Fe l env) V
abbrev dd:=aP→aO→bj
def afB (b:dd) (env:aP) (V:aO):dT→bj:= @dT.rec (fun _=>bj) (b env V) (fun i=>.done (.exit i) env V) (.done .ret env V)
def Ho (b:dd):bj→bj:= @bj.rec (fun _=>bj) (fun x env V=>afB b env V x) .bad (fun _ _ x y=>.alt x y)
def akA:ab→dd→dd→aP→aO→bj:=@ab.rec (fun _=>dd→dd→aP→aO→bj) (fun _=>Unit)
 (fun(_:dd) (_:dd) (_:aP) (_:aO)=>.bad)
 (fun(t:Bool)=>fun(a:dd) (b:dd) (env:aP) (V:aO)=>Bool.rec (b env V) (a env V) t)
 (fun(_:IntKind) (_:Int)=>fun(_:dd) (_:dd) (_:aP) (_:aO)=>.bad)
 (fun(_:List UInt8)=>fun(_:dd) (_:dd) (_:aP) (_:aO)=>.bad)
 (fun(_:dd) (_:dd) (_:aP) (_:aO)=>.bad)
 (fun(_:Nat) (_:Nat)=>fun(_:dd) (_:dd) (_:aP) (_:aO)=>.bad)
 (fun(_:List ab) (_:Unit)=>fun(_:dd) (_:dd) (_:aP) (_:aO)=>.bad)
 (fun(_:List ab) (_:Bool) (_:Option Nat) (_:Unit)=>fun(_:dd) (_:dd) (_:aP) (_:aO)=>.bad)
 (fun(_:Nat) (_:Nat)=>fun(_:dd) (_:dd) (_:aP) (_:aO)=>.bad)
 (fun(_:Nat) (_:Nat) (_:Nat) (_:Nat)=>fun(_:dd) (_:dd) (_:aP) (_:aO)=>.bad)
 (fun(_:List ab) (_:Unit)=>fun(_:dd) (_:dd) (_:aP) (_:aO)=>.bad)
 (fun(_:List ab) (_:Unit)=>fun(_:dd) (_:dd) (_:aP) (_:aO)=>.bad)
 (fun(_:TypeId) (_:ab) (_:dd→dd→aP→aO→bj)=>fun(_:dd) (_:dd) (_:aP) (_:aO)=>.bad)
 (fun(_:dd) (_:dd) (_:aP) (_:aO)=>.bad)
 (fun(_:Fn) (_:List ab) (_:List ab) (_:Unit) (_:Unit)=>fun(_:dd) (_:dd) (_:aP) (_:aO)=>.bad)
 (fun(_:dd) (_:dd) (_:aP) (_:aO)=>.bad)
 (fun(_:Option Nat)=>fun(_:dd) (_:dd) (_:aP) (_:aO)=>.bad)
 () (fun _ _ _ _=>())
def Oe:aJ→dd→dd→aP→aO→bj:= @aJ.rec (fun _=>dd→dd→aP→aO→bj) akA (fun _ _ _ _ _=>.bad) (fun _ _ _ _ _ _=>.bad)
def akz (a b:dd) (env:aP) (V:aO) (e:aJ):bj:=Oe e a b env V
def ND (id:Nat) (env:aP) (V:aO):dT→bj:= @dT.rec (fun _=>bj) (.done .normal env V) (fun i=>bif Nat.beq i id then .done .normal env V else .done (.exit i) env V) (.done .ret env V)
def Iu (id:Nat):bj→bj:= @bj.rec (fun _=>bj) (fun x env V=>ND id env V x) .bad (fun _ _ x y=>.alt x y)
def sx (body:dd) (n:Nat):dd:= @Nat.rec (fun _=>dd) (fun _ _=>.bad) (fun _ bm env V=>Ho bm (body env V)) n
mutual
def n2:ab→ab→Bool
 |.top,.top=>true
 |.bool a,.bool b=>a==b
 |.int k a,.int k' b=>bif mw k k' then mh a b else false
 |.str a,.str b=>tk a b
 |.cX,.cX=>true
 |.dC,.dC=>true
 |.fj,.fj=>true
 |.ptr a o,.ptr b p=>Nat.beq a b&&Nat.beq o p
 |.ref a o n c,.ref b p m d=>Nat.beq a b&&(Nat.beq o p&&(Nat.beq n m&&Nat.beq c d))
 |.slice xs a none,.slice ys b none=>(a==b)&&mO xs ys
 |.slice xs a (some g),.slice ys b (some h)=>Nat.beq g h&&((a==b)&&mO xs ys)
 |.func (.func f) xs ys,.func (.func g) fm ws=>Nat.beq f g&&(mO xs fm&&mO ys ws)
 |.agg xs,.agg ys=>mO xs ys
 |.dK xs,.dK ys=>mO xs ys
 |.tuple xs,.tuple ys=>mO xs ys
 |.iface t v,.iface u w=>Nat.beq t u&&n2 v w
 |.map none,.map none=>true
 |.map (some a),.map (some b)=>Nat.beq a b
 |_,_=>false
def mO:List ab→List ab→Bool
 | [],[]=>true
 |x::xs,y::ys=>bif n2 x y then mO xs ys else false
 |_,_=>false
end
def Pa:aJ→aJ→Bool
 |.val a,.val b=>n2 a b
 |.box a,.box b=>mO a b
 |.b7 s o,.b7 t p=>Nat.beq s t&&Nat.beq o p
 |_,_=>false
def CI (a b:aJ):aJ:=bif Pa a b then a else .val .top
def xC:aP→aP→aP
 |.fr v l r,.fr w m s=>.fr (CI v w) (xC l m) (xC r s)
 |_,_=>.dL
def Gv (a b:Nat):Nat:=bif Nat.ble a b then b else a
def tR:List (ab × ab)→List ((ab × ab) × List (ab × ab))
 | []=>[]
 |e::r=>(e,r)::(tR r).map fun p=>(p.1,e::p.2)
def BE:List (ab × ab)→List (ab × ab)→Bool
 | [],[]=>true
 |x::xs,y::ys=>n2 x.1 y.1&&(n2 x.2 y.2&&BE xs ys)
 |_,_=>false
def Pb:Option cL→Option cL→Bool
 |none,none=>true
 |some a,some b=>Ku a b
 |_,_=>false
def XJ:Option (ab × ab)→Option (ab × ab)→Bool
 |none,none=>true
 |some a,some b=>n2 a.1 b.1&&n2 a.2 b.2
 |_,_=>false
def yU:eA→eA→Bool
 |.dead,.dead=>true
 |.obj a,.obj b=>mO a b
 |.row s a,.row t b=>Nat.beq s t&&mO a b
 |.cF a b c,.cF d e f=>Nat.beq a d&&(Nat.beq b e&&Nat.beq c f)
 |.map k a,.map l b=>Pb k l&&BE a b
 |.iter m k a b c,.iter n l d e f=>Nat.beq m n&&(Pb k l&&(BE a d&&(BE b e&&XJ c f)))
 |.eL,.eL=>true
 |.q5,.q5=>true
 |_,_=>false
abbrev Eb:=aP × Nat × eA
abbrev qB:=Option Eb
def acu:qB→qB→qB
 |some a,some b=>bif yU a.2.2 b.2.2 then some (xC a.1 b.1,Gv a.2.1 b.2.1,a.2.2)else none
 |_,_=>none
def ae0 (go:aP→Nat→eA→qB) (i:Nat) (it:eA):bj→qB
 |.done .normal env V=>bif yU (V.at i) it then go env V.n (V.at (Nat.sub i 1))else none
 |_=>none
def zS:List qB→qB
 | []=>none
 | [r]=>r
 |r::s::l=>acu r (zS (s::l))
def x2 (vV:cg eA) (i:Nat) (o it:eA):cg eA:=cg.set .dead (cg.set .dead vV (Nat.sub i 1) o) i it
def LZ (run:Option ab→dd) (i m:Nat) (ko:Option cL) (es:List (ab × ab)) (vV:cg eA) (env:aP) (n:Nat) (o:eA) (go:List (ab × ab)→aP→Nat→eA→qB) (p:(ab × ab) × List (ab × ab)):qB:=
 bif p.1.1.plain then ae0 (go p.2) i (.iter m ko es p.2 (some p.1)) (run (some (.tuple [.bool true,p.1.1,p.1.2])) env ⟨n,Nat.sub i 1,x2 vV i o (.iter m ko es p.2 (some p.1))⟩)else none
def nG (i:Nat):aJ→Bool
 |.val (.ptr j 0)=>Nat.beq i j
 |_=>false
def Ag (run:Option ab→dd) (s i m:Nat) (ko:Option cL) (es:List (ab × ab)) (vV:cg eA):Nat→List (ab × ab)→aP→Nat→eA→qB
 |0,_,_,_,_=>none
 |_+1,[],env,n,o=>some (env,n,o)
 |f+1,e::r,env,n,o=>bif nG i (c7 env s)then zS ((tR (e::r)).map (LZ run i m ko es vV env n o (Ag run s i m ko es vV f)))else none
def arv (x:dT) (env:aP) (V:aO):bj:=match x with
 |.normal=>.bad
 |x=>.done x env V
def xH:bj→bj:= @bj.rec (fun _=>bj) arv .bad (fun _ _ x y=>.alt x y)
def asG (run:Option ab→dd) (s i m:Nat) (ko:Option cL) (es:List (ab × ab)) (V:aO):qB→bj
 |some p=>bif nG i (c7 p.1 s)then xH (run (some (.tuple [.bool false])) p.1 ((((aO.mk p.2.1 V.g V.t).put (Nat.sub i 1) p.2.2).put i .dead).put m (.map ko es)))else .bad
 |none=>.bad
def zE:eA→Bool
 |.eL=>true
 |_=>false
def ae1 (i m:Nat) (V:aO):Bool:=Nat.blt V.g i&&(Nat.ble V.g m&&(zE (V.at m)&&(Nat.beq V.n (Nat.add i 1)&& !Nat.beq m (Nat.sub i 1))))
def acd (run:Option ab→dd) (s i:Nat) (env:aP) (V:aO):eA→bj
 |.iter m ko es left none=>bif ae1 i m V then asG run s i m ko es V (Ag run s i m ko es V.t (left.length+1) left env V.n (V.at (Nat.sub i 1)))else .bad
 |_=>.bad
def xv (run:Option ab→dd) (s:Nat) (env:aP) (V:aO):aJ→bj
 |.val (.ptr i 0)=>acd run s i env V (V.at i)
 |_=>.bad
def yw:List bj→bj
 | []=>.bad
 | [r]=>r
 |r::s::l=>.alt r (yw (s::l))
def al8 (go:aP→aO→bj) (x:dT) (env:aP) (V:aO):bj:=match x with
 |.normal=>go env V
 |_=>.bad
def Jz (go:aP→aO→bj):bj→bj:= @bj.rec (fun _=>bj) (al8 go) .bad (fun _ _ x y=>.alt x y)
def Hf (i m:Nat) (it:eA) (V:aO):Bool:= @decide (V.at i=it) (Classical.propDecidable _)&&zE (V.at m)
def LY (run:Option ab→dd) (i m:Nat) (ko:Option cL) (es:List (ab × ab)) (env:aP) (V:aO) (go:List (ab × ab)→aP→aO→bj) (p:(ab × ab) × List (ab × ab)):bj:=
 bif p.1.1.plain then Jz (fun env V=>bif Hf i m (.iter m ko es p.2 (some p.1)) V then go p.2 env V else .bad) (run (some (.tuple [.bool true,p.1.1,p.1.2])) env (V.put i (.iter m ko es p.2 (some p.1))))else .bad
def xW (run:Option ab→dd) (s i m:Nat) (ko:Option cL) (es:List (ab × ab)):Nat→List (ab × ab)→aP→aO→bj
 |0,_,_,_=>.bad
 |_+1,[],env,V=>bif nG i (c7 env s)then xH (run (some (.tuple [.bool false])) env ((V.put i .dead).put m (.map ko es)))else .bad
 |f+1,e::r,env,V=>bif nG i (c7 env s)then yw ((tR (e::r)).map (LY run i m ko es env V (xW run s i m ko es f)))else .bad
def KN (run:Option ab→dd) (s i:Nat) (env:aP) (V:aO):eA→bj
 |.iter m ko es left _=>bif Nat.ble V.g i&&(Nat.ble V.g m&&zE (V.at m))then xW run s i m ko es (left.length+1) left env V else .bad
 |.q5=>bif Nat.ble V.g i then xH (run (some (.tuple [.bool false])) env (V.put i .dead))else .bad
 |_=>.bad
def CG (run:Option ab→dd) (s:Nat) (env:aP) (V:aO):aJ→bj
 |.val (.ptr i 0)=>KN run s i env V (V.at i)
 |_=>.bad
def KO (md:Bool) (bN:Option Nat) (run:Option ab→dd) (n:Nat):dd:= @Option.rec Nat (fun _=>dd) (sx (run none) n) (fun s env V=> @Bool.rec (fun _=>bj) (xv run s env V (c7 env s)) (CG run s env V (c7 env s)) md) bN
def acO:ca→Option Nat
 |⟨_,none,.next (.tmp s)⟩=>some s
 |_=>none
def acN:List ca→Option Nat
 |o::_=>acO o
 | []=>none
def acP:fK→Option Nat
 |.region l=>acN l
 |_=>none
def vw:fK→Option Nat
 |.seq a _=>acP a
 |_=>none
def arc (call:Nat→dw) (v:ab) (env:aP) (V:aO):List ca→bj
 |⟨d,none,.next _⟩::l=>vD call l (.done .normal) (dc d (.val v) env) V
 |_=>.bad
def asP (call:Nat→dw) (ops:List ca) (xI:Option ab):dd:= @Option.rec ab (fun _=>dd) (vD call ops (.done .normal)) (fun v env V=>arc call v env V ops) xI
def jE (md:Bool):fK→(Nat→dw)→Nat→Option ab→dd:= @fK.rec (fun _=>(Nat→dw)→Nat→Option ab→dd)
 (fun _ _ _=>.done .normal)
 (fun ops call _ xI=>asP call ops xI)
 (fun W ops call _ _=>OQ call W ops (.done .normal))
 (fun _ _ ou nF call n xI env V=>Ho (nF call n none) (ou call n xI env V))
 (fun c _ _ ou nF call n _ env V=>akz (ou call n none) (nF call n none) env V (bV c env))
 (fun id _ bm call n _ env V=>Iu id (bm call n none env V))
 (fun b bm call n _=>KO md (vw b) (bm call n) n)
 (fun id _ _ _=>.done (.exit id))
 (fun _ _ _=>.done .ret)
inductive sU where
 |none
 |code (f:kF)
 |told (f:List ab→aO→eS)
 |EY (f:kF)
def wo:List ab→Nat→aP→aP:= @List.rec ab (fun _=>Nat→aP→aP) (fun _ env=>env) (fun a _ bm i env=>bm (Nat.add i 1) (wV env i (.val a)))
def ri (env:aP) (V:aO):kg→Option ab
 |.tmp t=>match bV (.tmp t) env with
  |.val a=>some a
  |_=>none
 |.cell agg n t=>match bV (.tmp t) env with
  |.b7 s o=>xt agg n o (c7 env s)
  |.val (.ptr i o)=>vp agg n o (i' V i)
  |_=>none
def TW (a:Option ab) (r:Option (List ab)):Option (List ab):=Option.rec none (fun a=>wN a r) a
def tW (env:aP) (V:aO):List kg→Option (List ab)
 | []=>some []
 |r::rs=>TW (ri env V r) (tW env V rs)
def AR:List ab→ab
 | [a]=>a
 |as=>.tuple as
def Pr (V:aO) (o:Option (List ab)):eS:=Option.rec .fail (fun as=>.jX (AR as) V) o
def E4 (f:kF) (x:dT) (env:aP) (V:aO):eS:=match x with
 |.exit _=>.fail
 |_=>Pr V (tW env V f.res)
def Jd (f:kF):bj→eS:= @bj.rec (fun _=>eS) (E4 f) .fail (fun _ _ x y=>.alt x y)
def kZ:Nat:=4611686018427387904
def Al (md:Bool) (call:Nat→dw) (f:kF) (as:List ab) (V:aO):eS:=bif Nat.ble (j9 as 0) f.n then Jd f (jE md f.body call kZ none (wo as 0 .dL) V)else .fail
def wF (call:Nat→dw):sU→dw:= @sU.rec (fun _=>dw) (fun _ _=>.fail) (fun f=>Al false call f) (fun g=>g) (fun f=>Al true call f)
abbrev oO:=cg sU
def aln (_:Nat):dw:=fun _ _=>.fail
def jg (T:oO) (n:Nat):Nat→dw:= @Nat.rec (fun _=>Nat→dw) aln (fun _ bm f=>wF bm (cg.get .none T f)) n
end
end Go.bO
end
