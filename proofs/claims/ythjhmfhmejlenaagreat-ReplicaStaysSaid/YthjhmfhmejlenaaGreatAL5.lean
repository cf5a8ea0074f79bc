/-
  AN ABSTRACT LOGIC OVER THE MODEL, part 5: what the operations ask is enough.
-/
import Derived.Test.YthjhmfhmejlenaaGreatAL3
set_option linter.unusedSectionVars false
set_option linter.unusedVariables false
set_option linter.unusedSimpArgs false
namespace Go.bO
open Go.RowKit
section
variable {P:Program} {E:Entry} {I:cf} {ag:a8} {env:bt} {bK:Nat→Nat} {a:Act} {w:World} {o:Oper}
variable {k:bt→a8→Prop} {Q:Exit→Act→World→Prop}
theorem eZ (st:cx E I ag env bK a w) (aQ:∀x,o.dst=some x→x<E.n) {v:Value} {e:aJ} {w':World} {I':cf} {bp:a8}
  (h:(execOp a.eval o).run P w=.ok (.value v) w') (m:e0 I' bp w') (ai:fC I ag w I' bp w') (ar:gR I' bK v e) (aq:k (env.set o.dst e) bp):o.wp P a w (dz E k) Q:=
 MU h ⟨I',bp,_,bK,st.step ai m aQ ar,aq⟩
theorem aub (st:cx E I ag env bK a w) (aQ:∀x,o.dst=some x→x<E.n) {c x z:Operand} {bF c3 nS:aG} (ay:o.op=.pick c x z) (af:b8 c=some bF) (ad:b8 x=some c3) (a':b8 z=some nS)
  (h:bH P (.pick bF c3 nS) o.dst k env ag):o.wp P a w (dz E k) Q:=by
 have YT:=st.dB af;have c6:=st.dB ad;have hv:=st.dB a';simp only[bH]at h;generalize a_ env bF=avH at YT h;split at h
 case h_2=>exact h.elim
 rename_i t;have e1:=aZ.Ey YT;cases t with
 |true=>exact eZ st aQ (by simp[execOp,ay,e1,asBool]) st.cr (.refl _ _ _) c6 (h.1 rfl)
 |false=>exact eZ st aQ (by simp[execOp,ay,e1,asBool]) st.cr (.refl _ _ _) hv (h.2 rfl)
theorem vZ {t:TypeId} {z:ab} (a':jc P t=some z):∃i cw,P.info? t=some i∧i.zero=some cw∧dx cw=some z:=by
 unfold jc at a';split at a'
 ·rename_i i hi;split at a'
  ·rename_i cw hv;exact⟨i,cw,hi,hv,a'⟩
  ·cases a'
 ·cases a'
theorem xL (I:cf) {cw:Value} {z:ab} (fP:dx cw=some z):cw.cells.size=z.cells.length∧∀j,aZ I (cw.cells.getD j undef) (z.cells.getD j .top):=by
 have h8:=CS (I:=I) cw z fP;by_cases ad:∃cs,z=.agg cs
 ·obtain⟨as,rfl⟩:=ad;cases h8 with
  |agg cs _ ak ah=>exact⟨ak,ah⟩
 ·have af:z.cells=[z]:=by cases z<;>first|rfl|exact absurd ⟨_,rfl⟩ ad
  have q2:cw.cells= #[cw]:=by
   cases cw<;>first|rfl|skip
   rename_i cs;obtain⟨cs⟩:=cs;simp only[dx]at fP;split at fP
   ·simp only[bk]at fP;exact absurd ⟨_,fP.symm⟩ ad
   ·cases fP
  rw[af,q2];refine⟨rfl,fun j=> ?_⟩;cases j with
  |zero=>exact h8
  |succ j=>simpa using aZ.top _
theorem L8 (t:TypeId) (v:Value) (W:World):(newVar t v).run P W=.ok ⟨W.heap.size,0,none⟩ (W.alloc (.cells v.cells t)):=by
 simp[newVar,newRow]
theorem atL (st:cx E I ag env bK a w) {d:Nat} (aQ:d<E.n) (FR:o.dst=some d) {t:TypeId} {z:ab} (ay:o.op=.alloc t) (a':jc P t=some z)
  (h:bH P (.box z.cells) o.dst k env ag):o.wp P a w (dz E k) Q:=by
 obtain⟨i,cw,hi,hv,fP⟩:=vZ a';obtain⟨U,aa⟩:=xL I fP;rw[FR]at h;refine MU (v:=.pointer (some ⟨w.heap.size,0,none⟩)) (w':=w.alloc (.cells cw.cells t)) ?_ ?_
 ·have kS:(zeroValue t).run P w=.ok cw w:=by simp[zeroValue,typeInfo,hi,hv]
  simp[execOp,ay,Instr.alloc,kS,L8]
 ·rw[FR];exact⟨I,ag,_,_,st.nK aQ t U aa,h⟩
theorem at' (st:cx E I ag env bK a w) (aQ:∀x,o.dst=some x→x<E.n) {t:TypeId} {z:ab} (ay:o.op=.alloc t) (a':jc P t=some z)
  (h:bH P (.obj z.cells) o.dst k env ag):o.wp P a w (dz E k) Q:=by
 obtain⟨i,cw,hi,hv,fP⟩:=vZ a';obtain⟨U,aa⟩:=xL I fP;have kS:(zeroValue t).run P w=.ok cw w:=by simp[zeroValue,typeInfo,hi,hv]
 exact eZ st aQ (v:=.pointer (some ⟨w.heap.size,0,none⟩)) (by simp[execOp,ay,Instr.alloc,kS,L8]) (st.cr.newObj t U aa) (fC.newObj st.cr _ _)
  (e:=.val (.ptr w.heap.size 0)) (aZ.ptr _ _) (h _ (st.cr.nv (b1 _)))
theorem atM (st:cx E I ag env bK a w) {d:Nat} (aQ:d<E.n) (FR:o.dst=some d) {t:TypeId} {x:Operand} {y:aG} (ay:o.op=.box t x) (ad:b8 x=some y)
  (h:bH P (.boxv y) o.dst k env ag):o.wp P a w (dz E k) Q:=by
 have ar:=st.dB ad;simp only[bH,FR]at h;generalize a_ env y=e at ar h;cases e with
 |box c=>exact ar.elim
 |b7 s off=>exact h.elim
 |val c3=>
  obtain⟨aV,h⟩:=h;obtain⟨az,ao,_⟩:=aZ.EM ar aV;refine MU (v:=.pointer (some ⟨w.heap.size,0,none⟩)) (w':=w.alloc (.cells (a.eval x).cells t)) ?_ ?_
  ·simp[execOp,ay,Instr.box,L8]
  ·rw[FR];exact⟨I,ag,_,_,st.nK aQ t az ao,h⟩
theorem aua (st:cx E I ag env bK a w) (aQ:∀x,o.dst=some x→x<E.n) {t:TypeId} {x:Operand} {y:aG} (ay:o.op=.box t x) (ad:b8 x=some y)
  (h:bH P (.objv y) o.dst k env ag):o.wp P a w (dz E k) Q:=by
 have ar:=st.dB ad;simp only[bH]at h;generalize a_ env y=e at ar h;cases e with
 |box c=>exact ar.elim
 |b7 s off=>exact h.elim
 |val c3=>
  obtain⟨aV,h⟩:=h;obtain⟨az,ao,_⟩:=aZ.EM ar aV;exact eZ st aQ (v:=.pointer (some ⟨w.heap.size,0,none⟩)) (by simp[execOp,ay,Instr.box,L8]) (st.cr.newObj t az ao) (fC.newObj st.cr _ _)
   (e:=.val (.ptr w.heap.size 0)) (aZ.ptr _ _) (h _ (st.cr.nv (b1 _)))
theorem afg {t:TypeId} {agg:Bool} {n:Nat} (ak:sP P t=some (agg,n)) {b off:Nat} (f:Nat→Value) (af:∀j,j<n→w.cell? ⟨b,off+j,none⟩=some (f j)):
  (loadVar t ⟨b,off,none⟩).run P w=.ok (bif agg then .agg ((List.range n).map f).toArray else f 0) w:=by
 rcases Kv ak with⟨rfl,⟨i,hi,dj⟩,aq⟩|⟨rfl,rfl,⟨i,hi⟩,d,aQ,U,aa⟩
 ·have amO:=run_loadCells (P:=P) w ⟨b,off,none⟩ n f (fun j aU=>by rw[Addr.add_lit];exact af j aU)
  rcases aq with⟨fs,aq⟩|⟨m,e,aq⟩<;>simp[loadVar,isAgg,run_underlying aq,sizeOf,typeInfo,hi,dj,amO]
 ·have aA:(isAgg t).run P w=.ok false w:=by
   simp only[isAgg,Sem.run_bind,run_underlying aQ,Result.andThen_ok];cases d<;>simp_all
  have:=af 0 (by omega)
  simp only[pN]at this;simp[loadVar,aA,this]
theorem Hc {agg:Bool} {n:Nat} {as:List ab} {f:Nat→Value} (aK:agg=true∨n=1) (ah:∀j,j<n→aZ I (f j) (as.getD j .top)) (ak:as.length=n):
  aZ I (bif agg then .agg ((List.range n).map f).toArray else f 0) (gh agg as):=by
 cases agg with
 |true=>
  refine aZ.agg _ _ (by simp[ak]) (fun j=> ?_)
  by_cases aU:j<n
  ·have:=ah j aU;simpa[gl,aU]using this
  ·have:as.getD j .top=.top:=by rw[cM,kI (by omega)];rfl
   rw[this];exact .top _
 |false=>
  have FQ:n=1:=by simpa using aK
  subst FQ;have:=ah 0 (by omega)
  cases as with
  |nil=>simp at ak
  |cons x r=>simpa[gh]using this
theorem abV {t:TypeId} {agg:Bool} {n:Nat} (ak:sP P t=some (agg,n)):agg=true∨n=1:=by
 rcases Kv ak with⟨h,_⟩|⟨_,h,_⟩
 ·exact .inl h
 ·exact .inr h
theorem rO {W:World} {b off:Nat} {cs:Array Value} {T:TypeId} {eo:Nat × Nat} (h:W.heap[b]? =some (.cells cs T eo)):W.cell? ⟨b,off,none⟩=cs[off]? :=by
 simp[World.cell?,h]
theorem IP {cs:Array Value} {as:List ab} {off n:Nat} (ak:cs.size=as.length) (ah:∀j,aZ I (cs.getD j undef) (as.getD j .top)) (bz:off+n≤as.length):
  (∀j,j<n→cs[off+j]? =some (cs.getD (off+j) undef))∧(∀j,j<n→aZ I (cs.getD (off+j) undef) (((as.drop off).take n).getD j .top))∧((as.drop off).take n).length=n:=by
 refine⟨fun j aU=> ?_,fun j aU=> ?_,by simp;omega⟩
 ·rw[gl,ni (by omega)];rfl
 ·have:=ah (off+j);rw[cM,l9,if_pos aU,k4,←cM];exact this
theorem at2 (st:cx E I ag env bK a w) (aQ:∀x,o.dst=some x→x<E.n) {t:TypeId} {x:Operand} {y:aG} {agg:Bool} {n:Nat} (ay:o.op=.load t x) (ak:sP P t=some (agg,n)) (ad:b8 x=some y)
  (h:bH P (.load agg n y) o.dst k env ag):o.wp P a w (dz E k) Q:=by
 have ar:=st.dB ad;have aK:=abV ak;have b6:∀(b off:Nat) (f:Nat→Value),a.eval x=.pointer (some ⟨b,off,none⟩)→(∀j,j<n→w.cell? ⟨b,off+j,none⟩=some (f j))→
   (execOp a.eval o).run P w=.ok (.value (bif agg then .agg ((List.range n).map f).toArray else f 0)) w:=by
  intro b off f a' af;simp[execOp,ay,a',Instr.loadAt,Instr.sureAddr,afg ak f af]
 simp only[bH]at h;generalize a_ env y=e at ar h;split at h
 ·
  rename_i b off;obtain⟨cs,U,aa,au⟩:=h;obtain⟨vs,T,az,ao,aX,_⟩:=st.cr.obj b cs U;obtain⟨bf,c2,fU⟩:=IP ao aX aa;exact eZ st aQ (b6 b off _ (aZ.vG ar) (fun j aU=>by rw[rO az];exact bf j aU)) st.cr (.refl _ _ _)
   (e:=.val (gh agg ((cs.drop off).take n))) (Hc aK c2 fU) au
 ·
  rename_i cs;obtain⟨aa,au⟩:=h;simp only[gR]at ar;generalize a':a.eval x=z at ar;cases ar with
  |dK b off _ vs af ah=>
   refine eZ st aQ (b6 b off vs a' (fun j aU=> ?_)) st.cr (.refl _ _ _) (e:=.val (gh agg (cs.take n))) (Hc aK (fun j aU=> ?_) (by simp;omega)) au
   ·obtain⟨us,T,eo,bg,bl⟩:=st.cr.cell b (off+j) (vs j) (af j (by omega))
    rw[rO bg];exact bl
   ·rw[cM,l9,if_pos aU,←cM];exact ah j
 ·
  rename_i s off;split at h
  ·rename_i cs hs;obtain⟨aa,au⟩:=h;have aj:=st.nu s;rw[hs]at aj;obtain⟨_,vs,T,az,ao,aX,_⟩:=aj;obtain⟨bf,c2,fU⟩:=IP ao aX aa;exact eZ st aQ (b6 (bK s) off _ ar (fun j aU=>by rw[rO az];exact bf j aU)) st.cr (.refl _ _ _)
    (e:=.val (gh agg ((cs.drop off).take n))) (Hc aK c2 fU) au
  ·exact h.elim
 ·exact h.elim
theorem run_storeVar_row {t:TypeId} {n:Nat} (hs:gC P t=some n) {b off:Nat} {cs:Array Value} {T:TypeId} {v:Value} (aj:w.heap[b]? =some (.cells cs T (0,0))) (ar:v.cells.size=n) (bz:off+n≤cs.size)
  (U:∀u∈v.cells.toList,u.oneCell'=true):
  (storeVar t ⟨b,off,none⟩ v).run P w=.ok () (w.setRow b (cs.toList.take off++v.cells.toList++cs.toList.drop (off+v.cells.toList.length)).toArray):=by
 obtain⟨i,hi,dj⟩:=ov hs;have:=run_storeCells_at P b off T v.cells.toList 0 cs w aj (by simpa[ar]using bz) U
 simp only[pN]at this;have cm:¬(v.cells.size≠i.size):=by omega
 simp[storeVar,sizeOf,typeInfo,hi,dj,ar,this]
theorem L6 {cs vs:Array Value} {off:Nat} (bz:off+vs.size≤cs.size):
  (cs.toList.take off++vs.toList++cs.toList.drop (off+vs.toList.length)).toArray.size=cs.size∧
  ∀j,(cs.toList.take off++vs.toList++cs.toList.drop (off+vs.toList.length)).toArray[j]? =if off≤j∧j<off+vs.size∧j<cs.size then vs[j-off]? else cs[j]? :=by
 refine⟨by simp;omega,fun j=> ?_⟩
 rw[rI];by_cases U:j<off
 ·rw[if_neg (by omega),pL,kl (by simp;omega),l9,if_pos U];simp
 ·by_cases aa:j<off+vs.size
  ·rw[if_pos (by omega),pL,km (by simp;omega),kl (by simp;omega)]
   have:min off cs.size=off:=by omega
   simp[this]
  ·rw[if_neg (by omega),km (by simp;omega),k4]
   simp only[iz,nm,OK,yD]
   congr 1
   omega
theorem aue (st:cx E I ag env bK a w) (aQ:∀x,o.dst=some x→x<E.n) {t:TypeId} {x v:Operand} {c3 jx:aG} {n:Nat} (ay:o.op=.store t x v) (hs:gC P t=some n) (ad:b8 x=some c3) (ar:b8 v=some jx)
  (h:bH P (.store n c3 jx) o.dst k env ag):o.wp P a w (dz E k) Q:=by
 have c6:=st.dB ad;have sm:=st.dB ar;simp only[bH]at h;generalize a_ env jx=ai at sm h;cases ai with
 |box c=>exact sm.elim
 |b7 s off=>exact h.elim
 |val y=>
  obtain⟨U,aa,h⟩:=h;obtain⟨bf,c2,fU⟩:=aZ.EM sm aa;have b6:∀(b off:Nat) (cs:Array Value) (T:TypeId),a.eval x=.pointer (some ⟨b,off,none⟩)→w.heap[b]? =some (.cells cs T (0,0))→off+n≤cs.size→
    (execOp a.eval o).run P w=.ok .skip (w.setRow b (cs.toList.take off++(a.eval v).cells.toList++cs.toList.drop (off+(a.eval v).cells.toList.length)).toArray):=by
   intro b off cs T a' aj bz;have:=run_storeVar_row (P:=P) hs aj (v:=a.eval v) (by omega) bz fU
   simp only[execOp,ay,Sem.run_bind,Instr.storeAt,a',Instr.sureAddr,Sem.run_pure,Result.andThen_ok,this]
  generalize a_ env c3=ex at c6 h;split at h
  ·rename_i b off;obtain⟨cs,bu,bC,c4⟩:=h;obtain⟨vs,T,az,ao,aX,_⟩:=st.cr.obj b cs bu;obtain⟨s1,s2⟩:=L6 (cs:=vs) (vs:=(a.eval v).cells) (off:=off) (by omega)
   obtain⟨cc,b4⟩:=Hd aX ao c2 bf (by omega) ⟨s1,s2⟩
   exact Vo (b6 b off vs T (aZ.vG c6) az (by omega)) ⟨I,_,_,bK,st.step (fC.setObj bu _) (st.cr.setObj bu cc b4) aQ (e:=.val .top) (aZ.top _),c4⟩
  ·rename_i s off;split at h
   ·rename_i cs hs;obtain⟨bC,c4⟩:=h;have aj:=st.nu s;rw[hs]at aj;obtain⟨_,vs,T,az,ao,aX,_⟩:=aj;obtain⟨s1,s2⟩:=L6 (cs:=vs) (vs:=(a.eval v).cells) (off:=off) (by omega)
    obtain⟨cc,b4⟩:=Hd aX ao c2 bf (by omega) ⟨s1,s2⟩
    have af0:=st.m9 hs cc b4;exact Vo (b6 (bK s) off vs T c6 az (by omega)) ⟨I,_,_,bK,af0.step (.refl _ _ _) af0.cr aQ (e:=.val .top) (aZ.top _),c4⟩
   ·exact h.elim
  ·exact h.elim
theorem atZ (st:cx E I ag env bK a w) (aQ:∀x,o.dst=some x→x<E.n) {t e:TypeId} {x i:Operand} {c3 hk:aG} {sz:Nat} (ay:o.op=.indexAddr t x i) (he:qs P t=some e) (hs:gC P e=some sz) (ad:b8 x=some c3) (hi:b8 i=some hk)
  (h:bH P (.iaddr sz c3 hk) o.dst k env ag):o.wp P a w (dz E k) Q:=by
 have c6:=st.dB ad;have kO:=st.dB hi;have aw:=HN he;obtain⟨ZU,qW,dj⟩:=ov hs;simp only[bH]at h;generalize a_ env c3=ex at c6 h;generalize a_ env hk=akU at kO h;split at h
 case h_2=>exact h.elim
 rename_i q6 n;have aN:=aZ.mu kO;split at h
 case h_3=>exact h.elim
 case h_2=>
  rename_i b off m c;obtain⟨aV,U,h⟩:=h;have ar:a.eval x=.slice (some ⟨b,off,none⟩) m c:=by
   generalize a.eval x=v at c6;cases c6;rfl
  refine eZ st aQ (v:=.pointer (some ⟨b,off+n.toNat*sz,none⟩)) ?_ st.cr (.refl _ _ _) (e:=.val (.ptr b (off+n.toNat*sz))) (aZ.ptr _ _) h;have eQ:(n.toNat:Int)=n:=Int.toNat_of_nonneg aV;simp[execOp,ay,ar,aN,Instr.indexAt,asIntOf,run_underlying aw,sizeOf,typeInfo,qW,dj,aV,U,Addr.add_lit]
 rename_i xs nl tok;obtain⟨aV,z,a',gH,h⟩:=h;have bw:n.toNat<xs.length:=(hn.1 a').1;rcases aZ.jb c6 with⟨_,aa,_⟩|⟨b,off,cap,gu,vs,U,_,au,ba,cb,du,ew,_⟩|⟨_,_,aa,_⟩
 ·subst aa;simp at bw
 ·have fV:xs.getD n.toNat .top=z:=by rw[cM,a'];rfl
  have Rc:gu=sz:=by
   have:=cb n.toNat bw;rw[fV]at this;omega
  subst Rc;refine eZ st aQ (v:=.pointer (some ⟨b,off+n.toNat*gu,none⟩)) ?_ st.cr (.refl _ _ _) (e:=.val (.dK z.cells)) ?_ h
  ·have af:0≤n∧n<(xs.length:Int):=⟨aV,by omega⟩
   have eQ:(n.toNat:Int)=n:=Int.toNat_of_nonneg aV;simp[execOp,ay,U,aN,Instr.indexAt,asIntOf,run_underlying aw,sizeOf,typeInfo,qW,dj,af.1,af.2,Addr.add_lit]
  ·refine aZ.dK _ _ _ (fun j=>vs n.toNat j) (fun j aU=> ?_) (fun j=> ?_)
   ·have:=du n.toNat j bw (by omega)
    rw[ux];exact this
   ·have:=ew n.toNat j;rw[fV]at this;exact this
 ·subst aa;simp at bw
theorem at1 (st:cx E I ag env bK a w) (aQ:∀x,o.dst=some x→x<E.n) {t:TypeId} {x i:Operand} {c3 hk:aG} (ay:o.op=.index t x i) (aw:P.underlying t=some .string) (ad:b8 x=some c3) (hi:b8 i=some hk)
  (h:bH P (.istr c3 hk) o.dst k env ag):o.wp P a w (dz E k) Q:=by
 have c6:=st.dB ad;have kO:=st.dB hi;simp only[bH]at h;generalize a_ env c3=ex at c6 h;generalize a_ env hk=akU at kO h;split at h
 case h_2=>exact h.elim
 rename_i s q6 n;obtain⟨aV,c,af,h⟩:=h;have aN:=aZ.mu kO;obtain⟨fa,e1,hs⟩:=aZ.qm c6;refine eZ st aQ (v:=.int .u8 c.toNat) ?_ st.cr (.refl _ _ _) (e:=.val (.int .u8 c.toNat)) (aZ.int _ _) h;have bw:n.toNat<fa.size:=by
  have:=(hn.1 af).1;rw[←hs]at this;simpa using this
 have av:fa[n.toNat]? =some c:=by
  subst hs;rw[getElem?_pos fa n.toNat bw];have:=hn.1 af;obtain⟨_,aB⟩:=this;rw[←aB];rfl
 simp[execOp,ay,e1,aN,Instr.index,asIntOf,run_underlying aw,aV,av]
theorem cx.rM (st:cx E I ag env bK a w) {d:Nat} {K:Nat→Prop} {lo:Option Operand} {iv:Option aG} (ht:m6 lo=some iv) (h:fz env d iv K):
  ∃l,K l∧((lo=none∧l=d)∨∃x q6 n,lo=some x∧a.eval x=.int q6 n∧0≤n∧l=n.toNat):=by
 cases lo with
 |none=>
  simp only[m6,bk]at ht;subst ht;exact⟨d,h,.inl ⟨rfl,rfl⟩⟩
 |some x=>
  simp only[m6]at ht;cases ad:b8 x with
  |none=>rw[ad]at ht;cases ht
  |some y=>
   rw[ad]at ht;simp only[bk]at ht;subst ht;have ar:=st.dB ad;simp only[fz]at h;generalize a_ env y=e at ar h;split at h
   ·exact⟨_,h.2,.inr ⟨x,_,_,rfl,aZ.mu ar,h.1,rfl⟩⟩
   ·exact h.elim
theorem run_sliceBound {q6:IntKind} {n:Int} {y:Nat} {code:BoundsCode} (aV:0≤n) (aI:n.toNat≤y) (W:World):(Instr.sliceBound (.int q6 n) y code).run P W=.ok n.toNat W:=by
 have:n≤(y:Int):=by omega
 simp[Instr.sliceBound,asIntOf,aV,this]
theorem aeQ {b off cap sz l h m:Nat} {xs:List ab} {vs:Nat→Nat→Value} (ba:cap≤maxLen) (cb:∀i,i<xs.length→(xs.getD i .top).cells.length=sz)
  (du:∀i j,i<xs.length→j<sz→I.cell b (off+(i*sz+j))=some (vs i j)) (ew:∀i j,aZ I (vs i j) ((xs.getD i .top).cells.getD j .top))
  (ak:l≤h) (aF:h≤xs.length) (hm:h≤m) (zi:m≤cap) {s:Nat} (hs:0<xs.length→s=sz) {tok:Option Nat}
  (aw:∀g,tok=some g→l=0∧g=b∧off=0∧I.cap g=some (m,sz)):
  aZ I (.slice (some (if m=l then⟨b,off,none⟩else(⟨b,off,none⟩:Addr).add (l*s))) (h-l) (m-l)) (.slice ((xs.take h).drop l) false tok):=by
 have fV:∀i,i<h-l→((xs.take h).drop l).getD i .top=xs.getD (l+i) .top:=by
  intro i hi;rw[cM,k4,l9,if_pos (by omega),←cM]
 have cl:((xs.take h).drop l).length=h-l:=by simp;omega
 by_cases QI:m=l
 ·have:h-l=0:=by omega
  rw[if_pos QI,this,show m-l=0 from by omega]
  have zm:(xs.take h).drop l=[]:=rJ (by omega)
  rw[zm];refine aZ.slice b off 0 0 sz [] tok (fun _ _=>undef) rfl (b1 _) (by simp[maxLen]) (fun i hi=>by omega) (fun i j hi=>by omega) (fun i j=>by cases j<;>simpa[ab.cells]using aZ.top _) (fun g av=> ?_)
  obtain⟨az,ao,aX,bD⟩:=aw g av;subst az;subst QI;exact⟨ao,aX,bD⟩
 ·rw[if_neg QI,Addr.add_lit];have J5:0<h-l→s=sz:=fun ae=>hs (by omega)
  refine aZ.slice b (off+l*s) (h-l) (m-l) sz _ tok (fun i j=>if i<h-l then vs (l+i) j else undef) cl (by omega) (by omega) (fun i hi=> ?_) (fun i j hi aU=> ?_) (fun i j=> ?_) (fun g av=> ?_)
  ·rw[fV i hi];exact cb _ (by omega)
  ·rw[if_pos hi,J5 (by omega),ux]
   have:=du (l+i) j (by omega) aU
   rw[kJ]at this;rw[←ux (l*sz)];exact this
  ·by_cases hi:i<h-l
   ·rw[if_pos hi,fV i hi];exact ew _ _
   ·have:((xs.take h).drop l).getD i .top=.top:=by rw[cM,kI (by omega)];rfl
    rw[if_neg hi,this];cases j<;>simpa[ab.cells]using aZ.top _
  ·obtain⟨az,ao,aX,bD⟩:=aw g av;subst az;exact⟨ao,by omega,by simpa using bD⟩
def AY (ai:Operand→Value) (d:Nat) (lo:Option Operand) (l:Nat):Prop:=(lo=none∧l=d)∨∃x q6 n,lo=some x∧ai x=.int q6 n∧0≤n∧l=n.toNat
theorem DA (ai:Operand→Value) {isS:Bool} {lo hi:Option Operand} {len cap l h:Nat} (ak:AY ai 0 lo l) (aF:AY ai len hi h) (bz:l≤h) (af:h≤cap) (W:World):
  (Instr.sliceBounds isS len cap (lo.map ai) (hi.map ai) none).run P W=.ok (l,h,cap) W:=by
 unfold Instr.sliceBounds;rcases aF with⟨rfl,rfl⟩|⟨y,q6,n,rfl,aa,au,rfl⟩<;>rcases ak with⟨rfl,rfl⟩|⟨z,apI,gI,rfl,bC,c4,rfl⟩
 ·simp
 ·simp[bC,run_sliceBound c4 bz]
 ·simp[aa,run_sliceBound au af]
 ·simp[aa,bC,run_sliceBound au af,run_sliceBound c4 bz]
theorem Ub (ai:Operand→Value) {isS:Bool} {lo:Option Operand} {hi mx:Operand} {len cap l h m:Nat} (ak:AY ai 0 lo l) (aF:AY ai 0 (some hi) h) (hm:AY ai 0 (some mx) m) (bz:l≤h) (af:h≤m) (zi:m≤cap) (W:World):
  (Instr.sliceBounds isS len cap (lo.map ai) (some (ai hi)) (some (ai mx))).run P W=.ok (l,h,m) W:=by
 unfold Instr.sliceBounds;rcases aF with⟨q,_⟩|⟨y,q6,n,bg,aa,au,rfl⟩
 ·cases q
 rcases hm with⟨q,_⟩|⟨kE,apI,gI,asv,bx,bT,rfl⟩
 ·cases q
 cases bg;cases asv;rcases ak with⟨rfl,rfl⟩|⟨z,av1,Gz,rfl,bC,c4,rfl⟩
 ·simp[aa,bx,run_sliceBound bT zi,run_sliceBound au af]
 ·simp[aa,bx,bC,run_sliceBound bT zi,run_sliceBound au af,run_sliceBound c4 bz]
theorem Xo {xs:List ab} {sz gu:Nat} (aV:∀x,xs[0]? =some x→x.cells.length=sz) (cb:∀i,i<xs.length→(xs.getD i .top).cells.length=gu) (h:0<xs.length):sz=gu:=by
 have U:xs[0]? =some xs[0]:=eU h;have:=aV _ U;have aa:=cb 0 h;rw[cM,U]at aa;simp only[lL]at aa;omega
theorem atV (st:cx E I ag env bK a w) (aQ:∀x,o.dst=some x→x<E.n) {t e:TypeId} {x:Operand} {lo hi:Option Operand} {c3:aG} {iv ei:Option aG} {sz:Nat} (ay:o.op=.slice t x lo hi none) (aw:P.underlying t=some (.slice e)) (hs:gC P e=some sz)
  (ad:b8 x=some c3) (ht:m6 lo=some iv) (j0:m6 hi=some ei)
  (h:bH P (.cut sz c3 iv ei) o.dst k env ag):o.wp P a w (dz E k) Q:=by
 have c6:=st.dB ad;obtain⟨ZU,qW,dj⟩:=ov hs;simp only[bH]at h;generalize a_ env c3=ex at c6 h;split at h
 case h_4=>exact h.elim
 case h_2=>
  rename_i b q n c;obtain⟨aF,⟨r_,h⟩,nZ⟩:=st.rM j0 h;obtain⟨g7,⟨sd,h⟩,aT⟩:=st.rM ht h;simp only[gR]at c6;generalize a':a.eval x=D2 at c6;cases c6 with
  |ref _ _ _ _ af hm=>
   have lp:=DA (P:=P) a.eval (isS:=true) (cap:=c) aT nZ sd (fp r_ af) w;refine eZ st aQ (v:=.slice (some (if c=g7 then⟨b,q,none⟩else(⟨b,q,none⟩:Addr).add (g7*sz))) (aF-g7) (c-g7)) ?_ st.cr (.refl _ _ _) (e:=.val (wO b q c sz aF g7)) ?_ h
   ·have ot:(sizeOf e).run P w=.ok sz w:=by simp[sizeOf,typeInfo,qW,dj]
    simp only[execOp,ay,a',OY,Instr.sliceAt,Instr.slice,Sem.run_bind,run_underlying aw,Result.andThen_ok,lp,ot,Sem.run_pure];by_cases af:c=g7<;>simp[af]
   ·have jY:(⟨b,q,none⟩:Addr).add (g7*sz)=⟨b,q+g7*sz,none⟩:=by unfold Addr.add;split<;>simp_all
    show aZ I _ (wO b q c sz aF g7);unfold wO;by_cases aV:g7=0
    ·subst aV;rw[if_pos rfl,jY];simp only[IF,pN,ite_self,Nat.sub_zero];exact aZ.ref _ _ _ _ (by omega) hm
    ·rw[if_neg aV];by_cases U:aF=g7
     ·subst U;rw[if_pos rfl,jY,ID];split
      ·exact aZ.slice _ _ 0 _ 1 [] none (fun _ _=>undef) rfl (fv _) (by omega) (fun i hi=>by omega) (fun i j hi=>by omega) (fun i j=>by cases j<;>simpa[ab.cells]using aZ.top _) (fun q aB=>by cases aB)
      ·exact aZ.slice _ _ 0 _ 1 [] none (fun _ _=>undef) rfl (fv _) (by omega) (fun i hi=>by omega) (fun i j hi=>by omega) (fun i j=>by cases j<;>simpa[ab.cells]using aZ.top _) (fun q aB=>by cases aB)
     ·rw[if_neg U,if_neg (by omega),jY]
      exact aZ.ref _ _ _ _ (by omega) (by omega)
 case h_3=>
  rename_i g n;obtain⟨aF,⟨ang,h⟩,nZ⟩:=st.rM j0 h;obtain⟨g7,⟨lX,h⟩,aT⟩:=st.rM ht h;subst ang;subst lX;simp only[gR]at c6;generalize a':a.eval x=D2 at c6;cases c6 with
  |raw _ _ cap gu af hm F3=>
   have akb:AY a.eval n hi 0:=by
    rcases nZ with⟨_,U⟩|U
    ·omega
    ·exact .inr U
   have lp:=DA (P:=P) a.eval (isS:=true) (cap:=cap) aT akb (b1 _) (fv _) w;refine eZ st aQ (v:=.slice (some ⟨g,0,none⟩) 0 cap) ?_ st.cr (.refl _ _ _) (e:=.val (.slice [] false (some g))) ?_ h
   ·have ot:(sizeOf e).run P w=.ok sz w:=by simp[sizeOf,typeInfo,qW,dj]
    simp only[execOp,ay,a',OY,Instr.sliceAt,Instr.slice,Sem.run_bind,run_underlying aw,Result.andThen_ok,lp,ot,Sem.run_pure];by_cases af:cap=0<;>simp[af,Addr.add]
   ·exact aZ.slice g 0 0 cap gu [] (some g) (fun _ _=>undef) rfl (fv _) hm (fun i hi=>by omega) (fun i j hi=>by omega) (fun i j=>by cases j<;>simpa[ab.cells]using aZ.top _) (fun q aB=>by cases aB;exact⟨rfl,rfl,F3⟩)
 rename_i xs nl tok;obtain⟨aV,h⟩:=h;obtain⟨aF,⟨r_,h⟩,nZ⟩:=st.rM j0 h;obtain⟨g7,⟨sd,h⟩,aT⟩:=st.rM ht h;rcases aZ.jb c6 with⟨U,aa,eP,mW⟩|⟨b,off,cap,gu,vs,U,eP,au,ba,cb,du,ew,hW⟩|⟨qF,U,aa,eP,mW⟩
 ·subst aa;subst eP;subst mW;simp only[nn]at r_ nZ;have e1:aF=0:=by omega
  have aN:g7=0:=by omega
  subst e1;subst aN;refine eZ st aQ (v:=.slice none 0 0) ?_ st.cr (.refl _ _ _) (e:=.val (.slice [] true none)) aZ.qg (by simpa using h)
  have lp:=DA (P:=P) a.eval (isS:=true) aT nZ (b1 _) (b1 _) w;simp[execOp,ay,U,Instr.sliceAt,Instr.slice,run_underlying aw,lp,sizeOf,typeInfo,qW]
 ·subst eP;have lp:=DA (P:=P) a.eval (isS:=true) aT nZ sd (fp r_ au) w;refine eZ st aQ (v:=.slice (some (if cap=g7 then⟨b,off,none⟩else(⟨b,off,none⟩:Addr).add (g7*sz))) (aF-g7) (cap-g7)) ?_ st.cr (.refl _ _ _) (e:=.val (.slice ((xs.take aF).drop g7) false (bif g7==0&&aF==xs.length then tok else none)))
   ?_ h
  ·have ot:(sizeOf e).run P w=.ok sz w:=by simp[sizeOf,typeInfo,qW,dj]
   simp only[execOp,ay,U,OY,Instr.sliceAt,Instr.slice,Sem.run_bind,run_underlying aw,Result.andThen_ok,lp,ot,Sem.run_pure];by_cases af:cap=g7<;>simp[af]
  ·refine aeQ ba cb du ew sd r_ (by omega) (b1 _) (Xo aV cb) (fun g av=> ?_)
   cases aB:(g7==0&&aF==xs.length)with
   |false=>rw[aB]at av;cases av
   |true=>
    rw[aB]at av;simp only[dF,beq_iff_eq]at aB;obtain⟨az,ao,aX⟩:=hW g av;exact⟨aB.1,az,ao,aX⟩
 ·subst aa;subst eP;subst mW;simp only[nn]at r_ nZ;have e1:aF=0:=by omega
  have aN:g7=0:=by omega
  subst e1;subst aN;refine eZ st aQ (v:=.slice (some qF) 0 0) ?_ st.cr (.refl _ _ _) (e:=.val (.slice [] false none)) (aZ.tZ qF) (by simpa using h)
  have lp:=DA (P:=P) a.eval (isS:=true) aT nZ (b1 _) (b1 _) w;simp[execOp,ay,U,Instr.sliceAt,Instr.slice,run_underlying aw,lp,sizeOf,typeInfo,qW]
theorem atW (st:cx E I ag env bK a w) (aQ:∀x,o.dst=some x→x<E.n) {t e:TypeId} {x:Operand} {lo:Option Operand} {hi mx:Operand} {c3:aG} {iv:Option aG} {ei acI:aG} {sz:Nat} (ay:o.op=.slice t x lo (some hi) (some mx)) (aw:P.underlying t=some (.slice e)) (hs:gC P e=some sz)
  (ad:b8 x=some c3) (ht:m6 lo=some iv) (j0:m6 (some hi)=some (some ei)) (oi:m6 (some mx)=some (some acI))
  (h:bH P (.cut3 sz c3 iv ei acI) o.dst k env ag):o.wp P a w (dz E k) Q:=by
 have c6:=st.dB ad;obtain⟨ZU,qW,dj⟩:=ov hs;simp only[bH]at h;generalize a_ env c3=ex at c6 h;split at h
 case h_2=>exact h.elim
 rename_i xs nl tok;obtain⟨aV,h⟩:=h;obtain⟨m5,⟨oh,h⟩,Oc⟩:=st.rM oi h;obtain⟨aF,⟨r_,h⟩,nZ⟩:=st.rM j0 h;obtain⟨g7,⟨sd,h⟩,aT⟩:=st.rM ht h;rcases aZ.jb c6 with⟨U,aa,eP,mW⟩|⟨b,off,cap,gu,vs,U,eP,au,ba,cb,du,ew,hW⟩|⟨qF,U,aa,eP,mW⟩
 ·subst aa;subst eP;subst mW;simp only[nn]at oh;have cE:m5=0:=by omega
  have e1:aF=0:=by omega
  have aN:g7=0:=by omega
  subst cE;subst e1;subst aN;refine eZ st aQ (v:=.slice none 0 0) ?_ st.cr (.refl _ _ _) (e:=.val (.slice [] true none)) aZ.qg (by simpa using h)
  have lp:=Ub (P:=P) a.eval (isS:=true) (len:=0) (cap:=0) aT nZ Oc (b1 _) (b1 _) (b1 _) w;simp[execOp,ay,U,Instr.sliceAt,Instr.slice,run_underlying aw,lp,sizeOf,typeInfo,qW]
 ·subst eP;have lp:=Ub (P:=P) a.eval (isS:=true) (len:=xs.length) (cap:=cap) aT nZ Oc sd r_ (fp oh au) w;refine eZ st aQ (v:=.slice (some (if m5=g7 then⟨b,off,none⟩else(⟨b,off,none⟩:Addr).add (g7*sz))) (aF-g7) (m5-g7)) ?_ st.cr (.refl _ _ _) (e:=.val (.slice ((xs.take aF).drop g7) false none))
   ?_ h
  ·have ot:(sizeOf e).run P w=.ok sz w:=by simp[sizeOf,typeInfo,qW,dj]
   simp only[execOp,ay,U,nj,Instr.sliceAt,Instr.slice,Sem.run_bind,run_underlying aw,Result.andThen_ok,lp,ot,Sem.run_pure];by_cases af:m5=g7<;>simp[af]
  ·exact aeQ ba cb du ew sd (fp r_ oh) r_ (fp oh au) (Xo aV cb) (fun g av=>by cases av)
 ·subst aa;subst eP;subst mW;simp only[nn]at oh;have cE:m5=0:=by omega
  have e1:aF=0:=by omega
  have aN:g7=0:=by omega
  subst cE;subst e1;subst aN;refine eZ st aQ (v:=.slice (some qF) 0 0) ?_ st.cr (.refl _ _ _) (e:=.val (.slice [] false none)) (aZ.tZ qF) (by simpa using h)
  have lp:=Ub (P:=P) a.eval (isS:=true) (len:=0) (cap:=0) aT nZ Oc (b1 _) (b1 _) (b1 _) w;simp[execOp,ay,U,Instr.sliceAt,Instr.slice,run_underlying aw,lp,sizeOf,typeInfo,qW]
theorem atX (st:cx E I ag env bK a w) (aQ:∀x,o.dst=some x→x<E.n) {t:TypeId} {x:Operand} {lo hi:Option Operand} {c3:aG} {iv ei:Option aG} (ay:o.op=.slice t x lo hi none) (aw:P.underlying t=some .string)
  (ad:b8 x=some c3) (ht:m6 lo=some iv) (j0:m6 hi=some ei)
  (h:bH P (.cutStr c3 iv ei) o.dst k env ag):o.wp P a w (dz E k) Q:=by
 have c6:=st.dB ad;simp only[bH]at h;generalize a_ env c3=ex at c6 h;split at h
 case h_2=>exact h.elim
 rename_i s;obtain⟨aF,⟨r_,h⟩,nZ⟩:=st.rM j0 h;obtain⟨g7,⟨sd,h⟩,aT⟩:=st.rM ht h;obtain⟨fa,U,hs⟩:=aZ.qm c6;have sl:fa.size=s.length:=by rw[←hs];simp
 have lp:=DA (P:=P) a.eval (isS:=false) (cap:=fa.size) aT nZ sd (by omega) w
 rw[←sl]at lp;refine eZ st aQ (v:=.string (fa.extract g7 aF)) ?_ st.cr (.refl _ _ _) (e:=.val (.str ((s.take aF).drop g7))) (aZ.str _ _ ?_) h
 ·simp[execOp,ay,U,Instr.sliceAt,Instr.slice,run_underlying aw,lp]
 ·subst hs;simp[List.drop_take,ByteArray.data_extract]
theorem alx (S4:List Int):∀(s:ByteArray),(S4.foldl (fun r n=>r.push (UInt8.ofNat n.toNat)) s).data.toList=s.data.toList++S4.map fun n=>UInt8.ofNat n.toNat:=by
 induction S4 with
 |nil=>intro s;simp
 |cons n r bm=>intro s;rw[OX,bm];simp[ByteArray.push]
theorem atO (st:cx E I ag env bK a w) (aQ:∀x,o.dst=some x→x<E.n) {s d e:TypeId} {x:Operand} {c3:aG} (ay:o.op=.convert s d x) (hs:P.underlying s=some (.slice e)) (he:P.underlying e=some (.int .u8)) (r2:P.underlying d=some .string)
  (ad:b8 x=some c3) (h:bH P (.bytesStr c3) o.dst k env ag):o.wp P a w (dz E k) Q:=by
 have c6:=st.dB ad;simp only[bH]at h;generalize a_ env c3=ex at c6 h;split at h
 case h_2=>exact h.elim
 rename_i xs nl tok;obtain⟨l,ak,h⟩:=h;rcases aZ.jb c6 with⟨U,aa,_⟩|⟨b,off,cap,gu,vs,U,eP,au,ba,cb,du,ew,hW⟩|⟨qF,U,aa,_⟩
 rotate_left 2
 ·subst aa;have lX:l=[]:=by
   have:(kq l).length=0:=by rw[←ak];rfl
   simpa[kq]using this
  subst lX;have xf:=run_loadCells (P:=P) w qF 0 (fun _=>undef) (fun j aU=>by omega)
  have b6:=run_bytesToString (P:=P) w qF 0 0 [] xf;refine eZ st aQ (v:=.string .empty) ?_ st.cr (.refl _ _ _) (e:=.val (.str [])) (aZ.str _ _ rfl) h;simp[execOp,ay,U,run_convert_bytes_string _ _ _ _ _ _ _ hs he r2,b6]
 ·subst aa;have lX:l=[]:=by
   have:(kq l).length=0:=by rw[←ak];rfl
   simpa[kq]using this
  subst lX;refine eZ st aQ (v:=.string .empty) ?_ st.cr (.refl _ _ _) (e:=.val (.str [])) (aZ.str _ _ rfl) h;simp[execOp,ay,U,run_convert_bytes_string _ _ _ _ _ _ _ hs he r2,Conv.bytesToString]
 ·have cl:xs.length=l.length:=by rw[ak];simp[kq]
  have ik:∀j,j<xs.length→w.cell? ⟨b,off+j,none⟩=some (.int .u8 ((l.map fun c:UInt8=>(c.toNat:Int)).getD j 0)):=by
   intro j aU;have sa:j<l.length:=by omega
   have ad:xs.getD j .top=.int .u8 (l[j].toNat):=by
    rw[ak,cM];simp[kq,sa]
   have dj:gu=1:=by have:=cb j aU;rw[ad]at this;simpa[ab.cells]using this.symm
   subst dj;have af:=du j 0 aU (by omega)
   have ar:=ew j 0;rw[ad]at ar;have:=aZ.mu (by simpa[ab.cells]using ar)
   rw[this]at af;obtain⟨us,T,eo,bg,bl⟩:=st.cr.cell _ _ _ af;rw[rO bg];simpa[sa]using bl
  have xf:=run_loadCells (P:=P) w ⟨b,off,none⟩ xs.length (fun j=>.int .u8 ((l.map fun c:UInt8=>(c.toNat:Int)).getD j 0)) (fun j aU=>by rw[Addr.add_lit];exact ik j aU)
  have ant:(List.range xs.length).map (fun j=>Value.int .u8 ((l.map fun c:UInt8=>(c.toNat:Int)).getD j 0))=(l.map fun c:UInt8=>(c.toNat:Int)).map (Value.int .u8):=by
   apply Bw;intro j;by_cases aU:j<l.length
   ·simp[cl,aU]
   ·simp[cl,aU]
  rw[ant]at xf;have b6:=run_bytesToString (P:=P) w ⟨b,off,none⟩ xs.length cap _ xf;refine eZ st aQ (v:=.string (List.foldl (fun r n=>r.push (UInt8.ofNat n.toNat)) ByteArray.empty (l.map fun c:UInt8=>(c.toNat:Int)))) ?_ st.cr (.refl _ _ _) (e:=.val (.str l)) (aZ.str _ _ ?_) h
  ·simp[execOp,ay,U,run_convert_bytes_string _ _ _ _ _ _ _ hs he r2,b6]
  ·rw[alx];have:(fun n:Int=>UInt8.ofNat n.toNat)∘(fun c:UInt8=>(c.toNat:Int))=id:=by funext c;simp
   simp[this]
theorem atk (m:e0 I ag w) {w':World} {cap:Nat × Nat} {e:TypeId} {cur:Array Value} {eo:Nat × Nat}
  (Ca:w.heap.size<w'.heap.size) (zn:w'.os=w.os) (zv:w'.tape=w.tape) (oo:w'.output=w.output)
  (nD:∀x,x<w.heap.size→w'.heap[x]? =w.heap[x]?) (aj:w'.heap[w.heap.size]? =some (.cells cur e eo)):
  e0 (I.grow w.heap.size cap fun o=>cur[o]?) ag w'∧fC I ag w (I.grow w.heap.size cap fun o=>cur[o]?) ag w':=by
 have bz:I.dY (I.grow w.heap.size cap fun o=>cur[o]?):=by
  refine⟨fun x o v h=> ?_,fun x k h=> ?_⟩
  ·have:=m.N1 h;have ad:(x==w.heap.size)=false:=by simp;omega
   simpa[cf.grow,ad]using h
  ·have:=m.cap x k h;have ad:(x==w.heap.size)=false:=by simp;omega
   simpa[cf.grow,ad]using h
 have g':∀{x:Nat} {mA:Obj},w.heap[x]? =some mA→w'.heap[x]? =some mA∧(x==w.heap.size)=false:=by
  intro x mA h;have:=g8 h;exact⟨(nD x this).trans h,by simp;omega⟩
 refine⟨⟨fun x o v h=> ?_,fun x k h=> ?_,fun x bs h=> ?_,fun x k s t h=> ?_,fun x es h=> ?_⟩,⟨bz,by omega,zn,zv,oo,fun x ad ax=> ?_⟩⟩
 ·by_cases ad:x=w.heap.size
  ·subst ad;simp only[cf.grow,beq_self_eq_true,cond_true]at h;exact⟨cur,e,eo,aj,h⟩
  ·have ff:(x==w.heap.size)=false:=by simpa using ad
   simp only[cf.grow,ff,cond_false]at h;obtain⟨c,T,f,az,ao⟩:=m.cell x o v h;exact⟨c,T,f,(g' az).1,ao⟩
 ·by_cases ad:x=w.heap.size
  ·subst ad;exact Ca
  ·have ff:(x==w.heap.size)=false:=by simpa using ad
   simp only[cf.grow,ff,cond_false]at h;have:=m.cap x k h;omega
 ·obtain⟨c,T,az,ao,aX,bD,c8⟩:=m.obj x bs h;have ff:=(g' az).2;exact⟨c,T,(g' az).1,ao,fun j=>(aX j).mono bz,by simpa[cf.grow,ff]using bD,by simpa[cf.grow,ff]using c8⟩
 ·obtain⟨jo,c,E0,az,ao,aX,bD,c8,e'⟩:=m.cF x k s t h;have ff:=(g' az).2;exact⟨jo,c,E0,(g' az).1,by simpa[cf.grow,ff]using ao,aX,bD,c8,by simpa[cf.grow,ff]using e'⟩
 ·obtain⟨az,ao,aX,bD⟩:=m.mp x es h;exact⟨az,ao,fun cU kH pV af=>aX cU kH pV ((nD x bD.lt).symm.trans af),bD.iJ bz (by omega) fun y o aI _=>(g' aI).1⟩
 ·have ff:(x==w.heap.size)=false:=by simp;omega
  exact⟨nD x ad,ax,by simp[cf.grow,ff],by simp[cf.grow,ff]⟩
theorem afy {cap sz n b:Nat} {cur:Array Value} {xs:List ab} {vs:Nat→Nat→Value} {J:cf} (ak:xs.length=n) (aK:n≤cap) (mm:cap≤maxLen)
  (hs:∀i,i<n→(xs.getD i .top).cells.length=sz) (af:∀i j,i<n→j<sz→cur[i*sz+j]? =some (vs i j)) (ah:∀i j,aZ J (vs i j) ((xs.getD i .top).cells.getD j .top))
  (P2:J.cell b=fun o=>cur[o]?):aZ J (.slice (some ⟨b,0,none⟩) n cap) (.slice xs false none):=
 aZ.slice b 0 n cap sz xs none vs ak aK mm hs (fun i j hi aU=>by rw[P2,fy];exact af i j hi aU) ah (fun g av=>by cases av)
theorem WI (l:List UInt8) (i:Nat) (hi:i<l.length):(kq l).getD i .top=.int .u8 l[i].toNat:=by
 rw[cM];simp[kq,hi]
theorem auf (st:cx E I ag env bK a w) (aQ:∀x,o.dst=some x→x<E.n) {s d e:TypeId} {x:Operand} {c3:aG} (ay:o.op=.convert s d x) (hs:P.underlying s=some .string) (r2:P.underlying d=some (.slice e)) (he:P.underlying e=some (.int .u8))
  (ad:b8 x=some c3) (h:bH P (.strBytes e c3) o.dst k env ag):o.wp P a w (dz E k) Q:=by
 have c6:=st.dB ad;simp only[bH]at h;generalize a_ env c3=ex at c6 h;split at h
 case h_2=>exact h.elim
 rename_i l;obtain⟨cl,h⟩:=h;obtain⟨fa,U,Zt⟩:=aZ.qm c6;have sl:fa.size=l.length:=by rw[←Zt];simp
 have d_:=grownCap_ge w fa.size 0 e;have iF:grownCap w fa.size 0 e≤maxLen:=grownCap_le_maxLen w fa.size 0 e (by omega)
 have b6:=run_bytes_of_string w s d e fa hs r2 he;obtain⟨bx,n4⟩:=atk st.cr (cap:=(grownCap w fa.size 0 e,1)) (w':=w.drew.alloc (.cells (bytesRow fa (grownCap w fa.size 0 e)) e ((bytesRow fa (grownCap w fa.size 0 e)).size,(bytesRow fa (grownCap w fa.size 0 e)).size+1)))
  (by simp) rfl rfl rfl (fun x ad=>jn w.drew _ (by simpa using ad)) (by rw[show w.heap.size=w.drew.heap.size from rfl,r3,if_pos rfl])
 refine eZ st aQ (v:=.slice (some ⟨w.heap.size,0,none⟩) fa.size (grownCap w fa.size 0 e)) ?_ bx n4 (e:=.val (.slice (kq l) false none)) ?_ h
 ·simp only[execOp,ay,U,Sem.run_bind,b6,Result.andThen_ok];rfl
 ·refine afy (sz:=1) (cur:=bytesRow fa (grownCap w fa.size 0 e)) (vs:=fun i _=>.int .u8 (if hi:i<l.length then l[i].toNat else 0)) (by simp[kq,sl]) d_ iF (fun i hi=> ?_) (fun i j hi aU=> ?_) (fun i j=> ?_) (cf.JA _ _ _ _)
  ·rw[WI l i (by omega)];rfl
  ·have r':j=0:=by omega
   subst r';have Y7:i<l.length:=by omega
   subst Zt;simp only[IA,pN,bytesRow];rw[qG (by simpa using hi)]
   have:i<fa.data.size:=by simpa using hi
   simp[hi]
  ·by_cases hi:i<l.length
   ·rw[WI l i hi];cases j with
    |zero=>simp only[hi,dif_pos,ab.cells];exact aZ.int _ _
    |succ j=>simpa[ab.cells]using aZ.top _
   ·have:(kq l).getD i .top=.top:=by rw[cM,kI (by simp[kq];omega)];rfl
    rw[this];cases j<;>simpa[ab.cells]using aZ.top _
theorem e0.asO (m:e0 I ag w) {g:Nat} {n sz e:Nat} (ay:ag.cF g=some (n,sz,e)) {cs:Array Value} {T:TypeId} (eo:Nat × Nat) {w':World} (av:w.heap[g]? =some (.cells cs T (0,0)))
  (hw:∀b,w'.heap[b]? =if b=g then some (.cells cs T eo)else w.heap[b]?) (dj:w'.heap.size=w.heap.size):e0 I (ag.jF (some g)) w' where
 cell b o v h:=by
  obtain⟨ds,kH,pV,U,aa⟩:=m.cell b o v h;by_cases aj:b=g
  ·subst aj;rw[av]at U;cases U;exact⟨_,_,_,by rw[hw,if_pos rfl],aa⟩
  ·exact⟨ds,kH,pV,by rw[hw,if_neg aj];exact U,aa⟩
 cap b n h:=by rw[dj];exact m.cap b n h
 obj b as h:=by
  have b0:ag.obj b=some as:=h;have aj:b≠g:=by rintro rfl;rw[(m.cF b _ _ _ ay).1]at b0;cases b0
  have:=m.obj b as h;rw[hw,if_neg aj];exact this
 cF b gI gu aR h:=by
  have aj:b≠g:=by rintro rfl;simp[a8.jF]at h
  have dJ:(b==g)=false:=by simpa using aj
  have b0:ag.cF b=some (gI,gu,aR):=by simpa[a8.jF,dJ]using h
  have:=m.cF b gI gu aR b0;rw[hw,if_neg aj];exact this
 mp b es h:=by
  obtain⟨az,ao,aX,bD⟩:=m.mp b es h;have aj:b≠g:=by rintro rfl;exact aX _ _ _ av
  have dJ:(b==g)=false:=by simpa using aj
  refine⟨az,by simp[a8.jF,dJ,ao],fun cU kH pV af=>aX cU kH pV (by rw[hw,if_neg aj]at af;exact af),bD.iJ (.refl I) (by omega) fun y o aI af=> ?_⟩
  rw[hw,if_neg]
  ·exact aI
  ·rintro rfl;rw[av]at aI;cases aI;exact af _ _ _ rfl
theorem at3 (st:cx E I ag env bK a w) (aQ:∀x,o.dst=some x→x<E.n) {d e:TypeId} {x:Operand} {c3:aG} (ay:o.op=.convert d d x) (r2:P.underlying d=some (.slice e)) (he:P.underlying e=some (.int .u8)) (ad:b8 x=some c3)
  (h:bH P (.mark c3) o.dst k env ag):o.wp P a w (dz E k) Q:=by
 have c6:=st.dB ad;simp only[bH]at h;generalize a_ env c3=ex at c6 h;split at h
 ·rename_i xs g;obtain⟨⟨⟨n,sz,hN⟩,om⟩,aq⟩:=h;have ar:aZ I (a.eval x) (.slice xs false (some g)):=c6;have aox:aZ I (a.eval x) (.slice xs false none):=by
   generalize a.eval x=v at ar⊢;cases ar with
   |slice b o n cap sz xs tok vs ak af hm hs h ah aw=>exact .slice b o n cap sz xs none vs ak af hm hs h ah (fun g av=>by cases av)
  obtain⟨gI,cap,nE⟩:∃gI cap,a.eval x=.slice (some ⟨g,0,none⟩) gI cap:=by
   generalize a.eval x=v at ar⊢;cases ar with
   |slice b o n cap sz xs tok vs ak af hm hs h ah aw=>
    obtain⟨rfl,rfl,_⟩:=aw g rfl;exact⟨_,_,rfl⟩
  obtain⟨_,cs,wG,av,_⟩:=st.cr.cF g n sz hN om;have bw:=g8 av;have aok:w.shape? g=some (hN,cs.size):=by unfold World.shape?;rw[av]
  have hw:∀b,(w.freeze ⟨g,cs.size,none⟩ 1).heap[b]? =if b=g then some (.cells cs hN (cs.size,cs.size+1))else w.heap[b]? :=by
   intro b;unfold World.freeze;rw[if_neg (by decide)]
   show(w.heap.modify g _)[b]? =_;rw[OI];by_cases aj:b=g
   ·subst aj;rw[if_pos rfl,if_pos rfl,av];rfl
   ·rw[if_neg (fun h=>aj h.symm),if_neg aj]
  have dj:(w.freeze ⟨g,cs.size,none⟩ 1).heap.size=w.heap.size:=by
   unfold World.freeze;rw[if_neg (by decide)]
   show(w.heap.modify g _).size=_;rw[Array.size_modify]
  have b6:(execOp a.eval o).run P w=.ok (.value (a.eval x)) (w.freeze ⟨g,cs.size,none⟩ 1):=by
   simp[execOp,ay,convert,run_underlying r2,run_underlying he,nE,markStringish,aok]
  have eI:=st.cr.asO om (cs.size,cs.size+1) av hw dj;refine eZ st aQ b6 eI ⟨.refl I,by omega,by simp[World.freeze],by simp[World.freeze],by simp[World.freeze],fun b aj ax=> ?_⟩ (e:=.val (.slice xs false none)) aox aq
  have YM:b≠g:=by rintro rfl;rw[ax.2.1]at om;cases om
  have amE:(b==g)=false:=by simpa using YM
  exact⟨by rw[hw,if_neg YM],⟨ax.1,by simp[a8.jF,amE,ax.2.1],ax.2.2⟩,fun _=>rfl,rfl⟩
 ·exact h.elim
theorem NV {f:FuncId} {fn:Func} (ax:P.funcs[f]? =some fn) (aj:fn.body.isSome=true) (aK:(fn.name != "runtime.NumGoroutine")=true) (args:Array Value) (W:World):
  (callFunc f args).run P W=.ok (.enter f args) W:=by
 have B7:fn.name≠ "runtime.NumGoroutine" :=by simpa using aK
 have h6:fn.body≠none:=by intro h;rw[h]at aj;cases aj
 simp[callFunc,ax,B7,h6]
theorem Vn (st:cx E I ag env bK a w) (aQ:∀x,o.dst=some x→x<E.n) {f:FuncId} {as:List ab} {vs:Array Value} (h:(execOp a.eval o).run P w=.ok (.enter f vs) w)
  (U:vs.size=as.length) (aa:∀j,aZ I (vs.getD j undef) (as.getD j .top)) (af:hL P f as ag fun x bp=>k (env.set o.dst (.val x)) bp):o.wp P a w (dz E k) Q:=by
 unfold Oper.wp;rw[h,Oper.upon_enter];refine(af I w vs st.cr U aa).mono fun e w' ⟨v,x,I',bp,he,ah,m,ai,aq⟩=> ?_;subst he;exact⟨I',bp,_,bK,st.step ai m aQ (e:=.val x) ah,aq⟩
theorem atP (st:cx E I ag env bK a w) (aQ:∀x,o.dst=some x→x<E.n) {c:Call} {f:FuncId} {fn:Func} {ys:List aG} (ay:o.op=.call c) (nw:c.callee=.value (.func f)) (lu:nL c.args.toList=some ys)
  (ax:P.funcs[f]? =some fn) (aj:(fn.body.isSome&&fn.name != "runtime.NumGoroutine")=true) (h:bH P (.call f ys) o.dst k env ag):o.wp P a w (dz E k) Q:=by
 simp only[dF]at aj;simp only[bH]at h;cases ar:iQ (ys.map (a_ env))with
 |none=>rw[ar]at h;exact h.elim
 |some as=>
  rw[ar]at h;obtain⟨U,aa⟩:=st.GP lu ar;refine Vn st aQ (vs:=c.args.map a.eval) ?_ U aa h;have he:=NV (P:=P) ax aj.1 aj.2 (c.args.map a.eval) w;simp[execOp,ay,resolve,nw,Act.eval,Deferred.ofValue,invoke,he]
theorem atQ (st:cx E I ag env bK a w) (aQ:∀x,o.dst=some x→x<E.n) {c:Call} {x:Operand} {c3:aG} {ys:List aG} (ay:o.op=.call c) (nw:c.callee=.value x) (ad:b8 x=some c3) (lu:nL c.args.toList=some ys)
  (h:bH P (.callv c3 ys) o.dst k env ag):o.wp P a w (dz E k) Q:=by
 have c6:=st.dB ad;simp only[bH]at h;cases ar:iQ (ys.map (a_ env))with
 |none=>rw[ar]at h;split at h<;>first|exact h.elim|simp_all
 |some as=>
  rw[ar]at h;obtain⟨U,aa⟩:=st.GP lu ar;generalize a_ env c3=ex at c6 h;split at h
  ·rename_i f fs cs hC bQ;cases bQ;obtain⟨⟨fn,ax,aj⟩,h⟩:=h;simp only[dF]at aj;simp only[gR]at c6;generalize a':a.eval x=z at c6;cases c6 with
   |func _ f1 bf _ _ ep dV cc b4=>
    refine Vn st aQ (vs:=f1++c.args.map a.eval++bf) ?_ (by simp only[s5,iz,ep,U,dV]) (fun j=> ?_) h
    ·have he:=NV (P:=P) ax aj.1 aj.2 (f1++c.args.map a.eval++bf) w;simp only[execOp,ay,Sem.run_bind,resolve,nw,a',Deferred.ofValue,Sem.run_pure,Result.andThen_ok,invoke,he]
    ·simp only[gl,cM]at*;by_cases EA:j<f1.size
     ·rw[Bi,qG EA,pL,kl (by omega)]
      exact cc j
     ·by_cases avF:j<f1.size+(c.args.map a.eval).size
      ·rw[Bi,Bj (by omega),qG (by omega),pL,km (by omega),kl (by omega),ep]
       exact aa _
      ·rw[Bi,Bj (by omega),Bj (by omega),pL,km (by omega),km (by omega),ep,U]
       exact b4 _
  ·exact h.elim
theorem aqU {m:String} {t:TypeId} {x:Nat × Nat} (h:CJ P m t=some x):x.1=t:=by
 unfold CJ at h
 repeat' (split at h)
 all_goals first
  |cases h;done
  |(simp only[bk]at h;subst h;rfl)
theorem agy:∀(l:List (Nat × Nat)) {t f:Nat},oG l t=some f→(t,f)∈l
 | [],_,_,h=>by cases h
 |(u,g)::r,t,f,h=>by
  unfold oG at h;split at h
  ·rename_i hu;simp only[bk]at h;subst h;subst hu;exact cz ..
  ·exact cv _ (agy r h)
theorem aqV {m:String} {esc:List Nat} {t f:Nat} (h:oG (KX P esc m) t=some f):CJ P m t=some (t,f):=by
 have aV:=agy _ h;unfold KX at aV;obtain⟨u,_,hu⟩:=Bs.1 aV;have U:t=u-2000000:=aqU hu;rw[←U]at hu;exact hu
theorem atc {m:String} {t:TypeId} {f:Nat} (h:CJ P m t=some (t,f)) (v:Value) (n:Nat) (W:World):
  (method (n+1) t v m).run P W=.ok (f,v) W∧∃fn,P.funcs[f]? =some fn∧fn.body.isSome=true∧(fn.name != "runtime.NumGoroutine")=true:=by
 unfold CJ at h;split at h
 case h_2=>cases h
 rename_i i hi;split at h
 case h_2=>cases h
 rename_i r ah;split at h
 case isFalse=>cases h
 rename_i ae;split at h
 case h_2=>cases h
 rename_i n_ e ax hu;split at h
 case h_2=>cases h
 rename_i fn u2;split at h
 case isFalse=>cases h
 rename_i aj;simp only[bk,Prod.mk.injEq,true_and]at h;subst h;simp only[dF]at aj;refine⟨?_,fn,u2,aj.1,aj.2⟩;have c0:r.path.toList=[]:=by simpa using ae
 unfold method;simp[typeInfo,hi,ah,c0,follow,ax,receiverAt,run_underlying hu,Place.get]
theorem at0 (st:cx E I ag env bK a w) (aQ:∀x,o.dst=some x→x<E.n) {c:Call} {x:Operand} {m:String} {c3:aG} {ys:List aG} (ay:o.op=.call c) (nw:c.callee=.invoke x m) (ad:b8 x=some c3) (lu:nL c.args.toList=some ys)
  {esc:List Nat} (h:bH P (.inv (KX P esc m) c3 ys) o.dst k env ag):o.wp P a w (dz E k) Q:=by
 have c6:=st.dB ad;simp only[bH]at h;cases ar:iQ (ys.map (a_ env))with
 |none=>rw[ar]at h;split at h<;>first|exact h.elim|simp_all
 |some as=>
  rw[ar]at h;obtain⟨U,aa⟩:=st.GP lu ar;generalize a_ env c3=ex at c6 h;split at h
  ·rename_i t v hC bQ;cases bQ;obtain⟨f,ax,h⟩:=h;simp only[gR]at c6;generalize a':a.eval x=z at c6;cases c6 with
   |iface _ u _ hu=>
    have hm:=aqV ax;refine Vn st aQ (vs:= #[u]++c.args.map a.eval) ?_ (by simp only[s5,mb,U];simp only[oU,mb,nn];omega) (fun j=> ?_) h
    ·obtain⟨cc,fn,bu,bC,c4⟩:=atc hm u (P.types.size+Made.depth-1) w;have aK:P.types.size+Made.depth-1+1=P.types.size+Made.depth:=by
      have:0<Made.depth:=by decide
      omega
     rw[aK]at cc;have he:=NV (P:=P) bu bC c4 (#[u]++c.args.map a.eval) w;have cE:(#[Value.iface t u]++c.args.map a.eval)[0]? =some (.iface t u):=by rw[qG (by simp)];rfl
     have e1:(#[Value.iface t u]++c.args.map a.eval).extract 1 (#[Value.iface t u]++c.args.map a.eval).size=c.args.map a.eval:=by
      apply Array.ext';simp only[Array.toList_extract,s5,Array.toList_map,Array.size_map,oU,mb,nn];simp[List.take_of_length_le]
     simp only[execOp,ay,Sem.run_bind,resolve,nw,a',Sem.run_pure,Result.andThen_ok,invoke,cE,e1,callMethod];have sh:(program:Sem Program).run P w=.ok P w:=rfl;simp only[sh,Result.andThen_ok,cc,he]
    ·cases j with
     |zero=>rw[gl,qG (by simp)];exact hu
     |succ j=>
      have:=aa j;rw[gl,Bj (by simp)]
      simpa[gl,cM]using this
  ·exact h.elim
theorem afd {t e:TypeId} {sz n:Nat} (he:qs P t=some e) (hs:gC P e=some sz) {cw:Value} {i:TypeInfo} (hi:P.info? e=some i) (a':i.zero=some cw) (Cb:n*sz≤65536) (eM:Array (Nat × Value)) {cells:Array Value}
  (ax:Instr.fill (fun i=>some (i*sz,sz)) ((Array.range (n*sz)).map (fun j=>(if n*sz=0 then #[]else cw.cells)[j%(if n*sz=0 then(#[]:Array Value)else cw.cells).size]!)) eM.toList=some cells) (W:World):
  (Instr.buildSlice t n eM).run P W=.ok (.slice (some ⟨W.heap.size,0,none⟩) n n) (W.alloc (.cells cells e)):=by
 have aw:=HN he;obtain⟨hk,ei,dj⟩:=ov hs;have:hk=i:=by rw[hi]at ei;exact(yI ei).symm
 subst this;have mU:¬(16777216<n*sz):=by omega
 unfold Instr.buildSlice;simp only[Sem.run_bind,run_underlying aw,Result.andThen_ok];have ot:(sizeOf e).run P W=.ok sz W:=by simp[sizeOf,typeInfo,hi,dj]
 rw[ot];simp only[Result.andThen_ok];by_cases aV:n*sz=0
 ·simp only[aV,if_true]at ax;have ah:(Array.range 0)=(#[]:Array Nat):=rfl;rw[ah]at ax;simp at ax;simp[aV,ah,ax,newRow]
 ·simp only[aV,if_false]at ax;have kS:(zeroValue e).run P W=.ok cw W:=by simp[zeroValue,typeInfo,hi,a']
  simp[aV,mU,kS,ax,newRow]
def wg (I:cf) (sz:Nat) (cells:Array Value) (xs:List ab):Prop:=
 cells.size=xs.length*sz∧(∀x∈xs,x.cells.length=sz)∧∀i j,i<xs.length→j<sz→aZ I (cells.getD (i*sz+j) undef) ((xs.getD i .top).cells.getD j .top)
theorem tL {i j n sz:Nat} (hi:i<n) (aU:j<sz):i*sz+j<n*sz:=by
 have:(i+1)*sz≤n*sz:=l_ _ hi;rw[pM]at this;omega
theorem as7 {i hk Ct sz:Nat} (xd:Ct<sz) (h:i*sz≤hk*sz+Ct) (aa:hk*sz+Ct<i*sz+sz):i=hk:=by
 rcases Nat.lt_trichotomy i hk with bw|rfl|bw
 ·have:(i+1)*sz≤hk*sz:=l_ _ bw;rw[pM]at this;omega
 ·rfl
 ·have:(hk+1)*sz≤i*sz:=l_ _ bw;rw[pM]at this;omega
theorem wg.set {sz i:Nat} {cells ds vs:Array Value} {xs:List ab} {b:ab} (h:wg I sz cells xs) (hi:i<xs.length) (aj:b.cells.length=sz) (ar:∀j,aZ I (vs.getD j undef) (b.cells.getD j .top)) (q3:vs.size=sz)
  (aQ:ds.size=cells.size∧∀j,ds[j]? =if i*sz≤j∧j<i*sz+vs.size∧j<cells.size then vs[j-i*sz]? else cells[j]?):wg I sz ds (xs.set i b):=by
 obtain⟨U,aa,au⟩:=h;refine⟨by rw[aQ.1,U];simp,fun x ad=> ?_,fun p q ae aB=> ?_⟩
 ·rcases List.mem_or_eq_of_mem_set ad with ad|rfl
  ·exact aa x ad
  ·exact aj
 ·have c0:p<xs.length:=by simpa using ae
  have bw:=tL c0 aB;rw[gl,aQ.2,q3];by_cases e:p=i
  ·subst e;rw[if_pos (by rw[U];omega)]
   have:=ar q;rw[gl]at this;have e1:p*sz+q-p*sz=q:=by omega
   have aN:(xs.set p b).getD p .top=b:=by rw[cM,List.getElem?_set_self c0];rfl
   rw[e1,aN];exact this
  ·rw[if_neg (by intro af;exact e (as7 aB af.1 af.2.1).symm)]
   have aN:(xs.set i b).getD p .top=xs.getD p .top:=by
    rw[cM,List.getElem?_set_ne (by omega),←cM]
   rw[aN,←gl];exact au p q c0 aB
theorem Pp {ai:aG→aJ} {rv:Operand→Value} (fA:∀{x:Operand} {y:aG},b8 x=some y→gR I bK (rv x) (ai y)) (sz:Nat):
  ∀(eM:List (Nat × Operand)) (br:List (Nat × aG)) (cells:Array Value) (xs ys:List ab),tj eM=some br→ql sz xs ai br=some ys→wg I sz cells xs→
   ∃ds,Instr.fill (fun i=>some (i*sz,sz)) cells (eM.map fun(i,x)=>(i,rv x))=some ds∧wg I sz ds ys∧ys.length=xs.length
 | [],br,cells,xs,ys,U,aa,ah=>by
  simp only[tj,bk]at U;subst U;simp only[ql,bk]at aa;subst aa;exact⟨cells,rfl,ah,rfl⟩
 |(i,x)::r,br,cells,xs,ys,U,aa,ah=>by
  simp only[tj]at U;cases ad:b8 x with
  |none=>rw[ad]at U;cases U
  |some y=>
   cases sk:tj r with
   |none=>rw[ad,sk]at U;cases U
   |some LJ=>
    rw[ad,sk]at U;simp only[bk]at U;subst U;have ar:=fA ad;simp only[ql]at aa;generalize ai y=e at ar aa;cases e with
    |box c=>exact ar.elim
    |b7 s o=>cases aa
    |val b=>
     simp only[]at aa;split at aa
     case isFalse=>cases aa
     rename_i af;obtain⟨bf,c2,fU⟩:=af;obtain⟨az,ao,aX⟩:=aZ.EM ar fU;obtain⟨f1,f2⟩:=Yh (i*sz) (rv x).cells.toList 0 cells;have FE:((rv x).cells.zipIdx.foldl (fun(cs:Array Value) (p:Value × Nat)=>cs.setIfInBounds (i*sz+p.2) p.1) cells)=
       (((rv x).cells.toList.zipIdx 0).foldl (fun(cs:Array Value) (p:Value × Nat)=>cs.setIfInBounds (i*sz+p.2) p.1) cells):=by
      rw[←Array.foldl_toList,Array.toList_zipIdx]
     generalize Qj:(((rv x).cells.toList.zipIdx 0).foldl (fun(cs:Array Value) (p:Value × Nat)=>cs.setIfInBounds (i*sz+p.2) p.1) cells)=ds at FE f1 f2;have si:=ah.set (ds:=ds) bf c2 ao (by omega) ⟨f1,fun j=>by rw[f2 j];simp⟩
     obtain⟨es,he,hr,hP⟩:=Pp fA sz r LJ ds (xs.set i b) ys sk aa si;refine⟨es,?_,hr,by rw[hP];simp⟩
     simp only[gM,Instr.fill];have bw:i*sz+sz≤cells.size:=by
      rw[ah.1];have:(i+1)*sz≤xs.length*sz:=l_ _ bf;rw[pM]at this;exact this
     have lT:¬((rv x).cells.size≠sz∨i*sz+(rv x).cells.size>cells.size):=by
      rw[az];omega
     simp only[ne_eq,decide_not,g1,Bool.not_eq_eq_eq_not,Bu,decide_eq_false_iff_not,gt_iff_lt,decide_eq_true_eq];rw[if_neg (by simpa using lT),FE]
     exact he
theorem atz {I:cf} {v:Value} {xs:List ab} {nl:Bool} {t:Option Nat} (h:aZ I v (.slice xs nl t)):aZ I v (.slice xs nl none):=by
 cases h with
 |qg=>exact .qg
 |slice b o n cap sz xs tok vs ak af hm hs h ah aw=>exact .slice b o n cap sz xs none vs ak af hm hs h ah (fun g av=>by cases av)
 |tZ a=>exact .tZ a
theorem ag_ {n sz:Nat} {z:ab} {cw:Value} (_hsz:0<sz) (bZ:cw.cells.size=z.cells.length) (cB:∀j,aZ I (cw.cells.getD j undef) (z.cells.getD j .top)) (gH:z.cells.length=sz):
  wg I sz ((Array.range (n*sz)).map (fun j=>(if n*sz=0 then #[]else cw.cells)[j%(if n*sz=0 then(#[]:Array Value)else cw.cells).size]!)) (List.replicate n z):=by
 refine⟨by simp,fun x ad=>by rw[(List.mem_replicate.1 ad).2];exact gH,fun p q ae aB=> ?_⟩
 have c0:p<n:=by simpa using ae
 have bw:=tL c0 aB;have cm:n*sz≠0:=by omega
 have pa:(p*sz+q)%cw.cells.size=q:=by
  rw[bZ,gH,qH,Nat.mul_add_mod];exact yG aB
 have Zq:q<cw.cells.size:=by omega
 have e1:(List.replicate n z).getD p .top=z:=by rw[cM];simp[c0]
 rw[e1];have aN:((Array.range (n*sz)).map (fun j=>(if n*sz=0 then #[]else cw.cells)[j%(if n*sz=0 then(#[]:Array Value)else cw.cells).size]!)).getD (p*sz+q) undef=cw.cells.getD q undef:=by
  simp only[cm,if_false];rw[gl,Array.getElem?_map,Array.getElem?_range,if_pos bw];simp only[nj,lL,pa];rw[gl,ni Zq,getElem!_pos cw.cells q Zq];rfl
 rw[aN];exact cB q
theorem atN (st:cx E I ag env bK a w) (aQ:∀x,o.dst=some x→x<E.n) {t e:TypeId} {sz n:Nat} {z:ab} {eM:Array (Nat × Operand)} {br:List (Nat × aG)} (ay:o.op=.buildSlice t n eM) (he:qs P t=some e) (hs:gC P e=some sz)
  (a':jc P e=some z) (lY:tj eM.toList=some br) (Cb:n*sz≤65536) (dj:0<sz) (gH:z.cells.length=sz) {own:Bool} (h:bH P (.bslice own sz e n z br) o.dst k env ag):o.wp P a w (dz E k) Q:=by
 obtain⟨i,cw,hi,hv,fP⟩:=vZ a';obtain⟨bZ,cB⟩:=xL I fP;simp only[bH]at h;split at h
 case h_2=>exact h.elim
 rename_i xs lr;have Q6:=ag_ (I:=I) (n:=n) dj bZ cB gH;obtain⟨ds,ax,⟨cc,b4,dP⟩,cl⟩:=Pp (rv:=a.eval) (fun ad=>st.dB ad) sz eM.toList br _ _ xs lY lr Q6;have pf:xs.length=n:=by rw[cl];simp
 have Qn:Instr.fill (fun i=>some (i*sz,sz)) ((Array.range (n*sz)).map (fun j=>(if n*sz=0 then #[]else cw.cells)[j%(if n*sz=0 then(#[]:Array Value)else cw.cells).size]!)) (eM.map fun(i,x)=>(i,a.eval x)).toList=some ds:=by
  have:(eM.map fun(i,x)=>(i,a.eval x)).toList=eM.toList.map fun(i,x)=>(i,a.eval x):=by simp
  rw[this];exact ax
 have b6:=afd (P:=P) he hs hi hv Cb (eM.map fun(i,x)=>(i,a.eval x)) Qn w;have J0:n≤maxLen:=by
  have:n*1≤n*sz:=Nat.mul_le_mul_left _ dj;simp only[maxLen];omega
 obtain⟨bx,n4⟩:=Tl st.cr (w':=w.alloc (.cells ds e)) (b:=w.heap.size) (cap:=n) (sz:=sz) (n:=n) (e:=e) (cur:=ds) (tok:=none) (by simp) rfl rfl rfl
  (fun x ad _=>jn w _ ad) (by rw[r3,if_pos rfl]) (by rw[cc,pf]) (b1 _) J0 (.inl (b1 _))
 have B1:ag.jF none=ag:=by cases ag;simp[a8.jF]
 rw[B1]at bx n4;have JO:(execOp a.eval o).run P w=.ok (.value (.slice (some ⟨w.heap.size,0,none⟩) n n)) (w.alloc (.cells ds e)):=by
  simp only[execOp,ay,Sem.run_bind,b6,Result.andThen_ok];rfl
 have h8:aZ (I.grow w.heap.size (n,sz) fun o=>if o<n*sz then ds[o]? else none) (.slice (some ⟨w.heap.size,0,none⟩) n n) (.slice xs false (some w.heap.size)):=by
  refine adx (vs:=fun i j=>if i<n∧j<sz then ds.getD (i*sz+j) undef else undef) pf (b1 _) J0 (fun i hi=> ?_) (fun i j hi aU=> ?_) (fun i j=> ?_) (cf.JA _ _ _ _) (cf.PM _ _ _ _)
  ·rw[cM,eU (by omega)];exact b4 _ (l' _)
  ·rw[if_pos ⟨hi,aU⟩,gl,ni (by rw[cc,pf];exact tL hi aU)];rfl
  ·by_cases af:i<n∧j<sz
   ·rw[if_pos af];exact(dP i j (by omega) af.2).mono n4.le
   ·rw[if_neg af];have:(xs.getD i .top).cells.getD j .top=.top:=by
     by_cases hi:i<n
     ·have ak:(xs.getD i .top).cells.length=sz:=by rw[cM,eU (by omega)];exact b4 _ (l' _)
      rw[cM,kI (by omega)];rfl
     ·have:xs.getD i .top=.top:=by rw[cM,kI (by omega)];rfl
      rw[this];cases j<;>rfl
    rw[this];exact .top _
 have fq:ag.Sub (ag.m_ w.heap.size (n,sz,e)):=by
  refine⟨fun b cs h=>h,fun b r h=> ?_,fun b es h=>h⟩;have:b≠w.heap.size:=by rintro rfl;rw[(st.cr.nv (b1 _)).2.1]at h;cases h
  have aj:(b==w.heap.size)=false:=by simpa using this
  simpa[a8.m_,aj]using h
 split at h
 ·exact eZ st aQ JO bx n4 (e:=.val (.slice xs false (some w.heap.size))) h8 (h _ (st.cr.nv (b1 _)))
 ·refine eZ st aQ JO (bx.sub fq) (n4.sub fq) (e:=.val (.slice xs false none)) (atz h8) h
theorem Py {sz:Nat}:∀{xs:List ab},(∀x∈xs,x.cells.length=sz)→(xs.flatMap ab.cells).length=xs.length*sz∧
  ∀i j,i<xs.length→j<sz→(xs.flatMap ab.cells).getD (i*sz+j) .top=(xs.getD i .top).cells.getD j .top
 | [],_=>⟨by simp,fun i j hi=>by simp at hi⟩
 |x::xs,h=>by
  have ad:=h x cz;obtain⟨U,aa⟩:=Py (xs:=xs) fun y aI=>h y (cv _ aI);refine⟨by simp only[wx,iz,U,ad,mb,kJ];omega,fun i j hi aU=> ?_⟩
  simp only[wx];cases i with
  |zero=>
   rw[IF,fy,cM,kl (by omega),←cM]
   rfl
  |succ i=>
   have e1:(i+1)*sz+j-x.cells.length=i*sz+j:=by rw[ad,kJ];omega
   rw[cM,km (by rw[ad,kJ];omega),e1,←cM]
   exact aa i j (by simpa using hi) aU
theorem wg.flat {sz:Nat} {ds:Array Value} {xs:List ab} (h:wg I sz ds xs) (dj:0<sz):ds.size=(xs.flatMap ab.cells).length∧∀q,aZ I (ds.getD q undef) ((xs.flatMap ab.cells).getD q .top):=by
 obtain⟨cc,b4,dP⟩:=h;obtain⟨f1,f2⟩:=Py b4;refine⟨by rw[cc,f1],fun q=> ?_⟩
 by_cases aB:q<xs.length*sz
 ·have hi:q/sz<xs.length:=(OZ dj).2 aB;have aU:q%sz<sz:=wz _ dj;have FY:q/sz*sz+q%sz=q:=by rw[qH];exact I1 q sz
  have:=dP (q/sz) (q%sz) hi aU;rw[←f2 _ _ hi aU,FY]at this;exact this
 ·rw[cM,kI (by omega)]
  exact .top _
theorem at8 (st:cx E I ag env bK a w) (aQ:∀x,o.dst=some x→x<E.n) {t e:TypeId} {sz n:Nat} {z:ab} {eM:Array (Nat × Operand)} {br:List (Nat × aG)} (ay:o.op=.buildSlice t n eM) (he:qs P t=some e) (hs:gC P e=some sz)
  (a':jc P e=some z) (lY:tj eM.toList=some br) (Cb:n*sz≤65536) (dj:0<sz) (gH:z.cells.length=sz) (h:bH P (.mslice sz e n z br) o.dst k env ag):o.wp P a w (dz E k) Q:=by
 obtain⟨i,cw,hi,hv,fP⟩:=vZ a';obtain⟨bZ,cB⟩:=xL I fP;simp only[bH]at h;split at h
 case h_2=>exact h.elim
 rename_i xs lr;have Q6:=ag_ (I:=I) (n:=n) dj bZ cB gH;obtain⟨ds,ax,j6,cl⟩:=Pp (rv:=a.eval) (fun ad=>st.dB ad) sz eM.toList br _ _ xs lY lr Q6;have pf:xs.length=n:=by rw[cl];simp
 have Qn:Instr.fill (fun i=>some (i*sz,sz)) ((Array.range (n*sz)).map (fun j=>(if n*sz=0 then #[]else cw.cells)[j%(if n*sz=0 then(#[]:Array Value)else cw.cells).size]!)) (eM.map fun(i,x)=>(i,a.eval x)).toList=some ds:=by
  have:(eM.map fun(i,x)=>(i,a.eval x)).toList=eM.toList.map fun(i,x)=>(i,a.eval x):=by simp
  rw[this];exact ax
 have b6:=afd (P:=P) he hs hi hv Cb (eM.map fun(i,x)=>(i,a.eval x)) Qn w;have J0:n≤maxLen:=by
  have:n*1≤n*sz:=Nat.mul_le_mul_left _ dj;simp only[maxLen];omega
 obtain⟨bu,bC⟩:=j6.flat dj;have JO:(execOp a.eval o).run P w=.ok (.value (.slice (some ⟨w.heap.size,0,none⟩) n n)) (w.alloc (.cells ds e)):=by
  simp only[execOp,ay,Sem.run_bind,b6,Result.andThen_ok];rfl
 exact eZ st aQ JO (st.cr.newObj e bu bC) (fC.newObj st.cr _ _) (e:=.val (.ref w.heap.size 0 n n)) (aZ.ref _ _ _ _ (b1 _) J0) (h _ (st.cr.nv (b1 _)))
end
end Go.bO
