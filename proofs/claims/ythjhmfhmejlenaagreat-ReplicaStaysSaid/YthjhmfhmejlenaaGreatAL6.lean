/-
  AN ABSTRACT LOGIC OVER THE MODEL, part 6: append.
-/
import Derived.Test.YthjhmfhmejlenaaGreatAL5
import Derived.Lib.AppendZeros
import Derived.Maps.RangeRun
set_option linter.unusedSectionVars false
set_option linter.unusedVariables false
set_option linter.unusedSimpArgs false
section
namespace Go.bO
open Go.RowKit
section
variable {P:Program} {E:Entry} {I:cf} {ag:a8} {env:bt} {bK:Nat→Nat} {a:Act} {w:World} {o:Oper}
variable {k:bt→a8→Prop} {Q:Exit→Act→World→Prop}
theorem Ua {t e:TypeId} {i:TypeInfo} (ty:TypeId) (aw:P.underlying t=some (.slice e)) (hi:P.info? e=some i) {A B:Option Addr} {n c c2:Nat} (af:n≤c) (W:World):
  (Builtin.append_ #[t,t] ty #[.slice A n c,.slice B 0 c2]).run P W=.ok (.slice A n c) W:=by
 have ax:(Builtin.firstCells i.size 0 (.slice B 0 c2)).run P W=.ok #[] W:=by
  cases B<;>simp[Builtin.firstCells,loadCells,loadCellsFrom]
 cases A<;>simp[Builtin.append_,run_underlying aw,sizeOf,typeInfo,hi,Builtin.lenOf,af,ax,storeCells]
def flat (m sz:Nat) (vs:Nat→Nat→Value):List Value:=(List.range (m*sz)).map fun q=>vs (q/sz) (q%sz)
theorem qP (m sz:Nat) (vs:Nat→Nat→Value):(flat m sz vs).length=m*sz:=by simp[flat]
theorem BO {m sz:Nat} {vs:Nat→Nat→Value} {i j:Nat} (hi:i<m) (aU:j<sz):(flat m sz vs)[i*sz+j]? =some (vs i j):=by
 have bw:=tL hi aU;have U:(i*sz+j)/sz=i:=by
  rw[qH,Nat.mul_add_div (by omega)];simp[Ot aU]
 have aa:(i*sz+j)%sz=j:=by
  rw[qH,Nat.mul_add_mod];exact yG aU
 simp[flat,bw,U,aa]
theorem Fc {m sz:Nat} {vs:Nat→Nat→Value} {q:Nat} {u:Value} (h:(flat m sz vs)[q]? =some u):∃i j,i<m∧j<sz∧q=i*sz+j∧u=vs i j:=by
 have aB:q<m*sz:=by
  have:=(hn.1 h).1
  rwa [qP]at this
 have dj:0<sz:=by
  rcases uv sz with aV|aV
  ·subst aV;simp at aB
  ·exact aV
 have hi:q/sz<m:=Nat.div_lt_of_lt_mul (by rw[qH];exact aB)
 have aU:q%sz<sz:=wz _ dj;have he:q=(q/sz)*sz+q%sz:=by rw[qH];exact(I1 q sz).symm
 refine⟨q/sz,q%sz,hi,aU,he,?_⟩;have:=BO (vs:=vs) hi aU;rw[←he,h]at this;exact yI this
theorem aje {n m:Nat} {xs ys:List ab} {vs us:Nat→Nat→Value} {J:cf} (ad:xs.length=n) (_hy:ys.length=m)
  (U:∀i j,i<n→aZ J (vs i j) ((xs.getD i .top).cells.getD j .top)) (aa:∀i j,aZ J (us i j) ((ys.getD i .top).cells.getD j .top)) (i j:Nat):
  aZ J (if i<n then vs i j else us (i-n) j) (((xs++ys).getD i .top).cells.getD j .top):=by
 by_cases hi:i<n
 ·rw[if_pos hi];have:(xs++ys).getD i .top=xs.getD i .top:=by
   rw[cM,kl (by omega),←cM]
  rw[this];exact U i j hi
 ·rw[if_neg hi];have:(xs++ys).getD i .top=ys.getD (i-n) .top:=by
   rw[cM,km (by omega),←cM,ad]
  rw[this];exact aa _ j
theorem ajd {n m sz:Nat} {xs ys:List ab} (ad:xs.length=n) (_hy:ys.length=m) (U:∀i,i<n→(xs.getD i .top).cells.length=sz) (aa:∀i,i<m→(ys.getD i .top).cells.length=sz) (i:Nat) (hi:i<n+m):
  ((xs++ys).getD i .top).cells.length=sz:=by
 by_cases h:i<n
 ·have:(xs++ys).getD i .top=xs.getD i .top:=by
   rw[cM,kl (by omega),←cM]
  rw[this];exact U i h
 ·have:(xs++ys).getD i .top=ys.getD (i-n) .top:=by
   rw[cM,km (by omega),←cM,ad]
  rw[this];exact aa _ (by omega)
theorem Nq (st:cx E I ag env bK a w) (aQ:∀x,o.dst=some x→x<E.n) {xs ys:List ab} {nl:Bool} {tok:Option Nat} {sz:Nat} {e:TypeId} {n m g cap:Nat} {cur:Array Value} {w':World}
  {vs us:Nat→Nat→Value} (ad:xs.length=n) (aI:ys.length=m) (hm:0<m)
  (lr:∀i,i<n→(xs.getD i .top).cells.length=sz) (lu:∀i,i<m→(ys.getD i .top).cells.length=sz)
  (U:∀i j,i<n→aZ I (vs i j) ((xs.getD i .top).cells.getD j .top)) (aa:∀i j,aZ I (us i j) ((ys.getD i .top).cells.getD j .top))
  (b6:(execOp a.eval o).run P w=.ok (.value (.slice (some ⟨g,0,none⟩) (n+m) cap)) w')
  (Ca:w.heap.size≤w'.heap.size) (zn:w'.os=w.os) (zv:w'.tape=w.tape) (oo:w'.output=w.output)
  (nD:∀x,x<w.heap.size→x≠g→w'.heap[x]? =w.heap[x]?)
  (aj:w'.heap[g]? =some (.cells cur e (0,0))) (Qg:cur.size=cap*sz) (aK:n+m≤cap) (mm:cap≤maxLen)
  (ld:∀i j,i<n→j<sz→cur[i*sz+j]? =some (vs i j)) (iE:∀i j,i<m→j<sz→cur[(n+i)*sz+j]? =some (us i j))
  (g6:w.heap.size≤g∨(tok=some g∧(∃r,ag.cF g=some r)∧I.cap g=some (cap,sz)∧∀o v,I.cell g o=some v→o<(n+m)*sz∧cur[o]? =some v))
  (aq:∀x bp,D3 ag xs nl tok ys sz e x bp→oM (fun a bp=>k (env.set o.dst (.val a)) bp) x bp):o.wp P a w (dz E k) Q:=by
 obtain⟨bx,n4⟩:=Tl st.cr (sz:=sz) (n:=n+m) (tok:=tok) Ca zn zv oo nD aj Qg aK mm g6;have h8:=adx (xs:=xs++ys) (vs:=fun i j=>if i<n then vs i j else us (i-n) j) (J:=I.grow g (cap,sz) fun o=>if o<(n+m)*sz then cur[o]? else none) (b:=g) (cap:=cap) (sz:=sz) (n:=n+m) (cur:=cur)
  (by simp[ad,aI]) aK mm (ajd ad aI lr lu) (fun i j hi aU=>by
   by_cases h:i<n
   ·rw[if_pos h];exact ld i j h aU
   ·rw[if_neg h];have:=iE (i-n) j (by omega) aU
    rwa [show n+(i-n)=i from by omega]at this)
  (aje ad aI (fun i j hi=>(U i j hi).mono n4.le) (fun i j=>(aa i j).mono n4.le)) (cf.JA _ _ _ _) (cf.PM _ _ _ _)
 obtain⟨b,dR,bz,fq,_,ek⟩:=aq _ _ (.inr ⟨fun h=>by subst h;simp at aI;omega,g,rfl,by rw[ad,aI],by
  rcases g6 with h|⟨h,_⟩
  ·exact .inr (st.cr.nv h)
  ·exact .inl h⟩)
 exact eZ st aQ b6 (bx.sub fq) (n4.sub fq) (e:=.val b) (bz _ _ h8) ek
def M7 (I:cf) (w:World) (v:Value) (ys:List ab) (sz:Nat):Prop:=
 ∃(b o c:Nat) (us:Nat→Nat→Value),v=.slice (some ⟨b,o,none⟩) ys.length c∧(∀p r,p<ys.length→r<sz→w.cell? ⟨b,o+(p*sz+r),none⟩=some (us p r))∧
  ∀p r,aZ I (us p r) ((ys.getD p .top).cells.getD r .top)
theorem afZ (m:e0 I ag w) {v:Value} {ys:List ab} {nl:Bool} {tok:Option Nat} {sz:Nat} (h:aZ I v (.slice ys nl tok)) (lu:∀q,q<ys.length→(ys.getD q .top).cells.length=sz):
  (ys=[]→∃B c,v=.slice B 0 c)∧(ys≠[]→M7 I w v ys sz):=by
 refine⟨fun aV=> ?_,fun cm=> ?_⟩
 ·subst aV;rcases aZ.jb h with⟨U,_⟩|⟨b,off,cap,_,_,U,_⟩|⟨qF,U,_⟩
  ·exact⟨_,_,U⟩
  ·exact⟨_,_,by simpa using U⟩
  ·exact⟨_,_,U⟩
 ·have zj:0<ys.length:=IJ.2 cm;rcases aZ.jb h with⟨_,aa,_⟩|⟨b_,cy,c2,agb,us,bu,_,c4,eb,iX,k8,lR,_⟩|⟨_,_,aa,_⟩
  ·exact absurd aa cm
  ·have aop:agb=sz:=by rw[←iX 0 zj];exact lu 0 zj
   subst aop;refine⟨b_,cy,c2,us,bu,fun p r ae ah=> ?_,lR⟩;obtain⟨cs,T,eo,bg,bl⟩:=m.cell _ _ _ (k8 p r ae ah);rw[rO bg];exact bl
  ·exact absurd aa cm
theorem akV {ys:List ab} (h:∀y∈ys,y.one=true):sT 1 ys:=fun y aI=>by
 have U:=ab.S_ (h y aI);rw[U];exact⟨rfl,by simp[h y aI]⟩
theorem aun (m:e0 I ag w) {v:Value} {b o n c:Nat} {cs:List ab} (h:aZ I v (.ref b o n c)) (ay:ag.obj b=some cs) (bz:o+n≤cs.length) (U:∀y∈(cs.drop o).take n,y.one=true):
  ((cs.drop o).take n=[]→∃B c,v=.slice B 0 c)∧((cs.drop o).take n≠[]→M7 I w v ((cs.drop o).take n) 1):=by
 have ak:((cs.drop o).take n).length=n:=by simp;omega
 obtain⟨vs,T,az,ao,aX,_⟩:=m.obj b cs ay;have ar:v=.slice (some ⟨b,o,none⟩) n c:=by cases h;rfl
 refine⟨fun aV=> ?_,fun _=>⟨b,o,c,fun p r=>if r=0∧p<n then vs.getD (o+p) undef else undef,by rw[ak];exact ar,fun p r ae ah=> ?_,fun p r=> ?_⟩⟩
 ·have:n=0:=by rw[←ak,aV];rfl
  subst this;exact⟨_,_,ar⟩
 ·obtain rfl:r=0:=by omega
  rw[ak]at ae;dsimp only;rw[if_pos ⟨rfl,ae⟩,rO az];simp only[IA,pN];rw[gl,ni (by omega)];rfl
 ·dsimp only;by_cases ae:r=0∧p<n
  ·rw[if_pos ae];obtain⟨rfl,ae⟩:=ae;have hG:p<((cs.drop o).take n).length:=by omega
   have e1:((cs.drop o).take n).getD p .top=cs.getD (o+p) .top:=by
    rw[cM,l9,if_pos ae,k4,←cM]
   have mo:(((cs.drop o).take n).getD p .top).one=true:=by
    rw[cM,eU hG];exact U _ (l' hG)
   rw[ab.S_ mo,e1];exact aX (o+p)
  ·rw[if_neg ae];by_cases an2:p<n
   ·have ah:r≠0:=fun h=>ae ⟨h,an2⟩;have hG:p<((cs.drop o).take n).length:=by omega
    have mo:(((cs.drop o).take n).getD p .top).one=true:=by
     rw[cM,eU hG];exact U _ (l' hG)
    rw[ab.S_ mo];cases r with
    |zero=>exact absurd rfl ah
    |succ r=>simpa using aZ.top _
   ·have:((cs.drop o).take n).getD p .top=.top:=by rw[cM,kI (by omega)];rfl
    rw[this];cases r<;>simpa[ab.cells]using aZ.top _
theorem VY (st:cx E I ag env bK a w) (aQ:∀x,o.dst=some x→x<E.n) {t e:TypeId} {x y:Operand} {sz bytes:Nat} {z:ab}
  (ay:o.op=.call {callee:=.builtin .append,args:=⟨[x,y]⟩,argTypes:=⟨[t,t]⟩}) (he:qs P t=some e) (hs:gC P e=some (sz+1)) (o8:qq P e=some bytes) (a':jc P e=some z)
  (gH:z.cells.length=sz+1) {xs:List ab} {nl:Bool} {tok:Option Nat} {ys:List ab} (c6:aZ I (a.eval x) (.slice xs nl tok)) (F6:ys=[]→∃B c,a.eval y=.slice B 0 c) (zz:ys≠[]→M7 I w (a.eval y) ys (sz+1))
  (r9:JB ag xs nl tok (sz+1) e) (mo:sT (sz+1) ys) (cl:xs.length+ys.length≤maxLen) (kQ:(xs.length+ys.length)*bytes≤140737488355328)
  (aq:∀v bp,D3 ag xs nl tok ys (sz+1) e v bp→oM (fun a bp=>k (env.set o.dst (.val a)) bp) v bp):o.wp P a w (dz E k) Q:=by
 have aw:=HN he;obtain⟨i,cw,hi,hv,fP⟩:=vZ a';have dj:i.size=sz+1:=by
  obtain⟨hk,ei,b0⟩:=ov hs;rw[hi]at ei;cases ei;exact b0
 have uZ:i.bytes=bytes:=by
  unfold qq at o8;rw[hi]at o8;simpa using o8
 have hX:cw.cells.size=i.size:=by rw[(xL I fP).1,gH,dj]
 have hR:∀v w',(Builtin.append_ #[t,t] o.type #[a.eval x,a.eval y]).run P w=.ok v w'→(execOp a.eval o).run P w=.ok (.value v) w':=by
  intro v w' ah;simp[execOp,ay,resolve,invoke,builtin,ah]
 by_cases lu:ys=[]
 ·subst lu;obtain⟨B,c2,fF⟩:=F6 rfl;obtain⟨A,n,c,hq,zl⟩:∃A n c,a.eval x=.slice A n c∧n≤c:=by
   rcases aZ.jb c6 with⟨U,_⟩|⟨b,off,cap,_,_,U,_,au,_⟩|⟨qF,U,_⟩
   ·exact⟨_,_,_,U,b1 _⟩
   ·exact⟨_,_,_,U,au⟩
   ·exact⟨_,_,_,U,b1 _⟩
  have ah:=Ua (P:=P) o.type aw hi (A:=A) (B:=B) (c2:=c2) zl w;rw[←hq,←fF]at ah;obtain⟨b,dR,bz,fq,_,ek⟩:=aq _ _ (.inl ⟨rfl,rfl,rfl⟩);exact eZ st aQ (hR _ _ ah) (st.cr.sub fq) ((fC.refl _ _ _).sub fq) (e:=.val b) (bz _ _ c6) ek
 ·have zj:0<ys.length:=IJ.2 lu;have vh:∀q,q<ys.length→(ys.getD q .top).cells.length=sz+1:=by
   intro q aB;rw[cM,eU aB];exact(mo _ (l' aB)).1
  obtain⟨b_,cy,c2,us,bu,k8,lR⟩:=zz lu
  ·skip
   have eP:(flat ys.length (sz+1) us).length=ys.length*i.size:=by rw[qP,dj]
   have B9:∀j u,(flat ys.length (sz+1) us)[j]? =some u→w.cell? ((⟨b_,cy,none⟩:Addr).add j)=some u:=by
    intro q u aB;obtain⟨p,r,ae,ah,rfl,rfl⟩:=Fc aB;rw[Addr.add_lit];exact k8 p r ae ah
   have PR:∀u∈flat ys.length (sz+1) us,u.oneCell'=true:=by
    intro u hu;obtain⟨q,aB⟩:=s6 hu;obtain⟨p,r,ae,ah,rfl,rfl⟩:=Fc aB;have fW:(ys.getD p .top)∈ys:=by rw[cM,eU ae];exact l' ae
    have jk:=(mo _ fW).2;have iI:r<(ys.getD p .top).cells.length:=by rw[vh p ae];exact ah
    have QN:((ys.getD p .top).cells.getD r .top).one=true:=by
     rw[cM (l:=(ys.getD p .top).cells),eU iI];exact dI.1 jk _ (l' iI)
    exact((lR p r).one_cell QN).1
   rcases r9 with⟨Rl,anE,mW⟩|⟨g,mW,j5⟩
   ·
    subst Rl;subst anE;subst mW;have hq:a.eval x=.slice none 0 0:=by
     rcases aZ.jb c6 with⟨U,_⟩|⟨_,_,_,_,_,_,U,_⟩|⟨_,_,_,U,_⟩
     ·exact U
     ·cases U
     ·cases U
    have ah:=run_append_nil (P:=P) w t o.type e i cw aw hi hv ⟨b_,cy,none⟩ ys.length c2 _ eP B9 zj (by simp only[maxLen]at cl;simp at cl;omega) (by rw[uZ];simp at kQ;omega)
    have d_:=grownCap_ge w ys.length 0 e;have iF:=grownCap_le_maxLen w ys.length 0 e (by simpa using cl)
    rw[←hq,←bu]at ah;have iI:=hR _ _ ah;refine Nq (n:=0) (m:=ys.length) (sz:=sz+1) (e:=e) (vs:=fun _ _=>undef) (us:=us) (cap:=grownCap w ys.length 0 e) (g:=w.heap.size)
     (w':=w.drew.alloc (.cells ((flat ys.length (sz+1) us).toArray++Builtin.zeroCells cw.cells (grownCap w ys.length 0 e-ys.length)) e)) st aQ rfl rfl zj
     (fun q aB=>by omega) vh (fun q r aB=>by omega) lR (by rw[fy];exact iI) (by simp) rfl rfl rfl
     (fun q aB _=>jn w.drew _ (by simpa using aB)) (by rw[show w.heap.size=w.drew.heap.size from rfl,r3,if_pos rfl]) ?_ (by omega) iF (fun q r aB=>by omega) (fun q r aB ah=> ?_) (.inl (b1 _)) aq
    ·simp only[s5,oU,qP,size_zeroCells,hX,dj,←kJ]
     congr 1;omega
    ·rw[fy,qG (by simpa[qP]using tL aB ah),rI]
     exact BO aB ah
   ·
    subst mW;rcases aZ.jb c6 with⟨_,_,_,U⟩|⟨b,off,cap,auC,vs,e1,aN,bL,eB,ji,wR,I7,wS⟩|⟨_,_,_,_,U⟩
    rotate_left 2
    ·cases U
    ·cases U
    ·obtain⟨rfl,rfl,mm⟩:=wS g rfl;obtain⟨jo,cs,wG,az,ao,aX,bD,c8,e'⟩:=st.cr.cF _ _ _ _ j5;have lf:wG=cap∧sz+1=auC:=by rw[mm]at ao;simpa[eq_comm]using ao
     obtain⟨rfl,rfl⟩:=lf;have avP:xs.length*(sz+1)≤cs.size:=by rw[aX];exact l_ _ bD
     have ik:∀o v,I.cell g o=some v→o<xs.length*(sz+1)∧cs[o]? =some v:=by
      intro q v aB;refine⟨?_,?_⟩
      ·rcases lJ q (xs.length*(sz+1))with bw|d_
       ·exact bw
       ·rw[e' q d_]at aB;cases aB
      ·obtain⟨cU,T,eo,bg,bl⟩:=st.cr.cell _ _ _ aB;rw[az]at bg;injection bg with bg;injection bg with bg _ _;rw[bg];exact bl
     have tC:∀p r,p<xs.length→r<sz+1→cs[p*(sz+1)+r]? =some (vs p r):=by
      intro p r ae ah;have:=(ik _ _ (wR p r ae ah)).2;simpa using this
     by_cases Q5:xs.length+ys.length≤wG
     ·
      have r5:xs.length*i.size+(flat ys.length (sz+1) us).length≤cs.size:=by
       rw[eP,dj,aX,←kJ];exact l_ _ Q5
      have ah:=run_append_room (P:=P) w t o.type e i aw hi g xs.length wG cs az ⟨b_,cy,none⟩ ys.length c2 _ eP B9 PR Q5 r5;rw[←bu,←e1]at ah;have iI:=hR _ _ ah;have JV:(cs.toList.take (xs.length*(sz+1))).length=xs.length*(sz+1):=by simp;omega
      refine Nq (n:=xs.length) (m:=ys.length) (sz:=sz+1) (e:=e) (vs:=vs) (us:=us) (cap:=wG) (g:=g) st aQ rfl rfl zj (fun q aB=>ji q aB) vh (fun q r _=>I7 q r) lR iI (by simp) rfl rfl rfl
       (fun q aB cm=>setRow_other w g q _ cm) (setRow_heap w g cs _ e (0,0) az) ?_ Q5 c8 (fun q r aB ah=> ?_) (fun q r aB ah=> ?_)
       (.inr ⟨rfl,⟨_,j5⟩,mm,fun q v aB=> ?_⟩) aq
      ·rw[dj]at r5⊢;simp only[oU,iz,nm,nk,OK];omega
      ·rw[rI,pL,kl (by rw[dj,JV];exact tL aB ah),l9,if_pos (by rw[dj];exact tL aB ah)]
       simpa using tC q r aB ah
      ·have bw:=tL aB ah;rw[rI,pL,dj,km (by rw[JV,kJ];omega),JV,kl (by rw[qP,kJ];omega)]
       have:(xs.length+q)*(sz+1)+r-xs.length*(sz+1)=q*(sz+1)+r:=by rw[kJ];omega
       rw[this];exact BO aB ah
      ·obtain⟨bg,bl⟩:=ik q v aB;refine⟨by rw[kJ];omega,?_⟩
       rw[rI,pL,dj,kl (by rw[JV];exact bg),l9,if_pos bg]
       simpa using bl
     ·
      have J1:(flat xs.length (sz+1) vs).length=xs.length*i.size:=by rw[qP,dj]
      have holds:∀j v,(flat xs.length (sz+1) vs)[j]? =some v→w.cell? ((⟨g,0,none⟩:Addr).add j)=some v:=by
       intro q u aB;obtain⟨p,r,ae,ah,rfl,rfl⟩:=Fc aB;rw[Addr.add_lit,rO az,fy];exact tC p r ae ah
      have ah:=run_append_grow (P:=P) w t o.type e i cw aw hi hv ⟨g,0,none⟩ xs.length wG _ J1 holds ⟨b_,cy,none⟩ ys.length c2 _ eP B9 (by omega) (by simp only[maxLen]at cl;omega) (growslice_fits (by omega) (by rw[uZ];exact kQ))
      have d_:=grownCap_ge w (xs.length+ys.length) wG e;have iF:=grownCap_le_maxLen w (xs.length+ys.length) wG e cl;rw[←bu,←e1]at ah;have iI:=hR _ _ ah;refine Nq (n:=xs.length) (m:=ys.length) (sz:=sz+1) (e:=e) (vs:=vs) (us:=us) (g:=w.heap.size) st aQ rfl rfl zj (fun q aB=>ji q aB) vh (fun q r _=>I7 q r) lR iI (by simp) rfl rfl rfl
       (fun q aB _=>jn w.drew _ (by simpa using aB)) (by rw[show w.heap.size=w.drew.heap.size from rfl,r3,if_pos rfl]) ?_ d_ iF (fun q r aB ah=> ?_) (fun q r aB ah=> ?_)
       (.inl (b1 _)) aq
      ·simp only[s5,oU,qP,size_zeroCells,hX,dj,←kJ]
       congr 1;omega
      ·rw[Bi,qG (by simpa[qP]using tL aB ah),rI]
       exact BO aB ah
      ·have bw:=tL aB ah;rw[Bi,Bj (by simp only[oU,qP];rw[kJ];omega),qG (by simp only[oU,qP];rw[kJ];omega),rI]
       have:(xs.length+q)*(sz+1)+r-(flat xs.length (sz+1) vs).toArray.size=q*(sz+1)+r:=by simp only[oU,qP];rw[kJ];omega
       rw[this];exact BO aB ah
theorem atI (st:cx E I ag env bK a w) (aQ:∀x,o.dst=some x→x<E.n) {t e:TypeId} {x y:Operand} {c3 kE:aG} {sz bytes:Nat} {z:ab}
  (ay:o.op=.call {callee:=.builtin .append,args:=⟨[x,y]⟩,argTypes:=⟨[t,t]⟩}) (ad:b8 x=some c3) (aI:b8 y=some kE) (he:qs P t=some e) (hs:gC P e=some (sz+1)) (o8:qq P e=some bytes) (a':jc P e=some z)
  (gH:z.cells.length=sz+1) (h:bH P (.append (sz+1) e bytes c3 kE) o.dst k env ag):o.wp P a w (dz E k) Q:=by
 have c6:=st.dB ad;have q4:=st.dB aI;simp only[bH]at h;generalize a_ env c3=ex at c6 h;generalize a_ env kE=g4 at q4 h;split at h
 case h_2=>exact h.elim
 rename_i xs nl tok;split at h
 case h_3=>exact h.elim
 case h_1=>
  rename_i ys sB AQ;obtain⟨r9,mo,cl,kQ,aq⟩:=h;have vh:∀q,q<ys.length→(ys.getD q .top).cells.length=sz+1:=by
   intro q aB;rw[cM,eU aB];exact(mo _ (l' aB)).1
  obtain⟨s1,s2⟩:=afZ st.cr q4 vh;exact VY st aQ ay he hs o8 a' gH c6 s1 s2 r9 mo cl kQ aq
 case h_2=>
  rename_i b q n c;obtain⟨U,cs,g5,bz,r9,mo,cl,kQ,aq⟩:=h;obtain rfl:sz=0:=by omega
  have ak:((cs.drop q).take n).length=n:=by simp;omega
  obtain⟨s1,s2⟩:=aun st.cr q4 g5 bz mo;exact VY st aQ ay he hs o8 a' gH c6 s1 s2 r9 (akV mo) (by rw[ak];exact cl) (by rw[ak];exact kQ) aq
theorem aum {g4:aJ} {v:Value} {sz m:Nat} {L:List ab} (q4:gR I bK v g4) (ed:e0 I ag w) (h:H5 ag (sz+1) g4 m L):
  L.length=m*(sz+1)∧(m=0→∃B c2,v=.slice B 0 c2)∧(0<m→∃(b_ cy c2:Nat) (kW:List Value),v=.slice (some ⟨b_,cy,none⟩) m c2∧kW.length=m*(sz+1)∧
   (∀j u,kW[j]? =some u→w.cell? ((⟨b_,cy,none⟩:Addr).add j)=some u)∧(∀u∈kW,u.oneCell'=true)∧∀q,q<m*(sz+1)→∃u,kW[q]? =some u∧aZ I u (L.getD q .top)):=by
 unfold H5 at h;split at h
 ·rename_i ys nl tok;obtain⟨mo,rfl,rfl⟩:=h;have vh:∀q,q<ys.length→(ys.getD q .top).cells.length=sz+1:=by
   intro q aB;rw[cM,eU aB];exact(mo _ (l' aB)).1
  obtain⟨fa,s1⟩:=afZ ed q4 vh;obtain⟨f1,f2⟩:=Py (sz:=sz+1) (xs:=ys) fun y aI=>(mo y aI).1;refine⟨f1,fun aV=>fa (wv.1 aV),fun hm=> ?_⟩;obtain⟨b_,cy,c2,us,bu,k8,lR⟩:=s1 (IJ.1 hm);refine⟨b_,cy,c2,flat ys.length (sz+1) us,bu,qP _ _ _,?_,?_,?_⟩
  ·intro q u aB;obtain⟨p,r,ae,ah,rfl,rfl⟩:=Fc aB;rw[Addr.add_lit];exact k8 p r ae ah
  ·intro u hu;obtain⟨q,aB⟩:=s6 hu;obtain⟨p,r,ae,ah,rfl,rfl⟩:=Fc aB;have fW:(ys.getD p .top)∈ys:=by rw[cM,eU ae];exact l' ae
   have jk:=(mo _ fW).2;have iI:r<(ys.getD p .top).cells.length:=by rw[vh p ae];exact ah
   have QN:((ys.getD p .top).cells.getD r .top).one=true:=by
    rw[cM (l:=(ys.getD p .top).cells),eU iI];exact dI.1 jk _ (l' iI)
   exact((lR p r).one_cell QN).1
  ·intro q aB;have ei:q/(sz+1)<ys.length:=(OZ (by omega)).2 aB
   have aU:q%(sz+1)<sz+1:=wz _ (by omega)
   have FY:q/(sz+1)*(sz+1)+q%(sz+1)=q:=by rw[qH];exact I1 q (sz+1)
   refine⟨_,by rw[←FY];exact BO ei aU,?_⟩
   rw[←FY,f2 _ _ ei aU,FY];exact lR _ _
 ·rename_i b ey n c;obtain⟨cs,g5,bz,rfl,rfl,jk⟩:=h;obtain⟨vs,T,az,ao,aX,_⟩:=ed.obj b cs g5;have ar:v=.slice (some ⟨b,ey,none⟩) m c:=by
   simp only[gR]at q4;cases q4;rfl
  have BU:((cs.drop ey).take (m*(sz+1))).length=m*(sz+1):=by simp;omega
  have bM:∀q,q<m*(sz+1)→((cs.drop ey).take (m*(sz+1))).getD q .top=cs.getD (ey+q) .top:=by
   intro q aB;rw[cM,l9,if_pos aB,k4,←cM]
  have eP:((vs.toList.drop ey).take (m*(sz+1))).length=m*(sz+1):=by simp;omega
  have Zh:∀q u,((vs.toList.drop ey).take (m*(sz+1)))[q]? =some u→q<m*(sz+1)∧vs[ey+q]? =some u:=by
   intro q u aB;rw[l9]at aB;split at aB
   ·rename_i bw;rw[k4]at aB;exact⟨bw,by simpa using aB⟩
   ·cases aB
  refine⟨BU,fun aV=>⟨_,_,by rw[ar,aV]⟩,fun _=>⟨b,ey,c,(vs.toList.drop ey).take (m*(sz+1)),ar,eP,?_,?_,?_⟩⟩
  ·intro q u aB;rw[Addr.add_lit,rO az];exact(Zh q u aB).2
  ·intro u hu;obtain⟨q,aB⟩:=s6 hu;obtain⟨bw,FW⟩:=Zh q u aB;have ah:=aX (ey+q);rw[gl,FW]at ah;have U:(((cs.drop ey).take (m*(sz+1))).getD q .top).one=true:=by
    rw[cM,eU (by omega)]
    exact dI.1 jk _ (l' _)
   rw[bM q bw]at U;exact(aZ.one_cell ah U).1
  ·intro q aB;have bw:ey+q<vs.size:=by omega
   refine⟨vs[ey+q],?_,?_⟩
   ·rw[l9,if_pos aB,k4];simp[bw]
   ·rw[bM q aB];have:=aX (ey+q);rw[gl,ni bw]at this;exact this
 ·exact h.elim
theorem atb (t ty e T:TypeId) (i:TypeInfo) (aw:P.underlying t=some (.slice e)) (hi:P.info? e=some i)
  (g Ao Ud:Nat) (cur:Array Value) (av:w.heap[g]? =some (.cells cur T (0,0)))
  (a:Addr) (m c:Nat) (kW:List Value) (ak:kW.length=m*i.size) (B9:∀j u,kW[j]? =some u→w.cell? (a.add j)=some u) (U:∀u∈kW,u.oneCell'=true)
  (kQ:Ao+m≤Ud) (r5:Ao*i.size+kW.length≤cur.size):
  (Builtin.append_ #[t,t] ty #[.slice (some ⟨g,0,none⟩) Ao Ud,.slice (some a) m c]).run P w=
   .ok (.slice (some ⟨g,0,none⟩) (Ao+m) Ud) (w.setRow g (cur.toList.take (Ao*i.size)++kW++cur.toList.drop (Ao*i.size+kW.length)).toArray):=by
 have ax:=run_firstCells_some (P:=P) w i.size m a m c kW ak B9;have im:=run_storeCells_at P g (Ao*i.size) T kW 0 cur w av (by simpa using r5) U
 simp only[pN]at im;simp[Builtin.append_,run_underlying aw,sizeOf,typeInfo,hi,Builtin.lenOf,kQ,ax,Addr.add_lit,im]
theorem atJ (st:cx E I ag env bK a w) (aQ:∀x,o.dst=some x→x<E.n) {t e:TypeId} {x y:Operand} {c3 kE:aG} {sz bytes:Nat} {z:ab}
  (ay:o.op=.call {callee:=.builtin .append,args:=⟨[x,y]⟩,argTypes:=⟨[t,t]⟩}) (ad:b8 x=some c3) (aI:b8 y=some kE) (he:qs P t=some e) (hs:gC P e=some (sz+1)) (o8:qq P e=some bytes) (a':jc P e=some z)
  (gH:z.cells.length=sz+1) (h:bH P (.appendM (sz+1) e bytes c3 kE) o.dst k env ag):o.wp P a w (dz E k) Q:=by
 have c6:=st.dB ad;have q4:=st.dB aI;have aw:=HN he;obtain⟨i,cw,hi,hv,fP⟩:=vZ a';have dj:i.size=sz+1:=by
  obtain⟨hk,ei,b0⟩:=ov hs;rw[hi]at ei;cases ei;exact b0
 have uZ:i.bytes=bytes:=by
  unfold qq at o8;rw[hi]at o8;simpa using o8
 have hX:cw.cells.size=i.size:=by rw[(xL I fP).1,gH,dj]
 have hR:∀v w',(Builtin.append_ #[t,t] o.type #[a.eval x,a.eval y]).run P w=.ok v w'→(execOp a.eval o).run P w=.ok (.value v) w':=by
  intro v w' ah;simp[execOp,ay,resolve,invoke,builtin,ah]
 simp only[bH]at h;obtain⟨m,L,F2,h⟩:=h;obtain⟨uW,afU,afV⟩:=aum q4 st.cr F2;generalize a_ env c3=ex at c6 h;split at h
 case h_3=>exact h.elim
 case h_2=>
  obtain⟨cl,kQ,j1,ze⟩:=h;have hq:a.eval x=.slice none 0 0:=by
   rcases aZ.jb c6 with⟨U,_⟩|⟨_,_,_,_,_,_,U,_⟩|⟨_,_,_,U,_⟩
   ·exact U
   ·cases U
   ·cases U
  by_cases u6:m=0
  ·obtain⟨B,c2,fF⟩:=afU u6;have ah:=Ua (P:=P) o.type aw hi (A:=none) (B:=B) (c2:=c2) (b1 0) w;rw[←hq,←fF]at ah;exact eZ st aQ (hR _ _ ah) st.cr (.refl _ _ _) (e:=.val (.slice [] true none)) c6 (j1 u6)
  ·obtain⟨b_,cy,c2,kW,bu,bC,c4,eb,iX⟩:=afV (by omega)
   have ah:=run_append_nil (P:=P) w t o.type e i cw aw hi hv ⟨b_,cy,none⟩ m c2 kW (by rw[dj];exact bC) c4 (by omega) (by simp only[maxLen]at cl;omega) (by rw[uZ];omega)
   have d_:=grownCap_ge w m 0 e;have iF:=grownCap_le_maxLen w m 0 e cl;rw[←hq,←bu]at ah;generalize grownCap w m 0 e=bF at ah d_ iF;refine eZ st aQ (hR _ _ ah) (st.cr.drew.newObj e ?_ fun j=> ?_) (fC.drew.trans (fC.newObj st.cr.drew _ _)) (e:=.val (.ref w.heap.size 0 m bF)) (aZ.ref _ _ _ _ d_ iF)
    (ze (by omega) _ _ (st.cr.nv (b1 _)) d_ iF)
   ·simp only[s5,oU,iz,bC,uW,size_zeroCells,hX,dj,yM]
   ·rw[gl,cM];by_cases aa:j<m*(sz+1)
    ·rw[qG (by simpa[bC]using aa),rI,kl (by rw[uW];exact aa)]
     obtain⟨u,hu,F1⟩:=iX j aa;rw[hu,←cM];exact F1
    ·rw[km (by rw[uW];omega),List.getElem?_replicate]
     split<;>exact .top _
 rename_i b n c;obtain⟨cs,g5,ej,cl,kQ,j1,ze,FI⟩:=h;have hq:a.eval x=.slice (some ⟨b,0,none⟩) n c:=by
  generalize a.eval x=v at c6;cases c6;rfl
 have zl:n≤c∧c≤maxLen:=by
  generalize a.eval x=v at c6;cases c6 with
  |ref _ _ _ _ af hm=>exact⟨af,hm⟩
 by_cases u6:m=0
 ·obtain⟨B,c2,fF⟩:=afU u6;have ah:=Ua (P:=P) o.type aw hi (A:=some ⟨b,0,none⟩) (B:=B) (c2:=c2) zl.1 w;rw[←hq,←fF]at ah;exact eZ st aQ (hR _ _ ah) st.cr (.refl _ _ _) (e:=.val (.ref b 0 n c)) c6 (j1 u6)
 ·obtain⟨b_,cy,c2,kW,bu,bC,c4,eb,B8⟩:=afV (by omega)
  obtain⟨vs,T,az,ao,aX,_⟩:=st.cr.obj b cs g5;have avS:n*(sz+1)≤cs.length:=by rw[ej];exact l_ _ zl.1
  by_cases anf:c<n+m
  ·
   have J1:(vs.toList.take (n*(sz+1))).length=n*i.size:=by rw[dj];simp;omega
   have holds:∀j v,(vs.toList.take (n*(sz+1)))[j]? =some v→w.cell? ((⟨b,0,none⟩:Addr).add j)=some v:=by
    intro q u aB;rw[Addr.add_lit,rO az,fy];rw[l9]at aB;split at aB
    ·simpa using aB
    ·cases aB
   have ah:=run_append_grow (P:=P) w t o.type e i cw aw hi hv ⟨b,0,none⟩ n c _ J1 holds ⟨b_,cy,none⟩ m c2 kW (by rw[dj];exact bC) c4 (by omega) (by simp only[maxLen]at cl;omega) (growslice_fits (by omega) (by rw[uZ];exact kQ))
   have d_:=grownCap_ge w (n+m) c e;have iF:=grownCap_le_maxLen w (n+m) c e cl;rw[←bu,←hq]at ah;generalize grownCap w (n+m) c e=bF at ah d_ iF;have FO:(vs.toList.take (n*(sz+1))).length=n*(sz+1):=by simp;omega
   have QG:(cs.take (n*(sz+1))).length=n*(sz+1):=by simp;omega
   refine eZ st aQ (hR _ _ ah) (st.cr.drew.newObj e ?_ fun j=> ?_) (fC.drew.trans (fC.newObj st.cr.drew _ _)) (e:=.val (.ref w.heap.size 0 (n+m) bF)) (aZ.ref _ _ _ _ d_ iF)
    (ze (by omega) anf _ _ (st.cr.nv (b1 _)) d_ iF)
   ·simp only[s5,oU,iz,FO,QG,bC,uW,size_zeroCells,hX,dj,yM]
   ·have il:(vs.toList.take (n*(sz+1))).toArray.size=n*(sz+1):=by simp only[oU,FO]
    have J4:((vs.toList.take (n*(sz+1))).toArray++kW.toArray).size=n*(sz+1)+m*(sz+1):=by simp only[s5,oU,FO,bC]
    rw[gl,cM,pL];by_cases U:j<n*(sz+1)
    ·rw[Bi,qG (by omega),rI,l9,if_pos U,kl (by omega),l9,if_pos U,
      yD,←gl,←cM]
     exact aX j
    ·by_cases aa:j<n*(sz+1)+m*(sz+1)
     ·rw[qG (by omega),Bj (by omega),il,rI,km (by omega),QG,kl (by rw[uW];omega)]
      obtain⟨u,hu,F1⟩:=B8 (j-n*(sz+1)) (by omega)
      rw[hu,←cM];exact F1
     ·rw[km (by omega),QG,km (by rw[uW];omega),List.getElem?_replicate]
      split<;>exact .top _
  ·
   have bz:n+m≤c:=by omega
   have anC:(n+m)*(sz+1)≤c*(sz+1):=l_ _ bz;have r5:n*(sz+1)+m*(sz+1)≤vs.size:=by rw[←kJ];omega
   have ah:=atb (P:=P) (w:=w) t o.type e T i aw hi b n c vs az ⟨b_,cy,none⟩ m c2 kW (by rw[dj];exact bC) c4 eb bz (by rw[dj,bC];exact r5)
   rw[←bu,←hq,dj]at ah;obtain⟨s1,s2⟩:=L6 (cs:=vs) (vs:=kW.toArray) (off:=n*(sz+1)) (by simp only[oU,bC];exact r5)
   obtain⟨cc,b4⟩:=Hd (cs:=vs) (vs:=kW.toArray) (as:=cs) (bs:=L) (off:=n*(sz+1)) aX ao (fun j=>by
    rw[gl,rI];by_cases aU:j<m*(sz+1)
    ·obtain⟨u,hu,F1⟩:=B8 j aU;rw[hu];exact F1
    ·have aK:L.getD j .top=.top:=by rw[cM,kI (by rw[uW];omega)];rfl
     rw[aK];exact .top _) (by simp only[oU,bC,uW]) (by rw[←ao,uW];exact r5) ⟨s1,s2⟩
   exact eZ st aQ (hR _ _ ah) (st.cr.setObj g5 cc b4) (fC.setObj g5 _) (e:=.val (.ref b 0 (n+m) c)) (aZ.ref _ _ _ _ bz zl.2) (FI (by omega) bz)
theorem atU (st:cx E I ag env bK a w) (aQ:∀x,o.dst=some x→x<E.n) {t e:TypeId} {x:Operand} {c3:aG} {sz:Nat} {z:ab}
  (ay:o.op=.call {callee:=.builtin .clear,args:=⟨[x]⟩,argTypes:=⟨[t]⟩}) (ad:b8 x=some c3) (aw:P.underlying t=some (.slice e)) (hs:gC P e=some sz) (a':jc P e=some z)
  (gH:z.cells.length=sz) (Rr:z.cells.all ab.one=true) (h:bH P (.clearS sz z c3) o.dst k env ag):o.wp P a w (dz E k) Q:=by
 have c6:=st.dB ad;obtain⟨i,cw,hi,hv,fP⟩:=vZ a';obtain⟨hX,kS⟩:=xL I fP;have hR:∀w',(Builtin.clear_ #[t] o.type #[a.eval x]).run P w=.ok (.tuple #[]) w'→(execOp a.eval o).run P w=.ok (.value (.tuple #[])) w':=by
  intro w' ah;simp[execOp,ay,resolve,invoke,builtin,ah]
 have h8:∀J,gR J bK (.tuple #[]) (.val (.tuple [])):=fun J=>aZ.tuple _ _ rfl fun j=>by cases j<;>exact aZ.top _
 simp only[bH]at h;generalize a_ env c3=ex at c6 h;split at h
 case h_3=>exact h.elim
 ·rename_i nl tok;have ar:∃A c,a.eval x=.slice A 0 c:=by
   rcases aZ.jb c6 with⟨U,_⟩|⟨_,_,_,_,_,U,_⟩|⟨_,U,_⟩
   ·exact⟨_,_,U⟩
   ·exact⟨_,_,U⟩
   ·exact⟨_,_,U⟩
  obtain⟨A,c,ar⟩:=ar;refine eZ st aQ (hR _ ?_) st.cr (.refl _ _ _) (h8 _) h;cases A<;>simp[Builtin.clear_,ar,run_underlying aw]
 ·rename_i b q n c;obtain⟨cs,g5,bz,h⟩:=h;have ar:a.eval x=.slice (some ⟨b,q,none⟩) n c:=by
   simp only[gR]at c6;generalize a.eval x=v at c6;cases c6;rfl
  obtain⟨vs,T,az,ao,aX,_⟩:=st.cr.obj b cs g5;by_cases sg:n=0
  ·subst sg;refine eZ st aQ (hR _ ?_) st.cr (.refl _ _ _) (h8 _) ?_
   ·simp[Builtin.clear_,ar,run_underlying aw]
   ·have:ag.setObj b (ft cs q ((List.range (0*sz)).map fun q=>z.cells.getD (q%sz) .top))=ag:=by
     have aV:ft cs q ((List.range (0*sz)).map fun q=>z.cells.getD (q%sz) .top)=cs:=by simp[ft]
     rw[aV];unfold a8.setObj;have:(fun x=>bif x==b then some cs else ag.obj x)=ag.obj:=by
      funext x
      by_cases ff:x=b
      ·subst ff;simp[g5]
      ·have aj:(x==b)=false:=by simpa using ff
       rw[aj];rfl
     rw[this]
    rw[this]at h;exact h
  ·have B9:(Builtin.zeroCells cw.cells n).toList.length=n*sz:=by simp[size_zeroCells,hX,gH]
   have bM:∀j:Nat,j<n*sz→(Builtin.zeroCells cw.cells n).toList[j]? =some (cw.cells[j%sz]!):=by
    intro j aU;simp[Builtin.zeroCells,hX,gH,aU]
   have pa:∀j:Nat,j<n*sz→j%sz<cw.cells.size:=by
    intro j aU;rw[hX,gH];refine wz _ ?_;rcases uv sz with aV|aV
    ·subst aV;simp at aU
    ·exact aV
   have ik:∀j:Nat,j<n*sz→aZ I (cw.cells[j%sz]!) (z.cells.getD (j%sz) .top):=by
    intro(j:Nat) aU;have:=kS (j%sz);rw[gl,ni (pa j aU)]at this;rw[getElem!_pos cw.cells (j%sz) (pa j aU)];exact this
   have PR:∀u∈(Builtin.zeroCells cw.cells n).toList,u.oneCell'=true:=by
    intro u hu;obtain⟨j,aU⟩:=s6 hu;have bw:j<n*sz:=by have:=(hn.1 aU).1;omega
    rw[bM j bw]at aU;simp only[bk]at aU;subst aU;have aa:(z.cells.getD (j%sz) .top).one=true:=by
     have:=pa j bw;rw[hX]at this;rw[cM,eU this];exact dI.1 Rr _ (l' _)
    exact((ik j bw).one_cell aa).1
   have r5:q+(Builtin.zeroCells cw.cells n).size≤vs.size:=by rw[size_zeroCells,hX,gH];omega
   have im:=run_storeCells_at P b q T (Builtin.zeroCells cw.cells n).toList 0 vs w az (by simpa using r5) PR
   simp only[pN]at im;have ah:(Builtin.clear_ #[t] o.type #[a.eval x]).run P w=.ok (.tuple #[]) (w.setRow b (vs.toList.take q++(Builtin.zeroCells cw.cells n).toList++vs.toList.drop (q+(Builtin.zeroCells cw.cells n).toList.length)).toArray):=by
    have aoH:(zeroValue e).run P w=.ok cw w:=by simp[zeroValue,typeInfo,hi,hv]
    match n,sg with
    |n+1,_=>simp[Builtin.clear_,ar,run_underlying aw,aoH,im]
   obtain⟨s1,s2⟩:=L6 (cs:=vs) (vs:=Builtin.zeroCells cw.cells n) (off:=q) r5;obtain⟨cc,b4⟩:=Hd (cs:=vs) (vs:=Builtin.zeroCells cw.cells n) (as:=cs) (bs:=(List.range (n*sz)).map fun q=>z.cells.getD (q%sz) .top) (off:=q) aX ao (fun j=>by
    by_cases aU:j<n*sz
    ·have U:(Builtin.zeroCells cw.cells n)[j]? =some (cw.cells[j%sz]!):=by rw[←bM j aU];simp
     have aa:((List.range (n*sz)).map fun q=>z.cells.getD (q%sz) .top).getD j .top=z.cells.getD (j%sz) .top:=by
      rw[cM,ic,List.getElem?_range aU];rfl
     rw[gl,U,aa];exact ik j aU
    ·have aa:((List.range (n*sz)).map fun q=>z.cells.getD (q%sz) .top).getD j .top=.top:=by
      rw[cM,kI (by simp;omega)];rfl
     rw[aa];exact .top _) (by simp[size_zeroCells,hX,gH]) (by simp;omega) ⟨s1,s2⟩
   exact eZ st aQ (hR _ ah) (st.cr.setObj g5 cc b4) (fC.setObj g5 _) (h8 _) h
theorem atK (st:cx E I ag env bK a w) (aQ:∀x,o.dst=some x→x<E.n) {t u e:TypeId} {x y:Operand} {c3 kE:aG} {sz bytes:Nat} {z:ab} {abS:IntKind}
  (ay:o.op=.call {callee:=.builtin .append,args:=⟨[x,y]⟩,argTypes:=⟨[t,u]⟩}) (ad:b8 x=some c3) (aI:b8 y=some kE) (he:qs P t=some e) (hu:P.underlying u=some (.int abS)) (hs:gC P e=some (sz+1)) (o8:qq P e=some bytes) (a':jc P e=some z)
  (gH:z.cells.length=sz+1) (h:bH P (.appendZ (sz+1) e bytes c3 kE) o.dst k env ag):o.wp P a w (dz E k) Q:=by
 have c6:=st.dB ad;have q4:=st.dB aI;have aw:=HN he;obtain⟨i,cw,hi,hv,fP⟩:=vZ a';have dj:i.size=sz+1:=by
  obtain⟨hk,ei,b0⟩:=ov hs;rw[hi]at ei;cases ei;exact b0
 have uZ:i.bytes=bytes:=by
  unfold qq at o8;rw[hi]at o8;simpa using o8
 have hX:cw.cells.size=sz+1:=by rw[(xL I fP).1,gH]
 simp only[bH]at h;generalize a_ env c3=ex at c6 h;generalize a_ env kE=g4 at q4 h;split at h
 case h_2=>exact h.elim
 rename_i m;obtain⟨aV,amc,kQ,j1,ze⟩:=h;have hq:a.eval x=.slice none 0 0:=by
  rcases aZ.jb c6 with⟨U,_⟩|⟨_,_,_,_,_,_,U,_⟩|⟨_,_,_,U,_⟩
  ·exact U
  ·cases U
  ·cases U
 have fF:=aZ.mu q4;have hR:∀v w',(Builtin.append_ #[t,u] o.type #[a.eval x,a.eval y]).run P w=.ok v w'→(execOp a.eval o).run P w=.ok (.value v) w':=by
  intro v w' ah;simp[execOp,ay,resolve,invoke,builtin,ah]
 obtain⟨n,rfl⟩:=Int.eq_ofNat_of_zero_le aV;have amd:(n:Int)≤9223372036854775807:=amc;by_cases aK:n=0
 ·subst aK;have ah:(Builtin.append_ #[t,u] o.type #[a.eval x,a.eval y]).run P w=.ok (.slice none 0 0) w:=by
   have hw:IntKind.i64.wrap ((0:Nat):Int)=0:=rfl;simp[hq,fF,Builtin.append_,run_underlying aw,run_underlying hu,sizeOf,typeInfo,hi,asInt,asIntOf];simp[IntKind.wrap_i64]
  exact eZ st aQ (hR _ _ ah) st.cr (.refl _ _ _) (e:=.val (.slice [] true none)) aZ.qg (j1 rfl)
 ·have ah:=Lib.run_append_nil_zeros (P:=P) w t u o.type e i cw .i64 abS aw hu hi hv n (by omega) (by omega) amd (by
   rw[uZ];have:((n*bytes:Nat):Int)≤140737488355328:=by rw[Int.natCast_mul];simpa using kQ
   omega)
  rw[←hq]at ah;have ame:a.eval y=.int .i64 (n:Int):=fF;rw[←ame]at ah;have d_:=grownCap_ge w n 0 e;have iF:=grownCap_le_maxLen w n 0 e (by simp only[maxLen];omega)
  obtain⟨bx,n4⟩:=Tl st.cr (w':=w.drew.alloc (.cells (Builtin.zeroCells cw.cells n++Builtin.zeroCells cw.cells (grownCap w n 0 e-n)) e)) (b:=w.heap.size) (cap:=grownCap w n 0 e) (sz:=sz+1) (n:=0) (e:=e) (tok:=none)
   (by simp) rfl rfl rfl (fun q aB _=>jn w.drew _ (by simpa using aB)) (by rw[show w.heap.size=w.drew.heap.size from rfl,r3,if_pos rfl]) (by
    simp only[s5,size_zeroCells,hX,←kJ]
    congr 1;omega) (fv _) iF (.inl (b1 _))
  have B1:ag.jF none=ag:=by cases ag;simp[a8.jF]
  rw[B1]at bx n4;exact eZ st aQ (hR _ _ ah) bx n4 (e:=.val (.raw w.heap.size n)) (aZ.raw _ _ _ _ d_ iF (cf.PM _ _ _ _)) (by
   have:=ze (by simp;omega) w.heap.size (st.cr.nv (b1 _))
   simpa using this)
theorem atS (st:cx E I ag env bK a w) (aQ:∀x,o.dst=some x→x<E.n) {t e:TypeId} {x:Operand} {c3:aG}
  (ay:o.op=.call {callee:=.builtin .cap,args:=⟨[x]⟩,argTypes:=⟨[t]⟩}) (ad:b8 x=some c3) (aw:P.underlying t=some (.slice e)) (h:bH P (.cap c3) o.dst k env ag):o.wp P a w (dz E k) Q:=by
 have c6:=st.dB ad;simp only[bH]at h;generalize a_ env c3=ex at c6 h;split at h
 case h_2=>exact h.elim
 rename_i xs nl tok;obtain⟨A,c,hq,af,hm,eP⟩:∃A c,a.eval x=.slice A xs.length c∧xs.length≤c∧c≤maxLen∧(nl=true→c=0):=by
  rcases aZ.jb c6 with⟨U,aa,_⟩|⟨b,off,cap,_,_,U,aa,au,ba,_⟩|⟨_,U,aa,au,_⟩
  ·subst aa;exact⟨_,_,U,b1 _,fv _,fun _=>rfl⟩
  ·exact⟨_,_,U,au,ba,fun h=>by rw[aa]at h;cases h⟩
  ·subst aa;exact⟨_,_,U,b1 _,fv _,fun _=>rfl⟩
 exact eZ st aQ (v:=.int .i64 c) (by simp[execOp,ay,resolve,invoke,builtin,hq,Builtin.cap_,run_underlying aw,goInt]) st.cr (.refl _ _ _) (e:=.val (.int .i64 c)) (aZ.int _ _) (h c af hm eP)
end
end Go.bO
end
section
namespace Go.bO
open Go.RowKit Go.MapKept
section
variable {P:Program} {E:Entry} {I:cf} {ag:a8} {env:bt} {bK:Nat→Nat} {a:Act} {w:World} {o:Oper} {k:bt→a8→Prop} {Q:Exit→Act→World→Prop}
theorem age {t:TypeId} {a7:cL} (h:t' P t=some a7):(∃s,a7=.one s∧yb P t=some s)∨∃ss,a7=.row ss∧vT P t=some ss:=by
 unfold t' at h;split at h
 ·simp only[bk]at h;exact .inl ⟨_,h.symm,‹_›⟩
 ·split at h
  ·simp only[bk]at h;exact .inr ⟨_,h.symm,‹_›⟩
  ·cases h
theorem Ge {ss:List dH} {a:ab} (h:(cL.row ss).is a=true):∃cs,a=.agg cs∧gW ss cs=true:=by
 cases a<;>simp only[cL.is,lK]at h;exact⟨_,rfl,h⟩
theorem Pu {α:Type} (p:α→Bool) (x:α) (l:List α):(x::l).findIdx? p=if p x then some 0 else(l.findIdx? p).map (· +1):=by
 rw[List.findIdx?_cons]
theorem X9 {s:dH} {u:Value} {key:ab} (aq:s.is key=true) (hu:aZ I u key):∀(ms:List MapEntry) (es:List (ab × ab)) (i:Nat),jS I ms es→(∀e∈es,s.is e.1=true)→
  Instr.findNow s.desc u ms i=some ((es.findIdx? fun e=>kv key e.1).bind fun j=>(ms[j]?).map fun m=>(i+j,m.val))
 | [],[],_,_,_=>rfl
 | [],_::_,_,h,_=>by simp[jS]at h
 |_::_,[],_,h,_=>by simp[jS]at h
 |m::ms,e::es,i,h,hr=>by
  obtain⟨U,aa⟩:=Uh aq (hr e (.head _)) hu (h.2 0 m e rfl rfl).1;have aw:jS I ms es:=⟨by have:=h.1;simpa using this,fun j eI aR a b=>h.2 (j+1) eI aR (by simpa using a) (by simpa using b)⟩
  have bm:=X9 aq hu ms es (i+1) aw (fun aR he=>hr aR (.tail _ he));rw[Pu];simp only[Instr.findNow,U];cases aB:kv key e.1 with
  |true=>simp
  |false=>
   simp only[bm,lK,if_false]
   congr 1
   cases es.findIdx? (fun e=>kv key e.1)with
   |none=>rfl
   |some j=>
    simp only[nj,EC,nV];cases ms[j]? with
    |none=>rfl
    |some eI=>simp only[nj];congr 2;omega
theorem X6 {t:TypeId} {ss:List dH} (aw:vT P t=some ss) {u:Value} {key:ab} (aq:(cL.row ss).is key=true) (hu:aZ I u key) (W:World):∀(ms:List MapEntry) (es:List (ab × ab)) (i:Nat),jS I ms es→(∀e∈es,(cL.row ss).is e.1=true)→
  (Instr.findAsking t u ms i).run P W=.ok ((es.findIdx? fun e=>kv key e.1).bind fun j=>(ms[j]?).map fun m=>(i+j,m.val)) W
 | [],[],_,_,_=>rfl
 | [],_::_,_,h,_=>by simp[jS]at h
 |_::_,[],_,h,_=>by simp[jS]at h
 |m::ms,e::es,i,h,hr=>by
  obtain⟨as,rfl,au⟩:=Ge aq;obtain⟨bs,aj,ba⟩:=Ge (hr e (.head _));have ah:=(h.2 0 m e rfl rfl).1;rw[aj]at ah;have U:(Op.equal t u m.key).run P W=.ok (mN as bs) W:=XQ aw au ba hu ah 9998 W;have oq:jS I ms es:=⟨by have:=h.1;simpa using this,fun j eI aR a b=>h.2 (j+1) eI aR (by simpa using a) (by simpa using b)⟩
  have bm:=X6 aw aq hu W ms es (i+1) oq (fun aR he=>hr aR (.tail _ he));have ann:kv (.agg as) e.1=mN as bs:=by rw[aj];rfl
  rw[Pu,ann];simp only[Instr.findAsking,Sem.run_bind,U,Result.andThen_ok];cases aB:mN as bs with
  |true=>simp
  |false=>
   simp only[lK,if_false];rw[bm]
   congr 1
   cases es.findIdx? (fun e=>kv (.agg as) e.1)with
   |none=>rfl
   |some j=>
    simp only[nj,EC,nV];cases ms[j]? with
    |none=>rfl
    |some eI=>simp only[nj];congr 2;omega
theorem L7 {t:TypeId} {a7:cL} (aw:t' P t=some a7) {u:Value} {key:ab} {es:List (ab × ab)} (aq:A0 a7 key es) (hu:aZ I u key) {ms:List MapEntry} (hm:jS I ms es) (W:World):
  (Instr.findKey t u ms).run P W=.ok ((es.findIdx? fun e=>kv key e.1).bind fun j=>(ms[j]?).map fun m=>(j,m.val)) W:=by
 rcases age aw with⟨s,rfl,hs⟩|⟨ss,rfl,hs⟩
 ·have:=X9 (s:=s) aq.1 hu ms es 0 hm aq.2;simp only[fy]at this;exact run_findKey (Hv hs) this
 ·obtain⟨fs,F5,_⟩:=Ms hs;have:=X6 hs aq.1 hu W ms es 0 hm aq.2;simp only[fy]at this;rw[run_findKey_eq (w:=W) (by rw[F5])]
  exact this
theorem afe {xs:Array Value} {as:List ab} (em:Bool) (n:Nat) (ad:∀j,aZ I (xs.getD j undef) (as.getD j .top)) (sn:xs.size=as.length) (W:World):
  ∀(fs:List Field) (off:Nat) (ss:List dH) (hC:List ab),uR P fs off=some ss→as.drop off=hC→gW ss hC=true→
  (forIn (m:=Sem) fs () fun f (_:Unit)=>
   if f.name≠ "_" then do
    Instr.checkKey em (n+1) f.type (←part f.type xs f.offset)
    pure (ForInStep.yield ())
   else pure (ForInStep.yield ())).run P W=.ok () W
 | [],off,ss,hC,h,U,au=>rfl
 |f::r,off,ss,hC,h,U,au=>by
  obtain⟨s,sM,rfl,e1,aN,bL,eB⟩:=X1 h;cases hC with
  |nil=>simp[gW]at au
  |cons x hC=>
   simp only[gW,dF]at au;obtain⟨u,ia,oI⟩:=TV ad sn U;have et:=run_part_plain W (UN e1) ia;have eY:(Instr.checkKey em (n+1) f.type u).run P W=.ok () W:=run_checkKey (Hv e1) (Uh au.1 au.1 oI oI).2.1 em n;have bm:=afe em n ad sn W r (off+1) sM hC aN (by rw[←Bt,U];rfl) au.2
   rw[List.forIn_cons,Sem.run_bind,if_pos eB];simp only[Sem.run_bind,bL,et,eY,Result.andThen_ok,Sem.run_pure,bm]
theorem Am {t:TypeId} {a7:cL} (aw:t' P t=some a7) {u:Value} {key:ab} (aq:a7.is key=true) (hu:aZ I u key) (em:Bool) (W:World):(Instr.checkKey em 10000 t u).run P W=.ok () W:=by
 rcases age aw with⟨s,rfl,hs⟩|⟨ss,rfl,hs⟩
 ·exact run_checkKey (Hv hs) (Uh aq aq hu hu).2.1 em 9999
 ·obtain⟨fs,F5,ax,_⟩:=Ms hs;obtain⟨as,rfl,au⟩:=Ge aq;cases hu with
  |agg xs _ ak ah=>
   have:=afe em 9998 ah ak W fs.toList 0 ss as ax rfl au;unfold Instr.checkKey;simp only[Sem.run_bind,run_underlying F5,Result.andThen_ok];rw[←Array.forIn_toList];exact(congrArg (fun r=>r.andThen fun _ w'=>(pure ():Sem Unit).run P w') this).trans rfl
theorem zV {bp:a8} {w':World} (m:e0 I ag w) (uD:Nat→Prop) (aF:∀x,¬uD x→x<w.heap.size→w'.heap[x]? =w.heap[x]?) (hs:w.heap.size≤w'.heap.size) (af:∀x,uD x→x<w.heap.size→∃ed,ag.mp x=some ed)
  (p3:bp.obj=ag.obj) (j5:bp.cF=ag.cF) (tB:∀x ed,bp.mp x=some ed→(∀cs T eo,w'.heap[x]?≠some (.cells cs T eo))∧pF I bp.mp w' x ed∧((∃Gx,ag.mp x=some Gx)∨w.heap.size≤x)):e0 I bp w':=by
 have ik:∀(x:Nat) cs T eo,w.heap[x]? =some (Obj.cells cs T eo)→w'.heap[x]? =some (Obj.cells cs T eo):=fun x cs T eo h=>by
  by_cases ad:uD x
  ·obtain⟨ed,U⟩:=af x ad (g8 h);exact absurd h ((m.mp x ed U).2.2.1 _ _ _)
  ·exact(aF x ad (g8 h)).trans h
 refine⟨fun b o v h=> ?_,fun b n h=>eE (m.cap b n h) hs,fun b as h=> ?_,fun b n sz e h=> ?_,fun b ed h=> ?_⟩
 ·obtain⟨cs,T,eo,U,aa⟩:=m.cell b o v h;exact⟨cs,T,eo,ik _ _ _ _ U,aa⟩
 ·rw[p3]at h;obtain⟨cs,T,U,aa⟩:=m.obj b as h;exact⟨cs,T,ik _ _ _ _ U,aa⟩
 ·rw[j5]at h;obtain⟨aV,cs,cap,U,aa⟩:=m.cF b n sz e h;exact⟨by rw[p3];exact aV,cs,cap,ik _ _ _ _ U,aa⟩
 ·obtain⟨U,aa,au⟩:=tB b ed h;refine⟨?_,?_,U,aa⟩
  ·rw[p3];rcases au with⟨Gx,au⟩|au
   ·exact(m.mp b Gx au).1
   ·exact(m.nv au).1
  ·rw[j5];rcases au with⟨Gx,au⟩|au
   ·exact(m.mp b Gx au).2.1
   ·exact(m.nv au).2.1
theorem yX {bp:a8} {w':World} (uD:Nat→Prop) (aF:∀x,¬uD x→x<w.heap.size→w'.heap[x]? =w.heap[x]?) (hs:w.heap.size≤w'.heap.size) (af:∀x,uD x→x<w.heap.size→∃ed,ag.mp x=some ed)
  (p3:bp.obj=ag.obj) (j5:bp.cF=ag.cF) (tB:∀x,¬uD x→x<w.heap.size→bp.mp x=ag.mp x) (zn:w'.os=w.os) (zv:w'.tape=w.tape) (oo:w'.output=w.output):fC I ag w I bp w':=
 ⟨.refl I,hs,zn,zv,oo,fun b aj ax=>by
  have aK:¬uD b:=fun h=>by obtain⟨ed,U⟩:=af b h aj;rw[ax.2.2]at U;cases U
  exact⟨aF b aK aj,⟨by rw[p3];exact ax.1,by rw[j5];exact ax.2.1,by rw[tB b aK aj];exact ax.2.2⟩,fun _=>rfl,rfl⟩⟩
theorem pF.hK {mp CL:Nat→Option nd} {w':World} {x:Nat} {ed:nd} (h:pF I mp w x ed) (ad:w'.heap[x]? =w.heap[x]?) (hs:w.heap.size≤w'.heap.size)
  (ah:∀r es left cur,ed=.iter (some r) es left cur→w'.heap[r]? =w.heap[r]?∧(∀es',CL r≠some (.map es'))∧∀ea es' c_ bF,CL ea=some (.iter (some r) es' c_ bF)→ea=x):pF I CL w' x ed:=by
 match ed,h with
 |.map _,⟨ms,c,U,aa⟩=>exact⟨ms,c,ad.trans U,aa⟩
 |.iter none _ _ _,⟨aV,s,n,l,h⟩=>exact⟨aV,s,n,l,ad.trans h⟩
 |.iter (some r) es left cur,⟨ms,c,s,U,aa,au,ba,cb,du,_⟩=>
  obtain⟨bu,bC,c4⟩:=ah r es left cur rfl;exact⟨ms,c,s,ad.trans U,bu.trans aa,au,ba,cb,du,bC,c4⟩
 |.eL,h=>exact eE h hs
def Obj.row:Obj→Bool
 |.cells _ _ _=>true
 |_=>false
theorem qQ {r:Nat} {mA:Obj} {W:World} (h:W.heap[r]? =some mA) (aK:Obj.row mA=false:=by rfl):(getObj r).run P W=.ok mA W:=by
 simp only[getObj,Sem.run,h];cases mA<;>first|rfl|cases aK
theorem Hr {r:Nat} {mA:Obj} {W:World} (h:W.heap[r]? =some mA) (ey:Obj) (aK:Obj.row mA=false:=by rfl):(setObj r ey).run P W=.ok () {W with heap:=W.heap.setIfInBounds r ey}:=by
 simp only[setObj,Sem.run,h];cases mA<;>first|rfl|cases aK
theorem YY {r:Nat} {mA:Obj} {W:World} (h:W.heap[r]? =some mA) (ey:Obj) (x:Nat):({W with heap:=W.heap.setIfInBounds r ey}:World).heap[x]? =if x=r then some ey else W.heap[x]? :=by
 have bw:=g8 h;by_cases e:x=r
 ·subst e;simp[bw]
 ·simp[e,Ne.symm e]
theorem Sq (I:cf):jS I [] []:=⟨rfl,fun j m e h=>by simp at h⟩
theorem ach (n:Nat):oP [] n:=⟨List.Pairwise.nil,fun _ h=>by cases h⟩
theorem at7 (st:cx E I ag env bK a w) (aQ:∀x,o.dst=some x→x<E.n) {t:TypeId} (ay:o.op=.makeMap t none) (h:bH P .mmap o.dst k env ag):o.wp P a w (dz E k) Q:=by
 have ax:=st.cr.nv (b1 w.heap.size);have aF:∀x,¬(x=w.heap.size)→x<w.heap.size→(w.alloc (.map #[] 0)).heap[x]? =w.heap[x]? :=fun x _ bw=>jn w _ bw;refine eZ st aQ (v:=.map (some w.heap.size)) (w':=w.alloc (.map #[] 0)) (by simp[execOp,ay,Instr.makeMap]) (I':=I) (bp:=ag.c5 w.heap.size (.map []))
  (zV st.cr (fun x=>x=w.heap.size) aF (by simp) (fun x ad bw=>by omega) rfl rfl fun x ed ad=> ?_)
  (yX (fun x=>x=w.heap.size) aF (by simp) (fun x ad bw=>by omega) rfl rfl (fun x ad bw=> ?_) rfl rfl rfl) (e:=.val (.map (some w.heap.size))) (aZ.map _) (h _ ax)
 ·by_cases e:x=w.heap.size
  ·subst e;simp only[a8.c5,beq_self_eq_true,cond_true,bk]at ad;subst ad;have aK:(w.alloc (.map #[] 0)).heap[w.heap.size]? =some (.map #[] 0):=by rw[r3,if_pos rfl]
   exact⟨fun cs T eo af=>(by rw[aK]at af;cases af),⟨#[],0,aK,ach 0,Sq I⟩,.inr (b1 _)⟩
  ·have aj:(x==w.heap.size)=false:=by simpa using e
   simp only[a8.c5,aj,cond_false]at ad;obtain⟨_,_,c4,eb⟩:=st.cr.mp x ed ad;have bw:=eb.lt;refine⟨fun cs T eo af=>c4 cs T eo ((jn w _ bw).symm.trans af),eb.hK (jn w _ bw) (by simp) (fun r es left cur j2=> ?_),.inl ⟨ed,ad⟩⟩
   subst j2;obtain⟨ms,c,s,_,aa,_,_,_,_,ew,hW⟩:=eb;have ah:=g8 aa;have pd:(r==w.heap.size)=false:=by simp;omega
   refine⟨jn w _ ah,fun es'=>by simp only[a8.c5,pd,cond_false];exact ew es',fun ea es' c_ bF dJ=> ?_⟩
   by_cases aN:ea=w.heap.size
   ·subst aN;simp[a8.c5]at dJ
   ·have h6:(ea==w.heap.size)=false:=by simpa using aN
    simp only[a8.c5,h6,cond_false]at dJ;exact hW ea es' c_ bF dJ
 ·have aj:(x==w.heap.size)=false:=by simpa using ad
  simp only[a8.c5,aj,cond_false]
theorem at6 (st:cx E I ag env bK a w) (aQ:∀x,o.dst=some x→x<E.n) {x:Operand} {y:aG} {t cH hN:TypeId} (ay:o.op=.call {callee:=.builtin .len,args:=⟨[x]⟩,argTypes:=⟨[t]⟩}) (ad:b8 x=some y) (aw:P.underlying t=some (.map cH hN))
  (h:bH P (.mlen y) o.dst k env ag):o.wp P a w (dz E k) Q:=by
 have ar:=st.dB ad;simp only[bH]at h;generalize a_ env y=g4 at ar h;split at h
 ·have he:a.eval x=.map none:=by simp only[gR]at ar;generalize a.eval x=z at ar;cases ar;rfl
  exact eZ st aQ (v:=.int .i64 0) (by simp[execOp,ay,resolve,invoke,builtin,he,Builtin.len_,run_underlying aw,goInt]) st.cr (.refl _ _ _) (e:=.val (.int .i64 0)) (aZ.int _ _) h
 ·rename_i r;obtain⟨es,hm,h⟩:=h;have he:a.eval x=.map (some r):=by simp only[gR]at ar;generalize a.eval x=z at ar;cases ar;rfl
  obtain⟨_,_,_,ms,c,U,aa,au⟩:=st.cr.mp r _ hm;have ak:(ms.size:Int)=es.length:=by have:=au.1;simp at this;omega
  exact eZ st aQ (v:=.int .i64 es.length) (by simp[execOp,ay,resolve,invoke,builtin,he,Builtin.len_,run_underlying aw,qQ U,goInt,ak]) st.cr (.refl _ _ _) (e:=.val (.int .i64 es.length)) (aZ.int _ _) h
 ·exact h.elim
theorem xy {v:Value} {r:Option Nat} (h:aZ I v (.map r)):v=.map r:=by cases h;rfl
theorem PB {es:List (ab × ab)} {ms:List MapEntry} (hm:jS I ms es) (p:ab × ab→Bool):
  (∃j m e,es.findIdx? p=some j∧ms[j]? =some m∧es[j]? =some e∧p e=true∧es.find? p=some e∧aZ I m.key e.1∧aZ I m.val e.2)∨(es.findIdx? p=none∧es.find? p=none):=by
 cases aB:es.findIdx? p with
 |none=>
  right;refine⟨rfl,?_⟩;rw[List.findIdx?_eq_none_iff]at aB;rw[List.find?_eq_none];intro e he;simp[aB e he]
 |some j=>
  left;obtain⟨aU,U,aa⟩:=List.findIdx?_eq_some_iff_getElem.1 aB;have JT:j<ms.length:=by rw[hm.1];exact aU
  obtain⟨bu,bC⟩:=hm.2 j ms[j] es[j] (eU JT) (eU aU);refine⟨j,ms[j],es[j],rfl,eU JT,eU aU,U,?_,bu,bC⟩;rw[List.find?_eq_some_iff_getElem];exact⟨U,j,aU,rfl,fun i hi=>by simpa using aa i hi⟩
theorem at5 (st:cx E I ag env bK a w) (aQ:∀x,o.dst=some x→x<E.n) {x i:Operand} {y u:aG} {t cH hN:TypeId} {a7:cL} {z:ab} {ok:Bool} (ay:o.op=.lookup t x i ok) (ad:b8 x=some y) (hi:b8 i=some u) (aw:P.underlying t=some (.map cH hN))
  (aq:t' P cH=some a7) (a':jc P hN=some z) (h:bH P (.mget a7 z ok y u) o.dst k env ag):o.wp P a w (dz E k) Q:=by
 have ar:=st.dB ad;have hu:=st.dB hi;obtain⟨awe,cw,p7,hv,fP⟩:=vZ a';have kS:(zeroValue hN).run P w=.ok cw w:=by simp[zeroValue,typeInfo,p7,hv]
 have ZC:aZ I cw z:=CS cw z fP;have fin:∀(v:Value) (je:ab) (is:Bool),aZ I v je→(execOp a.eval o).run P w=.ok (.value (if ok then .tuple #[v,.bool is]else v)) w→k (env.set o.dst (.val (if ok then .tuple [je,.bool is]else je))) ag→o.wp P a w (dz E k) Q:=by
  intro v je is h8 b6 aq;refine eZ st aQ b6 st.cr (.refl _ _ _) (e:=.val (if ok then .tuple [je,.bool is]else je)) ?_ aq
  cases ok with
  |false=>exact h8
  |true=>
   refine aZ.tuple _ _ rfl fun j=> ?_
   match j with
   |0=>exact h8
   |1=>exact aZ.bool _
   |_+2=>exact aZ.top _
 simp only[bH]at h;generalize a_ env y=g4 at ar h;generalize a_ env u=BI at hu h;split at h
 ·rename_i key;obtain⟨kP,h⟩:=h;have he:a.eval x=.map none:=xy ar;refine fin cw z false ZC ?_ h;have kt:(Instr.findKey cH (a.eval i) []).run P w=.ok none w:=L7 aq (es:=[]) ⟨kP,fun _ h=>by cases h⟩ hu (Sq I) w
  simp[execOp,ay,he,Instr.lookup,run_underlying aw,Am aq kP hu,kt,kS]
 ·rename_i r key;obtain⟨es,hm,fB,h⟩:=h;have he:a.eval x=.map (some r):=xy ar;obtain⟨_,_,_,ms,c,U,aa,au⟩:=st.cr.mp r _ hm;have kt:=L7 aq fB hu au w;rcases PB au (fun e=>kv key e.1)with⟨j,m,e,f1,f2,f3,f4,f5,f6,f7⟩|⟨f1,f2⟩
  ·rw[f1]at kt;simp only[EC,f2,nj]at kt;have QH:ox key es=some e.2:=by simp[ox,f5]
   rw[QH]at h;refine fin m.val e.2 true f7 ?_ h;simp[execOp,ay,he,Instr.lookup,run_underlying aw,qQ U,Am aq fB.1 hu,kt]
  ·rw[f1]at kt;simp only[OH]at kt;have QH:ox key es=none:=by simp[ox,f2]
   rw[QH]at h;refine fin cw z false ZC ?_ h;simp[execOp,ay,he,Instr.lookup,run_underlying aw,qQ U,Am aq fB.1 hu,kt,kS]
 ·exact h.elim
theorem Vc (m:e0 I ag w) {r:Nat} {es es':List (ab × ab)} (hm:ag.mp r=some (.map es)) (lz:Array MapEntry) (bF:Nat) (ay:oP lz.toList bF) (ah:jS I lz.toList es'):
  e0 I (ag.c5 r (.map es')) {w with heap:=w.heap.setIfInBounds r (.map lz bF)}∧fC I ag w I (ag.c5 r (.map es')) {w with heap:=w.heap.setIfInBounds r (.map lz bF)}:=by
 obtain⟨_,_,_,ms,c,U,aa,au⟩:=m.mp r _ hm;have Y6:=YY U (.map lz bF);have aF:∀x,¬(x=r)→x<w.heap.size→({w with heap:=w.heap.setIfInBounds r (.map lz bF)}:World).heap[x]? =w.heap[x]? :=fun x ad _=>by rw[Y6,if_neg ad]
 refine⟨zV m (fun x=>x=r) aF (by simp) (fun x ad _=>by subst ad;exact⟨_,hm⟩) rfl rfl fun x ed ad=> ?_,
  yX (fun x=>x=r) aF (by simp) (fun x ad _=>by subst ad;exact⟨_,hm⟩) rfl rfl (fun x ad bw=> ?_) rfl rfl rfl⟩
 ·by_cases e:x=r
  ·subst e;simp only[a8.c5,beq_self_eq_true,cond_true,bk]at ad;subst ad;have aK:=Y6 x;rw[if_pos rfl]at aK;exact⟨fun cs T eo af=>(by rw[aK]at af;cases af),⟨lz,bF,aK,ay,ah⟩,.inl ⟨_,hm⟩⟩
  ·have aj:(x==r)=false:=by simpa using e
   simp only[a8.c5,aj,cond_false]at ad;obtain⟨_,_,c4,eb⟩:=m.mp x ed ad;have bw:=eb.lt;refine⟨fun cs T eo af=>c4 cs T eo ((aF x e bw).symm.trans af),eb.hK (aF x e bw) (by simp) (fun fl E7 left cur j2=> ?_),.inl ⟨ed,ad⟩⟩
   subst j2;obtain⟨SG,bf,s1,_,bl,_,_,_,_,ew,hW⟩:=eb;have cm:fl≠r:=by rintro rfl;exact ew es hm
   have pd:(fl==r)=false:=by simpa using cm
   refine⟨aF fl cm (g8 bl),fun n3=>by simp only[a8.c5,pd,cond_false];exact ew n3,fun ea n3 c_ c2 dJ=> ?_⟩
   by_cases aN:ea=r
   ·subst aN;simp[a8.c5]at dJ
   ·have h6:(ea==r)=false:=by simpa using aN
    simp only[a8.c5,h6,cond_false]at dJ;exact hW ea n3 c_ c2 dJ
 ·have aj:(x==r)=false:=by simpa using ad
  simp only[a8.c5,aj,cond_false]
theorem afo {s:dH} {x y:ab} {u v:Value} (ad:s.is x=true) (aI:s.is y=true) (hu:aZ I u x) (ar:aZ I v y) (he:mM x y=true) (n:Nat):Instr.sameBits n v u=true:=by
 rcases dH.cases ad with⟨rfl,b,rfl⟩|⟨q,i,rfl,rfl⟩|⟨rfl,l,rfl⟩
 ·rcases dH.cases aI with⟨_,c,rfl⟩|⟨_,_,h,_⟩|⟨h,_⟩<;>first|cases h|skip
  cases hu;cases ar;have aj:b=c:=by simpa[mM]using he
  subst aj;simp[Instr.sameBits]
 ·rcases dH.cases aI with⟨h,_⟩|⟨_,m,h,rfl⟩|⟨h,_⟩<;>first|(cases h;done)|skip
  cases h;cases hu;cases ar;have aj:i=m:=by simpa[mM]using he
  subst aj;simp[Instr.sameBits]
 ·rcases dH.cases aI with⟨h,_⟩|⟨_,_,h,_⟩|⟨_,m,rfl⟩<;>first|(cases h;done)|skip
  obtain⟨b3,rfl,U⟩:=aZ.qm hu;obtain⟨cI,rfl,aa⟩:=aZ.qm ar;have aj:l=m:=by simpa[mM]using he
  simp only[Instr.sameBits,NQ,U,aa,aj,beq_self_eq_true]
theorem afp (n:Nat):∀(ss:List dH) (as bs:List ab) (us vs:List Value),gW ss as=true→gW ss bs=true→us.length=as.length→vs.length=bs.length→(∀(j:Nat) (u:Value) (x:ab),us[j]? =some u→as[j]? =some x→aZ I u x)→
  (∀(j:Nat) (u:Value) (x:ab),vs[j]? =some u→bs[j]? =some x→aZ I u x)→mN as bs=true→((vs.zip us).all fun(x,y)=>Instr.sameBits n x y)=true
 | [],[],[],[],[],_,_,_,_,_,_,_=>rfl
 |s::ss,x::as,y::bs,u::us,v::vs,U,aa,au,ba,cb,du,ew=>by
  simp only[gW,dF]at U aa;simp only[mN,dF]at ew;have bm:=afp n ss as bs us vs U.2 aa.2 (by simpa using au) (by simpa using ba) (fun j u x a b=>cb (j+1) u x (by simpa using a) (by simpa using b)) (fun j u x a b=>du (j+1) u x (by simpa using a) (by simpa using b)) ew.2
  have af:=afo U.1 aa.1 (cb 0 u x rfl rfl) (du 0 v y rfl rfl) ew.1 n;simp only[List.zip_cons_cons,rG,af,bm,s8]
 | [],_::_,_,_,_,U,_,_,_,_,_,_=>by simp[gW]at U
 |_::_,[],_,_,_,U,_,_,_,_,_,_=>by simp[gW]at U
 | [],_,_::_,_,_,_,aa,_,_,_,_,_=>by simp[gW]at aa
 |_::_,_,[],_,_,_,aa,_,_,_,_,_=>by simp[gW]at aa
 |_,[],_,_::_,_,_,_,au,_,_,_,_=>by simp at au
 |_,_::_,_,[],_,_,_,au,_,_,_,_=>by simp at au
 |_,_,[],_,_::_,_,_,_,ba,_,_,_=>by simp at ba
 |_,_,_::_,_,[],_,_,_,ba,_,_,_=>by simp at ba
theorem aeS {cs:Array Value} {as:List ab} (ah:∀j,aZ I (cs.getD j undef) (as.getD j .top)) (j:Nat) (u:Value) (x:ab) (U:cs.toList[j]? =some u) (aa:as[j]? =some x):aZ I u x:=by
 have:=ah j;rw[cM,aa,gl]at this;rw[yD]at U;rw[U]at this;exact this
theorem apP {a7:cL} {x y:ab} {u v:Value} (ad:a7.is x=true) (aI:a7.is y=true) (hu:aZ I u x) (ar:aZ I v y) (he:kv x y=true) (W:World):(Instr.keyThatStays v u).run P W=.ok u W:=by
 have:Instr.sameBits 10000 v u=true:=by
  cases a7 with
  |one s=>
   refine afo (s:=s) ad aI hu ar ?_ 10000;rcases dH.cases ad with⟨_,b,rfl⟩|⟨q,i,_,rfl⟩|⟨_,l,rfl⟩<;>exact he
  |row ss=>
   obtain⟨as,rfl,U⟩:=Ge ad;obtain⟨bs,rfl,aa⟩:=Ge aI;cases hu with
   |agg cs _ ak ah=>
    cases ar with
    |agg ds _ xe si=>
     have a':=afp (I:=I) 9999 ss as bs cs.toList ds.toList U aa (by simpa using ak) (by simpa using xe) (aeS ah) (aeS si) he
     have cl:ds.size=cs.size:=by
      have:∀(ss:List dH) (as:List ab),gW ss as=true→as.length=ss.length:=by
       intro ss
       induction ss with
       |nil=>intro as h;cases as<;>simp_all [gW]
       |cons s ss bm=>intro as h;cases as with
        |nil=>simp[gW]at h
        |cons a as=>simp only[gW,dF]at h;simp[bm as h.2]
      have e1:=this ss as U;have aN:=this ss bs aa;omega
     show(ds.size==cs.size&&_)=true;rw[cl,beq_self_eq_true,s7];exact a'
 unfold Instr.keyThatStays;rw[if_pos this];rfl
theorem aqI {ms:Array MapEntry} {c:Nat} (h:oP ms.toList c) (j:Nat) (f:MapEntry→MapEntry) (ax:∀e,(f e).born=e.born):oP (ms.modify j f).toList c:=by
 have aj:(ms.modify j f).toList.map MapEntry.born=ms.toList.map MapEntry.born:=by
  apply Bw;intro i;simp only[ic,yD,OI];by_cases e:j=i
  ·subst e;simp only[if_true];cases ms[j]? <;>simp[ax]
  ·simp[e]
 refine⟨by rw[aj];exact h.1,fun m hm=> ?_⟩
 have:m.born∈(ms.modify j f).toList.map MapEntry.born:=Bx hm;rw[aj,eO]at this;obtain⟨eI,U,aa⟩:=this;rw[←aa];exact h.2 eI U
theorem aqJ {ms:Array MapEntry} {c:Nat} (h:oP ms.toList c) (m:MapEntry) (hm:m.born=c):oP (ms.push m).toList (c+1):=by
 rw[Array.toList_push];refine⟨?_,fun x ad=> ?_⟩
 ·rw[s9,rH];refine⟨h.1,by simp,fun x ad y aI=> ?_⟩
  obtain⟨eI,U,rfl⟩:=eO.1 ad;simp only[gM,pK,iS]at aI;rw[aI,hm];exact h.2 eI U
 ·rcases fu.1 ad with ad|ad
  ·have:=h.2 x ad;omega
  ·simp only[iS]at ad;subst ad;omega
theorem afQ (st:cx E I ag env bK a w) (aQ:∀x,o.dst=some x→x<E.n) {x i v:Operand} {y u z:aG} {t cH hN:TypeId} {a7:cL} (ay:o.op=.mapUpdate t x i v∨o.op=.insert t x i v) (ad:b8 x=some y) (hi:b8 i=some u) (ar:b8 v=some z) (aw:P.underlying t=some (.map cH hN))
  (aq:t' P cH=some a7) (h:bH P (.mset a7 y u z) o.dst k env ag):o.wp P a w (dz E k) Q:=by
 have c6:=st.dB ad;have kO:=st.dB hi;have sm:=st.dB ar;simp only[bH]at h;generalize a_ env y=g4 at c6 h;generalize a_ env u=BI at kO h;generalize a_ env z=XY at sm h;split at h
 case h_2=>exact h.elim
 rename_i r key je;obtain⟨es,hm,fB,h⟩:=h;have he:a.eval x=.map (some r):=xy c6;obtain⟨_,_,_,ms,c,U,aa,au⟩:=st.cr.mp r _ hm;have kt:=L7 aq fB kO au w;have fin:∀(lz:Array MapEntry) (bF:Nat),oP lz.toList bF→jS I lz.toList (xD key je es)→(Instr.mapUpdate t (a.eval x) (a.eval i) (a.eval v)).run P w=.ok () {w with heap:=w.heap.setIfInBounds r (.map lz bF)}→o.wp P a w (dz E k) Q:=by
  intro lz bF bu bC b6;obtain⟨eI,ai⟩:=Vc st.cr hm lz bF bu bC;refine Vo (w':= {w with heap:=w.heap.setIfInBounds r (.map lz bF)}) ?_ ⟨I,_,_,bK,st.step ai eI aQ (v:=undef) (e:=.val .top) (aZ.top _),h⟩;rcases ay with ay|ay<;>simp[execOp,ay,b6]
 rcases PB au (fun e=>kv key e.1)with⟨j,m,e,f1,f2,f3,f4,f5,f6,f7⟩|⟨f1,f2⟩
 ·rw[f1]at kt;simp only[EC,f2,nj]at kt;have im:=apP (P:=P) fB.1 (fB.2 e (lM f3)) kO f6 f4 w;have aU:j<es.length:=(hn.1 f3).1;have B6:ms[j]? =some m:=by rw[←yD];exact f2
  refine fin (ms.modify j fun e=> {e with key:=a.eval i,val:=a.eval v}) c (aqI aa _ _ fun _=>rfl) ?_ ?_
  ·have zo:xD key je es=es.set j (key,je):=by simp[xD,f1]
   rw[zo];refine⟨by simp;have:=au.1;simpa using this,fun q eI aR b3 cI=> ?_⟩
   rw[yD,OI]at b3;rw[List.getElem?_set]at cI;by_cases cE:j=q
   ·subst cE;rw[if_pos rfl,B6]at b3;rw[if_pos rfl,if_pos aU]at cI;cases b3;cases cI;exact⟨kO,sm⟩
   ·rw[if_neg cE]at b3 cI;exact au.2 q eI aR (by rw[yD];exact b3) cI
  ·simp[Instr.mapUpdate,he,run_underlying aw,qQ U,Am aq fB.1 kO,kt,B6,im,Hr U]
 ·rw[f1]at kt;simp only[OH]at kt;refine fin (ms.push {key:=a.eval i,val:=a.eval v,born:=c}) (c+1) (aqJ aa _ rfl) ?_ ?_
  ·have zo:xD key je es=es++[(key,je)]:=by simp[xD,f1]
   rw[zo,Array.toList_push];refine⟨by have:=au.1;simp at this⊢;omega,fun q eI aR b3 cI=> ?_⟩
   rw[List.getElem?_append]at b3 cI;have ak:=au.1;by_cases cE:q<ms.toList.length
   ·rw[if_pos cE]at b3;rw[if_pos (by omega)]at cI
    exact au.2 q eI aR b3 cI
   ·rw[if_neg cE]at b3;rw[if_neg (by omega)]at cI
    rw[ak]at b3;generalize q-es.length=ka at b3 cI
    match ka,b3,cI with
    |0,b3,cI=>cases b3;cases cI;exact⟨kO,sm⟩
    |_+1,b3,_=>simp at b3
  ·simp[Instr.mapUpdate,he,run_underlying aw,qQ U,Am aq fB.1 kO,kt,Hr U]
theorem XR {α:Type} (p:α→Bool):∀(l:List α) (j:Nat),l.findIdx? p=some j→l.eraseP p=l.eraseIdx j
 | [],_,h=>by simp at h
 |x::l,j,h=>by
  rw[Pu]at h;cases ae:p x with
  |true=>rw[ae]at h;simp at h;subst h;simp[ae]
  |false=>
   rw[ae]at h;simp only[lK,if_false,Option.map_eq_some_iff]at h;obtain⟨i,hi,rfl⟩:=h;simp[ae,XR p l i hi]
theorem acj {ms:List MapEntry} {es:List (ab × ab)} (h:jS I ms es) (j:Nat):jS I (ms.eraseIdx j) (es.eraseIdx j):=by
 refine⟨by rw[List.length_eraseIdx,List.length_eraseIdx,h.1],fun q m e U aa=> ?_⟩
 rw[List.getElem?_eraseIdx]at U aa;split at U
 ·rw[if_pos ‹_›]at aa;exact h.2 q m e U aa
 ·rw[if_neg ‹_›]at aa;exact h.2 (q+1) m e U aa
theorem aqH {ms:List MapEntry} {c:Nat} (h:oP ms c) (j:Nat):oP (ms.eraseIdx j) c:=
 ⟨h.1.sublist ((List.eraseIdx_sublist ms j).map _),fun m hm=>h.2 m ((List.eraseIdx_sublist ms j).subset hm)⟩
theorem at4 (st:cx E I ag env bK a w) (aQ:∀x,o.dst=some x→x<E.n) {x i:Operand} {y u:aG} {t t2 cH hN:TypeId} {a7:cL} (ay:o.op=.call {callee:=.builtin .delete,args:=⟨[x,i]⟩,argTypes:=⟨[t,t2]⟩}) (ad:b8 x=some y) (hi:b8 i=some u) (aw:P.underlying t=some (.map cH hN))
  (aq:t' P cH=some a7) (h:bH P (.mdel a7 y u) o.dst k env ag):o.wp P a w (dz E k) Q:=by
 have c6:=st.dB ad;have kO:=st.dB hi;simp only[bH]at h;generalize a_ env y=g4 at c6 h;generalize a_ env u=BI at kO h;split at h
 case h_2=>exact h.elim
 rename_i r key;obtain⟨es,hm,fB,h⟩:=h;have he:a.eval x=.map (some r):=xy c6;obtain⟨_,_,_,ms,c,U,aa,au⟩:=st.cr.mp r _ hm;have kt:=L7 aq fB kO au w;have fin:∀(lz:Array MapEntry),oP lz.toList c→jS I lz.toList (Go.bO.mdel key es)→(Builtin.delete_ #[t,t2] o.type #[a.eval x,a.eval i]).run P w=.ok (.tuple #[]) {w with heap:=w.heap.setIfInBounds r (.map lz c)}→o.wp P a w (dz E k) Q:=by
  intro lz bu bC b6;obtain⟨eI,ai⟩:=Vc st.cr hm lz c bu bC;refine eZ st aQ (v:=.tuple #[]) ?_ eI ai (e:=.val (.tuple [])) (aZ.tuple _ _ rfl fun j=> ?_) h
  ·simp[execOp,ay,resolve,invoke,builtin,b6]
  ·cases j<;>exact aZ.top _
 rcases PB au (fun e=>kv key e.1)with⟨j,m,e,f1,f2,f3,f4,f5,f6,f7⟩|⟨f1,f2⟩
 ·rw[f1]at kt;simp only[EC,f2,nj]at kt;have aU:j<ms.size:=by have:=(hn.1 f2).1;simpa using this
  have hP:(ms.eraseIdxIfInBounds j).toList=ms.toList.eraseIdx j:=by
   unfold Array.eraseIdxIfInBounds;rw[dif_pos aU];simp
  refine fin (ms.eraseIdxIfInBounds j) (by rw[hP];exact aqH aa j) ?_ ?_
  ·rw[hP];have:Go.bO.mdel key es=es.eraseIdx j:=XR _ _ _ f1;rw[this];exact acj au j
  ·simp[Builtin.delete_,he,run_underlying aw,qQ U,Am aq fB.1 kO,kt,Hr U]
 ·rw[f1]at kt;simp only[OH]at kt;have amU:Go.bO.mdel key es=es:=by
   unfold Go.bO.mdel;rw[List.eraseP_of_forall_not];intro e he;rw[List.find?_eq_none]at f2;exact f2 e he
  refine fin ms aa (by rw[amU];exact au) ?_
  simp[Builtin.delete_,he,run_underlying aw,qQ U,Am aq fB.1 kO,kt,Hr U]
theorem atT (st:cx E I ag env bK a w) (aQ:∀x,o.dst=some x→x<E.n) {x:Operand} {y:aG} {t cH hN:TypeId} (ay:o.op=.call {callee:=.builtin .clear,args:=⟨[x]⟩,argTypes:=⟨[t]⟩}) (ad:b8 x=some y) (aw:P.underlying t=some (.map cH hN))
  (h:bH P (.clearM y) o.dst k env ag):o.wp P a w (dz E k) Q:=by
 have c6:=st.dB ad;have hR:∀w',(Builtin.clear_ #[t] o.type #[a.eval x]).run P w=.ok (.tuple #[]) w'→(execOp a.eval o).run P w=.ok (.value (.tuple #[])) w':=by
  intro w' ah;simp[execOp,ay,resolve,invoke,builtin,ah]
 have h8:∀J,gR J bK (.tuple #[]) (.val (.tuple [])):=fun J=>aZ.tuple _ _ rfl fun j=>by cases j<;>exact aZ.top _
 simp only[bH]at h;generalize a_ env y=g4 at c6 h;split at h
 case h_3=>exact h.elim
 ·have he:a.eval x=.map none:=xy c6;refine eZ st aQ (hR _ ?_) st.cr (.refl _ _ _) (h8 _) h;simp[Builtin.clear_,he,run_underlying aw]
 ·rename_i r;obtain⟨es,hm,h⟩:=h;have he:a.eval x=.map (some r):=xy c6;obtain⟨_,_,_,ms,c,U,aa,au⟩:=st.cr.mp r _ hm;obtain⟨eI,ai⟩:=Vc st.cr hm (es':=[]) #[] c (ach c) (Sq I);refine eZ st aQ (hR _ ?_) eI ai (h8 _) h;simp[Builtin.clear_,he,run_underlying aw,qQ U,Hr U]
theorem atY (st:cx E I ag env bK a w) (aQ:∀x,o.dst=some x→x<E.n) {x:Operand} {y:aG} (ay:o.op=.entry x) (ad:b8 x=some y) (h:bH P (.entry y) o.dst k env ag):o.wp P a w (dz E k) Q:=by
 have ar:=st.dB ad;simp only[bH]at h;generalize a_ env y=g4 at ar h;split at h
 case h_2=>exact h.elim
 rename_i b;obtain⟨r,es,left,e,hm,h⟩:=h;have he:=aZ.vG ar;obtain⟨_,_,_,ms,c,s,U,aa,au,ba,cb,du,_⟩:=st.cr.mp b _ hm;obtain⟨awd,q,bu,bC,c4,eb⟩:=du e rfl;refine eZ st aQ (v:=.tuple #[q.key,q.val]) ?_ st.cr (.refl _ _ _) (e:=.val (.tuple [e.1,e.2])) (aZ.tuple _ _ rfl fun j=> ?_) h
 ·simp[execOp,ay,he,Instr.entry,qQ U,qQ aa,bu,bC]
 ·match j with
  |0=>exact c4
  |1=>exact eb
  |_+2=>exact aZ.top _
theorem aud (st:cx E I ag env bK a w) (aQ:∀x,o.dst=some x→x<E.n) {x:Operand} {y:aG} {t cH hN:TypeId} (ay:o.op=.range t x) (ad:b8 x=some y) (aw:P.underlying t=some (.map cH hN)) (h:bH P (.range y) o.dst k env ag):o.wp P a w (dz E k) Q:=by
 have ar:=st.dB ad;have ax:=st.cr.nv (b1 w.heap.size);simp only[bH]at h;generalize a_ env y=g4 at ar h;split at h
 ·have he:a.eval x=.map none:=xy ar;have aF:∀x,¬(x=w.heap.size)→x<w.heap.size→(w.alloc (.mapIter none 0 #[] 0)).heap[x]? =w.heap[x]? :=fun x _ bw=>jn w _ bw;refine eZ st aQ (v:=.pointer (some ⟨w.heap.size,0,none⟩)) (w':=w.alloc (.mapIter none 0 #[] 0)) (by simp[execOp,ay,he,Instr.range,run_underlying aw]) (I':=I) (bp:=ag.c5 w.heap.size (.iter none [] [] none))
   (zV st.cr (fun x=>x=w.heap.size) aF (by simp) (fun x ad bw=>by omega) rfl rfl fun x ed ad=> ?_)
   (yX (fun x=>x=w.heap.size) aF (by simp) (fun x ad bw=>by omega) rfl rfl (fun x ad bw=> ?_) rfl rfl rfl) (e:=.val (.ptr w.heap.size 0)) (aZ.ptr _ _) (h _ ax)
  ·by_cases e:x=w.heap.size
   ·subst e;simp only[a8.c5,beq_self_eq_true,cond_true,bk]at ad;subst ad;have aK:(w.alloc (.mapIter none 0 #[] 0)).heap[w.heap.size]? =some (.mapIter none 0 #[] 0):=by rw[r3,if_pos rfl]
    exact⟨fun cs T eo af=>(by rw[aK]at af;cases af),⟨rfl,_,_,_,aK⟩,.inr (b1 _)⟩
   ·have aj:(x==w.heap.size)=false:=by simpa using e
    simp only[a8.c5,aj,cond_false]at ad;obtain⟨_,_,c4,eb⟩:=st.cr.mp x ed ad;have bw:=eb.lt;refine⟨fun cs T eo af=>c4 cs T eo ((jn w _ bw).symm.trans af),eb.hK (jn w _ bw) (by simp) (fun r es left cur j2=> ?_),.inl ⟨ed,ad⟩⟩
    subst j2;obtain⟨ms,c,s,_,aa,_,_,_,_,ew,hW⟩:=eb;have ah:=g8 aa;have pd:(r==w.heap.size)=false:=by simp;omega
    refine⟨jn w _ ah,fun es'=>by simp only[a8.c5,pd,cond_false];exact ew es',fun ea es' c_ bF dJ=> ?_⟩
    by_cases aN:ea=w.heap.size
    ·subst aN;simp[a8.c5]at dJ
    ·have h6:(ea==w.heap.size)=false:=by simpa using aN
     simp only[a8.c5,h6,cond_false]at dJ;exact hW ea es' c_ bF dJ
  ·have aj:(x==w.heap.size)=false:=by simpa using ad
   simp only[a8.c5,aj,cond_false]
 ·rename_i r;obtain⟨es,hm,h⟩:=h;have he:a.eval x=.map (some r):=xy ar;obtain⟨_,_,_,ms,c,U,aa,au⟩:=st.cr.mp r _ hm;have aoc:=g8 U;have zt:r≠w.heap.size:=by omega
  have pd:(r==w.heap.size)=false:=by simpa using zt
  have aF:∀x,¬(x=w.heap.size∨x=r)→x<w.heap.size→(w.alloc (.mapIter (some r) c #[] c)).heap[x]? =w.heap[x]? :=fun x _ bw=>jn w _ bw;have af:∀x,(x=w.heap.size∨x=r)→x<w.heap.size→∃ed,ag.mp x=some ed:=fun x ad bw=>by
   rcases ad with ad|ad
   ·omega
   ·subst ad;exact⟨_,hm⟩
  have ll:∀x,x≠w.heap.size→x≠r→((ag.c5 r .eL).c5 w.heap.size (.iter (some r) es es none)).mp x=ag.mp x:=fun x e1 aN=>by
   have cp:(x==w.heap.size)=false:=by simpa using e1
   have b_:(x==r)=false:=by simpa using aN
   simp only[a8.c5,cp,b_,cond_false]
  have u9:((ag.c5 r .eL).c5 w.heap.size (.iter (some r) es es none)).mp r=some .eL:=by simp only[a8.c5,pd,cond_false,beq_self_eq_true,cond_true]
  have sf:((ag.c5 r .eL).c5 w.heap.size (.iter (some r) es es none)).mp w.heap.size=some (.iter (some r) es es none):=by simp only[a8.c5,beq_self_eq_true,cond_true]
  have zk:(w.alloc (.mapIter (some r) c #[] c)).heap[w.heap.size]? =some (.mapIter (some r) c #[] c):=by rw[r3,if_pos rfl]
  have nC:(w.alloc (.mapIter (some r) c #[] c)).heap[r]? =some (.map ms c):=(jn w _ aoc).trans U;generalize pg:(ag.c5 r .eL).c5 w.heap.size (.iter (some r) es es none)=bp at ll u9 sf;have qZ:bp.obj=ag.obj:=by rw[←pg];rfl
  have q0:bp.cF=ag.cF:=by rw[←pg];rfl
  have Cd:∀ea es' c_ bF,bp.mp ea=some (.iter (some r) es' c_ bF)→ea=w.heap.size:=fun ea es' c_ bF dJ=>by
   by_cases e1:ea=w.heap.size
   ·exact e1
   ·by_cases aN:ea=r
    ·subst aN;rw[u9]at dJ;cases dJ
    ·rw[ll ea e1 aN]at dJ;obtain⟨_,_,_,_,_,_,_,_,_,_,_,_,ew,_⟩:=st.cr.mp ea _ dJ;exact absurd hm (ew es)
  refine eZ st aQ (v:=.pointer (some ⟨w.heap.size,0,none⟩)) (w':=w.alloc (.mapIter (some r) c #[] c)) (by simp[execOp,ay,he,Instr.range,run_underlying aw,qQ U]) (I':=I) (bp:=bp)
   (zV st.cr (fun x=>x=w.heap.size∨x=r) aF (by simp) af qZ q0 fun x ed ad=> ?_)
   (yX (fun x=>x=w.heap.size∨x=r) aF (by simp) af qZ q0 (fun x ad bw=>ll x (fun e=>ad (.inl e)) (fun e=>ad (.inr e))) rfl rfl rfl) (e:=.val (.ptr w.heap.size 0)) (aZ.ptr _ _) (by rw[←pg];exact h _ ax)
  by_cases e1:x=w.heap.size
  ·subst e1;rw[sf]at ad;simp only[bk]at ad;subst ad;refine⟨fun cs T eo af=>(by rw[zk]at af;cases af),⟨ms,c,#[],zk,nC,aa,au,?_,(fun e he=>by cases he),(fun es'=>by rw[u9];simp),Cd⟩,.inr (b1 _)⟩
   have:(ms.toList.filter fun e=> !(#[]:Array Nat).contains e.born)=ms.toList:=by simp
   rw[this];exact au
  ·by_cases aN:x=r
   ·subst aN;rw[u9]at ad;simp only[bk]at ad;subst ad;exact⟨fun cs T eo af=>(by rw[nC]at af;cases af),g8 nC,.inl ⟨_,hm⟩⟩
   ·rw[ll x e1 aN]at ad;obtain⟨_,_,c4,eb⟩:=st.cr.mp x ed ad;have bw:=eb.lt;refine⟨fun cs T eo af=>c4 cs T eo ((jn w _ bw).symm.trans af),eb.hK (jn w _ bw) (by simp) (fun fl E7 left cur j2=> ?_),.inl ⟨ed,ad⟩⟩
    subst j2;obtain⟨SG,bf,s1,_,bl,_,_,_,_,ew,hW⟩:=eb;have iI:=g8 bl;have cm:fl≠r:=by rintro rfl;exact ew es hm
    refine⟨jn w _ iI,fun n3=>by rw[ll fl (by omega) cm];exact ew n3,fun ea n3 c_ c2 dJ=> ?_⟩
    by_cases bL:ea=w.heap.size
    ·subst bL;rw[sf]at dJ;cases dJ;exact absurd rfl cm
    ·by_cases eB:ea=r
     ·subst eB;rw[u9]at dJ;cases dJ
     ·rw[ll ea bL eB]at dJ;exact hW ea n3 c_ c2 dJ
 ·exact h.elim
theorem X5:∀(l:List MapEntry) (j:Nat) (e:MapEntry),(l.map MapEntry.born).Pairwise (· < ·)→l[j]? =some e→(l.filter fun x=> !(x.born==e.born))=l.eraseIdx j
 | [],j,e,_,h=>by simp at h
 |x::l,0,e,ae,h=>by
  simp only[l5,bk]at h;subst h;have c0:=kk.1 ae;rw[List.filter_cons_of_neg (by simp),List.eraseIdx_cons_zero]
  rw[List.filter_eq_self];intro y aI;have:=c0.1 y.born (Bx aI);simp;omega
 |x::l,j+1,e,ae,h=>by
  have c0:=kk.1 ae;have b0:l[j]? =some e:=by simpa using h
  have bw:=c0.1 e.born (Bx (lM b0));rw[List.filter_cons_of_pos (by simp;omega),List.eraseIdx_cons_succ,X5 l j e c0.2 b0]
theorem alr {ms:List MapEntry} {c:Nat} (h:oP ms c) (seen:Array Nat) {j:Nat} {e:MapEntry} (aU:(ms.filter fun x=> !seen.contains x.born)[j]? =some e):
  (ms.filter fun x=> !(seen.push e.born).contains x.born)=(ms.filter fun x=> !seen.contains x.born).eraseIdx j:=by
 rw[←X5 _ j e (h.1.sublist (List.filter_sublist.map _)) aU,List.filter_filter]
 congr 1
 funext x
 simp only[Array.contains_push,Bool.not_or,Bool.and_comm]
theorem at9 (st:cx E I ag env bK a w) (aQ:∀x,o.dst=some x→x<E.n) {x:Operand} {y:aG} (ay:o.op=.next x false) (ad:b8 x=some y) (h:bH P (.next y) o.dst k env ag):o.wp P a w (dz E k) Q:=by
 have ar:=st.dB ad;simp only[bH]at h;generalize a_ env y=g4 at ar h;split at h
 case h_2=>exact h.elim
 rename_i b;obtain⟨aq7,es,left,cur,hm,lk,Zk,zu⟩:=h;have he:=aZ.vG ar;have oh:=st.cr.mp b _ hm;have BZ:=oh.2.2.2.lt;cases aq7 with
 |none=>
  obtain⟨_,_,c4,tx,s,n,l,U⟩:=oh;have h:=Zk tx;have aF:∀x,¬(x=b)→x<w.heap.size→w.heap[x]? =w.heap[x]? :=fun _ _ _=>rfl;refine eZ st aQ (v:=.tuple #[.bool false]) (w':=w) (by simp[execOp,ay,he,Instr.next,qQ U]) (I':=I) (bp:=ag.c5 b .eL)
   (zV st.cr (fun x=>x=b) aF (b1 _) (fun x ad _=>by subst ad;exact⟨_,hm⟩) rfl rfl fun x ed ad=> ?_)
   (yX (fun x=>x=b) aF (b1 _) (fun x ad _=>by subst ad;exact⟨_,hm⟩) rfl rfl (fun x ad bw=> ?_) rfl rfl rfl) (e:=.val (.tuple [.bool false])) (aZ.tuple _ _ rfl fun j=> ?_) h
  ·by_cases e:x=b
   ·subst e;simp only[a8.c5,beq_self_eq_true,cond_true,bk]at ad;subst ad;exact⟨c4,BZ,.inl ⟨_,hm⟩⟩
   ·have aj:(x==b)=false:=by simpa using e
    simp only[a8.c5,aj,cond_false]at ad;obtain⟨_,_,bS,cP⟩:=st.cr.mp x ed ad;refine⟨bS,cP.hK rfl (b1 _) (fun r es left cur j2=> ?_),.inl ⟨ed,ad⟩⟩;subst j2;obtain⟨ms,c,s,_,aa,_,_,_,_,ew,hW⟩:=cP;refine⟨rfl,fun es' af=> ?_,fun ea es' c_ bF dJ=> ?_⟩
    ·by_cases bL:r=b
     ·subst bL;simp[a8.c5]at af
     ·have amB:(r==b)=false:=by simpa using bL
      simp only[a8.c5,amB,cond_false]at af;exact ew es' af
    ·by_cases aN:ea=b
     ·subst aN;simp[a8.c5]at dJ
     ·have h6:(ea==b)=false:=by simpa using aN
      simp only[a8.c5,h6,cond_false]at dJ;exact hW ea es' c_ bF dJ
  ·have aj:(x==b)=false:=by simpa using ad
   simp only[a8.c5,aj,cond_false]
  ·match j with
   |0=>exact aZ.bool _
   |_+1=>exact aZ.top _
 |some r=>
  obtain⟨_,_,c4,ms,c,s,U,aa,au,ba,cb,du,ew,hW⟩:=oh;have pY:b≠r:=by rintro rfl;rw[U]at aa;cases aa
  have amG:(b==r)=false:=by simpa using pY
  have avU:(r==b)=false:=by simpa using pY.symm
  rcases run_next_at (P:=P) w o.type b r c c s ms c U aa au.2 (b1 _)with⟨z0,b6⟩|⟨e,fW,hc,Cg,b6⟩
  ·have lX:left=[]:=by
    have:=cb.1;have cE:(ms.toList.filter fun e=> !s.contains e.born).length=0:=by
     rw[leftOf,←OK,Array.toList_filter]at z0;exact z0
    rw[cE]at this;exact wv.1 this.symm
   have h:=Zk lX;have JY:=lk r rfl;have ll:∀x,x≠b→x≠r→((ag.c5 b .eL).c5 r (.map es)).mp x=ag.mp x:=fun x e1 aN=>by
    have cp:(x==b)=false:=by simpa using e1
    have b_:(x==r)=false:=by simpa using aN
    simp only[a8.c5,cp,b_,cond_false]
   have u9:((ag.c5 b .eL).c5 r (.map es)).mp r=some (.map es):=by simp only[a8.c5,beq_self_eq_true,cond_true]
   have sf:((ag.c5 b .eL).c5 r (.map es)).mp b=some .eL:=by simp only[a8.c5,amG,cond_false,beq_self_eq_true,cond_true]
   have af:∀x,(x=b∨x=r)→x<w.heap.size→∃ed,ag.mp x=some ed:=fun x ad _=>by
    rcases ad with ad|ad
    ·subst ad;exact⟨_,hm⟩
    ·subst ad;exact⟨_,JY⟩
   have aF:∀x,¬(x=b∨x=r)→x<w.heap.size→w.heap[x]? =w.heap[x]? :=fun _ _ _=>rfl;generalize pg:(ag.c5 b .eL).c5 r (.map es)=bp at ll u9 sf;have qZ:bp.obj=ag.obj:=by rw[←pg];rfl
   have q0:bp.cF=ag.cF:=by rw[←pg];rfl
   refine eZ st aQ (v:=.tuple #[.bool false]) (w':=w) (by simp[execOp,ay,he,b6]) (I':=I) (bp:=bp)
    (zV st.cr (fun x=>x=b∨x=r) aF (b1 _) af qZ q0 fun x ed ad=> ?_)
    (yX (fun x=>x=b∨x=r) aF (b1 _) af qZ q0 (fun x ad bw=>ll x (fun e=>ad (.inl e)) (fun e=>ad (.inr e))) rfl rfl rfl) (e:=.val (.tuple [.bool false])) (aZ.tuple _ _ rfl fun j=> ?_) (by rw[←pg];exact h)
   ·by_cases e1:x=b
    ·subst e1;rw[sf]at ad;simp only[bk]at ad;subst ad;exact⟨c4,BZ,.inl ⟨_,hm⟩⟩
    ·by_cases aN:x=r
     ·subst aN;rw[u9]at ad;simp only[bk]at ad;subst ad;exact⟨fun cs T eo af=>(by rw[aa]at af;cases af),⟨ms,c,aa,au,ba⟩,.inl ⟨_,JY⟩⟩
     ·rw[ll x e1 aN]at ad;obtain⟨_,_,bS,cP⟩:=st.cr.mp x ed ad;refine⟨bS,cP.hK rfl (b1 _) (fun fl E7 R2 Om j2=> ?_),.inl ⟨ed,ad⟩⟩;subst j2;obtain⟨SG,bf,s1,_,bl,_,_,_,_,GX,Tr⟩:=cP;have cm:fl≠r:=by rintro rfl;exact e1 (hW x E7 R2 Om ad)
      have zk:fl≠b:=by rintro rfl;rw[U]at bl;cases bl
      refine⟨rfl,fun n3=>by rw[ll fl zk cm];exact GX n3,fun ea n3 c_ c2 dJ=> ?_⟩
      by_cases bL:ea=b
      ·subst bL;rw[sf]at dJ;cases dJ
      ·by_cases eB:ea=r
       ·subst eB;rw[u9]at dJ;cases dJ
       ·rw[ll ea bL eB]at dJ;exact Tr ea n3 c_ c2 dJ
   ·match j with
    |0=>exact aZ.bool _
    |_+1=>exact aZ.top _
  ·have Zf:e∈ms.toList.filter fun x=> !s.contains x.born:=by rw[leftOf,Array.toList_filter]at fW;exact fW
   obtain⟨j,aU⟩:=s6 Zf;have sa:j<left.length:=by rw[←cb.1];exact(hn.1 aU).1
   have tz:left[j]? =some left[j]:=eU sa;obtain⟨cc,b4⟩:=cb.2 j e left[j] aU tz;have h:=zu j left[j] tz;have ll:∀x,x≠b→(ag.c5 b (.iter (some r) es (left.eraseIdx j) (some left[j]))).mp x=ag.mp x:=fun x e1=>by
    have cp:(x==b)=false:=by simpa using e1
    simp only[a8.c5,cp,cond_false]
   have sf:(ag.c5 b (.iter (some r) es (left.eraseIdx j) (some left[j]))).mp b=some (.iter (some r) es (left.eraseIdx j) (some left[j])):=by simp only[a8.c5,beq_self_eq_true,cond_true]
   generalize pg:ag.c5 b (.iter (some r) es (left.eraseIdx j) (some left[j]))=bp at ll sf h;have qZ:bp.obj=ag.obj:=by rw[←pg];rfl
   have q0:bp.cF=ag.cF:=by rw[←pg];rfl
   have hw:hc.heap=w.heap∧hc.os=w.os∧hc.tape=w.tape∧hc.output=w.output:=by rcases Cg with rfl|rfl<;>exact⟨rfl,rfl,rfl,rfl⟩
   have w3:hc.heap[b]? =some (.mapIter (some r) c s c):=by rw[hw.1];exact U
   have bM:∀x,(Go.ChangeMaps.setBlock hc b (.mapIter (some r) c (s.push e.born) c)).heap[x]? =if x=b then some (.mapIter (some r) c (s.push e.born) c)else w.heap[x]? :=fun x=>by
    have:=YY w3 (.mapIter (some r) c (s.push e.born) c) x;rw[hw.1]at this;simpa[Go.ChangeMaps.setBlock,hw.1]using this
   have dj:(Go.ChangeMaps.setBlock hc b (.mapIter (some r) c (s.push e.born) c)).heap.size=w.heap.size:=by simp[Go.ChangeMaps.setBlock,hw.1]
   have aF:∀x,¬(x=b)→x<w.heap.size→(Go.ChangeMaps.setBlock hc b (.mapIter (some r) c (s.push e.born) c)).heap[x]? =w.heap[x]? :=fun x ad _=>by rw[bM,if_neg ad]
   refine eZ st aQ (v:=.tuple #[.bool true,e.key,e.val]) (w':=Go.ChangeMaps.setBlock hc b (.mapIter (some r) c (s.push e.born) c)) (by simp[execOp,ay,he,b6]) (I':=I) (bp:=bp)
    (zV st.cr (fun x=>x=b) aF (by omega) (fun x ad _=>by subst ad;exact⟨_,hm⟩) qZ q0 fun x ed ad=> ?_)
    (yX (fun x=>x=b) aF (by omega) (fun x ad _=>by subst ad;exact⟨_,hm⟩) qZ q0 (fun x ad bw=>ll x ad) (by simp[Go.ChangeMaps.setBlock,hw.2.1]) (by simp[Go.ChangeMaps.setBlock,hw.2.2.1]) (by simp[Go.ChangeMaps.setBlock,hw.2.2.2]))
    (e:=.val (.tuple [.bool true,left[j].1,left[j].2])) (aZ.tuple _ _ rfl fun i=> ?_) h
   ·by_cases e1:x=b
    ·subst e1;rw[sf]at ad;simp only[bk]at ad;subst ad;have aK:=bM x;rw[if_pos rfl]at aK;have nC:=bM r;rw[if_neg pY.symm]at nC;refine⟨fun cs T eo af=>(by rw[aK]at af;cases af),⟨ms,c,s.push e.born,aK,nC.trans aa,au,ba,?_,fun aR iG=> ?_,fun es'=>by rw[ll r pY.symm];exact ew es',fun ea es' c_ bF dJ=> ?_⟩,.inl ⟨_,hm⟩⟩
     ·rw[alr au s aU];exact acj cb j
     ·cases iG;refine⟨e.born,e,by simp,?_,cc,b4⟩
      have j3:(ms.toList.map (·.born)).Nodup:=au.1.imp fun h=>Nat.ne_of_lt h;rw[←Array.find?_toList];exact find_born e ms.toList j3 (ma.1 Zf).1
     ·by_cases bL:ea=x
      ·exact bL
      ·rw[ll ea bL]at dJ;exact hW ea es' c_ bF dJ
    ·rw[ll x e1]at ad;obtain⟨_,_,bS,cP⟩:=st.cr.mp x ed ad;have bw:=cP.lt;refine⟨fun cs T eo af=>bS cs T eo ((aF x e1 bw).symm.trans af),cP.hK (aF x e1 bw) (by omega) (fun fl E7 R2 Om j2=> ?_),.inl ⟨ed,ad⟩⟩
     subst j2;obtain⟨SG,bf,s1,_,bl,_,_,_,_,GX,Tr⟩:=cP;have cm:fl≠r:=by rintro rfl;exact e1 (hW x E7 R2 Om ad)
     have zk:fl≠b:=by rintro rfl;rw[U]at bl;cases bl
     refine⟨aF fl zk (g8 bl),fun n3=>by rw[ll fl zk];exact GX n3,fun ea n3 c_ c2 dJ=> ?_⟩
     by_cases bL:ea=b
     ·subst bL;rw[sf]at dJ;cases dJ;exact absurd rfl cm
     ·rw[ll ea bL]at dJ;exact Tr ea n3 c_ c2 dJ
   ·match i with
    |0=>exact aZ.bool _
    |1=>exact cc
    |2=>exact b4
    |_+3=>exact aZ.top _
end
end Go.bO
end
