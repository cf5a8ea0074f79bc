/-
  A WALKER OF CODE IN SMALL, part 7: what a walker's state says of slots and objects; new variables.
-/
import Derived.Test.YthjhmfhmejlenaaGreatSX4
set_option linter.unusedSectionVars false
set_option linter.unusedVariables false
set_option linter.unusedSimpArgs false
section
namespace Go.bO.cK
structure dS where
 V:aO
 G:Nat→cR
 eT:Nat→Prop
structure gj (E:dS):Prop where
 g:E.V.g≤E.V.n
 MC:∀i,E.eT i→E.V.g≤i
 DU:∀g i j,E.G g=.tok i j→i<E.V.n∧(E.eT i→E.eT g)
 out:∀i,E.V.n≤i→E.G i=.no
def dv:ab→Option Nat
 |.slice _ _ t=>t
 |.ref g _ _ _=>some g
 |_=>none
def lx:ab→Option Nat
 |.ptr i _=>some i
 |.map r=>r
 |_=>none
def yr (T:bG) (G:Nat→cR) (V:aO) (B:Int→Prop) (sz e n g:Nat):Prop:=
 ∃cs,V.at g=.row sz cs∧n*sz≤cs.length∧(∀(j:Nat) (t:bb) (a:ab),(iT (T.E (hT e)))[j%sz]? =some t→cs[j]? =some a→bR T.D G t a)∧∀(j:Nat) (a:ab),j%sz=0→cs[j]? =some a→B (intOf a)
def mI (R:cj) (e:Nat) (x:Int):Prop:=∀b,gJ e=b+1→x≤intOf (R b)
def qw (V:aO) (i e:Nat) (x:Int):Prop:=∀k cs d,gJ e=k+1→V.at i=.obj cs→cs[k]? =some d→x≤intOf d
def ahl (T:bG) (E:dS) (G:Nat→cR) (V:aO) (B:Int→Prop) (sz e:Nat) (a:ab):Prop:=gr e=true∧∃g n,a=.ref g 0 n 1∧yr T G V B sz e n g∧G g=.no∧(E.V.n≤g∨E.eT g)∧g<V.n
def ahm (E:dS) (G:Nat→cR) (V:aO) (sz e:Nat) (a:ab):Prop:=gr e=false∧∃xs nl g,a=.slice xs nl (some g)∧V.at g=.cF xs.length sz e∧G g=.no∧(E.V.n≤g∨E.eT g)∧g<V.n
def mK (T:bG) (E:dS) (G:Nat→cR) (V:aO) (B:Int→Prop) (sz e:Nat) (a:ab):Prop:=a=.slice [] true none∨ahm E G V sz e a∨ahl T E G V B sz e a
def ahn (T:bG) (G:Nat→cR) (V:aO) (sz e i j:Nat) (a:ab):Prop:=gr e=true∧∃g n,a=.ref g 0 n 1∧yr T G V (qw V i e) sz e n g∧G g=.tok i j∧g<V.n
def aho (G:Nat→cR) (V:aO) (sz e i j:Nat) (a:ab):Prop:=gr e=false∧∃xs nl g,a=.slice xs nl (some g)∧V.at g=.cF xs.length sz e∧G g=.tok i j∧g<V.n
def ki (T:bG) (G:Nat→cR) (V:aO) (sz e i j:Nat) (a:ab):Prop:=a=.slice [] true none∨aho G V sz e i j a∨ahn T G V sz e i j a
def Vx (T:bG) (G:Nat→cR) (V:aO) (X:Nat→Nat→Prop) (i j:Nat) (t:bb) (a:ab):Prop:=
 bR T.D G (l0 t) a∧∀cn sz e lo hi,t=.own cn sz e lo hi→¬X i j→ki T G V sz e i j a
def qy (es:List (ab × ab)):Prop:=es.Pairwise fun a b=>∀k k' n,a.1=.int k n→b.1≠.int k' n
def we (T:bG) (G:Nat→cR) (V:aO) (X:Nat→Nat→Prop) (i:Nat):pD→Prop
 |.none=>False
 |.row sz k n=>∃cs,V.at i=.row sz cs∧n*sz≤cs.length∧∀(j:Nat) (t:bb) (a:ab),(iT (T.D k))[j%sz]? =some t→cs[j]? =some a→bR T.D G t a
 |.obj ts=>∃cs,V.at i=.obj cs∧ts.length=cs.length∧∀(j:Nat) (t:bb) (a:ab),ts[j]? =some t→cs[j]? =some a→Vx T G V X i j t a
 |.map a7 t cH=>∃ko es,V.at i=.map ko es∧((∀k',ko=some k'→k'=a7)∧qy es)∧∀e∈es,bR T.D G t e.2∧bR T.D G cH e.1
theorem yr.e6 {T:bG} {G G':Nat→cR} {V V':aO} {B D4:Int→Prop} {sz e n g:Nat} (h:yr T G V B sz e n g) (bM:V'.at g=V.at g) (fG:∀t a,bR T.D G t a→bR T.D G' t a) (fF:∀x,B x→D4 x):yr T G' V' D4 sz e n g:=by
 obtain⟨cs,U,aa,au,ba⟩:=h;exact⟨cs,by rw[bM];exact U,aa,fun j t a aw aA=>fG _ _ (au j t a aw aA),fun j a aU aA=>fF _ (ba j a aU aA)⟩
theorem yr.row {T:bG} {G:Nat→cR} {V:aO} {B:Int→Prop} {sz e n g:Nat} (h:yr T G V B sz e n g):∃cs,V.at g=.row sz cs:=let⟨cs,U,_⟩:=h;⟨cs,U⟩
theorem mK.tok {T:bG} {E:dS} {G:Nat→cR} {V:aO} {B:Int→Prop} {sz e g:Nat} {a:ab} (h:mK T E G V B sz e a) (aw:dv a=some g):G g=.no∧(E.V.n≤g∨E.eT g)∧g<V.n∧((∃n z w,V.at g=.cF n z w)∨∃z cs,V.at g=.row z cs):=by
 rcases h with rfl|⟨_,xs,nl,eH,rfl,U,aa,au,ba⟩|⟨_,eH,n,rfl,U,aa,au,ba⟩
 ·cases aw
 ·simp only[dv,bk]at aw;subst aw;exact⟨aa,au,ba,.inl ⟨_,_,_,U⟩⟩
 ·simp only[dv,bk]at aw;subst aw;exact⟨aa,au,ba,.inr ⟨sz,U.row⟩⟩
theorem ki.tok {T:bG} {G:Nat→cR} {V:aO} {sz e i j g:Nat} {a:ab} (h:ki T G V sz e i j a) (aw:dv a=some g):G g=.tok i j∧g<V.n∧((∃n z w,V.at g=.cF n z w)∨∃z cs,V.at g=.row z cs):=by
 rcases h with rfl|⟨_,xs,nl,eH,rfl,U,aa,au⟩|⟨_,eH,n,rfl,U,aa,au⟩
 ·cases aw
 ·simp only[dv,bk]at aw;subst aw;exact⟨aa,au,.inl ⟨_,_,_,U⟩⟩
 ·simp only[dv,bk]at aw;subst aw;exact⟨aa,au,.inr ⟨sz,U.row⟩⟩
theorem mK.e6 {T:bG} {E E':dS} {G G':Nat→cR} {V V':aO} {B D4:Int→Prop} {sz e:Nat} {a:ab} (h:mK T E G V B sz e a) (bM:∀g,dv a=some g→V'.at g=V.at g) (y6:∀g,dv a=some g→G' g=.no) (aK:V.n≤V'.n)
  (aC:∀g,dv a=some g→(E.V.n≤g∨E.eT g)→E'.V.n≤g∨E'.eT g) (fG:∀t a,bR T.D G t a→bR T.D G' t a) (fF:∀x,B x→D4 x):mK T E' G' V' D4 sz e a:=by
 rcases h with rfl|⟨aV,xs,nl,eH,rfl,U,aa,au,ba⟩|⟨aV,eH,n,rfl,U,aa,au,ba⟩
 ·exact .inl rfl
 ·exact .inr (.inl ⟨aV,xs,nl,eH,rfl,by rw[bM _ rfl];exact U,y6 _ rfl,aC _ rfl au,eE ba aK⟩)
 ·exact .inr (.inr ⟨aV,eH,n,rfl,U.e6 (bM _ rfl) fG fF,y6 _ rfl,aC _ rfl au,eE ba aK⟩)
theorem ki.e6 {T:bG} {G G':Nat→cR} {V V':aO} {sz e i j hk Ct:Nat} {a:ab} (h:ki T G V sz e i j a) (bM:∀g,dv a=some g→V'.at g=V.at g) (y6:∀g,dv a=some g→G' g=.tok hk Ct) (aK:V.n≤V'.n)
  (fG:∀t a,bR T.D G t a→bR T.D G' t a) (fF:∀x,qw V i e x→qw V' hk e x):ki T G' V' sz e hk Ct a:=by
 rcases h with rfl|⟨aV,xs,nl,eH,rfl,U,aa,au⟩|⟨aV,eH,n,rfl,U,aa,au⟩
 ·exact .inl rfl
 ·exact .inr (.inl ⟨aV,xs,nl,eH,rfl,by rw[bM _ rfl];exact U,y6 _ rfl,eE au aK⟩)
 ·exact .inr (.inr ⟨aV,eH,n,rfl,U.e6 (bM _ rfl) fG fF,y6 _ rfl,eE au aK⟩)
theorem s' {V V':aO} {i e:Nat} {x:Int} (bM:V'.at i=V.at i) (h:qw V i e x):qw V' i e x:=fun k cs d U aa au=>h k cs d U (by rw[←bM];exact aa) au
def l4 (R:cj) (l:List (Nat × Nat)) (i j:Nat):Prop:=∃p∈l,R p.1=.ptr i 0∧p.2=j
structure pE (W:aH):Prop where
 ge:∀l∈W.ge,l.bh W.aD=true
 da:∀f∈W.da,f.bh W.aD=true
 cC:∀p∈W.cC,p.1<W.aD∧p.2.bh W.aD=true
 cells:∀p∈W.cells,p.1<W.aD∧p.2.2.bh W.aD=true
 live:∀p∈W.live,p.1<W.aD
 cA:∀p∈W.cA,p.1<W.aD
 wr:∀v∈W.wr,v<W.aD
 b2:∀p∈W.b2,cls W.aD p.2=true
 op:∀p∈W.op,p.1<W.aD∧cls W.aD p.2=true
 lt:∀p,W.lt=some p→p.1<W.aD∧p.2.1<W.aD∧∀q,p.2.2=some q→q.1.bh W.aD=true∧q.2.bh W.aD=true
 gz:∀p∈W.live,gJ p.2.2≤W.aD
 rd:∀p,W.rd=some p→p.1<W.aD∧p.2.2.1.bh W.aD=true∧p.2.2.2.bh W.aD=true
def ahr (R:cj) (V:aO) (p:Nat × Nat × bn × al):Prop:=p.2.1<1000000000∧∃n:Nat,p.2.2.1.ai R=n∧p.2.1=(gm p.2.2.2).length∧
 ((∃g m c cs,R p.1=.ref g 0 m c∧n<m∧g<V.n∧V.at g=.row p.2.1 cs∧∀j,j<p.2.1→cs[n*p.2.1+j]? =(aM R (gm p.2.2.2))[j]?)∨∃xs nl tok x,R p.1=.slice xs nl tok∧xs[n]? =some x∧x.cells=aM R (gm p.2.2.2))
def rD (R:cj) (V:aO) (v:Nat) (k:IntKind) (n:Int) (a:ab):Prop:=(R v=.map none∧a=.map none)∨∃m ko es,R v=.map (some m)∧m<V.n∧V.at m=.map ko es∧(ky (.int k n) es).getD (.map none)=a
def H4 (R:cj) (V:aO) (p:Nat × Nat × bn × al):Prop:=ahr R V p∨∃k,p.2.1=ow k∧rD R V p.1 k (p.2.2.1.ai R) (p.2.2.2.ai R)
def qz (R:cj) (lt:Option (Nat × Nat × Option (al × al))) (i:Nat):Prop:=∃p,lt=some p∧R p.1=.map (some i)
structure M4 (T:bG) (E:dS) (G:Nat→cR) (V:aO) (m i:Nat) (ko:Option cL) (es left:List (ab × ab)) (cur:Option (ab × ab)) (c:Nat) (a7:cL) (t cH:bb):Prop where
 av:G m=.cls c
 aq:T.K c=.map a7 t cH
 hm:V.at m=.eL
 hi:V.at i=.iter m ko es left cur
 gf:G i=.no
 bw:i<V.n
 lW:(∀k',ko=some k'→k'=a7)∧qy es
 hr:∀e∈es,bR T.D G t e.2∧bR T.D G cH e.1
 ak:(∀e∈left,e∈es)∧left.length≤es.length
 hw:E.V.n≤m∨E.eT m
 nA:m<V.n
structure ahk (G:Nat→cR) (V:aO) (i:Nat):Prop where
 hi:V.at i=.q5
 gf:G i=.no
 bw:i<V.n
def yq (T:bG) (E:dS) (R:cj) (G:Nat→cR) (V:aO) (p:Nat × Nat × Option (al × al)):Prop:=
 (∃m i ko es left cur c a7 t cH,R p.1=.map (some m)∧R p.2.1=.ptr i 0∧M4 T E G V m i ko es left cur c a7 t cH∧∀q,p.2.2=some q→cur=some (q.1.ai R,q.2.ai R)∧(q.1.ai R).plain=true)∨∃i,R p.1=.ptr i 0∧R p.2.1=.ptr i 0∧p.2.2=none∧ahk G V i
def m0 (o:eA):Prop:=o=.eL∨(∃m ko es l c,o=.iter m ko es l c)∨o=.q5
theorem yq.e6 {T:bG} {E:dS} {R aL:cj} {G G':Nat→cR} {V V':aO} {p:Nat × Nat × Option (al × al)} (h:yq T E R G V p) (ah:aL p.1=R p.1∧aL p.2.1=R p.2.1∧∀q,p.2.2=some q→q.1.ai aL=q.1.ai R∧q.2.ai aL=q.2.ai R) (aK:V.n≤V'.n) (w6:∀x,x<V.n→m0 (V.at x)→V'.at x=V.at x)
  (y6:∀x c,G x=.cls c→G' x=.cls c) (w5:∀x,x<V.n→m0 (V.at x)→G x=.no→G' x=.no) (fG:∀t a,bR T.D G t a→bR T.D G' t a):yq T E aL G' V' p:=by
 obtain⟨zs,si,Zr⟩:=ah;rcases h with⟨m,i,ko,es,left,cur,c,a7,t,cH,U,aa,au,ba⟩|⟨i,U,aa,aV,au⟩
 ·have b3:=w6 m au.nA (by rw[au.hm];exact .inl rfl)
  have cI:=w6 i au.bw (by rw[au.hi];exact .inr (.inl ⟨_,_,_,_,_,rfl⟩))
  exact .inl ⟨m,i,ko,es,left,cur,c,a7,t,cH,by rw[zs];exact U,by rw[si];exact aa,⟨y6 m c au.av,au.aq,by rw[b3];exact au.hm,by rw[cI];exact au.hi,
   w5 i au.bw (by rw[au.hi];exact .inr (.inl ⟨_,_,_,_,_,rfl⟩)) au.gf,eE au.bw aK,au.lW,fun e he=>⟨fG _ _ (au.hr e he).1,fG _ _ (au.hr e he).2⟩,au.ak,au.hw,eE au.nA aK⟩,
   fun q aB=>by rw[(Zr q aB).1,(Zr q aB).2];exact ba q aB⟩
 ·have cI:=w6 i au.bw (by rw[au.hi];exact .inr (.inr rfl))
  exact .inr ⟨i,by rw[zs];exact U,by rw[si];exact aa,aV,by rw[cI];exact au.hi,w5 i au.bw (by rw[au.hi];exact .inr (.inr rfl)) au.gf,eE au.bw aK⟩
def D6 (T:bG) (E:dS) (i c:Nat) (cs:List ab):Prop:=eu T (hY c) [.agg cs]∧(i<E.V.n→∀cd,E.V.at i=.obj cd→eu T (iu c) [.agg cd,.agg cs])
structure ahi (T:bG) (E:dS) (R:cj) (G:Nat→cR) (op:List (Nat × List al)) (V:aO):Prop where
 own:∀p∈op,∃i c,R p.1=.ptr i 0∧G i=.cls c
 ok:∀i c cs,G i=.cls c→T.kept c=true→V.at i=.obj cs→((∀p∈op,R p.1≠.ptr i 0)→D6 T E i c cs)∧∀p∈op,R p.1=.ptr i 0→D6 T E i c (aM R p.2)
structure sX (T:bG) (E:dS) (R:cj) (G:Nat→cR) (W:aH) (V:aO):Prop where
 wf:∀i c,G i=.cls c→i<V.n∧(¬qz R W.lt i→we T G V (l4 R W.cA) i (T.K c))
 cells:∀p∈W.cells,∃i cs c,R p.1=.ptr i 0∧V.at i=.obj cs∧cs[p.2.1]? =some (p.2.2.ai R)∧G i=.cls c
 live:∀p∈W.live,mK T E G V (mI R p.2.2) p.2.1 p.2.2 (R p.1)
 gw:W.live.Pairwise fun p q=>∀g,dv (R p.1)=some g→dv (R q.1)≠some g
 wr:∀v∈W.wr,∀i,lx (R v)=some i→E.V.n≤i∨E.eT i
 M:∀c∈W.M,ku T c=false→∀i,E.G i=.cls c→E.eT i
 out:∀i,V.n≤i→G i=.no
 n:E.V.n≤V.n
 g:V.g=E.V.g
 f':∀i,i<E.V.n→¬E.eT i→V.at i=E.V.at i∧G i=E.G i
 cls:∀i,i<E.V.n→∀c,(G i=.cls c→ku T c=false→E.G i=.cls c)∧(E.G i=.cls c→G i=.cls c)
 tok:∀g,g<E.V.n→∀i j,G g=.tok i j→E.G g=.tok i j∨E.eT g
 fQ:∀g i j,G g=.tok i j→i<V.n
 hi:ahi T E R G W.op V
 lt:∀p,W.lt=some p→yq T E R G V p
 rd:∀p,W.rd=some p→H4 R V p
structure aW (T:bG) (E:dS) (R:cj) (G:Nat→cR) (W:aH) (V:aO):Prop where
 ok:Ok T G R W
 aT:pE W
 aE:sX T E R G W V
variable {T:bG} {E:dS} {R aL:cj} {G:Nat→cR} {W:aH} {V:aO}
theorem LS {p:Nat × Nat × bn × al} (h:W.rd=none):W.rd≠some p:=by rw[h];intro h;cases h
theorem NO {n e:Nat} (aA:hy n R aL) (aK:gJ e≤n) {x:Int} (h:mI R e x):mI aL e x:=fun b aj=>by rw[←aA b (by omega)];exact h b aj
theorem asM {n:Nat} (aA:hy n R aL) {p:Nat × Nat × bn × al} (U:p.1<n) (aa:p.2.2.1.bh n=true) (au:p.2.2.2.bh n=true) (h:H4 R V p):H4 aL V p:=by
 have af:cls n (gm p.2.2.2)=true:=by
  unfold gm rz;generalize p.2.2.2=s at au;cases s<;>first|exact au|(simp only[cls,au,wE];done)|skip
  rename_i a;cases a<;>first|(simp only[cls,al.bh,wE];done)|skip
  rename_i l;show cls n (ks l)=true
  induction l with
  |nil=>rfl
  |cons a l bm=>simp only[ks,cls,al.bh,s7];exact bm rfl
 rcases h with⟨apH,m,az,jo,ao⟩|⟨k,e1,aN⟩
 ·refine .inl ⟨apH,m,by rw[←jK aA aa];exact az,jo,?_⟩
  rw[←aA _ U,←qp aA _ af];exact ao
 ·refine .inr ⟨k,e1,?_⟩;unfold rD at aN⊢;rw[←aA _ U,←jK aA aa,←qo aA _ au];exact aN
theorem KK {i:Nat} (h:W.lt=none):¬qz R W.lt i:=by rintro⟨p,ae,_⟩;rw[h]at ae;cases ae
theorem sX.obj (h:sX T E R G W V) {i c:Nat} (av:G i=.cls c) (aq:∀a7 t cH,T.K c≠.map a7 t cH):i<V.n∧we T G V (l4 R W.cA) i (T.K c):=by
 obtain⟨U,aa⟩:=h.wf i c av;refine⟨U,aa ?_⟩;rintro⟨p,ae,hm⟩;rcases h.lt p ae with⟨m,j,ko,es,left,cur,bF,a7,t,cH,bg,bl,bS,_⟩|⟨j,bg,_⟩
 case inr=>rw[bg]at hm;cases hm
 rw[bg]at hm;cases hm;have:=bS.av;rw[av]at this;cases this;exact aq _ _ _ bS.aq
theorem sX.agree (h:sX T E R G W V) (af:pE W) (aA:hy W.aD R aL):sX T E aL G W V where
 wf i c hi:=by
  obtain⟨U,aa⟩:=h.wf i c hi;have:l4 R W.cA=l4 aL W.cA:=by
   funext i j
   apply propext;constructor
   ·rintro⟨p,ae,U,aa⟩;exact⟨p,ae,by rw[←aA _ (af.cA p ae)];exact U,aa⟩
   ·rintro⟨p,ae,U,aa⟩;exact⟨p,ae,by rw[aA _ (af.cA p ae)];exact U,aa⟩
  rw[←this];exact⟨U,fun ak=>aa fun⟨p,bg,bl⟩=>ak ⟨p,bg,by rw[←aA _ (af.lt p bg).1];exact bl⟩⟩
 cells p ae:=by
  obtain⟨i,cs,c,U,aa,au,ba⟩:=h.cells p ae;obtain⟨az,ao⟩:=af.cells p ae;exact⟨i,cs,c,by rw[←aA _ az];exact U,aa,by rw[←qo aA _ ao];exact au,ba⟩
 live p ae:=by rw[←aA _ (af.live p ae)];exact(h.live p ae).e6 (fun _ _=>rfl) (fun g av=>((h.live p ae).tok av).1) (b1 _) (fun _ _ h=>h) (fun _ _ h=>h) (fun x ad=>NO aA (af.gz p ae) ad)
 gw:=by
  refine h.gw.imp_of_mem fun {p q} ae aB h=> ?_;rw[←aA _ (af.live p ae),←aA _ (af.live q aB)];exact h
 wr v ar:=by rw[←aA _ (af.wr v ar)];exact h.wr v ar
 M:=h.M
 out:=h.out
 n:=h.n
 g:=h.g
 f':=h.f'
 cls:=h.cls
 tok:=h.tok
 fQ:=h.fQ
 hi:=by
  refine⟨fun p ae=> ?_,fun i c cs U aa au=> ?_⟩
  ·rw[←aA _ (af.op p ae).1];exact h.hi.own p ae
  ·obtain⟨az,ao⟩:=h.hi.ok i c cs U aa au;refine⟨fun aK=>az fun p ae=>by rw[aA _ (af.op p ae).1];exact aK p ae,fun p ae he=> ?_⟩
   rw[←qp aA _ (af.op p ae).2];exact ao p ae (by rw[aA _ (af.op p ae).1];exact he)
 lt p ae:=(h.lt p ae).e6 ⟨(aA _ (af.lt p ae).1).symm,(aA _ (af.lt p ae).2.1).symm,fun q aB=>⟨(qo aA _ ((af.lt p ae).2.2 q aB).1).symm,(qo aA _ ((af.lt p ae).2.2 q aB).2).symm⟩⟩ (b1 _) (fun _ _ _=>rfl) (fun _ _ h=>h) (fun _ _ _ h=>h) (fun _ _ h=>h)
 rd p ae:=asM aA (af.rd p ae).1 (af.rd p ae).2.1 (af.rd p ae).2.2 (h.rd p ae)
theorem pE.more {W':aH} (h:pE W) (aK:W.aD≤W'.aD) (U:W'.ge=W.ge) (aa:W'.da=W.da) (au:W'.cC=W.cC) (ba:W'.cells=W.cells) (cb:W'.live=W.live) (du:W'.cA=W.cA) (ew:W'.wr=W.wr) (hW:W'.b2=W.b2) (Fm:W'.op=W.op) (PO:W'.lt=W.lt) (PQ:W'.rd=W.rd):pE W' where
 ge l ak:=jC aK (h.ge l (U▸ak))
 da l ak:=R8 aK (h.da l (aa▸ak))
 cC p ae:=let⟨a,b⟩:=h.cC p (au▸ae);⟨eE a aK,jC aK b⟩
 cells p ae:=let⟨a,b⟩:=h.cells p (ba▸ae);⟨eE a aK,k1 aK _ b⟩
 live p ae:=eE (h.live p (cb▸ae)) aK
 cA p ae:=eE (h.cA p (du▸ae)) aK
 wr p ae:=eE (h.wr p (ew▸ae)) aK
 b2 p ae:=mE aK _ (h.b2 p (hW▸ae))
 op p ae:=let⟨a,b⟩:=h.op p (Fm▸ae);⟨eE a aK,mE aK _ b⟩
 lt p ae:=let⟨a,b,c⟩:=h.lt p (PO▸ae);⟨eE a aK,eE b aK,fun q aB=>⟨k1 aK _ (c q aB).1,k1 aK _ (c q aB).2⟩⟩
 gz p ae:=fp (h.gz p (cb▸ae)) aK
 rd p ae:=let⟨a,b,c⟩:=h.rd p (PQ▸ae);⟨eE a aK,jC aK b,k1 aK _ c⟩
def hK (R:cj) (n:Nat) (a:ab):cj:=fun v=>if v=n then a else R v
theorem pB (R:cj) (n:Nat) (a:ab):hy n R (hK R n a):=fun v ar=>by simp only[hK];rw[if_neg (by omega)]
theorem gK (R:cj) (n:Nat) (a:ab):hK R n a n=a:=by simp[hK]
theorem Ok.agree (h:Ok T G R W) (af:pE W) (aA:hy W.aD R aL):Ok T G aL W where
 ty v:=by
  rcases lJ v W.aD with ar|ar
  ·rw[←aA v ar];exact h.ty v
  ·rw[h.top v ar];exact .any _
 top:=h.top
 ge l ak:=by rw[←jK aA (af.ge l ak)];exact h.ge l ak
 da f ax:=by rw[←ab' aA (af.da f ax)];exact h.da f ax
 cC p ae:=by
  obtain⟨U,aa⟩:=af.cC p ae;rw[←aA _ U,←jK aA aa];exact h.cC p ae
 b2 p ae:=by rw[←qp aA _ (af.b2 p ae)];exact h.b2 p ae
theorem aW.agree (h:aW T E R G W V) (aA:hy W.aD R aL):aW T E aL G W V:=⟨h.ok.agree h.aT aA,h.aT,h.aE.agree h.aT aA⟩
theorem aW.push (h:aW T E R G W V) {t:bb} {a:ab} (aw:bR T.D G t a):aW T E (hK R W.aD a) G (W.push t) V:=by
 have aA:=pB R W.aD a;have aq:=h.agree aA;have bz:W.aD≤(W.push t).aD:=hA _;refine⟨⟨fun v=> ?_,fun v ar=> ?_,aq.ok.ge,aq.ok.da,aq.ok.cC,aq.ok.b2⟩,h.aT.more bz rfl rfl rfl rfl rfl rfl rfl rfl rfl rfl rfl,?_⟩
 ·rw[MH];by_cases he:W.aD=v
  ·subst he;rw[if_pos rfl,gK];exact aw
  ·rw[if_neg he];exact aq.ok.ty v
 ·rw[MH,if_neg (by have:W.aD+1≤v:=ar;omega)]
  exact h.ok.top v (fp bz ar)
 ·have hs:=aq.aE;exact⟨hs.wf,hs.cells,hs.live,hs.gw,hs.wr,hs.M,hs.out,hs.n,hs.g,hs.f',hs.cls,hs.tok,hs.fQ,hs.hi,hs.lt,hs.rd⟩
structure dk (R:cj) (W:aH) (aL:cj) (W':aH):Prop where
 n:W.aD≤W'.aD
 dq:hy W.aD R aL
theorem dk.refl (R:cj) (W:aH):dk R W R W:=⟨b1 _,.refl _ _⟩
theorem dk.trans {v8:cj} {W' A1:aH} (h:dk R W aL W') (k:dk aL W' v8 A1):dk R W v8 A1:=⟨fp h.n k.n,h.dq.trans k.dq h.n⟩
theorem dk.ai {W':aH} (h:dk R W aL W') {s:al} (hs:s.bh W.aD=true):s.ai aL=s.ai R∧s.bh W'.aD=true:=⟨(qo h.dq s hs).symm,k1 h.n s hs⟩
theorem dk.aM {W':aH} (h:dk R W aL W') {l:List al} (hs:cls W.aD l=true):cK.aM aL l=cK.aM R l∧cls W'.aD l=true:=⟨(qp h.dq l hs).symm,mE h.n l hs⟩
theorem p' (R:cj) (W:aH) (t:bb) (a:ab):dk R W (hK R W.aD a) (W.push t):=⟨hA _,pB _ _ _⟩
theorem gp {v n:Nat} (h:v<n):Nat.blt v n=true:=by rw[kK];exact decide_eq_true h
theorem ps (W:aH) (t:bb):W.aD<(W.push t).aD:=gT _
mutual
theorem mQ:∀(t:bb) {R:cj} {W:aH} (_:aW T E R G W V) {a:ab} {s:al} {W':aH},bR T.D G t a→cW W t=(s,W')→
  ∃aL,dk R W aL W'∧aW T E aL G W' V∧s.ai aL=a∧s.bh W'.aD=true
 |.agg l,R,W,h,a,s,W',aA,he=>by
  cases aA with
  |agg _ cs ak ad=>
   simp only[cW]at he;cases ax:e3 W l with
   |mk ss W1=>
    rw[ax]at he;cases he;obtain⟨aL,az,ao,aX,bD⟩:=Fg l h ak ad ax;exact⟨aL,az,ao,by simp only[al.ai,aX],bD⟩
 |.eN l,R,W,h,a,s,W',aA,he=>by
  cases aA with
  |eN _ cs ak ad=>
   simp only[cW]at he;cases ax:e3 W l with
   |mk ss W1=>
    rw[ax]at he;cases he;obtain⟨aL,az,ao,aX,bD⟩:=Fg l h ak ad ax;exact⟨aL,az,ao,by simp only[al.ai,aX],bD⟩
 |.int k lo hi,R,W,h,a,s,W',aA,he=>by
  simp only[cW]at he;cases he;have aV:=aA;cases aA with
  |int _ _ _ n U aa=>
   exact⟨_,p' _ _ _ _,h.push aV,by simp only[al.ai,yW,At.ai,gK,intOf],by simp only[al.bh];exact Bp (gp (ps W _))⟩
 |.gn k,R,W,h,a,s,W',aA,he=>by
  simp only[cW]at he;cases he;have aV:=aA;cases aA with
  |gn _ n=>
   exact⟨_,p' _ _ _ _,h.push aV,by simp only[al.ai,yW,At.ai,gK,intOf],by simp only[al.bh];exact Bp (gp (ps W _))⟩
 |.bool,R,W,h,a,s,W',aA,he=>by
  simp only[cW]at he;cases he;have aV:=aA;cases aA with
  |bool b=>exact⟨_,p' _ _ _ _,h.push aV,by simp[al.ai,Lit.ai,gK,Ex],gp (ps W _)⟩
 |.own _ _ _ _ _,R,W,h,a,s,W',aA,he=>by cases aA
 |.any,R,W,h,a,s,W',aA,he=>by simp only[cW]at he;cases he;exact⟨_,p' _ _ _ _,h.push aA,gK _ _ _,gp (ps W _)⟩
 |.str _,R,W,h,a,s,W',aA,he=>by simp only[cW]at he;cases he;exact⟨_,p' _ _ _ _,h.push aA,gK _ _ _,gp (ps W _)⟩
 |.bN _ _ _,R,W,h,a,s,W',aA,he=>by simp only[cW]at he;cases he;exact⟨_,p' _ _ _ _,h.push aA,gK _ _ _,gp (ps W _)⟩
 |.ptr _ _,R,W,h,a,s,W',aA,he=>by simp only[cW]at he;cases he;exact⟨_,p' _ _ _ _,h.push aA,gK _ _ _,gp (ps W _)⟩
 |.map _ _,R,W,h,a,s,W',aA,he=>by simp only[cW]at he;cases he;exact⟨_,p' _ _ _ _,h.push aA,gK _ _ _,gp (ps W _)⟩
 |.e4 _ _,R,W,h,a,s,W',aA,he=>by simp only[cW]at he;cases he;exact⟨_,p' _ _ _ _,h.push aA,gK _ _ _,gp (ps W _)⟩
 |.fn _ _,R,W,h,a,s,W',aA,he=>by simp only[cW]at he;cases he;exact⟨_,p' _ _ _ _,h.push aA,gK _ _ _,gp (ps W _)⟩
 |.aS _,R,W,h,a,s,W',aA,he=>by simp only[cW]at he;cases he;cases aA;exact⟨R,.refl _ _,h,rfl,rfl⟩
 |.jL _,R,W,h,a,s,W',aA,he=>by simp only[cW]at he;cases he;exact⟨_,p' _ _ _ _,h.push aA,gK _ _ _,gp (ps W _)⟩
 |.rv _ _,R,W,h,a,s,W',aA,he=>by simp only[cW]at he;cases he;exact⟨_,p' _ _ _ _,h.push aA,gK _ _ _,gp (ps W _)⟩
 |.rs _ _ _,R,W,h,a,s,W',aA,he=>by simp only[cW]at he;cases he;exact⟨_,p' _ _ _ _,h.push aA,gK _ _ _,gp (ps W _)⟩
theorem Fg:∀(l:List bb) {R:cj} {W:aH} (_:aW T E R G W V) {cs:List ab} {ss:List al} {W':aH},l.length=cs.length→(∀(j:Nat) (t:bb) (c:ab),l[j]? =some t→cs[j]? =some c→bR T.D G t c)→
  e3 W l=(ss,W')→∃aL,dk R W aL W'∧aW T E aL G W' V∧aM aL ss=cs∧cls W'.aD ss=true
 | [],R,W,h,cs,ss,W',ak,ad,he=>by
  simp only[e3]at he;cases he;cases cs with
  |nil=>exact⟨R,.refl _ _,h,rfl,rfl⟩
  |cons c cs=>cases ak
 |t::l,R,W,h,cs,ss,W',ak,ad,he=>by
  cases cs with
  |nil=>cases ak
  |cons c cs=>
   simp only[e3]at he;cases ax:cW W t with
   |mk s W1=>
    rw[ax]at he;simp only at he;cases av:e3 W1 l with
    |mk Uy cD=>
     rw[av]at he;cases he;obtain⟨dM,az,ao,aX,bD⟩:=mQ t h (ad 0 t c rfl rfl) ax;obtain⟨dQ,bd,bx,bT,dp⟩:=Fg l ao (by simpa using ak) (fun j t c aw af=>ad (j+1) t c (by simpa using aw) (by simpa using af)) av
     obtain⟨b',ct⟩:=bd.ai bD;exact⟨dQ,az.trans bd,bx,by simp only[aM,b',aX,bT],by simp only[cls,ct,dp];rfl⟩
end
theorem xZ {t:bb} {sz e lo hi:Nat}:l0 (.own t sz e lo hi)=bif gr e then .rv lo hi else .bN t lo hi:=rfl
theorem Ff (h:aW T E R G W V) {t:bb} {sz e lo hi:Nat} {a:ab} {s:al} {W':aH} (aw:bR T.D G (l0 (.own t sz e lo hi)) a) (ak:mK T E G V (mI R e) sz e a) (oe:gJ e≤W.aD)
  (aQ:∀p∈W.live,∀g,dv a=some g→dv (R p.1)≠some g) (he:cW W (.own t sz e lo hi)=(s,W')):
  s=.x W.aD∧W'= {W.push (l0 (.own t sz e lo hi))with live:=(W.aD,sz,e)::W.live}∧dk R W (hK R W.aD a) W'∧aW T E (hK R W.aD a) G W' V∧hK R W.aD a W.aD=a:=by
 simp only[cW]at he;cases he;have ae:=h.push aw;have aA:=pB R W.aD a;refine⟨rfl,rfl,⟨hA _,aA⟩,⟨⟨ae.ok.ty,ae.ok.top,ae.ok.ge,ae.ok.da,ae.ok.cC,ae.ok.b2⟩,⟨ae.aT.ge,ae.aT.da,ae.aT.cC,ae.aT.cells,fun p c0=> ?_,ae.aT.cA,ae.aT.wr,ae.aT.b2,ae.aT.op,ae.aT.lt,fun p c0=> ?_,ae.aT.rd⟩,
  ⟨ae.aE.wf,ae.aE.cells,fun p c0=> ?_,?_,ae.aE.wr,ae.aE.M,ae.aE.out,ae.aE.n,ae.aE.g,ae.aE.f',ae.aE.cls,ae.aE.tok,ae.aE.fQ,ae.aE.hi,ae.aE.lt,ae.aE.rd⟩⟩,gK _ _ _⟩
 ·rcases cu.1 c0 with rfl|c0
  ·exact gT _
  ·exact ae.aT.live p c0
 ·rcases cu.1 c0 with rfl|c0
  ·exact II oe
  ·exact ae.aT.gz p c0
 ·rcases cu.1 c0 with rfl|c0
  ·simp only[gK];exact ak.e6 (fun _ _=>rfl) (fun g av=>(ak.tok av).1) (b1 _) (fun _ _ h=>h) (fun _ _ h=>h) (fun x ad=>NO aA oe ad)
  ·exact ae.aE.live p c0
 ·refine kk.2 ⟨fun p c0 g av=> ?_,ae.aE.gw⟩;simp only[gK]at av;have:=aQ p c0 g av;rw[←aA _ (h.aT.live p c0)];exact this
def cZ (R:cj):fx→aJ→Prop
 |.val s,e=>e=.val (s.ai R)
 |.box l,e=>e=.box (aM R l)
 |.gZ s o,e=>e=.b7 s o
 |.un,_=>True
 |.kc v sz l o,e=>∃n:Nat,l.ai R=n∧o<sz∧((∃g m c,R v=.ref g 0 m c∧n<m∧e=.val (.ptr g (n*sz+o)))∨∃xs nl tok x,R v=.slice xs nl tok∧xs[n]? =some x∧x.cells.length=sz∧x.cells.all ab.one=true∧e=.val (.dK (x.cells.drop o)))
def fx.bh (n:Nat):fx→Bool
 |.val s=>s.bh n
 |.box l=>cK.cls n l
 |.kc v _ l _=>Nat.blt v n&&l.bh n
 |_=>true
structure ch (R:cj) (n:Nat) (se:bE) (env:aP):Prop where
 mf:∀s,cZ R (ee se s) (c7 env s)
 bh:∀s,(ee se s).bh n=true
theorem cZ.agree {n:Nat} (aA:hy n R aL) {x:fx} {e:aJ} (h:cZ R x e) (af:x.bh n=true):cZ aL x e:=by
 cases x with
 |val s=>simp only[cZ]at h⊢;rw[h,qo aA s af]
 |box l=>simp only[cZ]at h⊢;rw[h,qp aA l af]
 |gZ s o=>exact h
 |un=>trivial
 |kc v sz l o=>
  obtain⟨bf,c2⟩:=a6 af;simp only[cZ]at h⊢;rw[←aA v (e9 bf),←jK aA c2];exact h
theorem fx.mono {n m:Nat} (bz:n≤m) {x:fx} (h:x.bh n=true):x.bh m=true:=by
 cases x with
 |val s=>exact k1 bz s h
 |box l=>exact mE bz l h
 |gZ s o=>rfl
 |un=>rfl
 |kc v sz l o=>
  obtain⟨bf,c2⟩:=a6 h;simp only[fx.bh,Ev bz bf,s7];exact jC bz c2
theorem ch.later {se:bE} {env:aP} {W':aH} (h:ch R W.aD se env) (ak:dk R W aL W'):ch aL W'.aD se env:=
 ⟨fun s=>(h.mf s).agree ak.dq (h.bh s),fun s=>fx.mono ak.n (h.bh s)⟩
theorem ch.put {n:Nat} {se:bE} {env:aP} (h:ch R n se env) (s:Nat) {x:fx} {e:aJ} (ad:cZ R x e) (af:x.bh n=true):ch R n (oE se s x) (wV env s e):=by
 refine⟨fun t=> ?_,fun t=> ?_⟩
 ·rw[vN,I8];by_cases he:s=t
  ·rw[if_pos he,if_pos he];exact ad
  ·rw[if_neg he,if_neg he];exact h.mf t
 ·rw[vN];by_cases he:s=t
  ·rw[if_pos he];exact af
  ·rw[if_neg he];exact h.bh t
theorem ch.set {n:Nat} {se:bE} {env:aP} (h:ch R n se env) (d:Option Nat) {x:fx} {e:aJ} (ad:cZ R x e) (af:x.bh n=true):ch R n (jN d x se) (dc d e env):=by
 cases d with
 |none=>exact h
 |some s=>exact h.put s ad af
theorem mg {n:Nat} {se:bE} {env:aP} (h:ch R n se env) (x:aG):cZ R (jj se x) (bV x env)∧(jj se x).bh n=true:=by
 cases x with
 |const a=>exact⟨rfl,rfl⟩
 |tmp t=>
  have U:=h.mf t;have aa:=h.bh t;simp only[jj];show cZ R _ (O8 t (c7 env t))∧_;generalize ee se t=x at U aa;cases x with
  |val s=>simp only[cZ]at U;rw[U];exact⟨rfl,aa⟩
  |box l=>simp only[cZ]at U;rw[U];exact⟨rfl,rfl⟩
  |gZ s o=>simp only[cZ]at U;rw[U];exact⟨rfl,rfl⟩
  |un=>exact⟨trivial,rfl⟩
  |kc v sz l o=>
   refine⟨?_,aa⟩;simp only[cZ]at U⊢;obtain⟨n,az,ao,aX⟩:=U;refine⟨n,az,ao,?_⟩;rcases aX with⟨g,m,c,aX,bD,c8⟩|⟨xs,nl,tok,x,aX,bD,c8,sr,e'⟩
   ·exact .inl ⟨g,m,c,aX,bD,by rw[c8];rfl⟩
   ·exact .inr ⟨xs,nl,tok,x,aX,bD,c8,sr,by rw[e'];rfl⟩
theorem fM {n:Nat} {se:bE} {env:aP} (h:ch R n se env) {x:aG} {s:al} (ad:dZ se x=some s):bV x env=.val (s.ai R)∧s.bh n=true:=by
 have U:=mg h x;unfold dZ at ad;cases he:jj se x with
 |val t=>rw[he]at ad U;cases ad;exact U
 |box l=>rw[he]at ad;cases ad
 |gZ s o=>rw[he]at ad;cases ad
 |un=>rw[he]at ad;cases ad
 |kc v sz l o=>rw[he]at ad;cases ad
theorem uO {n:Nat} {se:bE} {env:aP} (h:ch R n se env):∀{l:List aG} {ss:List al},rV se l=some ss→kM l env=some (aM R ss)∧cK.cls n ss=true
 | [],ss,ak=>by cases ak;exact⟨rfl,rfl⟩
 |x::l,ss,ak=>by
  simp only[rV]at ak;split at ak
  ·rename_i s r hs ah;cases ak;obtain⟨U,aa⟩:=fM h hs;obtain⟨au,ba⟩:=uO h ah;refine⟨?_,by simp only[cK.cls,aa,ba];rfl⟩
   show Pj (kM l) env (bV x env)=_;rw[U];show wN _ (kM l env)=_;rw[au];rfl
  ·cases ak
theorem R1 (W:aH) (f:Lit):(h0 W f).aD=W.aD∧(h0 W f).cells=W.cells∧(h0 W f).live=W.live∧(h0 W f).cA=W.cA∧(h0 W f).wr=W.wr∧(h0 W f).M=W.M∧(h0 W f).cC=W.cC∧(h0 W f).b2=W.b2∧(h0 W f).op=W.op∧(h0 W f).lt=W.lt∧(h0 W f).rd=W.rd:=by
 cases f with
 |eq l p=>
  cases p with
  |true=>exact⟨rfl,rfl,rfl,rfl,rfl,rfl,rfl,rfl,rfl,rfl,rfl⟩
  |false=>
   simp only[h0];cases asks uJ W l with
   |true=>exact⟨rfl,rfl,rfl,rfl,rfl,rfl,rfl,rfl,rfl,rfl,rfl⟩
   |false=>cases asks uJ W l.neg<;>exact⟨rfl,rfl,rfl,rfl,rfl,rfl,rfl,rfl,rfl,rfl,rfl⟩
 |_=>exact⟨rfl,rfl,rfl,rfl,rfl,rfl,rfl,rfl,rfl,rfl,rfl⟩
theorem ab4 (h:pE W) {f:Lit} (ax:f.bh W.aD=true):pE (h0 W f):=by
 have ge:∀{W:aH},pE W→∀{l:bn},l.bh W.aD=true→pE (W.g2 l):=fun h l ak=>
  ⟨fun x ad=>(cu.1 ad).elim (fun e=>e▸ak) (h.ge x),h.da,h.cC,h.cells,h.live,h.cA,h.wr,h.b2,h.op,h.lt,h.gz,h.rd⟩
 have da:∀{W:aH},pE W→∀{f:Lit},f.bh W.aD=true→pE (W.wj f):=fun h l ak=>
  ⟨h.ge,fun x ad=>(cu.1 ad).elim (fun e=>e▸ak) (h.da x),h.cC,h.cells,h.live,h.cA,h.wr,h.b2,h.op,h.lt,h.gz,h.rd⟩
 cases f with
 |c b=>exact h
 |bv v p=>exact da h ax
 |nl v p=>exact da h ax
 |ge l=>exact ge h ax
 |eq l p=>
  cases p with
  |true=>exact ge (ge h ax) (ER (x:=l) ax)
  |false=>
   simp only[h0];cases asks uJ W l with
   |true=>exact ge h (qL (x:=l) ax)
   |false=>
    cases asks uJ W l.neg with
    |true=>exact ge h (qL (ER (x:=l) ax))
    |false=>exact da h ax
theorem sX.same {W':aH} (h:sX T E R G W V) (U:W'.cells=W.cells) (aa:W'.live=W.live) (au:W'.cA=W.cA) (ba:W'.wr=W.wr) (cb:W'.M=W.M) (du:W'.op=W.op) (ew:W'.lt=W.lt) (hW:W'.rd=W.rd):sX T E R G W' V:=
 ⟨by rw[au,ew];exact h.wf,by rw[U];exact h.cells,by rw[aa];exact h.live,by rw[aa];exact h.gw,by rw[ba];exact h.wr,by rw[cb];exact h.M,h.out,h.n,h.g,h.f',h.cls,h.tok,h.fQ,by rw[du];exact h.hi,by rw[ew];exact h.lt,by rw[hW];exact h.rd⟩
theorem dk.same {W':aH} (h:W'.aD=W.aD):dk R W R W':=⟨Nat.le_of_eq h.symm,.refl _ _⟩
class e8 (T:bG):Prop where
 low:∀k as,k<100→¬T.bA k as
 pw:∀{G:Nat→cR} {R:cj} {W:aH} {k:Nat} {as:List al},Ok T G R W→T.pw W k as=true→eu T k (aM R as)
 xi:∀{G:Nat→cR} {R:cj} {W:aH} {k:Nat} {as:List al},Ok T G R W→eu T k (aM R as)→∀f∈T.xi W k as,f.ai R=true
 row:∀k n,k<4294967296→T.K (vM k n)=.row (fH (iT (T.D k))) k n
 zH:∀c,(∀ts,T.K c≠.obj ts)→¬T.kept c=true
 refl:∀c cs,T.kept c=true→eu T (iu c) [.agg cs,.agg cs]
 trans:∀c a b d,T.kept c=true→eu T (iu c) [.agg a,.agg b]→eu T (iu c) [.agg b,.agg d]→eu T (iu c) [.agg a,.agg d]
 fix:∀c j o n,j∈T.fix c→eu T (iu c) [.agg o,.agg n]→(o[j]?).getD .top=(n[j]?).getD .top
theorem aW.h0 (h:aW T E R G W V) {f:Lit} (af:f.bh W.aD=true) (ax:f.ai R=true):aW T E R G (h0 W f) V:=by
 obtain⟨cE,e1,aN,bL,eB,ji,wR,I7,wS,O1,O0⟩:=R1 W f;exact⟨ab5 h.ok ax,ab4 h.aT af,h.aE.same e1 aN bL eB ji wS O1 O0⟩
theorem KF:∀{l:List Lit} {W:aH},aW T E R G W V→(∀f∈l,f.ai R=true)→aW T E R G (CB W.aD l W) V∧(CB W.aD l W).aD=W.aD
 | [],W,h,_=>⟨h,rfl⟩
 |f::l,W,h,ak=>by
  simp only[CB];cases af:f.bh W.aD with
  |true=>
   have e:=(R1 W f).1;have:=KF (l:=l) (h.h0 af (ak f (cz ..))) fun g av=>ak g (cv _ av);rw[e]at this;exact this
  |false=>exact KF (l:=l) h fun g av=>ak g (cv _ av)
theorem aW.l7 (h:aW T E R G W V) {k:Nat} {as:List al} (af:cls W.aD as=true) (ae:eu T k (aM R as)):aW T E R G (W.l7 k as) V:=
 ⟨⟨h.ok.ty,h.ok.top,h.ok.ge,h.ok.da,h.ok.cC,fun p c0=>(cu.1 c0).elim (fun e=>by subst e;exact ae) (h.ok.b2 p)⟩,
  ⟨h.aT.ge,h.aT.da,h.aT.cC,h.aT.cells,h.aT.live,h.aT.cA,h.aT.wr,fun p c0=>(cu.1 c0).elim (fun e=>by subst e;exact af) (h.aT.b2 p),h.aT.op,h.aT.lt,h.aT.gz,h.aT.rd⟩,
  h.aE.same rfl rfl rfl rfl rfl rfl rfl rfl⟩
theorem aW.note [fG:e8 T] (h:aW T E R G W V) {k:Nat} {as:List al} (af:cls W.aD as=true) (ae:eu T k (aM R as)):aW T E R G (note T k as W) V∧(note T k as W).aD=W.aD:=
 KF (W:=W.l7 k as) (h.l7 af ae) (fG.xi h.ok ae)
theorem aW.mz [fG:e8 T] (h:aW T E R G W V) {b:Bool} {k:Nat} {as:List al} (af:cls W.aD as=true) (ae:eu T k (aM R as)):aW T E R G (cK.mz T b k as W) V∧(cK.mz T b k as W).aD=W.aD:=by
 cases b with
 |true=>exact h.note af ae
 |false=>exact⟨h,rfl⟩
theorem G4 [fG:e8 T] {k:Nat} {as:List ab} (aq:k<100) (h:eu T k as):gQ k as:=h.elim id fun h=>absurd h (fG.low k as aq)
end Go.bO.cK
end
section
namespace Go.bO.cK
theorem Gd (k:IntKind):i_ k≤0:=by cases k<;>decide
theorem ab3 (k:IntKind):0≤hZ k:=by cases k<;>decide
theorem abC (k:IntKind):i_ k=if k.signed then -((2^(k.bits-1):Nat):Int)else 0:=by cases k<;>decide
theorem abB (k:IntKind):hZ k=(if k.signed then((2^(k.bits-1):Nat):Int)else((2^k.bits:Nat):Int))-1:=by cases k<;>decide
theorem AU (k:IntKind) (n:Int):i_ k≤k.wrap n∧k.wrap n≤hZ k:=by
 have aj:0<k.bits:=by cases k<;>decide
 have aa:2^k.bits=2*2^(k.bits-1):=by
  obtain⟨q,aB⟩:∃q,k.bits=q+1:=⟨k.bits-1,by omega⟩
  rw[aB,By,IG,qH]
 have bf:(2^k.bits:Int)=((2^k.bits:Nat):Int):=(uw 2 k.bits).symm;have c2:(2^(k.bits-1):Int)=((2^(k.bits-1):Nat):Int):=(uw 2 (k.bits-1)).symm;have ae:0<2^(k.bits-1):=Nat.pow_pos (by omega)
 rw[abC,abB];unfold IntKind.wrap;rw[bf,c2];generalize 2^k.bits=A at*;generalize 2^(k.bits-1)=B at*;have bd:0≤n%(A:Int):=Int.emod_nonneg _ (by omega)
 have bx:n%(A:Int)<A:=Int.emod_lt_of_pos _ (by omega)
 generalize n%(A:Int)=m at*;cases hs:k.signed with
 |false=>simp;omega
 |true=>
  simp only[s7,decide_eq_true_eq,if_true];split<;>omega
theorem MW {k:IntKind} {n:Int} (U:i_ k≤n) (aa:n≤hZ k):k.wrap n=n:=by
 rw[abC]at U;rw[abB]at aa
 match n,U,aa with
 |.ofNat m,_,aa=>
  refine wrap_small k m ?_;cases hs:k.signed with
  |true=>rw[hs]at aa;simp only[if_true]at aa;simp only[cond_true];have:((m:Nat):Int)≤_:=aa;omega
  |false=>rw[hs]at aa;simp only[lK,if_false]at aa;simp only[cond_false];have:((m:Nat):Int)≤_:=aa;omega
 |.negSucc m,U,_=>
  cases hs:k.signed with
  |true=>rw[hs]at U;simp only[if_true]at U;exact ag5 k m hs (by rw[wy]at U;omega)
  |false=>rw[hs]at U;simp at U
theorem aoR {op:BinOp} {k:IntKind} {a b:Int} {v:ab} (h:iZ op k a b=some v):xo op k a b=some v:=by
 have nQ:∃w,xo op k a b=some w:=by
  cases op with
  |shr=>
   match a,b with
   |.ofNat a,.ofNat b=>exact⟨_,rfl⟩
   |.ofNat a,.negSucc b=>exact⟨v,h⟩
   |.negSucc a,.ofNat b=>exact⟨v,h⟩
   |.negSucc a,.negSucc b=>exact⟨v,h⟩
  |add|sub=>exact⟨_,rfl⟩
  |mul|quo|rem|and|or|xor|shl|andNot=>exact⟨v,h⟩
  |eql|neq|lss|leq|gtr|geq=>exact⟨_,rfl⟩
 obtain⟨w,hw⟩:=nQ;have:=ZV hw;rw[h]at this;rw[hw,this]
section
variable (T:bG) (E:dS) (R:cj) (G:Nat→cR) (W:aH) (V:aO)
def eJ (r:d') (o:Option aJ):Prop:=∀x W',r=some (x,W')→∃aL e,dk R W aL W'∧aW T E aL G W' V∧o=some e∧cZ aL x e∧x.bh W'.aD=true
end
variable {T:bG} [e8 T] {E:dS} {R aL:cj} {G:Nat→cR} {W:aH} {V:aO}
theorem eD {o:Option aJ}:eJ T E R G W V none o:=fun _ _ h=>by cases h
theorem h' (h:aW T E R G W V) {s:al} {o:Option aJ} (af:s.bh W.aD=true) (ay:o=some (.val (s.ai R))):eJ T E R G W V (gB s W) o:=by
 intro x W' ad;cases ad;exact⟨R,_,.refl _ _,h,ay,rfl,af⟩
theorem iN {b:Bool} {r:d'} {o:Option aJ} (h:b=true→eJ T E R G W V r o):eJ T E R G W V (bif b then r else none) o:=by
 cases b with
 |true=>exact h rfl
 |false=>exact eD
theorem px {b:Bool} {r q:d'} {o:Option aJ} (h:b=true→eJ T E R G W V r o) (k:b=false→eJ T E R G W V q o):eJ T E R G W V (bif b then r else q) o:=by
 cases b with
 |true=>exact h rfl
 |false=>exact k rfl
theorem aeB (h:aW T E R G W V) {t:bb} {a:ab} {o:Option aJ} (aw:bR T.D G t a) (ay:o=some (.val a)):
  eJ T E R G W V (match cW W t with|(s,W)=>gB s W) o:=by
 intro x W' ad;cases ax:cW W t with
 |mk s W1=>
  rw[ax]at ad;cases ad;obtain⟨aL,az,ao,aX,bD⟩:=mQ t h aw ax;exact⟨aL,_,az,ao,ay,by simp only[cZ,aX],bD⟩
theorem mB (h:aW T E R G W V) {k:IntKind} {lo hi n:Int} {o:Option aJ} (U:lo≤n) (aa:n≤hi) (ay:o=some (.val (.int k n))):eJ T E R G W V (lN W k lo hi) o:=
 aeB h (.int k lo hi n U aa) ay
theorem LO (h:aW T E R G W V) {b:Bool} {o:Option aJ} (ay:o=some (.val (.bool b))):eJ T E R G W V (Ic W) o:=aeB h (.bool b) ay
theorem Cm (h:aW T E R G W V) {k:IntKind} {l:bn} (aq:ph W k l=true):i_ k≤l.ai R∧l.ai R≤hZ k:=by
 obtain⟨U,aa⟩:=a6 aq;have U:=dE h.ok U;have aa:=dE h.ok aa;simp only[fe,hV,qd]at U aa;exact⟨by omega,by omega⟩
theorem Af (h:aW T E R G W V) {k:IntKind} {l:bn} {o:Option aJ} (af:l.bh W.aD=true) (ay:o=some (.val (.int k (k.wrap (l.ai R))))):eJ T E R G W V (yo W k l) o:=by
 refine px (fun aq=> ?_) (fun _=> ?_)
 ·obtain⟨U,aa⟩:=Cm h aq;exact h' h af (by rw[ay,MW U aa];rfl)
 ·obtain⟨U,aa⟩:=AU k (l.ai R);exact mB h U aa ay
theorem rh (h:aW T E R G W V) {f:Lit} {o:Option aJ} (af:f.bh W.aD=true) (ay:o=some (.val (.bool (f.ai R)))):eJ T E R G W V (po W f) o:=by
 unfold po lit;cases U:u' 0 W f with
 |true=>
  have:=QM h.ok U;exact h' h rfl (by rw[ay,this];rfl)
 |false=>
  cases aa:u' 0 W f.neg with
  |true=>
   have:=QM h.ok aa;rw[q_]at this;have ax:f.ai R=false:=by
    cases ax:f.ai R with
    |false=>rfl
    |true=>rw[ax]at this;cases this
   exact h' h rfl (by rw[ay,ax];rfl)
  |false=>exact h' h af ay
theorem MI (h:aW T E R G W V) {l:bn} {u:Int} (hu:DW W l=some u):l.ai R≤u:=by
 unfold DW at hu;split at hu
 ·rename_i n aK;cases hu;have:=RY h.ok aK;rw[Jh]at this;simp only[DM,bn.ai];omega
 ·cases hu
theorem Xy {a u:Int} {b:Nat} (aA:0≤a) (hu:a≤u) (aj:0<b):a/b≤I3 u b:=by
 match u,hu with
 |.ofNat u,hu=>
  show a/(b:Int)≤((u/b:Nat):Int);rw[Int.natCast_ediv];exact Int.ediv_le_ediv (by omega) hu
 |.negSucc u,hu=>omega
theorem gP {s:al} {k:IntKind} {l:bn} (h:gD s=some (k,l)):s.ai R=.int k (l.ai R)∧(∀n,s.bh n=true→l.bh n=true):=by
 unfold gD at h;split at h
 ·cases h;exact⟨rfl,fun n aK=>aK⟩
 ·cases h;exact⟨by simp[al.ai],fun n _=>rfl⟩
 ·cases h
theorem DV {s:al} {f:Lit} (h:yj s=some f):s.ai R=.bool (f.ai R)∧(∀n,s.bh n=true→f.bh n=true):=by
 unfold yj at h;split at h
 ·cases h;exact⟨rfl,fun n aK=>aK⟩
 ·cases h;exact⟨rfl,fun n _=>rfl⟩
 ·cases h
theorem asW {r:d'} {k:IntKind} {b:bn} {n:Int} {o:Option aJ} (aj:b.bh W.aD=true) (ay:o=some (.val (.int k n))) (U:n<b.ai R) (aa: -(b.ai R)<n) (ah:eJ T E R G W V r o):eJ T E R G W V (TU W b r) o:=by
 intro y W' aI;unfold TU at aI;split at aI
 ·rename_i k' l W1;cases aI;obtain⟨aL,e,az,ao,aX,bD,c8⟩:=ah _ _ rfl;have ak:l.ai aL=n:=by
   rw[ay]at aX;cases aX;simp only[cZ,al.ai]at bD;injection bD with bD;injection bD with _ bD;exact bD.symm
  have YL:b.ai aL=b.ai R:=(jK az.dq aj).symm;have Zi:Int.negSucc 0= -1:=rfl;obtain⟨bg,bl⟩:=KF (W:=W1) (l:=[.ge ((b.sub l).dO (.negSucc 0)),.ge ((l.add b).dO (.negSucc 0))]) ao (fun f ax=>by
   rcases cu.1 ax with rfl|ax
   ·simp only[Lit.ai,decide_eq_true_eq,fe,eG,ak,YL,Zi];omega
   ·rw[iS.1 ax];simp only[Lit.ai,decide_eq_true_eq,fe,wY,ak,YL,Zi];omega)
  exact⟨aL,e,⟨by rw[bl];exact az.n,az.dq⟩,bg,aX,bD,by rw[bl];exact c8⟩
 ·exact ah _ _ aI
theorem asE (h:aW T E R G W V) {op:BinOp} {k:IntKind} {a b:bn} {o:Option aJ} (aA:a.bh W.aD=true) (aj:b.bh W.aD=true)
  (ay:∀v,iZ op k (a.ai R) (b.ai R)=some v→o=some (.val v)):eJ T E R G W V (Ns W op k a b) o:=by
 unfold Ns;split
 ·exact Af h (EO aA aj) (by rw[wY];exact ay _ rfl)
 ·exact Af h (n1 aA aj) (by rw[eG];exact ay _ rfl)
 ·split
  ·rename_i n aK;have:=mi (R:=R) aK;exact Af h (EP aA) (by rw[BJ,←this,Int.mul_comm];exact ay _ rfl)
  ·split
   ·rename_i n aK;have:=mi (R:=R) aK;exact Af h (EP aj) (by rw[BJ,←this];exact ay _ rfl)
   ·obtain⟨U,aa⟩:=AU k (a.ai R*b.ai R);exact mB h U aa (ay _ rfl)
 ·split
  ·rename_i n aK;have aK:=mi (R:=R) aK;have ar:o=some (.val (.int k ((a.ai R).tmod (b.ai R)))):=ay _ (show(if b.ai R=0 then none else some (ab.int k ((a.ai R).tmod (b.ai R))))=_ from if_neg (by rw[aK];show¬((n+1:Nat):Int)=0;omega))
   have p2:b.ai R=((n+1:Nat):Int):=aK;refine px (fun av=> ?_) (fun _=> ?_)
   ·have aV:=dE h.ok av;have U:=Int.tmod_nonneg (b.ai R) aV;have aa:=EJ (a.ai R) (b:=b.ai R) (by omega)
    exact mB h (by simpa using U) (by simp only[hU];omega) ar
   ·have aa:=EJ (a.ai R) (b:=b.ai R) (by omega)
    have au: -(b.ai R)<(a.ai R).tmod (b.ai R):=by
     have:=EJ (-(a.ai R)) (b:=b.ai R) (by omega)
     rw[Int.neg_tmod]at this;omega
    exact mB h (by simp only[qd,hU];omega) (by simp only[hU];omega) ar
  ·exact eD
  ·refine iN fun aq=> ?_;obtain⟨av,aq⟩:=a6 aq;obtain⟨Fw,dJ⟩:=a6 aq;have kr:=dE h.ok av;simp only[fe]at kr;have kr:0<b.ai R:=by omega
   obtain⟨az,ao⟩:=Cm h Fw;have ar:o=some (.val (.int k ((a.ai R).tmod (b.ai R)))):=ay _ (show(if b.ai R=0 then none else some (ab.int k ((a.ai R).tmod (b.ai R))))=_ from if_neg (by omega))
   have jo:=Gd k;have aX:=ab3 k;have key:∀x y:Int,0≤x→0<y→0≤x.tmod y∧x.tmod y≤x:=fun x y ad aI=>by
    rw[Int.tmod_eq_emod_of_nonneg ad];refine⟨Int.emod_nonneg _ (by omega),?_⟩
    have U:=Int.emod_def x y;have aa:0≤y*(x/y):=Int.mul_nonneg (by omega) (OB ad (by omega))
    omega
   have aa:=EJ (a.ai R) (b:=b.ai R) (by omega)
   have au: -(b.ai R)<(a.ai R).tmod (b.ai R):=by
    have:=EJ (-(a.ai R)) (b:=b.ai R) (by omega)
    rw[Int.neg_tmod]at this;omega
   refine asW aj ar aa au ?_;rcases Int.le_total 0 (a.ai R)with aV|aV
   ·obtain⟨bg,bl⟩:=key _ _ aV kr;exact mB h (by omega) (by omega) ar
   ·obtain⟨bg,bl⟩:=key (-(a.ai R)) _ (by omega) kr
    rw[Int.neg_tmod]at bg bl;exact mB h (by omega) (by omega) ar
 ·split
  ·rename_i n aK;have aK:=mi (R:=R) aK;have p2:b.ai R=((n+1:Nat):Int):=aK;split
   ·rename_i u av hu;have aV:=dE h.ok av;have U:=MI h hu;have aa:0≤(a.ai R)/((n+1:Nat):Int):=OB aV (by omega)
    have au:=Xy (b:=n+1) aV U (by omega)
    have aw:(a.ai R).tdiv (b.ai R)=(a.ai R)/((n+1:Nat):Int):=by rw[p2,Int.tdiv_eq_ediv_of_nonneg aV]
    have ar:=ay (.int k (k.wrap ((a.ai R).tdiv (b.ai R)))) (show(if b.ai R=0 then none else some (ab.int k (k.wrap ((a.ai R).tdiv (b.ai R)))))=_ from if_neg (by rw[p2];omega))
    rw[aw]at ar;refine iN fun aq=> ?_;rw[tH]at aq;have aq:=of_decide_eq_true aq;rw[MW (np (Gd k) aa) (np au aq)]at ar;exact mB h (by simpa using aa) au ar
   ·exact eD
  ·exact eD
 ·
  have vS:0≤b.ai R→o=some (.val (.int k ((a.ai R).fdiv (2^min (b.ai R).toNat k.bits)))):=fun kr=>ay _ (if_neg (show¬b.ai R<0 by omega))
  have ah:0≤b.ai R→i_ k≤a.ai R→a.ai R≤hZ k→i_ k≤(a.ai R).fdiv (2^min (b.ai R).toNat k.bits)∧(a.ai R).fdiv (2^min (b.ai R).toNat k.bits)≤hZ k:=by
   intro _ U aa;have ae:(0:Int)<2^min (b.ai R).toNat k.bits:=Int.pow_pos (by omega)
   generalize (2:Int)^min (b.ai R).toNat k.bits=p at ae;rw[OM _ (by omega)]
   have jo:=Gd k;have az:=ab3 k;constructor
   ·rw[Int.le_ediv_iff_mul_le ae];have:i_ k*p≤i_ k*1:=Xt jo (by omega)
    omega
   ·have au:a.ai R/p≤hZ k/p:=Int.ediv_le_ediv ae aa;have ba:hZ k/p≤hZ k:=Int.ediv_le_self _ az;omega
  split
  ·rename_i n aK;have aK:=mi (R:=R) aK;have kr:0≤b.ai R:=by rw[aK];exact nW _
   split
   ·rename_i u av hu;have aV:=dE h.ok av;have U:=MI h hu;have e:(2:Int)^min (b.ai R).toNat k.bits=((Nat.pow 2 (bif Nat.ble n k.bits then n else k.bits):Nat):Int):=by
     rw[aK];show(2:Int)^min n k.bits=_;have:min n k.bits=bif Nat.ble n k.bits then n else k.bits:=by
      rw[fT];by_cases aF:n≤k.bits
      ·first|(simp[aF];done)|(simp[aF];omega)
      ·first|(simp[aF];done)|(simp[aF];omega)
     rw[this];exact(uw 2 _).symm
    have ae:0<Nat.pow 2 (bif Nat.ble n k.bits then n else k.bits):=Nat.pow_pos (by omega)
    have ar:=vS kr;rw[e,OM _ (nW _)]at ar;exact mB h (OB aV (nW _)) (Xy aV U ae) ar
   ·refine iN fun aq=> ?_;obtain⟨az,ao⟩:=Cm h aq;obtain⟨bd,bx⟩:=ah kr az ao;exact mB h bd bx (vS kr)
  ·refine iN fun aq=> ?_;obtain⟨av,aq⟩:=a6 aq;have kr:=dE h.ok av;obtain⟨az,ao⟩:=Cm h aq;obtain⟨bd,bx⟩:=ah kr az ao;exact mB h bd bx (vS kr)
 ·
  have vS:0≤b.ai R→o=some (.val (.int k (k.wrap (a.ai R*2^min (b.ai R).toNat k.bits)))):=fun kr=>ay _ (if_neg (show¬b.ai R<0 by omega))
  split
  ·rename_i n aK;have aK:=mi (R:=R) aK;have kr:0≤b.ai R:=by rw[aK];exact nW _
   have ar:=vS kr;refine px (fun bz=> ?_) (fun _=> ?_)
   ·have bz:=jf bz;refine Af h (EP aA) ?_;rw[ar,BJ,aK];have e:(2:Int)^min (Int.ofNat n).toNat k.bits=Int.ofNat (Nat.pow 2 n):=by
     show(2:Int)^min n k.bits=_;rw[IH bz];exact(uw 2 _).symm
    rw[e,Int.mul_comm]
   ·obtain⟨U,aa⟩:=AU k (a.ai R*2^min (b.ai R).toNat k.bits);exact mB h U aa ar
  ·refine iN fun av=> ?_;have kr:=dE h.ok av;obtain⟨U,aa⟩:=AU k (a.ai R*2^min (b.ai R).toNat k.bits);exact mB h U aa (vS kr)
 ·
  have ar:=ay _ (rfl:iZ .and k (a.ai R) (b.ai R)=some (.int k (k.wrap (BitVec.ofInt k.bits (a.ai R)&&&BitVec.ofInt k.bits (b.ai R)).toNat)));split
  ·rename_i n aK;have aK:=mi (R:=R) aK;refine iN fun aq=> ?_;rw[tH]at aq;have aq:=of_decide_eq_true aq;have bz:(BitVec.ofInt k.bits (a.ai R)&&&BitVec.ofInt k.bits (b.ai R)).toNat≤n:=by
    rw[BitVec.toNat_and];refine fp Nat.and_le_right ?_;rw[aK,BitVec.toNat_ofInt];have:(Int.ofNat n%((2^k.bits:Nat):Int)).toNat≤n:=by
     have:Int.ofNat n%((2^k.bits:Nat):Int)=((n%2^k.bits:Nat):Int):=rfl;rw[this];exact Nat.mod_le _ _
    exact_mod_cast this
   have U:((BitVec.ofInt k.bits (a.ai R)&&&BitVec.ofInt k.bits (b.ai R)).toNat:Int)≤Int.ofNat n:=nY.2 bz;rw[MW (np (Gd k) (nW _)) (np U aq)]at ar;exact mB h (nW _) U ar
  ·obtain⟨U,aa⟩:=AU k (BitVec.ofInt k.bits (a.ai R)&&&BitVec.ofInt k.bits (b.ai R)).toNat;exact mB h U aa ar
 ·
  have ar:=ay _ (rfl:iZ .or k (a.ai R) (b.ai R)=some (.int k (k.wrap (BitVec.ofInt k.bits (a.ai R)|||BitVec.ofInt k.bits (b.ai R)).toNat)));have FF:eJ T E R G W V (lN W k (i_ k) (hZ k)) o:=by
   obtain⟨U,aa⟩:=AU k (BitVec.ofInt k.bits (a.ai R)|||BitVec.ofInt k.bits (b.ai R)).toNat;exact mB h U aa ar
  split
  ·rename_i x y av ad aI;obtain⟨bu,bC⟩:=a6 av;have a0:=dE h.ok bu;have En:=dE h.ok bC;have Wb:=MI h ad;have bK:=MI h aI;refine px (fun aq=> ?_) (fun _=>FF);rw[tH]at aq;have aq:=of_decide_eq_true aq;have bz:(BitVec.ofInt k.bits (a.ai R)|||BitVec.ofInt k.bits (b.ai R)).toNat≤GV x y:=by
    rw[BitVec.toNat_or];obtain⟨p,ae⟩:∃p:Nat,a.ai R=(p:Int):=⟨(a.ai R).toNat,by omega⟩
    obtain⟨q,aB⟩:∃q:Nat,b.ai R=(q:Int):=⟨(b.ai R).toNat,by omega⟩
    have e1:(BitVec.ofInt k.bits (a.ai R)).toNat≤p:=by
     rw[ae,BitVec.toNat_ofInt];have:(((p:Nat):Int)%((2^k.bits:Nat):Int)).toNat≤p:=by
      have:((p:Nat):Int)%((2^k.bits:Nat):Int)=((p%2^k.bits:Nat):Int):=rfl;rw[this];exact Nat.mod_le _ _
     exact_mod_cast this
    have aN:(BitVec.ofInt k.bits (b.ai R)).toNat≤q:=by
     rw[aB,BitVec.toNat_ofInt];have:(((q:Nat):Int)%((2^k.bits:Nat):Int)).toNat≤q:=by
      have:((q:Nat):Int)%((2^k.bits:Nat):Int)=((q%2^k.bits:Nat):Int):=rfl;rw[this];exact Nat.mod_le _ _
     exact_mod_cast this
    have av_:p≤x:=by rw[ae]at Wb;exact nY.1 Wb
    have awa:q≤y:=by rw[aB]at bK;exact nY.1 bK
    unfold GV;generalize hm:(bif Nat.ble x y then y else x)=m
    have awj:x≤m:=by rw[←hm,fT];by_cases aF:x≤y<;>simp[aF]
    have awk:y≤m:=by rw[←hm,fT];by_cases aF:x≤y<;>simp[aF];omega
    have ep:m<2^(m.log2+1):=Nat.lt_log2_self;have:=Nat.or_lt_two_pow (x:=(BitVec.ofInt k.bits (a.ai R)).toNat) (y:=(BitVec.ofInt k.bits (b.ai R)).toNat) (n:=m.log2+1) (by omega) (by omega)
    exact Nat.le_sub_one_of_lt this
   have U:((BitVec.ofInt k.bits (a.ai R)|||BitVec.ofInt k.bits (b.ai R)).toNat:Int)≤Int.ofNat (GV x y):=nY.2 bz;rw[MW (np (Gd k) (nW _)) (np U aq)]at ar;exact mB h (nW _) U ar
  ·exact FF
 ·obtain⟨U,aa⟩:=AU k (BitVec.ofInt k.bits (a.ai R)^^^BitVec.ofInt k.bits (b.ai R)).toNat;exact mB h U aa (ay _ rfl)
 ·exact eD
theorem asD (h:aW T E R G W V) {op:BinOp} {k:IntKind} {a b:bn} {o:Option aJ} (aA:a.bh W.aD=true) (aj:b.bh W.aD=true)
  (ay:∀v,iZ op k (a.ai R) (b.ai R)=some v→o=some (.val v)):eJ T E R G W V (Nr W op k a b) o:=by
 have alw:∀{s:al},(match a.const?,b.const? with
  |some x,some y=>match iZ op k x y with
   |some (.int k' n)=>some (al.i k' (.k n))
   |_=>none
  |_,_=>none)=some s→eJ T E R G W V (gB s W) o:=by
  intro s hs;split at hs
  ·rename_i x y ad aI;have ad:=mi (R:=R) ad;have aI:=mi (R:=R) aI;split at hs
   ·rename_i k' n aK;cases hs;refine h' h rfl (ay _ ?_);rw[ad,aI,aK];simp[al.ai]
   ·cases hs
  ·cases hs
 unfold Nr;split
 ·rename_i s hs;unfold Yg at hs;split at hs<;>first|exact alw hs|cases hs
 ·exact asE h aA aj ay
end Go.bO.cK
end
section
namespace Go.bO.cK
variable {T:bG} [e8 T] {E:dS} {R aL:cj} {G:Nat→cR} {W:aH} {V:aO}
theorem Eu (op:BinOp) (q:cG) (lt:Bool) (a b:ab):k6 op q lt (.val a) (.val b)=mG (nf op q lt a b):=by
 rw[Wk];show mG (Et op q lt a b)=_;rw[Wp]
theorem U7 {o:Option ab} {a:ab} (h:o=some a):mG o=some (.val a):=by rw[h];rfl
theorem Wq {op:BinOp} {q:cG} {lt:Bool} {k k':IntKind} {a b:Int} {v:ab} (aq:sI op k k'=true) (ar:iZ op k a b=some v):
  k6 op q lt (.val (.int k a)) (.val (.int k' b))=some (.val v):=by
 rw[Eu];refine U7 ?_;show Is op k a (.int k' b)=_;rw[Wm];show(bif sI op k k' then xo op k a b else none)=_
 rw[aq];exact aoR ar
theorem BF (t:Bool):ih .eql (some t)=some (.bool t):=rfl
theorem BG (t:Bool):ih .neq (some t)=some (.bool (!t)):=rfl
theorem akr {op:BinOp} {k:IntKind} {a b:bn} {f:Lit} (h:EX op a b=some f):iZ op k (a.ai R) (b.ai R)=some (.bool (f.ai R)):=by
 have e1:Int.negSucc 0= -1:=rfl;unfold EX at h;split at h
 ·cases h;show some (ab.bool (a.ai R==b.ai R))=_;simp only[Lit.ai,eG];by_cases aF:a.ai R=b.ai R
  ·simp[aF]
  ·have:¬a.ai R-b.ai R=0:=by omega
   simp[aF,this]
 ·cases h;show some (ab.bool (a.ai R !=b.ai R))=_;simp only[Lit.ai,eG];by_cases aF:a.ai R=b.ai R
  ·simp[aF]
  ·have:¬a.ai R-b.ai R=0:=by omega
   simp[aF,this]
 ·cases h;show some (ab.bool (decide (a.ai R<b.ai R)))=_;simp only[Lit.ai,eG,fe,e1]
  congr 2;exact decide_eq_decide.2 (by omega)
 ·cases h;show some (ab.bool (decide (a.ai R≤b.ai R)))=_;simp only[Lit.ai,eG,fe]
  congr 2;exact decide_eq_decide.2 (by omega)
 ·cases h;show some (ab.bool (decide (a.ai R>b.ai R)))=_;simp only[Lit.ai,eG,fe,e1]
  congr 2;exact decide_eq_decide.2 (by omega)
 ·cases h;show some (ab.bool (decide (a.ai R≥b.ai R)))=_;simp only[Lit.ai,eG,fe]
  congr 2;exact decide_eq_decide.2 (by omega)
 ·cases h
theorem akq {n:Nat} {op:BinOp} {a b:bn} {f:Lit} (h:EX op a b=some f) (aA:a.bh n=true) (aj:b.bh n=true):f.bh n=true:=by
 unfold EX at h;split at h<;>first
  |(cases h;done)
  |(cases h;first|exact n1 aA aj|exact n1 aj aA|exact qL (n1 aj aA)|exact qL (n1 aA aj))
theorem Km (h:aW T E R G W V) {s:al} (hs:xp W s=true):∃l,s.ai R=.str l:=by
 unfold xp at hs;split at hs
 ·exact⟨_,rfl⟩
 ·rename_i v;have:=h.ok.ty v;split at hs
  ·rename_i hi aw;rw[aw]at this;simp only[al.ai];generalize R v=a at this;cases this with
   |str l _ _=>exact⟨l,rfl⟩
  ·cases hs
 ·cases hs
theorem auv {op:BinOp} (a b:List UInt8) (h:af8 op=true):∃t,vR op a b=some (.bool t):=by
 cases op<;>first|(cases h;done)|exact⟨_,rfl⟩
theorem aut {op:BinOp} {a b:List UInt8} {v:ab} (h:vR op a b=some v):Hu op a b=some v:=by
 have nQ:∃w,Hu op a b=some w:=by
  cases op<;>first|exact⟨_,rfl⟩|exact⟨v,h⟩
 obtain⟨w,hw⟩:=nQ;have:=af7 hw;rw[h]at this;rw[hw,this]
theorem afJ (h:aW T E R G W V) {k:dH} {s:al} (hs:Au W k s=true):k.is (s.ai R)=true:=by
 unfold Au at hs;split at hs
 ·rfl
 ·rfl
 ·have:=pn hs;subst this;simp[al.ai,dH.is]
 ·have:=pn hs;subst this;simp[al.ai,dH.is]
 ·obtain⟨l,ak⟩:=Km h hs;rw[ak];rfl
 ·cases hs
theorem L0 (h:aW T E R G W V):∀{ss:List dH} {l:List al},gN (Au W) ss l=true→gW ss (aM R l)=true
 | [],[],_=>rfl
 | [],_::_,hs=>by cases hs
 |_::_,[],hs=>by cases hs
 |s::ss,x::l,hs=>by
  obtain⟨U,aa⟩:=a6 hs;simp only[aM,gW,afJ h U,L0 h aa];rfl
theorem RX (l:List ab):ks l=l.map al.k:=by
 induction l with
 |nil=>rfl
 |cons a l bm=>simp only[ks,gM,bm]
theorem uP (R:cj) (l:List ab):aM R (ks l)=l:=by
 induction l with
 |nil=>rfl
 |cons a l bm=>simp only[ks,aM,al.ai,bm]
theorem yK (n:Nat) (l:List ab):cls n (ks l)=true:=by
 induction l with
 |nil=>rfl
 |cons a l bm=>simp only[ks,cls,al.bh,bm];rfl
theorem AN {s:al} {l:List al} (h:rz s=some l):s.ai R=.agg (aM R l)∧(∀n,s.bh n=true→cls n l=true):=by
 unfold rz at h;split at h
 ·cases h;exact⟨rfl,fun n aK=>aK⟩
 ·cases h;exact⟨by simp only[al.ai,uP],fun n _=>yK n _⟩
 ·cases h
theorem agF {s:al} {l:List al} (h:MD s=some l):s.ai R=.tuple (aM R l)∧(∀n,s.bh n=true→cls n l=true):=by
 unfold MD at h;split at h
 ·cases h;exact⟨rfl,fun n aK=>aK⟩
 ·cases h;exact⟨by simp only[al.ai,uP],fun n _=>yK n _⟩
 ·cases h
def SS:cG→ab→Prop
 |.pointer,a=>a=.cX∨(∃i o,a=.ptr i o)∨∃l,a=.dK l
 |.iface,a=>a=.dC∨∃t v,a=.iface t v
 |.func,a=>a=.fj∨∃f x y,a=.func f x y
 |.map,a=>∃r,a=.map r
 |.slice,a=>(∃xs n t,a=.slice xs n t)∨∃g o n c,a=.ref g o n c
 |_,_=>False
theorem HY {t:bb} {a:ab} (h:bR T.D G t a):bR T.D G (wc T t) a:=by
 unfold wc;split
 ·cases h with
  |jL k _ h=>exact h
 ·exact h
theorem arh (h:aW T E R G W V) {q:cG} {v:Nat} (hs:(match q,wc T (W.df v)with
  |.pointer,.ptr _ _|.iface,.e4 _ _|.func,.fn _ _|.map,.map _ _|.slice,.bN _ _ _|.slice,.rv _ _|.slice,.rs _ _ _=>true
  |_,_=>false)=true):SS q (R v):=by
 have ar:=HY (h.ok.ty v);generalize R v=a at ar;generalize wc T (W.df v)=t at ar hs;split at hs
 ·cases ar with
  |ptr _ _ i av=>exact .inr (.inl ⟨_,_,rfl⟩)
  |cX c=>exact .inl rfl
 ·cases ar with
  |e4 _ _ t ty w _ _=>exact .inr ⟨_,_,rfl⟩
  |dC _=>exact .inl rfl
 ·cases ar with
  |fn _ _ f _ _ x y _ _ _ _ _=>exact .inr ⟨_,_,_,rfl⟩
  |fj _=>exact .inl rfl
 ·cases ar with
  |map _ _ i _=>exact⟨_,rfl⟩
  |qf _=>exact⟨_,rfl⟩
 ·cases ar with
  |bN _ _ _ xs n t _ _ _ _=>exact .inl ⟨_,_,_,rfl⟩
 ·cases ar with
  |m8 _=>exact .inl ⟨_,_,_,rfl⟩
  |rv _ _ g n _ _=>exact .inr ⟨_,_,_,_,rfl⟩
 ·cases ar with
  |nP _ _ _ xs n t _ _ _ _=>exact .inl ⟨_,_,_,rfl⟩
  |rl _ _ _ g n c m _ _ _ _=>exact .inr ⟨_,_,_,_,rfl⟩
 ·cases hs
theorem ari (h:aW T E R G W V) {q:cG} {s:al} (hs:SU T W q s=true):SS q (s.ai R)∧∀f,CN T W s=some f→f.ai R=pj (s.ai R):=by
 have R_:∀f,CN T W s=some f→f.ai R=pj (s.ai R)∨(∀a,s≠.k a)∧(∀v,s≠.x v):=by
  intro f ax;unfold CN at ax;split at ax
  ·cases ax;exact .inl rfl
  ·cases ax;refine .inl ?_;simp[Lit.ai,al.ai]
  ·rename_i U aa;exact .inr ⟨U,aa⟩
 unfold SU at hs;split at hs
 ·
  rename_i v o;have ar:=h.ok.ty v;split at hs
  ·rename_i c n aw;have aK:=pr h.ok hs;rw[aw]at ar;simp only[al.ai];generalize R v=a at ar aK;cases ar with
   |ptr _ _ i av=>exact⟨.inr (.inl ⟨i,0+o,rfl⟩),fun f ax=>by cases ax;rfl⟩
   |cX c=>cases aK
  ·cases hs
 ·exact⟨.inr ⟨_,_,rfl⟩,fun f ax=>by cases ax;rfl⟩
 ·exact⟨.inr ⟨_,_,_,rfl⟩,fun f ax=>by cases ax;rfl⟩
 ·exact⟨.inl ⟨_,_,_,rfl⟩,fun f ax=>by cases ax;rfl⟩
 ·exact⟨.inr (.inr ⟨_,rfl⟩),fun f ax=>by cases ax;rfl⟩
 ·exact⟨.inl rfl,fun f ax=>by cases ax;rfl⟩
 ·exact⟨.inl rfl,fun f ax=>by cases ax;rfl⟩
 ·exact⟨.inl rfl,fun f ax=>by cases ax;rfl⟩
 ·exact⟨⟨_,rfl⟩,fun f ax=>by cases ax;rfl⟩
 ·exact⟨.inl ⟨_,_,_,rfl⟩,fun f ax=>by cases ax;rfl⟩
 ·exact⟨.inr ⟨_,_,rfl⟩,fun f ax=>by cases ax;rfl⟩
 ·exact⟨.inr ⟨_,_,_,rfl⟩,fun f ax=>by cases ax;rfl⟩
 ·exact⟨arh h hs,fun f ax=>by cases ax;simp[Lit.ai,al.ai]⟩
 ·cases hs
theorem ajD {op:BinOp} {q:cG} {lt:Bool} {a:ab} {s:al} (aB:SR q s=true) (aA:SS q a) (ak:q=.iface→lt=true):
  k6 op q lt (.val a) (.val (s.ai R))=mG (ih op (some (pj a))):=by
 rw[Eu]
 congr 1
 unfold SR at aB;split at aB
 ·rcases aA with rfl|⟨i,o,rfl⟩|⟨l,rfl⟩<;>rfl
 ·have:=ak rfl;subst this;rcases aA with rfl|⟨i,o,rfl⟩<;>rfl
 ·rcases aA with rfl|⟨i,o,x,rfl⟩<;>rfl
 ·obtain⟨r,rfl⟩:=aA;cases r<;>rfl
 ·rcases aA with⟨xs,n,t,rfl⟩|⟨g,o,n,c,rfl⟩<;>rfl
 ·cases aB
theorem acS {n:Nat} {s:al} {f:Lit} (h:CN T W s=some f) (hs:s.bh n=true):f.bh n=true:=by
 unfold CN at h;split at h<;>first|(cases h;rfl)|(cases h;exact hs)
theorem Xv (h:Ok T G R W) (f:Lit):(qN W f).ai R=f.ai R:=by
 unfold qN;cases U:holds W f with
 |true=>exact(va h U).symm
 |false=>
  cases aa:holds W f.neg with
  |true=>
   have:=va h aa;rw[q_]at this;show false=f.ai R;cases ar:f.ai R with
   |true=>rw[ar]at this;cases this
   |false=>rfl
  |false=>rfl
theorem ajI (h:aW T E R G W V) {op:BinOp} {f g:Lit} {o:Option aJ} (aA:f.bh W.aD=true) (aj:g.bh W.aD=true) (key:∀t,ih op (some (f.ai R==g.ai R))=some (.bool t)→o=some (.val (.bool t))):eJ T E R G W V (NF W op f g) o:=by
 have ax:=Xv h.ok f;have av:=Xv h.ok g;unfold NF;split
 ·rw[‹qN W g=Lit.c true›]at av;exact rh h aA (key _ (by rw[BF,←av];show some (ab.bool (Lit.ai R f==true))=_;generalize Lit.ai R f=t;cases t<;>rfl))
 ·rw[‹qN W g=Lit.c false›]at av;exact rh h (wK aA) (key _ (by rw[BF,q_,←av];show some (ab.bool (Lit.ai R f==false))=_;generalize Lit.ai R f=t;cases t<;>rfl))
 ·rw[‹qN W g=Lit.c true›]at av;exact rh h (wK aA) (key _ (by rw[BG,q_,←av];show some (ab.bool (!(Lit.ai R f==true)))=_;generalize Lit.ai R f=t;cases t<;>rfl))
 ·rw[‹qN W g=Lit.c false›]at av;exact rh h aA (key _ (by rw[BG,←av];show some (ab.bool (!(Lit.ai R f==false)))=_;generalize Lit.ai R f=t;cases t<;>rfl))
 ·rw[‹qN W f=Lit.c true›]at ax;exact rh h aj (key _ (by rw[BF,←ax];show some (ab.bool (true==Lit.ai R g))=_;generalize Lit.ai R g=t;cases t<;>rfl))
 ·rw[‹qN W f=Lit.c false›]at ax;exact rh h (wK aj) (key _ (by rw[BF,q_,←ax];show some (ab.bool (false==Lit.ai R g))=_;generalize Lit.ai R g=t;cases t<;>rfl))
 ·rw[‹qN W f=Lit.c true›]at ax;exact rh h (wK aj) (key _ (by rw[BG,q_,←ax];show some (ab.bool (!(true==Lit.ai R g)))=_;generalize Lit.ai R g=t;cases t<;>rfl))
 ·rw[‹qN W f=Lit.c false›]at ax;exact rh h aj (key _ (by rw[BG,←ax];show some (ab.bool (!(false==Lit.ai R g)))=_;generalize Lit.ai R g=t;cases t<;>rfl))
 ·exact LO h (key _ (BF _))
 ·exact LO h (key _ (BG _))
 ·exact eD
theorem afm (h:Ok T G R W):∀{x y:List al},Uf W x y=true→wJ (aM R x) (aM R y)=true
 | [],[],_=>rfl
 | [],_::_,hs=>by cases hs
 |_::_,[],hs=>by cases hs
 |a::x,b::y,hs=>by
  obtain⟨U,aa⟩:=a6 hs;have bm:=afm h aa;split at U
  ·rename_i k l k' c_ aA aj;obtain⟨au,ba⟩:=a6 U;obtain⟨ba,cb⟩:=a6 ba;have bu:=dE h ba;have bC:=dE h cb;rw[eG]at bu bC;simp only[aM,(gP (R:=R) aA).1,(gP (R:=R) aj).1];have:l.ai R=c_.ai R:=by omega
   show(bif mh (l.ai R) (c_.ai R)then wJ (aM R x) (aM R y)else false)=true
   rw[bm,this,uM];simp
  ·cases U
theorem asF (h:aW T E R G W V) {op:BinOp} {q:cG} {lt:Bool} {a b:al} (aA:a.bh W.aD=true) (aj:b.bh W.aD=true):
  eJ T E R G W V (wD T W op q lt a b) (k6 op q lt (.val (a.ai R)) (.val (b.ai R))):=by
 unfold wD;split
 ·rename_i k x k' y ad aI;obtain⟨e1,bf⟩:=gP (R:=R) ad;obtain⟨aN,c2⟩:=gP (R:=R) aI;rw[e1,aN];refine iN fun aq=> ?_;have aq:sI op k k'=true:=by
   cases op<;>first|rfl|(have:=pn aq;subst this;simp[sI])
  refine px (fun _=> ?_) (fun _=> ?_)
  ·exact asD h (bf _ aA) (c2 _ aj) fun v ar=>Wq aq ar
  ·split
   ·rename_i f ax;exact rh h (akq ax (bf _ aA) (c2 _ aj)) (Wq aq (akr ax))
   ·exact eD
 ·split
  ·rename_i f g ax av;obtain⟨e1,bf⟩:=DV (R:=R) ax;obtain⟨aN,c2⟩:=DV (R:=R) av;rw[e1,aN];split
   ·have key:∀t,ih op (some (f.ai R==g.ai R))=some (.bool t)→k6 op .bool lt (.val (.bool (f.ai R))) (.val (.bool (g.ai R)))=some (.val (.bool t)):=by
     intro t aw;rw[Eu];exact U7 aw
    exact ajI h (bf _ aA) (c2 _ aj) key
   ·exact eD
  ·refine px (fun hs=> ?_) (fun _=> ?_)
   ·obtain⟨U,aa⟩:=a6 hs;obtain⟨x,ad⟩:=Km h U;obtain⟨y,aI⟩:=Km h aa;rw[ad,aI];refine iN fun ay=> ?_;obtain⟨t,aw⟩:=auv x y ay;refine LO h (b:=t) ?_;rw[Eu];refine U7 ?_;show Go.bO.wD op x (.str y)=_;rw[Wo];exact aut aw
   ·refine px (fun hs=> ?_) (fun _=> ?_)
    ·obtain⟨U,aa⟩:=a6 hs;obtain⟨b',ct⟩:=ari h aa;refine iN fun ak=> ?_;rw[ajD U b' (fun aB=>by subst aB;simpa using ak)]
     unfold acT;split
     ·rename_i f ax;exact rh h (acS ax aA) (by rw[BF,ct f ax];rfl)
     ·rename_i f ax;exact rh h (wK (acS ax aA)) (by rw[BG,q_,ct f ax];rfl)
     ·exact eD
    ·split
     ·rename_i ss x y ad aI _;obtain⟨e1,_⟩:=AN (R:=R) ad;obtain⟨aN,_⟩:=AN (R:=R) aI;rw[e1,aN];refine iN fun hs=> ?_;obtain⟨U,aa⟩:=a6 hs;obtain⟨aa,au⟩:=a6 aa;have cc:=L0 h U;have b4:=L0 h aa;have aj:k6 op (.flat ss) lt (.val (.agg (aM R x))) (.val (.agg (aM R y)))=mG (ih op (some (wJ (aM R x) (aM R y)))):=by
       rw[Eu];show mG (ih op (Jo ss (aM R x) (aM R y)))=_;unfold Jo;rw[cc,b4];rfl
      rw[aj];refine px (fun Cb=> ?_) (fun _=>by cases op<;>first|(cases au;done)|exact LO h rfl)
      have aB:=afm h.ok Cb;refine rh h rfl ?_;rw[aB];cases op<;>first|(cases au;done)|rfl
     ·exact eD
end Go.bO.cK
end
