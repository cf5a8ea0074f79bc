/-
  AN ABSTRACT LOGIC OVER THE MODEL, part 7: operations all together; a function's code; a function.
-/
import Derived.Test.YthjhmfhmejlenaaGreatAL6
set_option linter.unusedSectionVars false
set_option linter.unusedVariables false
set_option linter.unusedSimpArgs false
section
namespace Go.bO
open Go.RowKit
section
variable {P:Program} {E:Entry} {I:cf} {ag:a8} {env:bt} {bK:Nat→Nat} {a:Act} {w:World} {o:Oper}
variable {k:bt→a8→Prop} {Q:Exit→Act→World→Prop}
theorem auc (st:cx E I ag env bK a w) (aQ:∀x,o.dst=some x→x<E.n) {esc:List Nat} {g3:a2} (af:qh P esc o.dst o.op=some g3) (ae:g3.sq=true) (h:bH P g3 o.dst k env ag):o.wp P a w (dz E k) Q:=by
 rw[HO P g3 o.dst k env ag ae]at h;cases he:bX env g3 with
 |none=>rw[he]at h;exact h.elim
 |some e=>
  rw[he]at h;obtain⟨v,U,aa⟩:=al5 st af he;exact avi st aQ (U w) aa h
theorem arO (st:cx E I ag env bK a w) (aQ:∀x,o.dst=some x→x<E.n) {esc:List Nat} {g3:a2} (af:qh P esc o.dst o.op=some g3) (h:bH P g3 o.dst k env ag):o.wp P a w (dz E k) Q:=by
 by_cases ae:g3.sq=true
 ·exact auc st aQ af ae h
 cases ay:o.op
 all_goals
  rw[ay]at af;simp only[qh,reduceCtorEq]at af
 case pick c x z=>
  split at af
  ·simp only[bk]at af;subst af;exact aub st aQ ay ‹_› ‹_› ‹_› h
  ·cases af
 case alloc t=>
  split at af
  ·rename_i z d a' FB;simp only[bk]at af;split at af
   ·subst af;exact at' st aQ ay a' h
   ·subst af;exact atL st (aQ d FB) FB ay a' h
  ·cases af
 case box t x=>
  split at af
  ·rename_i y d aI FB;simp only[bk]at af;split at af
   ·subst af;exact aua st aQ ay aI h
   ·subst af;exact atM st (aQ d FB) FB ay aI h
  ·cases af
 case buildSlice t n eM=>
  split at af
  ·split at af
   ·split at af
    ·rename_i lT;split at af
     ·simp only[bk]at af;subst af;exact at8 st aQ ay ‹_› ‹_› ‹_› ‹_› lT.1 lT.2.1 lT.2.2 h
     ·simp only[bk]at af;subst af;exact atN st aQ ay ‹_› ‹_› ‹_› ‹_› lT.1 lT.2.1 lT.2.2 h
    ·cases af
   ·cases af
  ·cases af
 case load t x=>
  split at af
  ·simp only[bk]at af;subst af;exact at2 st aQ ay ‹_› ‹_› h
  ·cases af
 case store t x v=>
  split at af
  ·simp only[bk]at af;subst af;exact aue st aQ ay ‹_› ‹_› ‹_› h
  ·cases af
 case convert s d x=>
  split at af
  ·rename_i Q_;subst Q_;split at af
   ·split at af
    ·simp only[bk]at af;subst af;exact at3 st aQ ay ‹_› ‹_› ‹_› h
    ·cases af
   ·simp only[bk]at af;subst af;exact absurd rfl ae
   ·simp only[bk]at af;subst af;exact absurd rfl ae
   ·cases af
  split at af
  ·simp only[bk]at af;subst af;exact absurd rfl ae
  ·simp only[bk]at af;subst af;exact absurd rfl ae
  ·split at af
   ·simp only[bk]at af;subst af;exact atO st aQ ay ‹_› ‹_› ‹_› ‹_› h
   ·cases af
  ·split at af
   ·simp only[bk]at af;subst af;exact auf st aQ ay ‹_› ‹_› ‹_› ‹_› h
   ·cases af
  ·cases af
 case slice t x lo hi mx=>
  split at af
  ·split at af
   ·simp only[bk]at af;subst af;exact absurd rfl ae
   ·cases af
  ·clear ae;rename_i lo hi mx _ _ _ _ _;split at af
   ·rename_i ad ht j0 oi aw;split at af
    ·simp only[bk]at af;subst af;cases mx with
     |none=>exact atV st aQ ay aw ‹_› ad ht j0 h
     |some q=>simp only[m6]at oi;split at oi<;>cases oi
    ·cases af
   ·rename_i ad ht j0 oi aw;split at af
    ·simp only[bk]at af;subst af;cases mx with
     |none=>simp[m6]at oi
     |some q=>
      cases hi with
      |none=>simp[m6]at j0
      |some bl=>exact atW st aQ ay aw ‹_› ad ht j0 oi h
    ·cases af
   ·rename_i ad ht j0 oi aw;simp only[bk]at af;subst af;cases mx with
    |none=>exact atX st aQ ay aw ad ht j0 h
    |some q=>simp only[m6]at oi;split at oi<;>cases oi
   ·cases af
 case indexAddr t x i=>
  split at af
  ·split at af
   ·split at af
    ·simp only[bk]at af;subst af;exact absurd rfl ae
    ·cases af
   ·simp only[bk]at af;subst af;exact absurd rfl ae
   ·cases af
  ·split at af
   ·split at af
    ·simp only[bk]at af;subst af;exact atZ st aQ ay ‹_› ‹_› ‹_› ‹_› h
    ·cases af
   ·cases af
 case makeMap t r=>
  cases r with
  |none=>simp only[bk]at af;subst af;exact at7 st aQ ay h
  |some r=>cases af
 case lookup t x i ok=>
  split at af
  ·split at af
   ·simp only[bk]at af;subst af;exact at5 st aQ ay ‹_› ‹_› ‹_› ‹_› ‹_› h
   ·cases af
  ·cases af
 case mapUpdate t m i v=>
  split at af
  ·split at af
   ·simp only[bk]at af;subst af;exact afQ st aQ (.inl ay) ‹_› ‹_› ‹_› ‹_› ‹_› h
   ·cases af
  ·cases af
 case insert t m i v=>
  split at af
  ·split at af
   ·simp only[bk]at af;subst af;exact afQ st aQ (.inr ay) ‹_› ‹_› ‹_› ‹_› ‹_› h
   ·cases af
  ·cases af
 case range t x=>
  split at af
  ·simp only[bk]at af;subst af;exact aud st aQ ay ‹_› ‹_› h
  ·cases af
 case next x b=>
  cases b with
  |true=>cases af
  |false=>
   dsimp only at af;split at af
   ·simp only[bk]at af;subst af;exact at9 st aQ ay ‹_› h
   ·cases af
 case entry x=>
  split at af
  ·simp only[bk]at af;subst af;exact atY st aQ ay ‹_› h
  ·cases af
 case index t x i=>
  split at af
  ·simp only[bk]at af;subst af;exact at1 st aQ ay ‹_› ‹_› ‹_› h
  ·split at af
   ·split at af
    ·simp only[bk]at af;subst af;exact absurd rfl ae
    ·cases af
   ·cases af
  ·cases af
 case call c=>
  split at af
  case h_2=>cases af
  rename_i ey rZ;simp only[bk]at af;have QO:g3=ey∨∃sz e b x y,ey=.append sz e b x y∧g3=.appendM sz e b x y:=by
   subst af;split
   ·cases ey<;>first|exact .inl rfl|exact .inr ⟨_,_,_,_,_,rfl,rfl⟩
   ·exact .inl rfl
  replace af:=rZ
  clear rZ;rcases QO with rfl|⟨gu,aR,ea,c3,kE,rfl,rfl⟩
  rotate_left
  ·unfold Li at af;split at af
   ·split at af
    ·split at af
     ·split at af<;>cases af
     ·cases af
    ·split at af<;>cases af
   ·rename_i b nw;obtain⟨callee,⟨args⟩,⟨argTypes⟩⟩:=c;simp only at nw;subst nw;cases b<;>simp only[Lg,reduceCtorEq]at af
    case append=>
     split at af
     ·split at af
      ·split at af
       ·split at af
        ·rename_i lT;obtain⟨gH,rfl⟩:=lT;simp only[bk,a2.append.injEq]at af;obtain⟨rfl,rfl,rfl,rfl,rfl⟩:=af;exact atJ st aQ ay ‹_› ‹_› ‹_› ‹_› ‹_› ‹_› gH h
        ·cases af
       ·cases af
      ·split at af
       ·split at af<;>cases af
       ·cases af
      ·cases af
     ·cases af
    all_goals
     repeat' (split at af)
     all_goals cases af
   ·split at af<;>cases af
  unfold Li at af;split at af
  ·rename_i f nw;split at af
   ·split at af
    ·split at af
     ·simp only[bk]at af;subst af;exact atP st aQ ay nw ‹_› ‹_› ‹_› h
     ·cases af
    ·cases af
   ·split at af
    ·simp only[bk]at af;subst af;exact atQ st aQ ay nw ‹_› ‹_› h
    ·cases af
  ·rename_i b nw;obtain⟨callee,⟨args⟩,⟨argTypes⟩⟩:=c;simp only at nw;subst nw;cases b<;>simp only[Lg,reduceCtorEq]at af
   case append=>
    split at af
    ·split at af
     ·split at af
      ·split at af
       ·rename_i lT;obtain⟨gH,rfl⟩:=lT;simp only[bk]at af;subst af;exact atI st aQ ay ‹_› ‹_› ‹_› ‹_› ‹_› ‹_› gH h
       ·cases af
      ·cases af
     ·split at af
      ·split at af
       ·rename_i gH;simp only[bk]at af;subst af;exact atK st aQ ay ‹_› ‹_› ‹_› ‹_› ‹_› ‹_› ‹_› gH h
       ·cases af
      ·cases af
     ·cases af
    ·cases af
   case cap=>
    split at af
    ·split at af
     ·simp only[bk]at af;subst af;exact atS st aQ ay ‹_› ‹_› h
     ·cases af
    ·cases af
   case len=>
    split at af
    ·split at af
     ·simp only[bk]at af;subst af;exact absurd rfl ae
     ·simp only[bk]at af;subst af;exact absurd rfl ae
     ·simp only[bk]at af;subst af;exact at6 st aQ ay ‹_› ‹_› h
     ·cases af
    ·cases af
   case delete=>
    split at af
    ·split at af
     ·split at af
      ·simp only[bk]at af;subst af;exact at4 st aQ ay ‹_› ‹_› ‹_› ‹_› h
      ·cases af
     ·cases af
    ·cases af
   case clear=>
    split at af
    ·split at af
     ·simp only[bk]at af;subst af;exact atT st aQ ay ‹_› ‹_› h
     ·split at af
      ·split at af
       ·rename_i lT;simp only[bk]at af;subst af;exact atU st aQ ay ‹_› ‹_› ‹_› ‹_› lT.1 lT.2 h
       ·cases af
      ·cases af
     ·cases af
    ·cases af
   all_goals
    repeat' (split at af)
    all_goals first
     |cases af;done
     |(simp only[bk]at af;subst af;exact absurd rfl ae)
  ·rename_i nw;split at af
   ·simp only[bk]at af;subst af;exact at0 st aQ ay nw ‹_› ‹_› h
   ·cases af
 case typeAssert x Vr t ok=>
  cases ok with
  |false=>cases af
  |true=>
   dsimp only at af;split at af
   ·simp only[bk]at af;subst af;exact absurd rfl ae
   ·cases af
 case unOp op t x=>
  cases op<;>simp only[reduceCtorEq]at af
  all_goals
   split at af
   ·simp only[bk]at af;subst af;exact absurd rfl ae
   ·cases af
 all_goals
  repeat' (split at af)
  all_goals first
   |cases af;done
   |(simp only[bk]at af;subst af;exact absurd rfl ae)
theorem bt.Um (env:bt) (s:Nat):env.set (some s) (env s)=env:=by
 funext t
 rw[bt.kf];by_cases h:t=s
 ·rw[if_pos h,h]
 ·rw[if_neg h]
theorem arD {esc:List Nat} {n:Nat} {all:Array Oper} {g3:ca} (h:zZ P esc n all o=some g3):
  g3.dst=o.dst∧(qh P esc o.dst o.op=some g3.op∨g3.op=.dead)∧(∀x,o.dst=some x→x<n)∧
  ((o.guard=none∧g3.guard=none)∨∃j cO nM s,o.guard=some (j,cO)∧all[j]? =some nM∧nM.dst=some s∧s<n∧g3.guard=some (s,cO)):=by
 unfold zZ at h;have eX:qh P esc o.dst o.op=some ((qh P esc o.dst o.op).getD .dead)∨(qh P esc o.dst o.op).getD .dead=.dead:=by
  cases qh P esc o.dst o.op with
  |none=>exact .inr rfl
  |some x=>exact .inl rfl
 generalize (qh P esc o.dst o.op).getD .dead=op at h eX;simp only[]at h;split at h
 case isFalse=>cases h
 rename_i aQ;have hh:∀x,o.dst=some x→x<n:=by
  intro x ad;rw[ad]at aQ;simpa[XE]using aQ
 split at h
 ·rename_i av;simp only[bk]at h;subst h;exact⟨rfl,eX,hh,.inl ⟨av,rfl⟩⟩
 ·rename_i j cO av;split at h
  ·rename_i nM aU;split at h
   ·rename_i s hs;split at h
    ·simp only[bk]at h;subst h;exact⟨rfl,eX,hh,.inr ⟨j,cO,nM,s,av,aU,hs,‹_›,rfl⟩⟩
    ·cases h
   ·cases h
  ·cases h
theorem adu (st:cx E I ag env bK a w) (aQ:∀x,o.dst=some x→x<E.n) {esc:List Nat} {g3:a2} (af:qh P esc o.dst o.op=some g3∨g3=.dead) (h:bH P g3 o.dst k env ag):o.wp P a w (dz E k) Q:=by
 rcases af with af|af
 ·exact arO st aQ af h
 ·subst af;exact h.elim
theorem cx.avu (st:cx E I ag env bK a w) {ops:Array Oper} {j s:Nat} {nM:Oper} {t:Bool} (aU:ops[j]? =some nM) (hs:nM.dst=some s) (aK:s<E.n) (he:env s=.val (.bool t)):yielded ops a.tmps j=some t:=by
 have bw:s<a.tmps.size:=by rw[st.size];exact aK
 have ar:=st.nu s;rw[he]at ar;have aj:a.tmps.getD s undef=.bool t:=aZ.Ey ar;have:a.tmps[s]? =some (.bool t):=by
  rw[gl,ni bw]at aj;rw[ni bw];simpa using aj
 simp[yielded,aU,hs,this]
theorem cx.avv (st:cx E I ag env bK a w) {ops:Array Oper} {j s:Nat} {nM:Oper} (aU:ops[j]? =some nM) (hs:nM.dst=some s) (aK:s<E.n) (he:env s=.val (.tuple [])):yielded ops a.tmps j=none:=by
 have bw:s<a.tmps.size:=by rw[st.size];exact aK
 have ar:=st.nu s;rw[he]at ar;have aj:a.tmps.getD s undef=.tuple #[]:=by
  generalize a.tmps.getD s undef=v at ar;cases ar with
  |tuple vs _ ak _=>simp at ak;subst ak;rfl
 have:a.tmps[s]? =some (.tuple #[]):=by
  rw[gl,ni bw]at aj;rw[ni bw];simpa using aj
 simp[yielded,aU,hs,this]
theorem aeT {J:cf}:gR J bK undef h2:=aZ.tuple #[] [] rfl fun j=>by simpa using aZ.top _
theorem ady (st:cx E I ag env bK a w) {esc:List Nat} {ops:Array Oper} {g3:ca} (af:zZ P esc E.n ops o=some g3) {k:bt→a8→Prop}
  (h:jd P g3 k env ag):
  if Region.wanted o (yielded ops a.tmps)=true then o.wp P a w (dz E k) Q else dz E k (a.put o.dst undef) w:=by
 obtain⟨U,aa,au,ba⟩:=arD af;unfold jd at h;rcases ba with⟨bu,bC⟩|⟨j,cO,nM,s,bu,bC,c4,eb,iX⟩
 ·rw[bC,U]at h;have hw:Region.wanted o (yielded ops a.tmps)=true:=by simp[Region.wanted,bu]
  rw[if_pos hw];exact adu st au aa h
 ·rw[iX]at h;simp only[]at h;split at h
  case h_3=>exact h.elim
  case h_2=>
   rename_i he;have aI:=st.avv bC c4 eb he;have hw:¬Region.wanted o (yielded ops a.tmps)=true:=by simp[Region.wanted,bu,aI]
   rw[if_neg hw];rw[U]at h;exact⟨I,ag,_,bK,st.step (.refl _ _ _) st.cr au (e:=h2) aeT,h⟩
  rename_i t he;have aI:=st.avu bC c4 eb he;by_cases j7:t=cO
  ·subst j7;have hw:Region.wanted o (yielded ops a.tmps)=true:=by simp[Region.wanted,bu,aI]
   rw[if_pos hw];have:=h.1 rfl;rw[←he,bt.Um,U]at this;exact adu st au aa this
  ·have hw:¬Region.wanted o (yielded ops a.tmps)=true:=by simp[Region.wanted,bu,aI,j7]
   rw[if_neg hw];have aw:t= !cO:=by cases t<;>cases cO<;>simp_all
   have:=h.2 aw;rw[←aw,←he,bt.Um,U]at this;exact⟨I,ag,_,bK,st.step (.refl _ _ _) st.cr au (e:=h2) aeT,this⟩
theorem adz {esc:List Nat} {ops:Array Oper} (y9:∀a w,dz E k a w→Q .normal a w):∀(l:List Oper) (i:Nat) (Ie:List ca) (a:Act) (w:World),ops.toList.drop i=l→tO P esc E.n ops l=some Ie→
  dz E (pC P Ie k) a w→wpOps P ops Q ((List.range l.length).map (· +i)) a w
 | [],i,Ie,a,w,_,af,h=>by
  simp only[tO,bk]at af;subst af;simp only[nn,List.range_zero,pK,wpOps];exact y9 a w h
 |o::r,i,Ie,a,w,ak,af,h=>by
  simp only[tO]at af;cases ay:zZ P esc E.n ops o with
  |none=>rw[ay]at af;cases af
  |some g3=>
   cases ah:tO P esc E.n ops r with
   |none=>rw[ay,ah]at af;cases af
   |some VU=>
    rw[ay,ah]at af;simp only[bk]at af;subst af;obtain⟨I,ag,env,bK,st,h⟩:=h;have zu:=ady (Q:=Q) st ay (k:=pC P VU k) h;have anK:ops[i]? =some o:=by
     have:(ops.toList.drop i)[0]? =some o:=by rw[ak];rfl
     rw[k4]at this;simpa using this
    have gx:ops.toList.drop (i+1)=r:=by rw[←Bt,ak];rfl
    have bm:=fun a w h=>adz (esc:=esc) (ops:=ops) y9 r (i+1) VU a w gx ah h;have an':(List.range (o::r).length).map (· +i)=i::(List.range r.length).map (· +(i+1)):=by
     rw[mb,List.range_succ_eq_map,gM,List.map_map];simp only[fy,wA,true_and];apply List.map_congr_left;intro x _;simp only[Function.comp];omega
    rw[an'];simp only[wpOps,anK];split at zu
    ·rename_i hw;rw[if_pos hw];exact .inl (Oper.wp_mono bm zu)
    ·rename_i hw;rw[if_neg hw];exact bm _ _ zu
theorem dz.hM {K:bt→a8→Prop} (h:dz E (mJ K) a w):dz E K a w:=by
 obtain⟨I,ag,env,bK,st,bP,bp,bz,fq,aq⟩:=h;have zb:∀s,(bP s).j8→(env s).j8:=by
  intro s hs;rcases bz s with h|h|⟨x,y,_,h,_⟩
  ·rw[h]at hs;exact hs.elim
  ·rw[h];exact hs
  ·rw[h]at hs;exact hs.elim
 refine⟨I,bp,bP,bK,⟨st.cr.sub fq,fun s=> ?_,fun s dy h b0=>st.inj s dy (zb s h) (zb dy b0),fun s h=>st.low s (zb s h),st.kN.sub fq,st.size,st.defers⟩,aq⟩;have he:=st.nu s;rcases bz s with h|h|⟨x,y,ad,aI,Ro⟩
 ·rw[h];exact aZ.top _
 ·rw[←h];cases hr:env s with
  |val x=>rw[hr]at he;exact he
  |b7 q off=>rw[hr]at he;exact he
  |box c=>
   rw[hr]at he;obtain⟨et,vs,T,eY,m7,z',C2,Lz⟩:=he;exact⟨et,vs,T,eY,m7,z',fq.fresh C2,Lz⟩
 ·rw[aI];rw[ad]at he;exact Ro I _ he
end
end Go.bO
end
section
namespace Go.bO
open Go.RowKit
section
variable {P:Program} {W:List Nat} {env bP:bt} {ag bp:a8}
def M6 (env bP:bt) (d:Option Nat):Prop:=∀x,some x≠d→a_ bP (.tmp x)=a_ env (.tmp x)
theorem w0 (env:bt) (d:Option Nat) (e:aJ) (x:aG) (h:∀t,x=.tmp t→d≠some t):a_ (env.set d e) x=a_ env x:=by
 cases x with
 |const a=>rfl
 |tmp t=>
  cases d with
  |none=>rfl
  |some d=>
   have:¬t=d:=fun aa=>h t rfl (by rw[aa])
   simp only[a_,bt.kf,this,if_false]
theorem bt.set_comm (env:bt) {d eh:Option Nat} (e aR:aJ) (h:d=none∨d≠eh):(env.set d e).set eh aR=(env.set eh aR).set d e:=by
 cases d with
 |none=>rfl
 |some d=>
  cases eh with
  |none=>rfl
  |some eh=>
   have cm:d≠eh:=by
    rcases h with h|h
    ·cases h
    ·exact fun aa=>h (by rw[aa])
   funext t
   simp only[bt.kf];by_cases U:t=d
   ·subst U;simp[cm]
   ·simp[U]
theorem map_congr {f g:aG→aJ} {l:List aG} (h:∀x∈l,f x=g x):l.map f=l.map g:=List.map_congr_left h
theorem aec {f g:aG→aJ}:∀{l:List (Nat × Nat × aG)},(∀x∈l.map (fun p=>p.2.2),f x=g x)→pt f l=pt g l
 | [],_=>rfl
 |(o,n,x)::r,h=>by
  have U:=h x (by simp)
  have aa:=aec (f:=f) (g:=g) (l:=r) (fun y aI=>h y (cv _ aI));simp only[pt,U,aa]
theorem Md {sz:Nat} {f g:aG→aJ}:∀{l:List (Nat × aG)} {xs:List ab},(∀x∈l.map (fun p=>p.2),f x=g x)→ql sz xs f l=ql sz xs g l
 | [],_,_=>rfl
 |(i,x)::r,xs,h=>by
  have U:=h x (by simp)
  simp only[ql,U];split
  ·split
   ·exact Md (fun y aI=>h y (cv _ aI))
   ·rfl
  ·rfl
theorem yz {d:Nat} {x:Option aG} {K:Nat→Prop} (h:∀y∈x.toList,a_ bP y=a_ env y):fz bP d x K=fz env d x K:=by
 cases x with
 |none=>rfl
 |some y=>simp only[fz,h y (by simp)]
theorem vJ (o:a2) (e:aJ) (h:∀x∈o.bq,a_ bP x=a_ env x) (aq:o.kind=0∨(bp=ag∧∀s,W.contains s=false→bP s=env s)) (ah:c1 P W o env ag e):c1 P W o bP bp e:=by
 cases o with
 |pick c a b=>
  have U:=h c (by simp[a2.bq])
  have aa:=h a (by simp[a2.bq])
  have au:=h b (by simp[a2.bq])
  simp only[c1,U,aa,au]at ah⊢;exact ah
 |bslice own sz hN n z br=>
  have:=Md (sz:=sz) (xs:=List.replicate n z) (f:=a_ bP) (g:=a_ env) (l:=br) h;simp only[c1,this]at ah⊢;exact ah
 |load agg n x=>
  have U:=h x (by simp[a2.bq])
  rcases aq with aq|⟨hs,aj⟩
  ·simp[a2.kind]at aq
  subst hs;simp only[c1,U]at ah⊢;generalize a_ env x=ex at ah⊢;cases ex with
  |box c=>exact ah
  |val v=>cases v<;>exact ah
  |b7 s off=>
   simp only[]at ah⊢;obtain⟨bu,bC⟩:=ah;refine⟨bu,?_⟩;rw[aj s bu];exact bC
 |mark x=>simp only[c1]at ah
 |neg x=>simp only[c1,bX,h x (by simp[a2.bq])]at ah⊢;exact ah
 |wm m n agg x i=>simp only[c1,bX,h x (by simp[a2.bq]),h i (by simp[a2.bq])]at ah⊢;exact ah
 |ua t x=>simp only[c1,bX,h x (by simp[a2.bq])]at ah⊢;exact ah
 |arr n x=>simp only[c1,bX,h x (by simp[a2.bq])]at ah⊢;exact ah
 |mmap=>exact ah.elim
 |mget a7 z ok x i=>
  rcases aq with aq|⟨hs,aj⟩
  ·simp[a2.kind]at aq
  subst hs;simp only[c1,h x (by simp[a2.bq]),h i (by simp[a2.bq])]at ah⊢;exact ah
 |mset a7 x i v=>exact ah.elim
 |mdel a7 x i=>exact ah.elim
 |mlen x=>
  rcases aq with aq|⟨hs,aj⟩
  ·simp[a2.kind]at aq
  subst hs;simp only[c1,h x (by simp[a2.bq])]at ah⊢;exact ah
 |range x=>exact ah.elim
 |next x=>exact ah.elim
 |entry x=>exact ah.elim
 |bytesStr x=>simp only[c1,h x (by simp[a2.bq])]at ah⊢;exact ah
 |strBytes q x=>simp only[c1,h x (by simp[a2.bq])]at ah⊢;exact ah
 |cut sz x lo hi=>
  have U:=h x (by simp[a2.bq])
  have aa:∀y∈lo.toList,a_ bP y=a_ env y:=fun y aI=>h y (by simp[a2.bq]at aI⊢;simp[aI])
  have au:∀y∈hi.toList,a_ bP y=a_ env y:=fun y aI=>h y (by simp[a2.bq]at aI⊢;simp[aI])
  simp only[c1,U,yz aa,yz au]at ah⊢;exact ah
 |cut3 sz x lo hi mx=>
  have U:=h x (by simp[a2.bq])
  have aa:∀y∈lo.toList,a_ bP y=a_ env y:=fun y aI=>h y (by simp[a2.bq]at aI⊢;simp[aI])
  have au:∀y∈(some hi).toList,a_ bP y=a_ env y:=fun y aI=>h y (by simp[a2.bq]at aI⊢;simp[aI])
  have ba:∀y∈(some mx).toList,a_ bP y=a_ env y:=fun y aI=>h y (by simp[a2.bq]at aI⊢;simp[aI])
  simp only[c1,U,yz aa,yz au,yz ba]at ah⊢;exact ah
 |cutStr x lo hi=>
  have U:=h x (by simp[a2.bq])
  have aa:∀y∈lo.toList,a_ bP y=a_ env y:=fun y aI=>h y (by simp[a2.bq]at aI⊢;simp[aI])
  have au:∀y∈hi.toList,a_ bP y=a_ env y:=fun y aI=>h y (by simp[a2.bq]at aI⊢;simp[aI])
  simp only[c1,U,yz aa,yz au]at ah⊢;exact ah
 |iaddr sz x i=>simp only[c1,h x (by simp[a2.bq]),h i (by simp[a2.bq])]at ah⊢;exact ah
 |istr x i=>simp only[c1,h x (by simp[a2.bq]),h i (by simp[a2.bq])]at ah⊢;exact ah
 |call f as=>
  rcases aq with aq|⟨hs,aj⟩
  ·simp[a2.kind]at aq
  subst hs;have b0:as.map (a_ bP)=as.map (a_ env):=map_congr h;simp only[c1,b0]at ah⊢;exact ah
 |box cs=>exact ah.elim
 |boxv x=>exact ah.elim
 |obj cs=>exact ah.elim
 |objv x=>exact ah.elim
 |store n x v=>exact ah.elim
 |callv f as=>
  rcases aq with aq|⟨hs,aj⟩
  ·simp[a2.kind]at aq
  subst hs;have U:=h f (by simp[a2.bq])
  have b0:as.map (a_ bP)=as.map (a_ env):=map_congr fun x ad=>h x (by simp[a2.bq,ad])
  simp only[c1,U,b0]at ah⊢;exact ah
 |inv eg x as=>
  rcases aq with aq|⟨hs,aj⟩
  ·simp[a2.kind]at aq
  subst hs;have U:=h x (by simp[a2.bq])
  have b0:as.map (a_ bP)=as.map (a_ env):=map_congr fun x ad=>h x (by simp[a2.bq,ad])
  simp only[c1,U,b0]at ah⊢;exact ah
 |clearS sz z x=>exact ah.elim
 |clearM x=>exact ah.elim
 |aidx n sz x i=>simp only[c1,bX,h x (by simp[a2.bq]),h i (by simp[a2.bq])]at ah⊢;exact ah
 |append sz hN lO x y=>exact ah.elim
 |appendZ sz hN lO x y=>exact ah.elim
 |appendM sz hN lO x y=>exact ah.elim
 |mslice sz hN n z br=>exact ah.elim
 |cap x=>exact ah.elim
 |dead=>exact ah.elim
 |mv x=>simp only[c1,bX,h x (by simp[a2.bq])]at ah⊢;exact ah
 |build z br=>simp only[c1,bX,aec (f:=a_ bP) (g:=a_ env) (l:=br) h]at ah⊢;exact ah
 |nilCheck x=>simp only[c1,bX,h x (by simp[a2.bq])]at ah⊢;exact ah
 |bin op q x y=>simp only[c1,bX,h x (by simp[a2.bq]),h y (by simp[a2.bq])]at ah⊢;exact ah
 |not x=>simp only[c1,bX,h x (by simp[a2.bq])]at ah⊢;exact ah
 |rR q x=>simp only[c1,bX,h x (by simp[a2.bq])]at ah⊢;exact ah
 |same x=>simp only[c1,bX,h x (by simp[a2.bq])]at ah⊢;exact ah
 |iface t x=>simp only[c1,bX,h x (by simp[a2.bq])]at ah⊢;exact ah
 |tN fn f c=>
  have U:f.map (a_ bP)=f.map (a_ env):=map_congr fun x ad=>h x (by simp[a2.bq,ad])
  have aa:c.map (a_ bP)=c.map (a_ env):=map_congr fun x ad=>h x (by simp[a2.bq,ad])
  simp only[c1,bX,U,aa]at ah⊢;exact ah
 |foff off x=>simp only[c1,bX,h x (by simp[a2.bq])]at ah⊢;exact ah
 |field off n agg x=>simp only[c1,bX,h x (by simp[a2.bq])]at ah⊢;exact ah
 |extract x i=>simp only[c1,bX,h x (by simp[a2.bq])]at ah⊢;exact ah
 |len x=>simp only[c1,bX,h x (by simp[a2.bq])]at ah⊢;exact ah
 |tI x=>simp only[c1,bX,h x (by simp[a2.bq])]at ah⊢;exact ah
 |min x y=>simp only[c1,bX,h x (by simp[a2.bq]),h y (by simp[a2.bq])]at ah⊢;exact ah
 |tM x y z=>simp only[c1,bX,h x (by simp[a2.bq]),h y (by simp[a2.bq]),h z (by simp[a2.bq])]at ah⊢;exact ah
 |max x y=>simp only[c1,bX,h x (by simp[a2.bq]),h y (by simp[a2.bq])]at ah⊢;exact ah
theorem Uw {o:ca} {d:Option Nat} (h:∀x,d=some x→x∉o.jO) {x:aG} (ad:x∈o.op.bq) (t:Nat) (aw:x=.tmp t):d≠some t:=by
 intro aQ;refine h t aQ ?_;unfold ca.jO;refine nh _ (Bs.2 ⟨x,ad,?_⟩);rw[aw]
theorem DI {o:ca} {j:Nat} {cO:Bool} (h:o.guard=some (j,cO)):j∈o.jO:=by
 unfold ca.jO;rw[h];simp
theorem aeK (o:ca) (e:aJ) {d:Option Nat} {e1:aJ} (h:∀x,d=some x→x∉o.jO) (ij:∀x,d=some x→x∈W) (ah:jM P W o (env.set d e1) ag e):jM P W o env ag e:=by
 have ln:∀x∈o.op.bq,a_ env x=a_ (env.set d e1) x:=fun x ad=>(w0 env d e1 x (Uw h ad)).symm;have aj:∀s,W.contains s=false→env s=env.set d e1 s:=by
  intro s hs;cases d with
  |none=>rfl
  |some d=>
   have:¬s=d:=by rintro rfl;have:=ij s rfl;simp at hs;exact hs this
   rw[bt.kf,if_neg this]
 unfold jM at ah⊢;cases av:o.guard with
 |none=>rw[av]at ah;exact vJ o.op e ln (.inr ⟨rfl,aj⟩) ah
 |some p=>
  obtain⟨j,cO⟩:=p;rw[av]at ah;have aU:env.set d e1 j=env j:=by
   cases d with
   |none=>rfl
   |some d=>rw[bt.kf,if_neg (by rintro rfl;exact h _ rfl (DI av))]
  simp only[aU]at ah⊢;split at ah
  ·exact⟨fun aw=>vJ o.op e ln (.inr ⟨rfl,aj⟩) (ah.1 aw),ah.2⟩
  ·exact ah
  ·exact ah.elim
theorem aeL (o:ca) (e:aJ) {d:Option Nat} {e1:aJ} (h:∀x,d=some x→x∉o.jO) (ij:∀x,d=some x→x∈W) (ah:jM P W o env ag e):jM P W o (env.set d e1) ag e:=by
 have ln:∀x∈o.op.bq,a_ (env.set d e1) x=a_ env x:=fun x ad=>w0 env d e1 x (Uw h ad);have aj:∀s,W.contains s=false→env.set d e1 s=env s:=by
  intro s hs;cases d with
  |none=>rfl
  |some d=>
   have:¬s=d:=by rintro rfl;have:=ij s rfl;simp at hs;exact hs this
   rw[bt.kf,if_neg this]
 unfold jM at ah⊢;cases av:o.guard with
 |none=>rw[av]at ah;exact vJ o.op e ln (.inr ⟨rfl,aj⟩) ah
 |some p=>
  obtain⟨j,cO⟩:=p;rw[av]at ah;have aU:env.set d e1 j=env j:=by
   cases d with
   |none=>rfl
   |some d=>rw[bt.kf,if_neg (by rintro rfl;exact h _ rfl (DI av))]
  simp only[aU]at ah⊢;split at ah
  ·exact⟨fun aw=>vJ o.op e ln (.inr ⟨rfl,aj⟩) (ah.1 aw),ah.2⟩
  ·exact ah
  ·exact ah.elim
theorem me {d:Nat} {x:Option aG} {K:Nat→Prop} (h:fz env d x K):∃n,K n:=by
 cases x with
 |none=>exact⟨_,h⟩
 |some y=>
  simp only[fz]at h;split at h
  ·exact⟨_,h.2⟩
  ·exact h.elim
theorem jB {d:Nat} {x:Option aG} {K K':Nat→Prop} (eV:∀n,K n→K' n) (h:fz env d x K):fz env d x K':=by
 cases x with
 |none=>exact eV _ h
 |some y=>
  simp only[fz]at h⊢;split at h
  ·exact⟨h.1,eV _ h.2⟩
  ·exact h.elim
theorem TT {o:a2} {e:aJ} (h:c1 P W o env ag e):¬e.j8:=by
 have fA:∀x:aG,¬(a_ env x).j8:=by
  intro x;cases x with
  |const a=>exact id
  |tmp t=>
   simp only[a_];cases h:env t with
   |val a=>exact id
   |box c=>exact id
   |b7 s o=>exact id
 have Q0:∀{o:a2} {e:aJ},bX env o=some e→¬e.j8:=by
  intro o e h;cases o<;>simp only[bX]at h
  case mv x=>simp only[bk]at h;subst h;exact fA x
  all_goals
   repeat' (split at h)
   all_goals first
    |cases h;done
    |(simp only[bk]at h;subst h;exact id)
 cases o<;>simp only[c1]at h
 case pick c a b=>
  split at h
  ·rename_i t _;subst h;cases t
   ·exact fA b
   ·exact fA a
  ·exact h.elim
 case bslice=>
  split at h
  ·obtain⟨_,rfl⟩:=h;exact id
  ·exact h.elim
 case load=>
  split at h
  ·obtain⟨_,_,_,rfl⟩:=h;exact id
  ·obtain⟨_,rfl⟩:=h;exact id
  ·obtain⟨_,h⟩:=h;split at h
   ·obtain⟨_,rfl⟩:=h;exact id
   ·exact h.elim
  ·exact h.elim
 case bytesStr=>
  split at h
  ·obtain⟨_,_,rfl⟩:=h;exact id
  ·exact h.elim
 case strBytes=>
  split at h
  ·obtain⟨_,rfl⟩:=h;exact id
  ·exact h.elim
 case cut=>
  split at h
  ·obtain⟨_,h⟩:=h;obtain⟨_,_,h⟩:=me h;obtain⟨_,_,rfl⟩:=me h;exact id
  ·obtain⟨_,_,h⟩:=me h;obtain⟨_,_,rfl⟩:=me h;exact id
  ·exact h.elim
 case cut3=>
  split at h
  ·obtain⟨_,h⟩:=h;obtain⟨_,_,h⟩:=me h;obtain⟨_,_,h⟩:=me h;obtain⟨_,_,rfl⟩:=me h;exact id
  ·exact h.elim
 case cutStr=>
  split at h
  ·obtain⟨_,_,h⟩:=me h;obtain⟨_,_,rfl⟩:=me h;exact id
  ·exact h.elim
 case iaddr=>
  split at h
  ·split at h
   ·obtain⟨_,_,_,_,rfl⟩:=h;exact id
   ·obtain⟨_,_,rfl⟩:=h;exact id
   ·exact h.elim
  ·exact h.elim
 case istr=>
  split at h
  ·obtain⟨_,_,_,rfl⟩:=h;exact id
  ·exact h.elim
 case call=>
  split at h
  ·obtain⟨_,_,rfl⟩:=h;exact id
  ·exact h.elim
 case callv=>
  split at h
  ·obtain⟨_,_,_,rfl⟩:=h;exact id
  ·exact h.elim
 case inv=>
  split at h
  ·obtain⟨_,_,_,_,rfl⟩:=h;exact id
  ·exact h.elim
 case mget=>
  split at h
  ·obtain⟨_,rfl⟩:=h;exact id
  ·obtain⟨_,_,_,rfl⟩:=h;exact id
  ·exact h.elim
 case mlen=>
  split at h
  ·subst h;exact id
  ·obtain⟨_,_,rfl⟩:=h;exact id
  ·exact h.elim
 all_goals exact Q0 h
theorem aeN {o:ca} {e:aJ} (h:jM P W o env ag e):¬e.j8:=by
 unfold jM at h;split at h
 ·exact TT h
 ·rename_i j cO av;split at h
  ·rename_i t _;cases t<;>cases cO
   ·exact TT (h.1 rfl)
   ·rw[h.2 rfl];exact id
   ·rw[h.2 rfl];exact id
   ·exact TT (h.1 rfl)
  ·rw[h];exact id
  ·exact h.elim
def xF (env:bt) (d:Nat):Prop:=∀t q,env t≠.b7 d q
structure H6 (W:List Nat) (o:a2) (d:Option Nat) (env:bt) (ag:a8) (bP:bt) (bp:a8):Prop where
 same:M6 env bP d
 loc:rm W env o→∀s,some s≠d→W.contains s=false→bP s=env s
 app:o.Kg=true→bp.obj=ag.obj
 obj:o.isObj=true→bp=ag∨∃b cs,ag.fresh b∧bp=ag.setObj b cs
 ajP:vQ env o→bp=ag
 gZ:∀t s q,bP t=.b7 s q→env t=.b7 s q
theorem Vb {W:List Nat} (o:a2) (aw:o.xA=true) {d d1:Option Nat} {e1:aJ} (aj:¬e1.j8∨∃x,d1=some x∧xF env x) (hs:∀x∈o.bq,∀t,x=.tmp t→d1≠some t) (aQ:d1=none∨d1≠d) {K K':bt→a8→Prop}
  (eV:∀bP bp,H6 W o d env ag bP bp→K (bP.set d1 e1) bp→K' bP bp) (h:bH P o d K (env.set d1 e1) ag):bH P o d K' env ag:=by
 have fA:∀x∈o.bq,a_ (env.set d1 e1) x=a_ env x:=fun x ad=>w0 env d1 e1 x (hs x ad);have vb:∀v:ab,M6 env (env.set d (.val v)) d:=fun v x ad=>w0 env d _ (.tmp x) (fun t aw=>by cases aw;exact fun h=>ad h.symm)
 have Zc:∀(c':bt) (v:ab),∀t s q,(c'.set d (.val v)) t=.b7 s q→c' t=.b7 s q:=fun c' v t s q h=>by
  cases d with
  |none=>exact h
  |some x=>
   rw[bt.kf]at h;split at h
   ·cases h
   ·exact h
 have af:d=none∨d≠d1:=by
  rcases aQ with h|h
  ·subst h;cases d with
   |none=>exact .inl rfl
   |some x=>exact .inr (by simp)
  ·exact .inr fun aa=>h aa.symm
 have put:∀(v:ab) (dR:a8),((o.Kg=true→dR.obj=ag.obj)∧(o.isObj=true→dR=ag∨∃b cs,ag.fresh b∧dR=ag.setObj b cs)∧(vQ env o→dR=ag))→K ((env.set d1 e1).set d (.val v)) dR→K' (env.set d (.val v)) dR:=fun v dR P8 h=>eV _ _ ⟨vb v,fun _ s hs _=>by
   cases d with
   |none=>rfl
   |some q=>rw[bt.kf,if_neg (fun h=>hs (by rw[h]))],P8.1,P8.2.1,P8.2.2,Zc env v⟩ (by rw[bt.set_comm env (.val v) e1 af];exact h)
 cases o
 case bslice own sz hN n z br=>
  cases own with
  |false=>cases aw
  |true=>
   have U:=Md (sz:=sz) (xs:=List.replicate n z) (f:=a_ (env.set d1 e1)) (g:=a_ env) (l:=br) fA;simp only[bH,U]at h⊢;split at h
   ·simp only[if_true]at h⊢;exact fun g av=>put _ _ ⟨fun _=>rfl,fun aA=>(by cases aA),fun aj=>False.elim aj⟩ (h g av)
   ·exact h.elim
 all_goals simp only[a2.xA,lK]at aw
 case load agg n x=>
  have U:=fA x (by simp[a2.bq])
  simp only[bH,U]at h⊢;generalize jH:a_ env x=ex at h⊢;split at h
  ·obtain⟨cs,bu,bC,h⟩:=h;exact⟨cs,bu,bC,put _ _ ⟨fun aA=>(by cases aA),fun _=>.inl rfl,fun aj=>False.elim aj⟩ h⟩
  ·exact⟨h.1,put _ _ ⟨fun aA=>(by cases aA),fun _=>.inl rfl,fun aj=>False.elim aj⟩ h.2⟩
  ·rename_i s off;split at h
   ·rename_i cs gd;have cm:d1≠some s:=by
     rintro rfl;rcases aj with aj|⟨y,aI,gf⟩
     ·rw[bt.kf,if_pos rfl]at gd;rw[gd]at aj;exact aj trivial
     ·cases aI;cases x with
      |const a=>cases jH
      |tmp t=>
       have q1:¬t=s:=fun aF=>hs (.tmp t) (by simp[a2.bq]) t rfl (by rw[aF])
       simp only[a_]at jH;cases aB:env t with
       |val a=>rw[aB]at jH;cases jH
       |box c=>rw[aB]at jH;cases jH;exact q1 rfl
       |b7 dy q=>rw[aB]at jH;cases jH;exact gf t _ aB
    have JK:env s=.box cs:=by
     cases d1 with
     |none=>exact gd
     |some q=>rw[bt.kf,if_neg (fun h=>cm (by rw[h]))]at gd;exact gd
    simp only[JK];exact⟨h.1,put _ _ ⟨fun aA=>(by cases aA),fun _=>.inl rfl,fun aj=>False.elim aj⟩ h.2⟩
   ·exact h.elim
  ·exact h.elim
 case obj cs=>
  simp only[bH]at h⊢;exact fun b Fy=>put _ _ ⟨fun aA=>(by cases aA),fun _=>.inr ⟨b,_,Fy,rfl⟩,fun aj=>False.elim aj⟩ (h b Fy)
 case objv x=>
  have U:=fA x (by simp[a2.bq])
  simp only[bH,U]at h⊢;split at h
  ·exact⟨h.1,fun b Fy=>put _ _ ⟨fun aA=>(by cases aA),fun _=>.inr ⟨b,_,Fy,rfl⟩,fun aj=>False.elim aj⟩ (h.2 b Fy)⟩
  ·exact h.elim
 case store n x v=>
  have U:=fA x (by simp[a2.bq])
  have aa:=fA v (by simp[a2.bq])
  simp only[bH,U,aa]at h⊢;generalize a_ env v=ai at h⊢;generalize jH:a_ env x=ex at h⊢;split at h
  ·obtain⟨bu,bC,h⟩:=h;refine⟨bu,bC,?_⟩;split at h
   ·obtain⟨cs,c4,eb,h⟩:=h;exact⟨cs,c4,eb,put _ _ ⟨fun aA=>(by cases aA),fun aA=>(by cases aA),fun⟨s,q,aj⟩=>(by rw[jH]at aj;cases aj)⟩ h⟩
   ·rename_i s off;split at h
    ·rename_i cs gd;have cm:d1≠some s:=by
      rintro rfl;rcases aj with aj|⟨y,aI,gf⟩
      ·rw[bt.kf,if_pos rfl]at gd;rw[gd]at aj;exact aj trivial
      ·cases aI;cases x with
       |const a=>cases jH
       |tmp t=>
        have q1:¬t=s:=fun aF=>hs (.tmp t) (by simp[a2.bq]) t rfl (by rw[aF])
        simp only[a_]at jH;cases aB:env t with
        |val a=>rw[aB]at jH;cases jH
        |box c=>rw[aB]at jH;cases jH;exact q1 rfl
        |b7 dy q=>rw[aB]at jH;cases jH;exact gf t _ aB
     have JK:env s=.box cs:=by
      cases d1 with
      |none=>exact gd
      |some q=>rw[bt.kf,if_neg (fun h=>cm (by rw[h]))]at gd;exact gd
     simp only[JK];obtain⟨eb,h⟩:=h;refine⟨eb,eV _ _ ⟨fun x ad=> ?_,fun hw dy p6 ij=> ?_,fun aA=>(by cases aA),fun aA=>(by cases aA),fun _=>rfl,fun t dy q ak=> ?_⟩ ?_⟩
     ·rw[w0 _ d _ (.tmp x) (fun t aw=>by cases aw;exact fun h=>ad h.symm)]
      simp only[a_,bt.m9];by_cases lr:x=s
      ·subst lr;simp[JK]
      ·have:(x==s)=false:=by simpa using lr
       simp[this]
     ·have aoi:=hw s off jH;have JZ:¬dy=s:=fun aF=>by rw[aF,aoi]at ij;cases ij
      have aoj:∀c':bt,(c'.set d (.val .top)) dy=c' dy:=fun c'=>by
       cases d with
       |none=>rfl
       |some q=>rw[bt.kf,if_neg (fun h=>p6 (by rw[h]))]
      rw[aoj];simp only[bt.m9];have:(dy==s)=false:=by simpa using JZ
      simp[this]
     ·have:=Zc _ _ t dy q ak;simp only[bt.m9]at this;by_cases q1:t=s
      ·subst q1;simp at this
      ·have aj:(t==s)=false:=by simpa using q1
       simpa[aj]using this
     ·have aN:∀c,(env.set d1 e1).m9 s c=(env.m9 s c).set d1 e1:=by
       intro c;cases d1 with
       |none=>rfl
       |some q=>
        have aB:¬s=q:=fun h=>cm (by rw[h])
        funext t
        simp only[bt.m9,bt.kf];by_cases aw:t=s
        ·subst aw;simp[aB]
        ·have:(t==s)=false:=by simpa using aw
         simp[this]
      rw[aN]at h;rw[bt.set_comm _ (.val .top) e1 af];exact h
    ·exact h.elim
   ·exact h.elim
  ·exact h.elim
 case append sz hN lO x y=>
  have U:=fA x (by simp[a2.bq])
  have aa:=fA y (by simp[a2.bq])
  simp only[bH,U,aa]at h⊢;split at h
  ·generalize a_ env y=g4 at h⊢;split at h
   ·obtain⟨bu,bC,c4,eb,h⟩:=h;exact⟨bu,bC,c4,eb,fun a bp ah=>(h a bp ah).mono fun b dR ay aq=>put _ _ ⟨fun _=>by
     rw[ay];rcases ah with⟨_,_,rfl⟩|⟨_,g,_,rfl,_⟩<;>rfl,fun aA=>(by cases aA),fun aj=>False.elim aj⟩ aq⟩
   ·obtain⟨ml,cs,bg,bl,bu,bC,c4,eb,h⟩:=h;exact⟨ml,cs,bg,bl,bu,bC,c4,eb,fun a bp ah=>(h a bp ah).mono fun b dR ay aq=>put _ _ ⟨fun _=>by
     rw[ay];rcases ah with⟨_,_,rfl⟩|⟨_,g,_,rfl,_⟩<;>rfl,fun aA=>(by cases aA),fun aj=>False.elim aj⟩ aq⟩
   ·exact h.elim
  ·exact h.elim
 case appendZ sz hN lO x y=>
  have U:=fA x (by simp[a2.bq])
  have aa:=fA y (by simp[a2.bq])
  simp only[bH,U,aa]at h⊢;split at h
  ·obtain⟨bu,bC,c4,eb,iX⟩:=h;exact⟨bu,bC,c4,fun aV=>put _ _ ⟨fun aA=>(by cases aA),fun aA=>(by cases aA),fun aj=>False.elim aj⟩ (eb aV),fun aV g av=>put _ _ ⟨fun aA=>(by cases aA),fun aA=>(by cases aA),fun aj=>False.elim aj⟩ (iX aV g av)⟩
  ·exact h.elim
 case cap x=>
  have U:=fA x (by simp[a2.bq])
  simp only[bH,U]at h⊢;split at h
  ·exact fun c af hm aK=>put _ _ ⟨fun aA=>(by cases aA),fun aA=>(by cases aA),fun aj=>False.elim aj⟩ (h c af hm aK)
  ·exact h.elim
 case appendM sz hN lO x y=>
  have U:=fA x (by simp[a2.bq])
  have aa:=fA y (by simp[a2.bq])
  simp only[bH,U,aa]at h⊢;obtain⟨m,L,F2,h⟩:=h;refine⟨m,L,F2,?_⟩;generalize a_ env x=ex at h⊢;split at h
  ·obtain⟨cs,bu,bC,c4,eb,iX,k8,lR⟩:=h;exact⟨cs,bu,bC,c4,eb,fun aV=>put _ _ ⟨fun aA=>(by cases aA),fun aA=>(by cases aA),fun aj=>False.elim aj⟩ (iX aV),fun aV Fm g c av U aa=>put _ _ ⟨fun aA=>(by cases aA),fun aA=>(by cases aA),fun aj=>False.elim aj⟩ (k8 aV Fm g c av U aa),fun aV Fm=>put _ _ ⟨fun aA=>(by cases aA),fun aA=>(by cases aA),fun aj=>False.elim aj⟩ (lR aV Fm)⟩
  ·obtain⟨bu,bC,iX,k8⟩:=h;exact⟨bu,bC,fun aV=>put _ _ ⟨fun aA=>(by cases aA),fun aA=>(by cases aA),fun aj=>False.elim aj⟩ (iX aV),fun aV g c av U aa=>put _ _ ⟨fun aA=>(by cases aA),fun aA=>(by cases aA),fun aj=>False.elim aj⟩ (k8 aV g c av U aa)⟩
  ·exact h.elim
 case mslice sz hN n z br=>
  have U:=Md (sz:=sz) (xs:=List.replicate n z) (f:=a_ (env.set d1 e1)) (g:=a_ env) (l:=br) fA;simp only[bH,U]at h⊢;split at h
  ·exact fun b aj=>put _ _ ⟨fun aA=>(by cases aA),fun aA=>(by cases aA),fun aj=>False.elim aj⟩ (h b aj)
  ·exact h.elim
 case mmap=>
  simp only[bH]at h⊢;exact fun b aj=>put _ _ ⟨fun aA=>(by cases aA),fun aA=>(by cases aA),fun aj=>False.elim aj⟩ (h b aj)
 case mget a7 z ok x i=>
  have U:=fA x (by simp[a2.bq])
  have aa:=fA i (by simp[a2.bq])
  simp only[bH,U,aa]at h⊢;split at h
  ·exact⟨h.1,put _ _ ⟨fun aA=>(by cases aA),fun aA=>(by cases aA),fun aj=>False.elim aj⟩ h.2⟩
  ·obtain⟨es,bu,bC,h⟩:=h;exact⟨es,bu,bC,put _ _ ⟨fun aA=>(by cases aA),fun aA=>(by cases aA),fun aj=>False.elim aj⟩ h⟩
  ·exact h.elim
 case mset a7 x i v=>
  have U:=fA x (by simp[a2.bq])
  have aa:=fA i (by simp[a2.bq])
  have au:=fA v (by simp[a2.bq])
  simp only[bH,U,aa,au]at h⊢;split at h
  ·obtain⟨es,bu,bC,h⟩:=h;exact⟨es,bu,bC,put _ _ ⟨fun aA=>(by cases aA),fun aA=>(by cases aA),fun aj=>False.elim aj⟩ h⟩
  ·exact h.elim
 case mdel a7 x i=>
  have U:=fA x (by simp[a2.bq])
  have aa:=fA i (by simp[a2.bq])
  simp only[bH,U,aa]at h⊢;split at h
  ·obtain⟨es,bu,bC,h⟩:=h;exact⟨es,bu,bC,put _ _ ⟨fun aA=>(by cases aA),fun aA=>(by cases aA),fun aj=>False.elim aj⟩ h⟩
  ·exact h.elim
 case mlen x=>
  have U:=fA x (by simp[a2.bq])
  simp only[bH,U]at h⊢;split at h
  ·exact put _ _ ⟨fun aA=>(by cases aA),fun aA=>(by cases aA),fun aj=>False.elim aj⟩ h
  ·obtain⟨es,bu,h⟩:=h;exact⟨es,bu,put _ _ ⟨fun aA=>(by cases aA),fun aA=>(by cases aA),fun aj=>False.elim aj⟩ h⟩
  ·exact h.elim
 case range x=>
  have U:=fA x (by simp[a2.bq])
  simp only[bH,U]at h⊢;split at h
  ·exact fun b aj=>put _ _ ⟨fun aA=>(by cases aA),fun aA=>(by cases aA),fun aj=>False.elim aj⟩ (h b aj)
  ·obtain⟨es,bu,h⟩:=h;exact⟨es,bu,fun b aj=>put _ _ ⟨fun aA=>(by cases aA),fun aA=>(by cases aA),fun aj=>False.elim aj⟩ (h b aj)⟩
  ·exact h.elim
 case next x=>
  have U:=fA x (by simp[a2.bq])
  simp only[bH,U]at h⊢;split at h
  ·obtain⟨m,es,left,cur,bu,bC,c4,eb⟩:=h;exact⟨m,es,left,cur,bu,bC,fun aV=>put _ _ ⟨fun aA=>(by cases aA),fun aA=>(by cases aA),fun aj=>False.elim aj⟩ (c4 aV),fun j e aU=>put _ _ ⟨fun aA=>(by cases aA),fun aA=>(by cases aA),fun aj=>False.elim aj⟩ (eb j e aU)⟩
  ·exact h.elim
 case entry x=>
  have U:=fA x (by simp[a2.bq])
  simp only[bH,U]at h⊢;split at h
  ·obtain⟨r,es,left,e,bu,h⟩:=h;exact⟨r,es,left,e,bu,put _ _ ⟨fun aA=>(by cases aA),fun aA=>(by cases aA),fun aj=>False.elim aj⟩ h⟩
  ·exact h.elim
 case dead=>exact h.elim
 case mark x=>
  have U:=fA x (by simp[a2.bq])
  simp only[bH,U]at h⊢;split at h
  ·exact⟨h.1,put _ _ ⟨fun aA=>(by cases aA),fun aA=>(by cases aA),fun aj=>False.elim aj⟩ h.2⟩
  ·exact h.elim
 case call f as=>
  have U:as.map (a_ (env.set d1 e1))=as.map (a_ env):=map_congr fA;simp only[bH,U]at h⊢;split at h
  ·exact h.mono fun a bp aq=>put _ _ ⟨fun aA=>(by cases aA),fun aA=>(by cases aA),fun aj=>False.elim aj⟩ aq
  ·exact h.elim
 case callv f as=>
  have U:=fA f (by simp[a2.bq])
  have aa:as.map (a_ (env.set d1 e1))=as.map (a_ env):=map_congr fun x ad=>fA x (by simp[a2.bq,ad])
  simp only[bH,U,aa]at h⊢;split at h
  ·exact⟨h.1,h.2.mono fun a bp aq=>put _ _ ⟨fun aA=>(by cases aA),fun aA=>(by cases aA),fun aj=>False.elim aj⟩ aq⟩
  ·exact h.elim
 case inv eg x as=>
  have U:=fA x (by simp[a2.bq])
  have aa:as.map (a_ (env.set d1 e1))=as.map (a_ env):=map_congr fun x ad=>fA x (by simp[a2.bq,ad])
  simp only[bH,U,aa]at h⊢;split at h
  ·obtain⟨f,aV,h⟩:=h;exact⟨f,aV,h.mono fun a bp aq=>put _ _ ⟨fun aA=>(by cases aA),fun aA=>(by cases aA),fun aj=>False.elim aj⟩ aq⟩
  ·exact h.elim
 case clearS sz z x=>
  have U:=fA x (by simp[a2.bq])
  simp only[bH,U]at h⊢;generalize a_ env x=ex at h⊢;split at h
  ·exact put _ _ ⟨fun aA=>(by cases aA),fun aA=>(by cases aA),fun aj=>False.elim aj⟩ h
  ·obtain⟨cs,bu,bC,h⟩:=h;exact⟨cs,bu,bC,put _ _ ⟨fun aA=>(by cases aA),fun aA=>(by cases aA),fun aj=>False.elim aj⟩ h⟩
  ·exact h.elim
 case clearM x=>
  have U:=fA x (by simp[a2.bq])
  simp only[bH,U]at h⊢;generalize a_ env x=ex at h⊢;split at h
  ·exact put _ _ ⟨fun aA=>(by cases aA),fun aA=>(by cases aA),fun aj=>False.elim aj⟩ h
  ·obtain⟨es,bu,h⟩:=h;exact⟨es,bu,put _ _ ⟨fun aA=>(by cases aA),fun aA=>(by cases aA),fun aj=>False.elim aj⟩ h⟩
  ·exact h.elim
theorem x6 (env:bt) {j:Nat} {t:Bool} (h:env j=.val (.bool t)):env.set (some j) (.val (.bool t))=env:=by
 rw[←h];exact bt.Um env j
theorem CY {W:List Nat} (o:ca) (aw:o.op.xA=true) {d1:Option Nat} {e1:aJ} (aj:¬e1.j8∨∃x,d1=some x∧xF env x) (hs:∀x,d1=some x→x∉o.jO) (aQ:d1=none∨d1≠o.dst) {K K':bt→a8→Prop}
  (eV:∀bP bp,H6 W o.op o.dst env ag bP bp→K (bP.set d1 e1) bp→K' bP bp) (h:jd P o K (env.set d1 e1) ag):jd P o K' env ag:=by
 have ln:∀x∈o.op.bq,∀t,x=.tmp t→d1≠some t:=fun x ad t aw=>Uw hs ad t aw;unfold jd at h⊢;cases av:o.guard with
 |none=>rw[av]at h;exact Vb o.op aw aj ln aQ eV h
 |some p=>
  obtain⟨j,cO⟩:=p;rw[av]at h;have aU:env.set d1 e1 j=env j:=by
   cases d1 with
   |none=>rfl
   |some d=>rw[bt.kf,if_neg (by rintro rfl;exact hs _ rfl (DI av))]
  simp only[aU]at h⊢;have Zx:K ((env.set d1 e1).set o.dst h2) ag→K' (env.set o.dst h2) ag:=fun this=>by
   refine eV _ _ ⟨fun x ad=>w0 env o.dst _ (.tmp x) (fun t aw=>by cases aw;exact fun h=>ad h.symm),fun _ s hs _=>by
    cases aB:o.dst with
    |none=>rfl
    |some q=>rw[bt.kf,if_neg (fun h=>hs (by rw[aB,h]))],fun _=>rfl,fun _=>.inl rfl,fun _=>rfl,fun t s q h=>by
    cases aB:o.dst with
    |none=>rw[aB]at h;exact h
    |some x=>
     rw[aB,bt.kf]at h;split at h
     ·cases h
     ·exact h⟩ ?_
   rw[bt.set_comm env h2 e1 (by
    rcases aQ with h|h
    ·subst h;cases o.dst with
     |none=>exact .inl rfl
     |some x=>exact .inr (by simp)
    ·exact .inr fun aa=>h aa.symm)]
   exact this
  split at h
  case h_3=>exact h.elim
  case h_2=>exact Zx h
  rename_i t ob;refine⟨fun j7=> ?_,fun j7=> ?_⟩
  ·have:=h.1 j7;subst j7;rw[x6 _ (aU.trans ob)]at this;rw[x6 _ ob];exact Vb o.op aw aj ln aQ eV this
  ·have:=h.2 j7;rw[←j7,x6 _ (aU.trans ob)]at this;rw[←j7,x6 _ ob];exact Zx this
def yA (env:bt) (o:a2) (cs:List ab):Prop:=
 match o with
 |.box c=>cs=c
 |.boxv x=>∃a,a_ env x=.val a∧a.cells.all ab.one=true∧cs=a.cells
 |_=>False
def hb (P:Program) (W:List Nat):List (Nat × ca)→(bt→a8→Prop)→bt→a8→Prop
 | [],k,env,ag=>k env ag
 |(c9,o)::os,k,env,ag=>
  if c9=2 then rm W env o.op∧jd P o (hb P W os k) env ag
  else if c9=3 then∃d cs,o.dst=some d∧yA env o.op cs∧hb P W os k (env.set (some d) (.box cs)) ag
  else if c9=4 then rm W env o.op∧vQ env o.op∧jd P o (hb P W os k) env ag
  else if c9=5 then sv env o∧∃e,jM P W o env ag e∧hb P W os k (env.set o.dst e) ag
  else if c9=6 then sv env o∧∃e,jM P (ns W) o env ag e∧hb P W os k (env.set o.dst e) ag
  else∃e,jM P W o env ag e∧hb P W os k (env.set o.dst e) ag
theorem uC {d:Nat} {x:Option aG} {K:Nat→Prop} {K':Nat→aJ→Prop} {k:aJ→Prop} (eV:∀n,K n→∃e,K' n e∧k e) (h:fz env d x K):∃e,fz env d x (fun n=>K' n e)∧k e:=by
 cases x with
 |none=>exact eV _ h
 |some y=>
  simp only[fz]at h⊢;split at h
  ·obtain⟨e,U,aa⟩:=eV _ h.2;exact⟨e,⟨h.1,U⟩,aa⟩
  ·exact h.elim
theorem aeO {o:a2} {d:Option Nat} {k:bt→a8→Prop} (aq:o.kind≤1) (h:f_ P W o d k env ag):∃e,c1 P W o env ag e∧k (env.set d e) ag:=by
 by_cases ae:o.sq=true
 ·have b0:bH P o d k env ag:=by cases o<;>first|exact h|exact absurd ae (by simp[a2.sq])
  rw[HO P o d _ env ag ae]at b0;cases aB:bX env o with
  |none=>rw[aB]at b0;exact b0.elim
  |some e=>
   rw[aB]at b0;exact⟨e,by cases o<;>first|exact aB|exact absurd ae (by simp[a2.sq]),b0⟩
 cases o<;>first|exact absurd rfl ae|(exfalso;simp[a2.kind]at aq;done)|skip
 case pick c a b=>
  simp only[f_,bH]at h;simp only[c1];split at h
  ·rename_i t _;cases t
   ·exact⟨_,rfl,h.2 rfl⟩
   ·exact⟨_,rfl,h.1 rfl⟩
  ·exact h.elim
 case bslice own sz hN n z br=>
  cases own with
  |true=>exfalso;simp[a2.kind]at aq
  |false=>
   simp only[f_,bH]at h;simp only[c1];split at h
   ·simp only[lK,if_false]at h;exact⟨_,⟨trivial,rfl⟩,h⟩
   ·exact h.elim
 case load agg n x=>
  simp only[f_]at h;simp only[c1];generalize a_ env x=ex at h⊢;split at h
  ·obtain⟨cs,U,aa,au⟩:=h;exact⟨_,⟨cs,U,aa,rfl⟩,au⟩
  ·exact⟨_,⟨h.1,rfl⟩,h.2⟩
  ·obtain⟨U,h⟩:=h;split at h
   ·exact⟨_,⟨U,h.1,rfl⟩,h.2⟩
   ·exact h.elim
  ·exact h.elim
 case bytesStr x=>
  simp only[f_,bH]at h;simp only[c1];split at h
  ·obtain⟨l,U,aa⟩:=h;exact⟨_,⟨l,U,rfl⟩,aa⟩
  ·exact h.elim
 case strBytes q x=>
  simp only[f_,bH]at h;simp only[c1];split at h
  ·exact⟨_,⟨h.1,rfl⟩,h.2⟩
  ·exact h.elim
 case cut sz x lo hi=>
  simp only[f_]at h;simp only[c1];split at h
  ·obtain⟨U,aa⟩:=h;obtain⟨e,bu,bC⟩:=uC (K':=fun h e=>h≤_∧fz env 0 lo fun l=>l≤h∧e=_) (k:=fun e=>k (env.set d e) ag) (fun n aK=>by
    obtain⟨e,bu,bC⟩:=uC (K':=fun l e=>l≤n∧e=_) (k:=fun e=>k (env.set d e) ag) (fun l ak=>⟨_,⟨ak.1,rfl⟩,ak.2⟩) aK.2;exact⟨e,⟨aK.1,bu⟩,bC⟩) aa
   exact⟨e,⟨U,bu⟩,bC⟩
  ·obtain⟨e,bu,bC⟩:=uC (K':=fun h e=>h≤_∧fz env 0 lo fun l=>l≤h∧e=_) (k:=fun e=>k (env.set d e) ag) (fun n aK=>by
    obtain⟨e,bu,bC⟩:=uC (K':=fun l e=>l≤n∧e=_) (k:=fun e=>k (env.set d e) ag) (fun l ak=>⟨_,⟨ak.1,rfl⟩,ak.2⟩) aK.2;exact⟨e,⟨aK.1,bu⟩,bC⟩) h
   exact⟨e,bu,bC⟩
  ·exact h.elim
 case cut3 sz x lo hi mx=>
  simp only[f_,bH]at h;simp only[c1];split at h
  ·obtain⟨U,aa⟩:=h;obtain⟨e,bu,bC⟩:=uC (K':=fun m e=>m≤_∧fz env 0 (some hi) fun h=>h≤m∧fz env 0 lo fun l=>l≤h∧e=_) (k:=fun e=>k (env.set d e) ag) (fun m hm=>by
    obtain⟨e,bu,bC⟩:=uC (K':=fun h e=>h≤m∧fz env 0 lo fun l=>l≤h∧e=_) (k:=fun e=>k (env.set d e) ag) (fun n aK=>by
     obtain⟨e,bu,bC⟩:=uC (K':=fun l e=>l≤n∧e=_) (k:=fun e=>k (env.set d e) ag) (fun l ak=>⟨_,⟨ak.1,rfl⟩,ak.2⟩) aK.2;exact⟨e,⟨aK.1,bu⟩,bC⟩) hm.2
    exact⟨e,⟨hm.1,bu⟩,bC⟩) aa
   exact⟨e,⟨U,bu⟩,bC⟩
  ·exact h.elim
 case cutStr x lo hi=>
  simp only[f_,bH]at h;simp only[c1];split at h
  ·obtain⟨e,bu,bC⟩:=uC (K':=fun h e=>h≤_∧fz env 0 lo fun l=>l≤h∧e=_) (k:=fun e=>k (env.set d e) ag) (fun n aK=>by
    obtain⟨e,bu,bC⟩:=uC (K':=fun l e=>l≤n∧e=_) (k:=fun e=>k (env.set d e) ag) (fun l ak=>⟨_,⟨ak.1,rfl⟩,ak.2⟩) aK.2;exact⟨e,⟨aK.1,bu⟩,bC⟩) h
   exact⟨e,bu,bC⟩
  ·exact h.elim
 case iaddr sz x i=>
  simp only[f_,bH]at h;simp only[c1];generalize a_ env x=ex at h⊢;split at h
  ·split at h
   ·obtain⟨U,a,aa,au,ba⟩:=h;exact⟨_,⟨U,a,aa,au,rfl⟩,ba⟩
   ·exact⟨_,⟨h.1,h.2.1,rfl⟩,h.2.2⟩
   ·exact h.elim
  ·exact h.elim
 case istr x i=>
  simp only[f_,bH]at h;simp only[c1];split at h
  ·obtain⟨U,a,aa,ba⟩:=h;exact⟨_,⟨U,a,aa,rfl⟩,ba⟩
  ·exact h.elim
 case call f as=>
  simp only[f_]at h;simp only[c1];split at h
  ·obtain⟨c,U,aa⟩:=h;exact⟨_,⟨c,U,rfl⟩,aa⟩
  ·exact h.elim
 case callv f as=>
  simp only[f_]at h;simp only[c1];split at h
  ·obtain⟨aV,c,U,aa⟩:=h;exact⟨_,⟨aV,c,U,rfl⟩,aa⟩
  ·exact h.elim
 case inv eg x as=>
  simp only[f_]at h;simp only[c1];split at h
  ·obtain⟨f,aV,c,U,aa⟩:=h;exact⟨_,⟨f,aV,c,U,rfl⟩,aa⟩
  ·exact h.elim
 case mget a7 z ok x i=>
  simp only[f_,bH]at h;simp only[c1];split at h
  ·exact⟨_,⟨h.1,rfl⟩,h.2⟩
  ·obtain⟨es,U,aa,au⟩:=h;exact⟨_,⟨es,U,aa,rfl⟩,au⟩
  ·exact h.elim
 case mlen x=>
  simp only[f_,bH]at h;simp only[c1];split at h
  ·exact⟨_,rfl,h⟩
  ·obtain⟨es,U,au⟩:=h;exact⟨_,⟨es,U,rfl⟩,au⟩
  ·exact h.elim
theorem asS {o:ca} {k:bt→a8→Prop} (aq:o.op.kind≤1) (h:qv P W o k env ag):∃e,jM P W o env ag e∧k (env.set o.dst e) ag:=by
 unfold qv at h;unfold jM;split at h
 ·exact aeO aq h
 ·rename_i j cO av;split at h
  case h_3=>exact h.elim
  case h_2=>exact⟨h2,rfl,h⟩
  rename_i t ob;by_cases j7:t=cO
  ·have U:=h.1 j7;rw[←j7,x6 _ ob]at U;obtain⟨e,aa,au⟩:=aeO aq U;exact⟨e,⟨fun _=>aa,fun ba=>by subst j7;cases t<;>simp at ba⟩,au⟩
  ·have au:t= !cO:=by cases t<;>cases cO<;>simp_all
   have aa:=h.2 au;rw[←au,x6 _ ob]at aa;exact⟨h2,⟨fun ba=>absurd ba j7,fun _=>rfl⟩,aa⟩
theorem SW {env:bt} {d:Nat} (h:xF env d) {x:Option Nat} {e:aJ} (he:∀q,e≠.b7 d q):xF (env.set x e) d:=fun t q aw=>by
 cases x with
 |none=>exact h t q aw
 |some x=>
  rw[bt.kf]at aw;split at aw
  ·exact he q aw
  ·exact h t q aw
theorem arQ {x:aG} {s q:Nat} (h:a_ env x=.b7 s q):∃t,x=.tmp t∧(t=s∨env t=.b7 s q):=by
 cases x with
 |const a=>cases h
 |tmp t=>
  refine⟨t,rfl,?_⟩;simp only[a_]at h;cases aB:env t with
  |val a=>rw[aB]at h;cases h
  |box c=>rw[aB]at h;cases h;exact .inl rfl
  |b7 dy ka=>rw[aB]at h;cases h;exact .inr rfl
theorem asU {o:a2} {s q:Nat} (h:c1 P W o env ag (.b7 s q)):∃x∈o.bq,∃ka,a_ env x=.b7 s ka:=by
 have Q0:∀{o:a2},bX env o=some (.b7 s q)→∃x∈o.bq,∃ka,a_ env x=.b7 s ka:=by
  intro o h;cases o<;>simp only[bX]at h
  case mv x=>simp only[bk]at h;exact⟨x,by simp[a2.bq],q,h⟩
  case nilCheck x=>
   split at h<;>first|cases h;done|skip
   rename_i dy ey he;simp only[bk,aJ.b7.injEq]at h;obtain⟨rfl,rfl⟩:=h;exact⟨x,by simp[a2.bq],_,he⟩
  case foff off x=>
   split at h<;>first|cases h;done|skip
   rename_i dy ey he;simp only[bk,aJ.b7.injEq]at h;obtain⟨rfl,rfl⟩:=h;exact⟨x,by simp[a2.bq],_,he⟩
  case aidx n sz x i=>
   split at h<;>first|cases h;done|skip
   split at h<;>first|cases h;done|skip
   split at h<;>first|cases h;done|skip
   rename_i dy ey he;simp only[bk,aJ.b7.injEq]at h;obtain⟨rfl,rfl⟩:=h;exact⟨x,by simp[a2.bq],_,he⟩
  all_goals
   repeat' (split at h)
   all_goals first
    |cases h;done
    |(simp only[bk,reduceCtorEq]at h;done)
 cases o<;>simp only[c1]at h
 case pick c a b=>
  split at h
  ·rename_i t _;cases t
   ·exact⟨b,by simp[a2.bq],q,h.symm⟩
   ·exact⟨a,by simp[a2.bq],q,h.symm⟩
  ·exact h.elim
 case bslice=>split at h<;>simp_all
 case load=>
  split at h
  ·obtain⟨_,_,_,h⟩:=h;cases h
  ·obtain⟨_,h⟩:=h;cases h
  ·obtain⟨_,h⟩:=h;split at h
   ·obtain⟨_,h⟩:=h;cases h
   ·exact h.elim
  ·exact h.elim
 case bytesStr=>
  split at h
  ·obtain⟨_,_,h⟩:=h;cases h
  ·exact h.elim
 case strBytes=>
  split at h
  ·obtain⟨_,h⟩:=h;cases h
  ·exact h.elim
 case cut=>
  split at h
  ·obtain⟨_,h⟩:=h;obtain⟨_,_,h⟩:=me h;obtain⟨_,_,h⟩:=me h;cases h
  ·obtain⟨_,_,h⟩:=me h;obtain⟨_,_,h⟩:=me h;cases h
  ·exact h.elim
 case cut3=>
  split at h
  ·obtain⟨_,h⟩:=h;obtain⟨_,_,h⟩:=me h;obtain⟨_,_,h⟩:=me h;obtain⟨_,_,h⟩:=me h;cases h
  ·exact h.elim
 case cutStr=>
  split at h
  ·obtain⟨_,_,h⟩:=me h;obtain⟨_,_,h⟩:=me h;cases h
  ·exact h.elim
 case iaddr=>
  split at h
  ·split at h
   ·obtain⟨_,_,_,_,h⟩:=h;cases h
   ·obtain⟨_,_,h⟩:=h;cases h
   ·exact h.elim
  ·exact h.elim
 case istr=>
  split at h
  ·obtain⟨_,_,_,h⟩:=h;cases h
  ·exact h.elim
 case call=>
  split at h
  ·obtain⟨_,_,h⟩:=h;cases h
  ·exact h.elim
 case callv=>
  split at h
  ·obtain⟨_,_,_,h⟩:=h;cases h
  ·exact h.elim
 case inv=>
  split at h
  ·obtain⟨_,_,_,_,h⟩:=h;cases h
  ·exact h.elim
 case mget=>
  split at h
  ·obtain⟨_,h⟩:=h;cases h
  ·obtain⟨_,_,_,h⟩:=h;cases h
  ·exact h.elim
 case mlen=>
  split at h
  ·cases h
  ·obtain⟨_,_,h⟩:=h;cases h
  ·exact h.elim
 all_goals exact Q0 h
theorem asQ {o:ca} {s q:Nat} (h:jM P W o env ag (.b7 s q)):∃t∈o.jO,t=s∨∃ka,env t=.b7 s ka:=by
 have fin:c1 P W o.op env ag (.b7 s q)→∃t∈o.jO,t=s∨∃ka,env t=.b7 s ka:=fun h=>by
  obtain⟨x,ad,ka,aB⟩:=asU h;obtain⟨t,rfl,aw⟩:=arQ aB;refine⟨t,?_,aw.imp_right fun h=>⟨_,h⟩⟩;unfold ca.jO;exact nh _ (Bs.2 ⟨.tmp t,ad,rfl⟩)
 unfold jM at h;split at h
 ·exact fin h
 ·rename_i j cO av;split at h
  ·rename_i t _;cases t<;>cases cO
   ·exact fin (h.1 rfl)
   ·have:=h.2 rfl;cases this
   ·have:=h.2 rfl;cases this
   ·exact fin (h.1 rfl)
  ·cases h
  ·exact h.elim
theorem asR {o:ca} {e:aJ} {d:Nat} (h:jM P W o env ag e) (aK:xF env d) (aQ:d∉o.jO):∀q,e≠.b7 d q:=fun q he=>by
 subst he;obtain⟨t,aw,U|⟨ka,U⟩⟩:=asQ h
 ·exact aQ (U▸aw)
 ·exact aK t ka U
theorem SN {env:bt} {d:Nat} (h:xF env d) (cs:List ab):env.nK d cs=env.set (some d) (.box cs):=by
 funext t
 rw[bt.kf];unfold bt.nK;by_cases aw:t=d
 ·subst aw;simp
 ·have:(t==d)=false:=by simpa using aw
  rw[this,if_neg aw];cases he:env t with
  |val a=>rfl
  |box c=>rfl
  |b7 s q=>
   show(bif s==d then aJ.val .top else .b7 s q)=.b7 s q
   have:(s==d)=false:=by
    cases aB:s==d with
    |false=>rfl
    |true=>exact absurd he (by rw[eq_of_beq aB];exact h t q)
   rw[this];rfl
def ib (l:List (Nat × ca)) (env:bt):Prop:=∀p∈l,p.1=3→∀d,p.2.dst=some d→xF env d
theorem af3 {o:a2} (h:∀x∈o.bq,a_ bP x=a_ env x):rm W bP o↔rm W env o:=by
 cases o<;>simp only[rm];rename_i n x v;rw[h x (by simp[a2.bq])]
theorem af1 {o:a2} (h:∀x∈o.bq,a_ bP x=a_ env x):vQ bP o↔vQ env o:=by
 cases o<;>simp only[vQ];rename_i n x v;rw[h x (by simp[a2.bq])]
theorem ab0 {o:a2} (h:∀x∈o.bq,a_ bP x=a_ env x):zL bP o↔zL env o:=by
 cases o<;>simp only[zL];rename_i agg n x;rw[h x (by simp[a2.bq])]
abbrev wa (x y:Nat × ca):Prop:=y.1=3→∀d,y.2.dst=some d→d∉x.2.jO∧x.2.dst≠some d
theorem ib.tail {x:Nat × ca} {l:List (Nat × ca)} (h:ib (x::l) env):ib l env:=fun p ae=>h p (cv _ ae)
theorem ib.quiet {o:ca} {e:aJ} {l:List (Nat × ca)} {c9:Nat} (h:ib l env) (ah:jM P W o env ag e) (aj:∀y∈l,wa (c9,o) y):ib l (env.set o.dst e):=
 fun p ae au d aQ=>SW (h p ae au d aQ) (asR ah (h p ae au d aQ) (aj p ae au d aQ).1)
theorem ib.box {l:List (Nat × ca)} (h:ib l env) (d:Nat) (cs:List ab):ib l (env.set (some d) (.box cs)):=
 fun p ae au eh hh=>SW (h p ae au eh hh) (fun q he=>by cases he)
theorem ib.iP {o:a2} {d:Option Nat} {l:List (Nat × ca)} (h:ib l env) (iP:H6 W o d env ag bP bp):ib l bP:=
 fun p ae au eh hh t q he=>h p ae au eh hh t q (iP.gZ t eh q he)
theorem NJ:∀{l:List (Nat × ca)},Iv l=true→l.Pairwise wa
 | [],_=>.nil
 |x::r,h=>by
  unfold Iv at h;simp only[dF]at h;refine kk.2 ⟨fun y aI au d aQ=> ?_,NJ h.2⟩;have:=dI.1 h.1 y aI;simpa[au,aQ]using this
theorem agY:∀(l:List (Nat × ca)) (k:bt→a8→Prop) (env:bt) (ag:a8),(∀p∈l,kindOk p=true)→l.Pairwise wa→ib l env→kC P W l k env ag→hb P W l k env ag
 | [],k,env,ag,_,_,_,h=>h
 |(c9,o)::os,k,env,ag,aw,aj,aK,h=>by
  obtain⟨qS,h6⟩:=kk.1 aj;have bm:=fun env ag aK=>agY os k env ag (fun p ae=>aw p (cv _ ae)) h6 aK;have j1:=aw (c9,o) (by simp)
  simp only[kindOk,g1,dF,beq_iff_eq]at j1;have p2:ib os env:=fun p ae au d aQ=>aK p (cv _ ae) au d aQ;have e6:o.op.xA=true→jd P o (kC P W os k) env ag→jd P o (hb P W os k) env ag:=fun hm h=>
   CY (W:=W) o hm (d1:=none) (e1:=.val .top) (.inl id) (fun x ad=>by cases ad) (.inl rfl) (fun bP bp iP h=>bm bP bp (fun p ae au d aQ t q he=>p2 p ae au d aQ t q (iP.gZ t d q he)) h) h
  have quiet:∀{W'},o.op.kind≤1→qv P W' o (kC P W os k) env ag→∃e,jM P W' o env ag e∧hb P W os k (env.set o.dst e) ag:=fun hm h=>by
   obtain⟨e,U,aa⟩:=asS hm h;exact⟨e,U,bm _ _ (p2.quiet (c9:=c9) U qS) aa⟩
  simp only[kC]at h;simp only[hb];by_cases aa:c9=2
  ·subst aa;rw[if_pos rfl]at h⊢;exact⟨h.1,e6 (by simpa using j1) h.2⟩
  rw[if_neg aa]at h⊢;by_cases au:c9=3
  ·subst au;rw[if_pos rfl]at h⊢;have o7:(o.op.j8=true∧o.guard.isNone=true)∧o.dst.isSome=true:=by simpa using j1
   obtain⟨⟨o7,av⟩,Qj⟩:=o7;obtain⟨d,aQ⟩:=yN.1 Qj;have j3:=aK (3,o) (by simp) rfl d aQ
   have YB:∀cs,ib os (env.set (some d) (.box cs)):=fun cs p ae au eh hh=>SW (p2 p ae au eh hh) (fun q he=>by cases he)
   unfold jd at h;rw[Ou.1 av]at h;dsimp only at h;cases ay:o.op<;>rw[ay]at o7 h<;>first|(cases o7;done)|skip
   ·rename_i cs;simp only[bH,aQ]at h;rw[SN j3]at h;exact⟨d,cs,aQ,rfl,bm _ _ (YB _) h⟩
   ·rename_i x;simp only[bH,aQ]at h;split at h
    ·rename_i eh a hh aA;cases hh;obtain⟨U,ba⟩:=h;rw[SN j3]at ba;exact⟨d,_,aQ,⟨a,aA,U,rfl⟩,bm _ _ (YB _) ba⟩
    ·exact h.elim
  rw[if_neg au]at h⊢;by_cases ba:c9=4
  ·subst ba;rw[if_pos rfl]at h⊢;have im:(o.op.vj=true∧o.guard.isNone=true)∧o.dst.isNone=true:=by simpa using j1
   exact⟨h.1,h.2.1,e6 (by cases ay:o.op<;>rw[ay]at im<;>simp[a2.vj]at im<;>rfl) h.2.2⟩
  rw[if_neg ba]at h⊢;by_cases cb:c9=5
  ·subst cb;rw[if_pos rfl]at h⊢;have nz:o.op.vi=true:=by simpa using j1
   exact⟨h.1,quiet (by cases ay:o.op<;>rw[ay]at nz<;>first|(cases nz;done)|exact b1 _) h.2⟩
  rw[if_neg cb]at h⊢;by_cases du:c9=6
  ·subst du;rw[if_pos rfl]at h⊢;have nz:o.op.vi=true:=by simpa using j1
   exact⟨h.1,quiet (by cases ay:o.op<;>rw[ay]at nz<;>first|(cases nz;done)|exact b1 _) h.2⟩
  rw[if_neg du]at h⊢;refine quiet ?_ h;simp[aa,au,ba,cb,du]at j1;omega
theorem apY {o:ca} (h:(o.op.vj=true∧o.guard.isNone=true)∧o.dst.isNone=true):o.op.xA=true:=by
 cases ay:o.op<;>rw[ay]at h<;>simp[a2.vj]at h<;>rfl
def wh (c9:Nat) (W:List Nat):List Nat:=if c9=6 then ns W else W
theorem Xn {W:List Nat} {x:Nat} (h:x∈ns W):x∈W:=by
 induction W with
 |nil=>cases h
 |cons y r bm=>
  have h:x∈(bif Nat.beq y 888888 then []else y::ns r):=h
  cases aj:Nat.beq y 888888 with
  |true=>rw[aj]at h;cases h
  |false=>
   rw[aj]at h;rcases cu.1 h with rfl|h
   ·simp
   ·exact cv _ (bm h)
theorem acv {c9:Nat} {W:List Nat} {x:Nat} (h:x∈ns W):x∈wh c9 W:=by
 unfold wh;split
 ·exact h
 ·exact Xn h
theorem H7 {c9:Nat} {W:List Nat} (h:c9≠6):wh c9 W=W:=if_neg h
theorem aex {c9:Nat}:qj c9=true↔c9=0∨c9=1∨c9=5∨c9=6:=by
 simp[qj,or_assoc]
theorem sS {c9:Nat} {o:ca} {os:List (Nat × ca)} {k:bt→a8→Prop} (h:qj c9=true):
  hb P W ((c9,o)::os) k env ag↔∃e,(c9=5∨c9=6→sv env o)∧jM P (wh c9 W) o env ag e∧hb P W os k (env.set o.dst e) ag:=by
 have aB:=aex.1 h;simp only[hb];rw[if_neg (by omega),if_neg (by omega),if_neg (by omega)]
 by_cases cb:c9=5
 ·rw[if_pos cb,H7 (by omega)]
  exact⟨fun⟨g,e,U,aa⟩=>⟨e,fun _=>g,U,aa⟩,fun⟨e,g,U,aa⟩=>⟨g (.inl cb),e,U,aa⟩⟩
 rw[if_neg cb];by_cases du:c9=6
 ·rw[if_pos du,wh,if_pos du];exact⟨fun⟨g,e,U,aa⟩=>⟨e,fun _=>g,U,aa⟩,fun⟨e,g,U,aa⟩=>⟨g (.inr du),e,U,aa⟩⟩
 ·rw[if_neg du,H7 du];exact⟨fun⟨e,U,aa⟩=>⟨e,fun h=>by omega,U,aa⟩,fun⟨e,_,U,aa⟩=>⟨e,U,aa⟩⟩
theorem MQ {c9:Nat} {o:ca} {os:List (Nat × ca)} {k:bt→a8→Prop} (h:c9=2∨c9=4):
  hb P W ((c9,o)::os) k env ag↔rm W env o.op∧(c9=4→vQ env o.op)∧jd P o (hb P W os k) env ag:=by
 simp only[hb];rcases h with rfl|rfl
 ·rw[if_pos rfl];exact⟨fun⟨a,b⟩=>⟨a,fun h=>(by cases h),b⟩,fun⟨a,_,b⟩=>⟨a,b⟩⟩
 ·rw[if_neg (by omega),if_neg (by omega),if_pos rfl]
  exact⟨fun⟨a,b,c⟩=>⟨a,fun _=>b,c⟩,fun⟨a,b,c⟩=>⟨a,b rfl,c⟩⟩
theorem vX {o:ca} {os:List (Nat × ca)} {k:bt→a8→Prop}:
  hb P W ((3,o)::os) k env ag↔∃d cs,o.dst=some d∧yA env o.op cs∧hb P W os k (env.set (some d) (.box cs)) ag:=by
 simp only[hb];rw[if_neg (by omega),if_pos trivial]
theorem Gg {c9:Nat} {o:ca} (h:kindOk (c9,o)=true):(qj c9=true∧o.op.kind≤1∧(c9=0→o.op.kind=0)∧(c9=5∨c9=6→o.op.vi=true))∨((c9=2∨c9=4)∧o.op.xA=true∧(c9=4→o.op.vj=true∧o.dst=none))∨(c9=3∧o.op.j8=true∧o.guard=none∧∃d,o.dst=some d):=by
 simp only[kindOk,g1,dF,beq_iff_eq]at h;rcases h with((((((h|h)|h)|h)|h)|h)|h)
 ·exact .inl ⟨by rw[h.1];rfl,by omega,fun _=>h.2,fun cb=>(by omega)⟩
 ·exact .inl ⟨by rw[h.1];rfl,by omega,fun aV=>(by omega),fun cb=>(by omega)⟩
 ·exact .inr (.inl ⟨.inl h.1,h.2,fun ba=>(by omega)⟩)
 ·exact .inr (.inr ⟨h.1.1.1,h.1.1.2,Ou.1 h.1.2,yN.1 h.2⟩)
 ·exact .inr (.inl ⟨.inr h.1.1.1,apY ⟨⟨h.1.1.2,h.1.2⟩,h.2⟩,fun _=>⟨h.1.1.2,Ou.1 h.2⟩⟩)
 ·have aq:o.op.kind≤1:=by
   cases ay:o.op<;>rw[ay]at h<;>first|(simp[a2.vi]at h;done)|exact b1 _
  exact .inl ⟨by rw[h.1];rfl,aq,fun aV=>(by omega),fun _=>h.2⟩
 ·have aq:o.op.kind≤1:=by
   cases ay:o.op<;>rw[ay]at h<;>first|(simp[a2.vi]at h;done)|exact b1 _
  exact .inl ⟨by rw[h.1];rfl,aq,fun aV=>(by omega),fun _=>h.2⟩
theorem ava {c9:Nat} {o:ca} {l c_:List (Nat × ca)} {k:bt→a8→Prop} (aw:kindOk (c9,o)=true) (aj:∀y∈l,wa (c9,o) y) (aK:ib l env)
  (h:∀env ag,ib l env→hb P W l k env ag→hb P W c_ k env ag) (ar:hb P W ((c9,o)::l) k env ag):hb P W ((c9,o)::c_) k env ag:=by
 rcases Gg aw with⟨aB,_⟩|⟨aB,hm,_⟩|⟨rfl,_⟩
 ·rw[sS aB]at ar⊢;obtain⟨e,U,aa,au⟩:=ar;exact⟨e,U,aa,h _ _ (aK.quiet (c9:=c9) aa aj) au⟩
 ·rw[MQ aB]at ar⊢;exact⟨ar.1,ar.2.1,CY (W:=W) o hm (d1:=none) (e1:=.val .top) (.inl id) (fun x ad=>by cases ad) (.inl rfl) (fun bP bp iP aq=>h _ _ (aK.iP iP) aq) ar.2.2⟩
 ·rw[vX]at ar⊢;obtain⟨d,cs,U,aa,au⟩:=ar;exact⟨d,cs,U,aa,h _ _ (aK.box d cs) au⟩
def Kj (env:bt) (o:ca):Prop:=match o.guard with
 |none=>True
 |some (j,cO)=>env j=.val (.bool cO)
theorem sL {o:ca} (h:∀x∈o.jO,a_ bP (.tmp x)=a_ env (.tmp x)):∀x∈o.op.bq,a_ bP x=a_ env x:=by
 intro x ad;cases x with
 |const a=>rfl
 |tmp t=>
  refine h t ?_;unfold ca.jO;exact nh _ (Bs.2 ⟨.tmp t,ad,rfl⟩)
theorem afO {j:Nat} {t:Bool} (h:a_ bP (.tmp j)=a_ env (.tmp j)) (aU:env j=.val (.bool t)):bP j=.val (.bool t):=by
 simp only[a_,aU]at h;cases aB:bP j with
 |val v=>rw[aB]at h;exact h
 |box c=>rw[aB]at h;cases h
 |b7 s q=>rw[aB]at h;cases h
theorem atD {j:Nat} (h:a_ bP (.tmp j)=a_ env (.tmp j)) (aU:env j=.val (.tuple [])):bP j=.val (.tuple []):=by
 simp only[a_,aU]at h;cases aB:bP j with
 |val v=>rw[aB]at h;exact h
 |box c=>rw[aB]at h;cases h
 |b7 s q=>rw[aB]at h;cases h
theorem aeM {o:ca} {e:aJ} (hs:∀x∈o.jO,a_ bP (.tmp x)=a_ env (.tmp x)) (h:Kj env o→c1 P W o.op env ag e→c1 P W o.op bP bp e) (ah:jM P W o env ag e):jM P W o bP bp e:=by
 unfold jM at ah⊢;unfold Kj at h;cases av:o.guard with
 |none=>rw[av]at ah h;exact h trivial ah
 |some p=>
  obtain⟨j,cO⟩:=p;rw[av]at ah h;simp only[]at ah h⊢;split at ah
  case h_3=>exact ah.elim
  case h_2=>
   rename_i ob;have Qm:=atD (hs j (DI av)) ob;simp only[Qm];exact ah
  rename_i t ob;have Qm:=afO (hs j (DI av)) ob;simp only[Qm];exact⟨fun aw=>h (by rw[ob,aw]) (ah.1 aw),ah.2⟩
theorem Cy {o:ca} (hs:∀x∈o.jO,a_ bP (.tmp x)=a_ env (.tmp x)) (h:sv env o):sv bP o:=by
 unfold sv at h⊢;cases av:o.guard with
 |none=>rw[av]at h;exact(ab0 (sL hs)).2 h
 |some p=>
  obtain⟨j,cO⟩:=p;rw[av]at h;simp only[]at h⊢;exact fun aU=>(ab0 (sL hs)).2 (h (afO (hs j (DI av)).symm aU))
theorem ab1 {o:ca} (h:sv env o) (xh:Kj env o):zL env o.op:=by
 unfold sv at h;unfold Kj at xh;cases av:o.guard with
 |none=>rw[av]at h;exact h
 |some p=>rw[av]at h xh;exact h xh
theorem Ez {o:a2} {cs:List ab} (h:∀x∈o.bq,a_ bP x=a_ env x) (aj:yA env o cs):yA bP o cs:=by
 cases o<;>simp only[yA]at aj⊢
 ·exact aj
 ·obtain⟨a,U,aa,au⟩:=aj;exact⟨a,by rw[h _ (by simp[a2.bq])];exact U,aa,au⟩
theorem M' {f:FuncId} {je:List ab} {c:ab} {b:Nat} {cs:List ab} (h:hL P f je ag fun a bp=>a=c∧bp=ag) (ax:ag.fresh b):
  hL P f je (ag.setObj b cs) fun a bp=>a=c∧bp=ag.setObj b cs:=by
 have cm:∀x,x≠b→(ag.setObj b cs).obj x=ag.obj x:=fun x ad=>by
  have:(x==b)=false:=by simpa using ad
  simp[a8.setObj,this]
 have bQ:(ag.setObj b cs).obj b=some cs:=by simp[a8.setObj]
 have fq:ag.Sub (ag.setObj b cs):=⟨fun x y aI=>by
  rw[cm x (by rintro rfl;rw[ax.1]at aI;cases aI)];exact aI,fun _ _ h=>h,fun _ _ h=>h⟩
 intro I w vs m hs ah;refine(h I w vs (m.sub fq) hs ah).mono fun e w' ⟨v,a,I',bp,he,iI,eI,ai,aB⟩=> ?_;obtain⟨rfl,rfl⟩:=aB;obtain⟨os,T,az,ao,aX,bD,c8⟩:=m.obj b cs bQ;have bw:=g8 az;obtain⟨bg,bl,bS,cP⟩:=ai.iJ b bw ax;refine⟨v,a,I',bp.setObj b cs,he,iI,⟨eI.cell,eI.cap,fun x as ad=> ?_,fun x n sz t ad=> ?_,fun x ed ad=> ?_⟩,⟨ai.le,ai.size,ai.os,ai.tape,ai.output,fun x ad w9=> ?_⟩,rfl,rfl⟩
 ·by_cases ff:x=b
  ·subst ff;rw[bQ]at ad;cases ad;exact⟨os,T,by rw[bg];exact az,ao,fun j=>(aX j).mono ai.le,fun o=>by rw[bS];exact bD o,by rw[cP];exact c8⟩
  ·rw[cm x ff]at ad;exact eI.obj x as ad
 ·obtain⟨bu,bC⟩:=eI.cF x n sz t ad;refine⟨?_,bC⟩;rw[cm x (by rintro rfl;have:=ax.2.1;rw[show(bp.setObj x cs).cF x=bp.cF x from rfl]at ad;rw[this]at ad;cases ad)]
  exact bu
 ·obtain⟨bu,bC⟩:=eI.mp x ed ad;refine⟨?_,bC⟩;rw[cm x (by rintro rfl;have:=ax.2.2;rw[show(bp.setObj x cs).mp x=bp.mp x from rfl]at ad;rw[this]at ad;cases ad)]
  exact bu
 ·have ff:x≠b:=by
   rintro rfl;have U:=w9.1;rw[bQ]at U;cases U
  have am':bp.fresh x:=⟨by rw[←cm x ff];exact w9.1,w9.2.1,w9.2.2⟩
  obtain⟨et,eY,m7,z'⟩:=ai.iJ x ad am';exact⟨et,⟨by rw[cm x ff];exact eY.1,eY.2.1,eY.2.2⟩,m7,z'⟩
theorem asV {o:a2} {e:aJ} {b:Nat} {cs:List ab} (ax:ag.fresh b) (aq:o.kind≤1) (hs:∀x∈o.bq,a_ bP x=a_ env x) (aj:∀s,W.contains s=false→bP s=env s)
  (ah:c1 P W o env ag e):c1 P W o bP (ag.setObj b cs) e:=by
 have U:c1 P W o bP ag e:=vJ o e hs (.inr ⟨rfl,aj⟩) ah;have cm:∀x y,ag.obj x=some y→(ag.setObj b cs).obj x=some y:=fun x y aI=>by
  have:(x==b)=false:=by
   cases aB:x==b with
   |false=>rfl
   |true=>rw[eq_of_beq aB,ax.1]at aI;cases aI
  simp[a8.setObj,this,aI]
 cases o
 case load agg n x=>
  simp only[c1]at U⊢;generalize a_ bP x=ex at U⊢;split at U
  ·obtain⟨ds,bu,bC,c4⟩:=U;exact⟨ds,cm _ _ bu,bC,c4⟩
  ·exact U
  ·exact U
  ·exact U.elim
 case call f je=>
  simp only[c1]at U⊢;generalize iQ (je.map (a_ bP))=q at U⊢;split at U
  ·obtain⟨c,bu,bC⟩:=U;exact⟨c,M' bu ax,bC⟩
  ·exact U.elim
 case callv f je=>
  simp only[c1]at U⊢;generalize iQ (je.map (a_ bP))=q at U⊢;generalize a_ bP f=avI at U⊢;split at U
  ·obtain⟨ml,c,bu,bC⟩:=U;exact⟨ml,c,M' bu ax,bC⟩
  ·exact U.elim
 case inv eg x je=>
  simp only[c1]at U⊢;generalize iQ (je.map (a_ bP))=q at U⊢;generalize a_ bP x=ex at U⊢;split at U
  ·obtain⟨f,ml,c,bu,bC⟩:=U;exact⟨f,ml,c,M' bu ax,bC⟩
  ·exact U.elim
 case mget=>exact U
 case mlen=>exact U
 all_goals first
  |exact vJ _ e (fun _ _=>rfl) (.inl rfl) U
  |(simp[a2.kind]at aq;done)
  |exact U
theorem avb {v7 yp:Nat} {de cy:ca} {l:List (Nat × ca)} {k:bt→a8→Prop} (ax:ca.free v7 de yp cy=true) (Cc:kindOk (v7,de)=true) (J6:kindOk (yp,cy)=true)
  (amg:∀x,de.dst=some x→x∈ns W) (PW:∀x,cy.dst=some x→x∈ns W) (aK:ib ((v7,de)::(yp,cy)::l) env) (ar:hb P W ((v7,de)::(yp,cy)::l) k env ag):hb P W ((yp,cy)::(v7,de)::l) k env ag:=by
 unfold ca.free at ax;simp only[dF]at ax;obtain⟨⟨aq,o9⟩,B0⟩:=ax;have b':∀x,de.dst=some x→x∉cy.jO∧cy.dst≠some x:=by
  intro x ad;rw[ad]at o9;simpa using o9
 have ct:∀x,cy.dst=some x→x∉de.jO:=by
  intro x ad;rw[ad]at B0;simpa using B0
 have cm:de.dst=none∨de.dst≠cy.dst:=by
  cases h:de.dst with
  |none=>exact .inl rfl
  |some x=>exact .inr fun aa=>(b' x h).2 aa.symm
 have vO:∀e1,∀x∈cy.jO,a_ (env.set de.dst e1) (.tmp x)=a_ env (.tmp x):=fun e1 x ad=>w0 env de.dst e1 (.tmp x) fun t aw h=>by cases aw;exact(b' x h).1 ad
 have Mh:∀aN,∀x∈de.jO,a_ (env.set cy.dst aN) (.tmp x)=a_ env (.tmp x):=fun aN x ad=>w0 env cy.dst aN (.tmp x) fun t aw h=>by cases aw;exact ct x h ad
 have Ur:∀{bP},M6 env bP cy.dst→∀x∈de.jO,a_ bP (.tmp x)=a_ env (.tmp x):=fun hs x ad=>hs x fun h=>ct x h.symm ad;have YE:∀c9 x,de.dst=some x→x∈wh c9 W:=fun c9 x h=>acv (amg x h);have YF:∀c9 x,cy.dst=some x→x∈wh c9 W:=fun c9 x h=>acv (PW x h);have ZT:∀{x:Nat} {W:List Nat},x∈W→W.contains x=true:=fun h=>by simpa using h
 have Gs:∀{bP bp},H6 W cy.op cy.dst env ag bP bp→rm W env cy.op→∀s,W.contains s=false→bP s=env s:=fun iP im s hs=>iP.loc im s (fun h=>by
  have:=ZT (Xn (PW s h.symm));rw[hs]at this;cases this) hs
 rcases Gg Cc with⟨bg,ze,PO,avJ⟩|⟨bg,_⟩|⟨rfl,o7,avQ,d,aQ⟩
 ·rw[sS bg]at ar;obtain⟨e1,ep,bu,ar⟩:=ar;rcases Gg J6 with⟨bl,_⟩|⟨bl,u7,amb⟩|⟨rfl,_⟩
  ·
   rw[sS bl]at ar;obtain⟨aN,dV,bC,ar⟩:=ar;rw[sS bl];refine⟨aN,fun h=>Cy (fun x ad=>(vO e1 x ad).symm) (dV h),aeK cy aN (fun x ad=>(b' x ad).1) (YE _) bC,?_⟩;rw[sS bg];refine⟨e1,fun h=>Cy (Mh aN) (ep h),aeL de e1 ct (YF _) bu,?_⟩;rw[bt.set_comm env e1 aN cm]at ar;exact ar
  ·
   rw[MQ bl]at ar⊢;obtain⟨s1,s2,ar⟩:=ar;have FT:=sL (vO e1);have An:=(af3 FT).1 s1;have Uc:=fun h=>(af1 FT).1 (s2 h);by_cases du:v7=6
   ·
    have aa:yp=2∧cy.op.vj=false:=by
     rcases bl with rfl|rfl<;>simp[qj,du]at aq;exact⟨rfl,aq⟩
    refine⟨An,Uc,CY (W:=ns W) cy u7 (.inl (aeN bu)) (fun x ad=>(b' x ad).1) cm (fun bP bp iP ek=> ?_) ar⟩;rw[sS bg];have sl:=Ur iP.same;refine⟨e1,fun h=>Cy sl (ep h),aeM sl (fun xh ah=> ?_) bu,ek⟩;have ln:=sL sl;have im:rm (ns W) env cy.op:=by
     have:=aa.2;cases ay:cy.op<;>first|trivial|(rw[ay]at this;cases this)
    have nz:=ab1 (ep (.inr du)) xh;cases ay:de.op<;>rw[ay]at nz<;>first|(exact nz.elim)|skip
    rename_i agg n x;rw[ay]at ah ln;obtain⟨s,q,ad⟩:=nz;have iq:=ln x (by simp[a2.bq])
    simp only[wh,if_pos du]at ah⊢;simp only[c1,iq,ad]at ah⊢;obtain⟨bu,bC⟩:=ah;refine⟨bu,?_⟩;rw[iP.loc im s (fun h=>by have:=ZT (PW s h.symm);rw[bu]at this;cases this) bu]
    exact bC
   rw[H7 du]at bu;refine⟨An,Uc,CY (W:=W) cy u7 (.inl (aeN bu)) (fun x ad=>(b' x ad).1) cm (fun bP bp iP ek=> ?_) ar⟩;rw[sS bg,H7 du];have sl:=Ur iP.same;refine⟨e1,fun h=>Cy sl (ep h),aeM sl (fun xh ah=> ?_) bu,ek⟩;have ln:=sL sl;by_cases aV:de.op.kind=0
   ·exact vJ de.op e1 ln (.inl aV) ah
   have avX:v7≠0:=fun h=>aV (PO h);by_cases ba:yp=4
   ·exact vJ de.op e1 ln (.inr ⟨iP.ajP (Uc ba),Gs iP An⟩) ah
   have aa:yp=2:=by omega
   subst aa;by_cases cb:v7=5
   ·have nz:=ab1 (ep (.inl cb)) xh;cases ay:de.op<;>rw[ay]at nz<;>first|(exact nz.elim)|skip
    rename_i agg n x;rw[ay]at ah ln;obtain⟨s,q,ad⟩:=nz;have iq:=ln x (by simp[a2.bq])
    simp only[c1,iq,ad]at ah⊢;obtain⟨bu,bC⟩:=ah;refine⟨bu,?_⟩;rw[Gs iP An s bu];exact bC
   have U:v7=1:=by have:=aex.1 bg;omega
   subst U;have ek:(de.op.vi=true∧cy.op.Kg=true)∨cy.op.isObj=true:=by
    simpa[qj,a2.vj]using aq
   rcases ek with⟨abR,apG⟩|ko
   ·have amr:=iP.app apG;cases aB:de.op with
    |load agg n x=>
     rw[aB]at ah ln;have U:=ln x (by simp[a2.bq])
     simp only[c1,U,amr]at ah⊢;generalize a_ env x=ex at ah⊢;cases ex with
     |box c=>exact ah
     |val v=>cases v<;>exact ah
     |b7 s off=>
      simp only[]at ah⊢;obtain⟨bg,bl⟩:=ah;refine⟨bg,?_⟩;rw[Gs iP An s bg];exact bl
    |_=>rw[aB]at abR;cases abR
   ·rcases iP.obj ko with pg|⟨b,cs,am3,pg⟩
    ·exact vJ de.op e1 ln (.inr ⟨pg,Gs iP An⟩) ah
    ·rw[pg];exact asV am3 ze ln (Gs iP An) ah
  ·rw[vX]at ar⊢;obtain⟨d2,cs,B0,oa,ar⟩:=ar;refine⟨d2,cs,B0,Ez (fun x ad=>(sL (vO e1) x ad).symm) oa,?_⟩;rw[sS bg];rw[←B0];refine⟨e1,fun h=>Cy (Mh _) (ep h),aeL de e1 ct (YF _) bu,?_⟩;rw[←B0,bt.set_comm env e1 _ cm]at ar;exact ar
 ·exfalso;rcases bg with rfl|rfl<;>simp[qj]at aq
 ·
  rw[vX]at ar;obtain⟨eh,cs,hh,oa,ar⟩:=ar;rw[aQ]at hh;cases hh;rcases Gg J6 with⟨bl,_⟩|⟨bl,u7,amb⟩|⟨rfl,_⟩
  ·rw[sS bl]at ar;obtain⟨aN,dV,bC,ar⟩:=ar;rw[sS bl];rw[←aQ]at ar dV bC;refine⟨aN,fun h=>Cy (fun x ad=>(vO _ x ad).symm) (dV h),aeK cy aN (fun x ad=>(b' x ad).1) (YE _) bC,?_⟩;rw[vX];refine⟨d,cs,aQ,Ez (sL (Mh aN)) oa,?_⟩;rw[bt.set_comm env _ aN cm,aQ]at ar;exact ar
  ·rw[MQ bl]at ar⊢;rw[←aQ]at ar;obtain⟨s1,s2,ar⟩:=ar;have FT:=sL (vO (.box cs));refine⟨(af3 FT).1 s1,fun h=>(af1 FT).1 (s2 h),CY (W:=W) cy u7 (.inr ⟨d,aQ,aK (3,de) (by simp) rfl d aQ⟩) (fun x ad=>(b' x ad).1) cm (fun bP bp iP ek=> ?_) ar⟩
   rw[vX];exact⟨d,cs,aQ,Ez (sL (Ur iP.same)) oa,by rw[←aQ];exact ek⟩
  ·rw[vX]at ar;obtain⟨d2,e2,Qi,YN,ar⟩:=ar;rw[vX];rw[←aQ]at YN ar;refine⟨d2,e2,Qi,Ez (fun x ad=>(sL (vO _) x ad).symm) YN,?_⟩;rw[vX];refine⟨d,cs,aQ,Ez (by rw[←Qi];exact sL (Mh _)) oa,?_⟩
   rw[bt.set_comm env _ _ (by rw[←Qi];exact cm),aQ]at ar
   exact ar
theorem agX {x:Nat × ca} {r:List (Nat × ca)} {k:bt→a8→Prop}:∀(l:List (Nat × ca)) {env:bt} {ag:a8},(∀y∈l,ca.free y.1 y.2 x.1 x.2=true)→
  (∀y∈x::l,kindOk y=true∧(∀d,y.2.dst=some d→d∈ns W))→(l++x::r).Pairwise wa→ib (l++x::r) env→hb P W (l++x::r) k env ag→hb P W (x::(l++r)) k env ag
 | [],env,ag,_,_,_,_,h=>h
 |y::l,env,ag,ax,ae,aj,aK,h=>by
  have aI:=ae y (by simp)
  have ad:=ae x (by simp)
  obtain⟨qS,h6⟩:=kk.1 aj;have U:hb P W (y::x::(l++r)) k env ag:=
   ava aI.1 qS aK.tail (fun env ag p2 h=>agX l (fun z a'=>ax z (cv _ a')) (fun z a'=>ae z (by rcases cu.1 a' with rfl|a'<;>simp[*])) h6 p2 h) h
  refine avb (ax y (by simp)) aI.1 ad.1 aI.2 ad.2 (fun p c0 au d aQ=>aK p ?_ au d aQ) U
  rcases cu.1 c0 with rfl|c0
  ·simp
  rcases cu.1 c0 with rfl|c0
  ·simp
  ·rcases fu.1 c0 with aB|aB<;>simp[aB]
theorem aeP {o:a2} {d:Option Nat} {e:aJ} {k:bt→a8→Prop} (ah:c1 P W o env ag e) (aq:k (env.set d e) ag):bH P o d (mJ k) env ag:=by
 have hM:∀{env:bt} {ag:a8},k env ag→mJ k env ag:=fun h=>⟨_,_,fun s=>.inr (.inl rfl),.refl _,h⟩;by_cases ae:o.sq=true
 ·rw[HO P o d _ env ag ae];have:bX env o=some e:=by cases o<;>first|exact ah|exact absurd ae (by simp[a2.sq])
  rw[this];exact hM aq
 cases o<;>first|exact absurd rfl ae|skip
 case pick c a b=>
  simp only[c1]at ah;simp only[bH];split at ah
  ·rename_i t _;subst ah;cases t
   ·exact⟨fun h=>(by cases h),fun _=>hM aq⟩
   ·exact⟨fun _=>hM aq,fun h=>(by cases h)⟩
  ·exact ah.elim
 case bslice own sz hN n z br=>
  simp only[c1]at ah;simp only[bH];split at ah
  ·obtain⟨rfl,rfl⟩:=ah;simp only[lK,if_false];exact hM aq
  ·exact ah.elim
 case load agg n x=>
  simp only[c1]at ah;simp only[bH];generalize a_ env x=ex at ah⊢;split at ah
  ·obtain⟨cs,U,aa,rfl⟩:=ah;exact⟨cs,U,aa,hM aq⟩
  ·obtain⟨aa,rfl⟩:=ah;exact⟨aa,hM aq⟩
  ·obtain⟨_,ah⟩:=ah;split at ah
   ·rename_i cs gd;obtain⟨aa,rfl⟩:=ah;exact⟨aa,hM aq⟩
   ·exact ah.elim
  ·exact ah.elim
 case bytesStr x=>
  simp only[c1]at ah;simp only[bH];split at ah
  ·obtain⟨l,U,rfl⟩:=ah;exact⟨l,U,hM aq⟩
  ·exact ah.elim
 case strBytes q x=>
  simp only[c1]at ah;simp only[bH];split at ah
  ·obtain⟨U,rfl⟩:=ah;exact⟨U,hM aq⟩
  ·exact ah.elim
 case cut sz x lo hi=>
  simp only[c1]at ah;simp only[bH];generalize a_ env x=ex at ah⊢;split at ah
  ·exact⟨ah.1,jB (fun n h=>⟨h.1,jB (fun m h=>⟨h.1,by rw[h.2]at aq;exact hM aq⟩) h.2⟩) ah.2⟩
  ·exact jB (fun n h=>⟨h.1,jB (fun m h=>⟨h.1,by rw[h.2]at aq;exact hM aq⟩) h.2⟩) ah
  ·exact ah.elim
 case cut3 sz x lo hi mx=>
  simp only[c1]at ah;simp only[bH];split at ah
  ·exact⟨ah.1,jB (fun n h=>⟨h.1,jB (fun m h=>⟨h.1,jB (fun q h=>⟨h.1,by rw[h.2]at aq;exact hM aq⟩) h.2⟩) h.2⟩) ah.2⟩
  ·exact ah.elim
 case cutStr x lo hi=>
  simp only[c1]at ah;simp only[bH];split at ah
  ·exact jB (fun n h=>⟨h.1,jB (fun m h=>⟨h.1,by rw[h.2]at aq;exact hM aq⟩) h.2⟩) ah
  ·exact ah.elim
 case iaddr sz x i=>
  simp only[c1]at ah;simp only[bH];generalize a_ env x=ex at ah⊢;split at ah
  ·split at ah
   ·obtain⟨U,a,aa,au,rfl⟩:=ah;exact⟨U,a,aa,au,hM aq⟩
   ·obtain⟨U,aa,rfl⟩:=ah;exact⟨U,aa,hM aq⟩
   ·exact ah.elim
  ·exact ah.elim
 case istr x i=>
  simp only[c1]at ah;simp only[bH];split at ah
  ·obtain⟨U,a,aa,rfl⟩:=ah;exact⟨U,a,aa,hM aq⟩
  ·exact ah.elim
 case call f as=>
  simp only[c1]at ah;simp only[bH];split at ah
  ·obtain⟨c,U,rfl⟩:=ah;exact U.mono fun a bp h=>by obtain⟨rfl,rfl⟩:=h;exact hM aq
  ·exact ah.elim
 case callv f as=>
  simp only[c1]at ah;simp only[bH];split at ah
  ·obtain⟨aV,c,U,rfl⟩:=ah;exact⟨aV,U.mono fun a bp h=>by obtain⟨rfl,rfl⟩:=h;exact hM aq⟩
  ·exact ah.elim
 case inv eg x as=>
  simp only[c1]at ah;simp only[bH];split at ah
  ·obtain⟨f,aV,c,U,rfl⟩:=ah;exact⟨f,aV,U.mono fun a bp h=>by obtain⟨rfl,rfl⟩:=h;exact hM aq⟩
  ·exact ah.elim
 case mget a7 z ok x i=>
  simp only[c1]at ah;simp only[bH];split at ah
  ·obtain⟨U,rfl⟩:=ah;exact⟨U,hM aq⟩
  ·obtain⟨es,U,aa,rfl⟩:=ah;exact⟨es,U,aa,hM aq⟩
  ·exact ah.elim
 case mlen x=>
  simp only[c1]at ah;simp only[bH];split at ah
  ·subst ah;exact hM aq
  ·obtain⟨es,U,rfl⟩:=ah;exact⟨es,U,hM aq⟩
  ·exact ah.elim
 all_goals exact ah.elim
theorem asT {o:ca} {e:aJ} {k:bt→a8→Prop} (ah:jM P W o env ag e) (aq:k (env.set o.dst e) ag):jd P o (mJ k) env ag:=by
 unfold jM at ah;unfold jd;split at ah
 ·exact aeP ah aq
 ·rename_i j cO av;split at ah
  case h_3=>exact ah.elim
  case h_2=>
   rw[ah]at aq;exact⟨_,_,fun s=>.inr (.inl rfl),.refl _,aq⟩
  rename_i t ob;refine⟨fun h=> ?_,fun h=> ?_⟩
  ·rw[←h,x6 _ ob];exact aeP (ah.1 h) aq
  ·rw[←h,x6 _ ob];have:=ah.2 h;rw[this]at aq;exact⟨_,_,fun s=>.inr (.inl rfl),.refl _,aq⟩
end
section
variable {P:Program}
theorem aco {acc:List Nat} {j:Nat}:∀(l:List Edge) (s:Nat),(l.foldl (fun s e=>if Region.binds .any e then s|||2^e.on|||acc.getD e.on 0 else s) s).testBit j=true→
  s.testBit j=true∨∃e∈l,Region.binds .any e=true∧(e.on=j∨(acc.getD e.on 0).testBit j=true)
 | [],s,h=>.inl h
 |e::r,s,h=>by
  rw[OX]at h;rcases aco r _ h with U|⟨aR,U,aa⟩
  ·split at U
   ·rename_i aj;simp only[Nat.testBit_or,g1]at U;rcases U with(U|U)|U
    ·exact .inl U
    ·rw[Nat.testBit_two_pow]at U;exact .inr ⟨e,by simp,aj,.inl (by simpa using U)⟩
    ·exact .inr ⟨e,by simp,aj,.inr U⟩
   ·exact .inl U
  ·exact .inr ⟨aR,cv _ U,aa⟩
theorem acp (ops:List Oper) (L:Nat→Prop) (ej:∀x o,ops[x]? =some o→L x→∀e∈o.after.toList,Region.binds .any e=true→L e.on):
  ∀(r pre:List Oper) (acc:List Nat),ops=pre++r→acc.length=pre.length→
   (∀i j o,i<acc.length→ops[i]? =some o→(∀e∈o.after.toList,Region.binds .any e=true→L e.on)→(acc.getD i 0).testBit j=true→L j)→
   ∀i j o,ops[i]? =some o→(∀e∈o.after.toList,Region.binds .any e=true→L e.on)→((qa r acc).getD i 0).testBit j=true→L j
 | [],pre,acc,ay,ak,av,i,j,o,hi,he,aj=>by
  have bw:i<acc.length:=by
   rw[ak];have:=(hn.1 hi).1;rw[ay]at this;simpa using this
  exact av i j o bw hi he aj
 |q::r,pre,acc,ay,ak,av,i,j,o,hi,he,aj=>by
  simp only[qa]at aj;refine acp ops L ej r (pre++[q]) (acc++[acn acc q]) (by simp[ay]) (by simp[ak]) (fun i j o bw hi he aj=> ?_) i j o hi he aj
  by_cases h:i<acc.length
  ·rw[cM,kl h,←cM]at aj;exact av i j o h hi he aj
  ·have B3:i=acc.length:=by simp at bw;omega
   subst B3;have aB:q=o:=by
    rw[ay,ak,km (b1 _)]at hi;simpa using hi
   subst aB;rw[cM,km (b1 _)]at aj;simp only[ID,l5,lL]at aj;rcases aco _ _ aj with U|⟨e,U,aa,au⟩
   ·simp at U
   ·rcases au with rfl|au
    ·exact he e U aa
    ·have JW:e.on<acc.length:=by
      rcases lJ e.on acc.length with h|h
      ·exact h
      ·rw[cM,kI h]at au;simp at au
     have jH:∃ey,ops[e.on]? =some ey:=by
      have:e.on<ops.length:=by rw[ay];simp;omega
      exact⟨_,eU this⟩
     obtain⟨ey,om⟩:=jH;exact av e.on j ey JW om (ej e.on ey om (he e U aa)) au
theorem We:∀(l:List Oper) (k:Nat),Ep k l=true→∀i o,l[i]? =some o→∀e∈o.after.toList,Region.binds .any e=true→e.on<k+i
 | [],k,_,i,o,hi=>by simp at hi
 |q::r,k,h,i,o,hi=>by
  simp only[Ep,dF]at h;cases i with
  |zero=>
   simp only[l5,bk]at hi;subst hi;intro e he aj;have:=dI.1 h.1 e he;simpa[aj]using this
  |succ i=>
   simp only[nV]at hi;intro e he aj;have:=We r (k+1) h.2 i o hi e he aj;omega
structure HZ (P:Program) (esc:List Nat) (n:Nat) (ops:Array Oper) (W:List Nat) (m:List Nat) (jq:Array Bool) (bo:List (Nat × Nat × ca)):Prop where
 size:jq.size=ops.size
 left:∀i,i<ops.size→(jq.getD i true=false↔∃x∈bo,x.1=i)
 closed:∀(x:Nat) (o:Oper),ops[x]? =some o→jq.getD x false=true→∀e∈o.after.toList,Region.binds .any e=true→jq.getD e.on false=true
 aea:bo.Pairwise fun y x=>(m.getD x.1 0).testBit y.1=true∨ca.free y.2.1 y.2.2 x.2.1 x.2.2=true
 nodup:(bo.map (·.1)).Nodup
 each:∀x∈bo,∃o,ops[x.1]? =some o∧zZ P esc n ops o=some x.2.2
 kinds:∀x∈bo,kindOk x.2=true∧(∀d,x.2.2.dst=some d→d∈ns W)
 boxes:bo.Pairwise fun x y=>wa x.2 y.2
theorem Yn {a:Array Bool} {i:Nat} (h:i<a.size) (d eh:Bool):a.getD i d=a.getD i eh:=by
 simp[Array.getD,h]
variable {E:Entry} {k:bt→a8→Prop} {Q:Exit→Act→World→Prop}
theorem akP {esc:List Nat} {ops:Array Oper} {W:List Nat} (y9:∀a w,dz E k a w→Q .normal a w) (amC:Ep 0 ops.toList=true):
  ∀(fuel:Nat) (jq:Array Bool) (bo:List (Nat × Nat × ca)) (a:Act) (w:World),HZ P esc E.n ops W (qa ops.toList []) jq bo→bo.length≤fuel→
   dz E (fun env ag=>ib (bo.map (·.2)) env∧hb P W (bo.map (·.2)) k env ag) a w→wpAny P .any ops Q fuel jq a w:=by
 have arp:∀(jq:Array Bool) (bo:List (Nat × Nat × ca)),HZ P esc E.n ops W (qa ops.toList []) jq bo→Region.ready .any ops jq=[]→bo=[]:=by
  intro jq bo inv ah;cases bo with
  |nil=>rfl
  |cons h3 lE=>
   exfalso;have jH:∃i,∃x∈(h3::lE),x.1=i:=⟨h3.1,h3,by simp,rfl⟩
   have aqk:∀N i,i≤N→(∃x∈(h3::lE),x.1=i)→∃i,(∃x∈(h3::lE),x.1=i)∧∀j,j<i→¬∃x∈(h3::lE),x.1=j:=by
    intro N
    induction N with
    |zero=>intro i hi h;exact⟨i,h,fun j aU=>by omega⟩
    |succ N bm=>
     intro i hi h;by_cases Zb:∃j,j<i∧∃x∈(h3::lE),x.1=j
     ·obtain⟨j,aU,b0⟩:=Zb;exact bm j (by omega) b0
     ·exact⟨i,h,fun j aU b0=>Zb ⟨j,aU,b0⟩⟩
   obtain⟨i,hi,anA⟩:=aqk h3.1 h3.1 (b1 _) ⟨h3,by simp,rfl⟩
   obtain⟨x,ad,rfl⟩:=hi;obtain⟨o,ay,_⟩:=inv.each x ad;have bw:x.1<ops.size:=(OG.1 ay).1;have fW:x.1∈Region.ready .any ops jq:=by
    unfold Region.ready;refine ma.2 ⟨IC.2 bw,?_⟩;have U:jq.getD x.1 true=false:=(inv.left x.1 bw).2 ⟨x,ad,rfl⟩;simp only[U,Bool.not_false,s7,ay,nj,lL];rw[←Array.all_toList];refine dI.2 fun e he=> ?_;cases aj:Region.binds .any e with
    |false=>rfl
    |true=>
     simp only[Bu,Bool.false_or];have xh:=We ops.toList 0 amC x.1 o (by simpa using ay) e he aj
     have anM:e.on<x.1:=by omega
     have hs:e.on<ops.size:=by omega
     have:=inv.left e.on hs;cases aB:jq.getD e.on true with
     |false=>exact absurd (this.1 aB) (anA e.on anM)
     |true=>rw[Yn (by rw[inv.size];exact hs) false true];exact aB
   rw[ah]at fW;cases fW
 intro fuel
 induction fuel with
 |zero=>
  intro jq bo a w inv ak h;have:bo=[]:=rJ (by omega)
  subst this;refine⟨?_,y9 a w (h.mono fun _ _ h=>h.2)⟩;unfold Region.ready;refine List.filter_eq_nil_iff.2 fun i hi=> ?_;have bw:=IC.1 hi;cases aB:jq.getD i true with
  |true=>simp
  |false=>
   obtain⟨x,ad,_⟩:=(inv.left i bw).1 aB;cases ad
 |succ fuel bm=>
  intro jq bo a w inv ak h;refine⟨fun ah=> ?_,fun i hi=> ?_⟩
  ·have:=arp jq bo inv ah;subst this;exact y9 a w (h.mono fun _ _ h=>h.2)
  ·unfold Region.ready at hi;obtain⟨JR,o_⟩:=ma.1 hi;have bw:=IC.1 JR;simp only[dF,Bh]at o_;obtain⟨Y7,B3⟩:=o_;obtain⟨x,ad,rfl⟩:=(inv.left i bw).1 Y7;obtain⟨o,ay,P7⟩:=inv.each x ad;have YZ:∀e∈o.after.toList,Region.binds .any e=true→jq.getD e.on false=true:=by
    intro e he aj;rw[ay]at B3;simp only[nj,lL]at B3;rw[←Array.all_toList]at B3;have:=dI.1 B3 e he;simpa[aj]using this
   obtain⟨d',l3,a1⟩:=List.append_of_mem ad;subst a1;have j3:=inv.nodup;rw[s9,gM]at j3;have oj:∀y∈d'++l3,y.1≠x.1:=by
    intro y aI he;rw[EF]at j3;obtain⟨_,ct,jr⟩:=j3;rcases fu.1 aI with aI|aI
    ·exact jr y.1 (Bx aI) x.1 (by simp) he
    ·rw[Ov]at ct;exact ct.1 (he▸Bx aI)
   have Y2:∀y∈d'.map (·.2),ca.free y.1 y.2 x.2.1 x.2.2=true:=by
    intro y aI;obtain⟨z,a',rfl⟩:=eO.1 aI;have ae:=(rH.1 inv.aea).2.2 z a' x (by simp)
    rcases ae with ae|ae
    ·exfalso;have BU:=acp ops.toList (fun j=>jq.getD j false=true) (fun q ey om aB=>inv.closed q ey (by simpa using om) aB) ops.toList [] [] rfl rfl (fun i j o bw=>by simp at bw) x.1 z.1 o (by simpa using ay) YZ ae
     obtain⟨av8,anX,_⟩:=inv.each z (by simp[a'])
     have gH:z.1<ops.size:=(OG.1 anX).1;have:jq.getD z.1 true=false:=(inv.left z.1 gH).2 ⟨z,by simp[a'],rfl⟩
     rw[Yn (by rw[inv.size];exact gH) true false]at this
     rw[this]at BU;cases BU
    ·exact ae
   have o7:(d'.map (·.2)++x.2::l3.map (·.2)).Pairwise wa:=by
    have:=IB.2 inv.boxes
    rwa [s9,gM]at this
   have am_:dz E (fun env ag=>ib (x.2::(d'++l3).map (·.2)) env∧hb P W (x.2::(d'++l3).map (·.2)) k env ag) a w:=h.mono fun env ag ⟨aK,ar⟩=>by
    rw[s9,gM]at ar aK;have:=agX (W:=W) (x:=x.2) (r:=l3.map (·.2)) (d'.map (·.2)) Y2 (fun y aI=>by
     rcases cu.1 aI with rfl|aI
     ·exact inv.kinds x (by simp)
     ·obtain⟨z,a',rfl⟩:=eO.1 aI;exact inv.kinds z (by simp[a'])) o7 aK ar
    rw[s9];refine⟨fun p ae=>aK p ?_,this⟩;rcases cu.1 ae with rfl|ae
    ·simp
    ·rcases fu.1 ae with ae|ae<;>simp[ae]
   have amJ:∀y∈(d'++l3).map (·.2),wa x.2 y:=by
    intro y aI;rw[s9]at aI;rcases fu.1 aI with aI|aI
    ·intro au d aQ;have ax:=Y2 y aI;unfold ca.free at ax;simp only[dF]at ax;have:=ax.1.2;rw[aQ]at this;simpa using this
    ·exact(kk.1 (rH.1 o7).2.1).1 y aI
   have aoV:HZ P esc E.n ops W (qa ops.toList []) (jq.setIfInBounds x.1 true) (d'++l3):=by
    refine⟨by simp[inv.size],fun j aU=> ?_,fun q ey om aB e he aj=> ?_,?_,?_,fun y aI=>inv.each y ?_,fun y aI=>inv.kinds y ?_,?_⟩
    ·by_cases QD:j=x.1
     ·subst QD;have U:(jq.setIfInBounds x.1 true).getD x.1 true=true:=by
       rw[gl,ON];simp[inv.size,bw]
      rw[U];refine⟨fun h=>(by cases h),fun⟨y,aI,Ci⟩=>absurd Ci (oj y aI)⟩
     ·rw[getD_set_ne true (fun h=>QD h.symm),inv.left j aU];refine⟨fun⟨y,aI,Ci⟩=>⟨y,?_,Ci⟩,fun⟨y,aI,Ci⟩=>⟨y,?_,Ci⟩⟩
      ·rcases fu.1 aI with aI|aI
       ·exact oS _ aI
       ·rcases cu.1 aI with rfl|aI
        ·exact absurd Ci.symm QD
        ·exact nh _ aI
      ·rcases fu.1 aI with aI|aI
       ·exact oS _ aI
       ·exact nh _ (cv _ aI)
    ·by_cases Zp:q=x.1
     ·subst Zp;rw[ay]at om;cases om;exact getD_set_true (YZ e he aj)
     ·rw[getD_set_ne false (fun h=>Zp h.symm)]at aB;exact getD_set_true (inv.closed q ey om aB e he aj)
    ·have:=inv.aea;rw[rH]at this⊢;obtain⟨et,eY,m7⟩:=this;exact⟨et,(kk.1 eY).2,fun y aI z a'=>m7 y aI z (cv _ a')⟩
    ·rw[s9];rw[EF]at j3⊢;obtain⟨b',ct,jr⟩:=j3;exact⟨b',(Ov.1 ct).2,fun y aI z a'=>jr y aI z (cv _ a')⟩
    ·rcases fu.1 aI with aI|aI<;>simp[aI]
    ·rcases fu.1 aI with aI|aI<;>simp[aI]
    ·have:=inv.boxes;rw[rH]at this⊢;obtain⟨et,eY,m7⟩:=this;exact⟨et,(kk.1 eY).2,fun y aI z a'=>m7 y aI z (cv _ a')⟩
   have cl:(d'++l3).length≤fuel:=by simp at ak⊢;omega
   have next:∀a w,dz E (fun env ag=>ib ((d'++l3).map (·.2)) env∧hb P W ((d'++l3).map (·.2)) k env ag) a w→wpAny P .any ops Q fuel (jq.setIfInBounds x.1 true) a w:=fun a w h=>bm _ _ a w aoV cl h;obtain⟨I,ag,env,bK,st,aK,ar⟩:=am_;have anr:=(inv.kinds x (by simp)).1
   obtain⟨avm,c9,g3⟩:=x;unfold wpOp;simp only[ay];have YR:∀a w,dz E (mJ fun env ag=>ib ((d'++l3).map (·.2)) env∧hb P W ((d'++l3).map (·.2)) k env ag) a w→wpAny P .any ops Q fuel (jq.setIfInBounds avm true) a w:=fun a w h=>next a w (dz.hM h);have hM:∀{K:bt→a8→Prop} env ag,K env ag→mJ K env ag:=fun env ag h=>⟨_,_,fun s=>.inr (.inl rfl),.refl _,h⟩;have zu:jd P g3 (mJ fun env ag=>ib ((d'++l3).map (·.2)) env∧hb P W ((d'++l3).map (·.2)) k env ag) env ag:=by
    rcases Gg anr with⟨aB,_⟩|⟨aB,hm,_⟩|⟨rfl,YP,av,d,aQ⟩
    ·rw[sS aB]at ar;obtain⟨e,_,U,aa⟩:=ar;exact asT U (k:=fun env ag=>ib ((d'++l3).map (·.2)) env∧hb P W ((d'++l3).map (·.2)) k env ag) ⟨aK.tail.quiet (c9:=c9) U amJ,aa⟩
    ·rw[MQ aB]at ar;exact CY (W:=W) g3 hm (d1:=none) (e1:=.val .top) (.inl id) (fun x ad=>by cases ad) (.inl rfl) (fun bP bp iP aq=>hM _ _ ⟨aK.tail.iP iP,aq⟩) ar.2.2
    ·rw[vX]at ar;obtain⟨eh,cs,hh,oa,ar⟩:=ar;rw[aQ]at hh;cases hh;have j3:=aK (3,g3) (by simp) rfl d aQ
     have fin:=hM (K:=fun env ag=>ib ((d'++l3).map (·.2)) env∧hb P W ((d'++l3).map (·.2)) k env ag) _ _ ⟨aK.tail.box d cs,ar⟩;rw[←SN j3]at fin;unfold jd;rw[av];dsimp only;cases eX:g3.op<;>rw[eX]at YP oa<;>first|(cases YP;done)|skip
     ·simp only[yA]at oa;subst oa;simp only[bH,aQ];exact fin
     ·simp only[yA]at oa;obtain⟨v,U,aa,rfl⟩:=oa;simp only[bH,aQ,U];exact⟨aa,fin⟩
   have:=ady (Q:=Q) st P7 zu;split at this
   ·rename_i hw;rw[if_pos hw];exact .inl (Oper.wp_mono YR this)
   ·rename_i hw;rw[if_neg hw];exact YR _ _ this
end
end Go.bO
end
section
namespace Go.bO
open Go.RowKit
section
variable {P:Program} {E:Entry} {I:cf} {ag:a8} {env:bt} {bK:Nat→Nat} {a:Act} {w:World} {o:Oper}
variable {k:bt→a8→Prop} {Q:Exit→Act→World→Prop}
def uo (E:Entry) (K:dT→bt→a8→Prop):Exit→Act→World→Prop
 |.normal,a,w=>dz E (K .normal) a w
 |.exit id,a,w=>dz E (K (.exit id)) a w
 |.ret,a,w=>dz E (K .ret) a w
 |_,_,_=>False
theorem avh {c:Code} {Q:Exit→Act→World→Prop} (Inv:Nat→Act→World→Prop) {n:Nat} (aoI:Inv n a w)
  (as1:∀n a w,Inv n a w→c.wp P (Exit.then (fun gX w'=>∃m,m<n∧Inv m gX w') Q) a w):(Code.loop c).wp P Q a w:=by
 intro b k cs;have key:∀n a w,Inv n a w→∃e gX w',Q e gX w'∧Arrives P (lone (b.at a (.code c::.inLoop c::k)) cs w) b k cs e gX w':=by
  intro n
  induction n using Nat.strongRecOn with
  |_ n bm=>
   intro a w o5;obtain⟨e,A7,DZ,aB,w7⟩:=as1 n a w o5 b (.inLoop c::k) cs;cases e with
   |normal=>
    obtain⟨m,bw,amk⟩:=aB;obtain⟨alm,ajp,avj,an_,amx⟩:=bm m bw A7 DZ amk;exact⟨alm,ajp,avj,an_,.of_steps (Steps.trans w7 (.one step_inLoop)) amx⟩
   |exit id=>exact⟨_,A7,DZ,aB,.pass (x:=.inLoop c) rfl (fun _ _=>.inl (by simp)) w7⟩
   |goto l=>exact⟨_,A7,DZ,aB,.pass (x:=.inLoop c) rfl (fun _ _=>.inl (by simp)) w7⟩
   |ret=>exact⟨_,A7,DZ,aB,.pass (x:=.inLoop c) rfl (fun _ _=>.inl (by simp)) w7⟩
   |panic uD=>exact⟨_,A7,DZ,aB,.pass (x:=.inLoop c) rfl (fun _ _=>.inl (by simp)) w7⟩
   |outgrown=>exact⟨_,A7,DZ,aB,.pass (x:=.inLoop c) rfl (fun _ _=>.inl (by simp)) w7⟩
 obtain⟨e,gX,w',aB,w7⟩:=key n a w aoI;exact⟨e,gX,w',aB,.of_steps (.one step_loop) w7⟩
theorem avg {c:Operand} {bF:aG} {x y:Code} {Q:Exit→Act→World→Prop} (af:b8 c=some bF) {A B:bt→a8→Prop}
  (h:dz E (fun env ag=>match a_ env bF with
   |.val (.bool t)=>(t=true→A env ag)∧(t=false→B env ag)
   |_=>False) a w) (ad:∀a w,dz E A a w→x.wp P Q a w) (aI:∀a w,dz E B a w→y.wp P Q a w):(Code.cond c x y).wp P Q a w:=by
 obtain⟨I,ag,env,bK,st,h⟩:=h;have ar:=st.dB af;generalize a_ env bF=e at ar h;split at h
 case h_2=>exact h.elim
 rename_i t;have he:=aZ.Ey ar;cases t with
 |true=>exact wp_cond_true he (ad _ _ ⟨I,ag,env,bK,st,h.1 rfl⟩)
 |false=>exact wp_cond_false he (aI _ _ ⟨I,ag,env,bK,st,h.2 rfl⟩)
theorem uo.agC {K:dT→bt→a8→Prop} {next:bt→a8→Prop} {xI:Act→World→Prop} (h:∀a w,dz E next a w→xI a w) (e:Exit) (a:Act) (w:World) (u:uo E (dT.then next K) e a w):
  Exit.then xI (uo E K) e a w:=by
 cases e with
 |normal=>exact h a w u
 |exit id=>exact u
 |ret=>exact u
 |goto l=>exact u.elim
 |panic c=>exact u.elim
 |outgrown=>exact u.elim
theorem apR (B:List Nat) (env:bt):env.dY (env.zJ B):=fun s=>by
 unfold bt.zJ;cases env s with
 |val a=>exact .inr (.inl rfl)
 |box c=>exact .inr (.inl rfl)
 |b7 dy o=>
  dsimp only;cases B.contains dy with
  |true=>exact .inl rfl
  |false=>exact .inr (.inl rfl)
theorem alz (l:List (Nat × ca)) (env:bt):env.dY (env.forget l):=by
 unfold bt.forget;split
 ·exact fun s=>.inr (.inl rfl)
 ·exact apR _ _
theorem apS {B:List Nat} {env:bt} {d:Nat} (aQ:d∈B):xF (env.zJ B) d:=fun t q aw=>by
 unfold bt.zJ at aw;cases he:env t with
 |val a=>rw[he]at aw;cases aw
 |box c=>rw[he]at aw;cases aw
 |b7 s o=>
  rw[he]at aw;dsimp only at aw;cases af:B.contains s with
  |true=>rw[af]at aw;cases aw
  |false=>
   rw[af]at aw;cases aw;have:B.contains d=true:=by simpa using aQ
   rw[this]at af;cases af
theorem alA (l:List (Nat × ca)) (env:bt):ib l (env.forget l):=by
 intro p ae au d aQ;have fW:d∈zX l:=Bs.2 ⟨p,ae,by rw[if_pos au];exact aQ⟩
 unfold bt.forget;generalize zX l=B at fW;cases B with
 |nil=>cases fW
 |cons x r=>exact apS fW
theorem akO {esc:List Nat} {ops:Array Oper} {id:Nat} {l:List ca} {W:List Nat} {c_:List (Nat × ca)} (hm:P.follows .mixedOrders=true) (ak:tO P esc E.n ops ops.toList=some l) (aQ:drawnOf esc ops.toList l=some (W,c_))
  {Q:Exit→Act→World→Prop} {k:bt→a8→Prop} (y9:∀a w,dz E k a w→Q .normal a w) (h:dz E (fun env ag=>kC P W c_ k (env.forget c_) ag) a w):(Code.region id ops true).wp P Q a w:=by
 unfold drawnOf at aQ;simp only[]at aQ;split at aQ
 case isFalse=>cases aQ
 rename_i af;obtain⟨cd,bf,c2,fU,rN,td,Be,Bf⟩:=af;simp only[bk,Prod.mk.injEq]at aQ;generalize jk:(canon (qa ops.toList []) ((List.range l.length).map (RU esc (qa ops.toList []) l)) l.length 0 (List.range l.length)).filterMap (fun i=>match l[i]? with
  |some o=>some (i,((List.range l.length).map (RU esc (qa ops.toList []) l)).getD i 0,o)
  |none=>none)=all at*
 obtain⟨ij,rfl⟩:=aQ;rw[ij]at Bf;have cl:∀(xs:List Oper) (ys:List ca),tO P esc E.n ops xs=some ys→ys.length=xs.length∧∀(i:Nat) (y:ca),ys[i]? =some y→∃o,xs[i]? =some o∧zZ P esc E.n ops o=some y:=by
  intro xs
  induction xs with
  |nil=>intro ys h;simp only[tO,bk]at h;subst h;exact⟨rfl,fun i y h=>by simp at h⟩
  |cons x r bm=>
   intro ys h;simp only[tO]at h;split at h
   ·rename_i y en aI lu;simp only[bk]at h;subst h;obtain⟨U,aa⟩:=bm en lu;refine⟨by simp[U],fun i z a'=> ?_⟩
    cases i with
    |zero=>simp only[l5,bk]at a';subst a';exact⟨x,rfl,aI⟩
    |succ i=>exact aa i z a'
   ·cases h
 obtain⟨FL,xe⟩:=cl ops.toList l ak;have aK:l.length=ops.size:=by simpa using FL
 have fW:∀x∈all,l[x.1]? =some x.2.2:=by
  intro x ad;rw[←jk]at ad;obtain⟨i,_,hi⟩:=Bs.1 ad;split at hi
  ·simp only[bk]at hi;subst hi;assumption
  ·cases hi
 have anZ:∀(r:List (Nat × Nat × ca)),LD (qa ops.toList []) r=true→r.Pairwise fun y x=>((qa ops.toList []).getD x.1 0).testBit y.1=true∨ca.free y.2.1 y.2.2 x.2.1 x.2.2=true:=by
  intro r
  induction r with
  |nil=>intro _;exact .nil
  |cons y r bm=>
   intro h;obtain⟨j,abN,nM⟩:=y;simp only[LD,dF]at h;refine kk.2 ⟨fun x ad=> ?_,bm h.2⟩;have:=dI.1 h.1 x ad;simpa using this
 have inv:HZ P esc E.n ops W (qa ops.toList []) (Array.replicate ops.size false) all:=by
  refine⟨by simp,fun i hi=> ?_,fun x o _ h=> ?_,anZ all fU,bf,fun x ad=> ?_,fun x ad=>⟨dI.1 rN x ad,fun d aQ=> ?_⟩,IB.1 (NJ Be)⟩
  ·have U:(Array.replicate ops.size false).getD i true=false:=by simp[hi]
   rw[U];have:=dI.1 c2 i (IC.2 (by omega))
   obtain⟨x,ad,hj⟩:=h4.1 this;exact⟨fun _=>⟨x,ad,by simpa using hj⟩,fun _=>rfl⟩
  ·have:(Array.replicate ops.size false).getD x false=false:=by
    rw[gl,Array.getElem?_replicate];split<;>rfl
   rw[this]at h;cases h
  ·obtain⟨o,ay,P7⟩:=xe x.1 x.2.2 (fW x ad);exact⟨o,by simpa using ay,P7⟩
  ·have:=dI.1 Bf x ad;rw[aQ]at this;simpa using this
 refine wp_region_any hm ?_;refine akP y9 td ops.size _ all a w.drew inv (by omega) ?_
 have b0:dz E (fun env ag=>ib (all.map (·.2)) env∧kC P W (all.map (·.2)) k env ag) a w:=by
  refine dz.hM (h.mono fun env ag h=>⟨env.forget (all.map (·.2)),ag,alz _ _,.refl _,alA _ _,h⟩)
 obtain⟨I,ag,env,bK,st,aK,h⟩:=b0;refine⟨I,ag,env,bK,st.world fC.drew st.cr.drew,aK,agY _ _ _ _ (fun p ae=> ?_) (NJ Be) aK h⟩;obtain⟨x,ad,rfl⟩:=eO.1 ae;exact dI.1 rN x ad
theorem yP (hm:P.follows .mixedOrders=true) {esc:List Nat}:∀(c:Code) (ac:fK),kX P esc E.n c=some ac→∀(K:dT→bt→a8→Prop) (a:Act) (w:World),dz E (jy P ac K) a w→c.wp P (uo E K) a w
 |.skip,ac,af,K,a,w,h=>by
  simp only[kX,bk]at af;subst af;exact wp_skip h
 |.label _,ac,af,K,a,w,h=>by
  simp only[kX,bk]at af;subst af;exact wp_label h
 |.region id ops OP,ac,af,K,a,w,h=>by
  simp only[kX]at af;split at af
  ·rename_i l ak;cases OP with
   |true=>
    simp only[if_true]at af;split at af
    ·rename_i W c_ aQ;simp only[bk]at af;subst af;exact akO hm ak aQ (k:=K .normal) (fun a w h=>h) h
    ·cases af
   |false=>
    simp only[lK,if_false,bk]at af;subst af;refine wp_region ?_;have:=adz (P:=P) (E:=E) (k:=K .normal) (Q:=uo E K) (esc:=esc) (ops:=ops) (fun a w h=>h) ops.toList 0 l a w rfl ak h;simpa using this
  ·cases af
 |.seq x y,ac,af,K,a,w,h=>by
  simp only[kX]at af;split at af
  ·rename_i c3 kE ad aI;simp only[bk]at af;subst af;exact wp_seq (wp_mono (yP hm x c3 ad _ a w h) (uo.agC fun a w h=>yP hm y kE aI K a w h))
  ·cases af
 |.cond c x y,ac,af,K,a,w,h=>by
  simp only[kX]at af;split at af
  ·rename_i bF c3 kE lf ad aI;simp only[bk]at af;subst af;exact avg lf (A:=jy P c3 K) (B:=jy P kE K) (h.mono fun env ag h=>by simp only[jy]at h;exact h) (fun a w h=>yP hm x c3 ad K a w h) (fun a w h=>yP hm y kE aI K a w h)
  ·cases af
 |.block id x,ac,af,K,a,w,h=>by
  simp only[kX]at af;split at af
  ·rename_i c3 ad;simp only[bk]at af;subst af;refine wp_block (wp_mono (yP hm x c3 ad _ a w h) fun e a w u=> ?_);cases e with
   |exit so=>
    by_cases Qy:so=id
    ·subst Qy;have:dT.inBlock so K (.exit so)=K .normal:=by simp[dT.inBlock]
     simp only[uo,this]at u;simp only[Exit.inBlock,if_true];exact u
    ·have aj:(so==id)=false:=by simpa using Qy
     have:dT.inBlock id K (.exit so)=K (.exit so):=by simp[dT.inBlock,aj]
     simp only[uo,this]at u;simp only[Exit.inBlock,Qy,if_false];exact u
   |normal=>exact u
   |ret=>exact u
   |goto l=>exact u.elim
   |panic c=>exact u.elim
   |outgrown=>exact u.elim
  ·cases af
 |.loop x,ac,af,K,a,w,h=>by
  simp only[kX]at af;split at af
  ·rename_i c3 ad;simp only[bk]at af;subst af;obtain⟨I,ag,env,bK,st,Inv,⟨n,aV⟩,ah⟩:=h;refine avh (fun n a w=>dz E (Inv n) a w) (n:=n) (dz.hM ⟨I,ag,env,bK,st,aV⟩) fun n a w o5=> ?_;refine wp_mono (yP hm x c3 ad (dT.then (mJ fun bP bp=>∃m,m<n∧Inv m bP bp) K) a w (o5.mono fun env ag h=>ah n env ag h)) fun e a w u=> ?_;refine uo.agC (fun a w h=> ?_) e a w u;obtain⟨I,ag,env,bK,st,m,hm,hi⟩:=dz.hM h;exact⟨m,hm,I,ag,env,bK,st,hi⟩
  ·cases af
 |.exit id,ac,af,K,a,w,h=>by
  simp only[kX,bk]at af;subst af;exact wp_exit h
 |.ret,ac,af,K,a,w,h=>by
  simp only[kX,bk]at af;subst af;exact wp_ret h
 |.rangeFunc _ _ _ _,ac,af,K,a,w,h=>by simp[kX]at af
 |.scope _,ac,af,K,a,w,h=>by simp[kX]at af
 |.goto _,ac,af,K,a,w,h=>by simp[kX]at af
 |.refuse _,ac,af,K,a,w,h=>by simp[kX]at af
theorem cx.sG (st:cx E I ag env bK a w) {r:ResultVar} {Ej:kg} {l:List ResultVar} {ur:List kg} (h:rb P (r::l)=some (Ej::ur)) {k:ab→Prop} (aq:sG env ag Ej k):
  ∃v x,((match r with
   |.tmp t=>pure (a.tmps.getD t undef)
   |.cell q t=>do loadVar t (←asAddr (a.tmps.getD q undef)):Sem Value)).run P w=.ok v w∧aZ I v x∧k x:=by
 cases r with
 |tmp t=>
  simp only[rb]at h;split at h
  case h_2=>cases h
  simp only[bk,wA]at h;obtain⟨rfl,_⟩:=h;have ar:=st.dB (x:=.tmp t) (y:=.tmp t) rfl;simp only[bO.sG]at aq;generalize a_ env (.tmp t)=e at ar aq;split at aq
  ·exact⟨_,_,rfl,ar,aq⟩
  ·exact aq.elim
 |cell q t=>
  simp only[rb]at h;split at h
  case h_2=>cases h
  rename_i agg n c_ ak _;simp only[bk,wA]at h;obtain⟨rfl,_⟩:=h;have ar:=st.dB (x:=.tmp q) (y:=.tmp q) rfl;have aK:=abV ak;simp only[bO.sG]at aq;generalize a_ env (.tmp q)=e at ar aq;have b6:∀(b off:Nat) (f:Nat→Value),a.eval (.tmp q)=.pointer (some ⟨b,off,none⟩)→(∀j,j<n→w.cell? ⟨b,off+j,none⟩=some (f j))→
    (do loadVar t (←asAddr (a.tmps.getD q undef)):Sem Value).run P w=.ok (bif agg then .agg ((List.range n).map f).toArray else f 0) w:=by
   intro b off f a' af;have fZ:a.tmps.getD q undef=.pointer (some ⟨b,off,none⟩):=a';rw[fZ];simp[asAddr,afg ak f af]
  split at aq
  ·rename_i s off;split at aq
   ·rename_i cs hs;obtain⟨aa,au⟩:=aq;have aj:=st.nu s;rw[hs]at aj;obtain⟨_,vs,T,az,ao,aX,_⟩:=aj;obtain⟨bf,c2,fU⟩:=IP ao aX aa;exact⟨_,_,b6 (bK s) off _ ar (fun j aU=>by rw[rO az];exact bf j aU),Hc aK c2 fU,au⟩
   ·exact aq.elim
  ·rename_i b off;obtain⟨cs,U,aa,au⟩:=aq;obtain⟨vs,T,az,ao,aX,_⟩:=st.cr.obj b cs U;obtain⟨bf,c2,fU⟩:=IP ao aX aa;exact⟨_,_,b6 b off _ (aZ.vG ar) (fun j aU=>by rw[rO az];exact bf j aU),Hc aK c2 fU,au⟩
  ·exact aq.elim
theorem arE {r:ResultVar} {l:List ResultVar} {ur:List kg} (h:rb P (r::l)=some ur):∃Ej H',ur=Ej::H'∧rb P l=some H':=by
 cases r with
 |tmp t=>
  simp only[rb]at h;split at h
  ·simp only[bk]at h;exact⟨_,_,h.symm,‹_›⟩
  ·cases h
 |cell q t=>
  simp only[rb]at h;split at h
  ·simp only[bk]at h;exact⟨_,_,h.symm,‹_›⟩
  ·cases h
theorem cx.vK (st:cx E I ag env bK a w):∀(l:List ResultVar) (ur:List kg),rb P l=some ur→∀(k:List ab→Prop),vK env ag ur k→
  ∃vs as,(l.mapM fun r=>(match r with
   |.tmp t=>pure (a.tmps.getD t undef)
   |.cell q t=>do loadVar t (←asAddr (a.tmps.getD q undef)):Sem Value)).run P w=.ok vs w∧vs.length=as.length∧(∀j,aZ I (vs.getD j undef) (as.getD j .top))∧k as
 | [],ur,h,k,aq=>by
  simp only[rb,bk]at h;subst h;exact⟨[],[],by simp,rfl,fun j=>by simpa using aZ.top _,aq⟩
 |r::l,ur,h,k,aq=>by
  obtain⟨Ej,H',rfl,ak⟩:=arE h;simp only[bO.vK]at aq;obtain⟨v,x,U,aa,au⟩:=st.sG h aq;obtain⟨vs,as,bu,bC,c4,eb⟩:=cx.vK st l H' ak _ au;refine⟨v::vs,x::as,?_,by simp[bC],fun j=> ?_,eb⟩
  ·rw[List.mapM_cons,Sem.run_bind,U,Result.andThen_ok,Sem.run_bind,bu];rfl
  ·cases j with
   |zero=>exact aa
   |succ j=>simpa using c4 j
theorem ai0 (hm:P.follows .mixedOrders=true) {f:FuncId} {fn:Func} {esc:List Nat} {dg:kF} {as:List ab} {ag:a8} {Q:ab→a8→Prop} (ax:P.funcs[f]? =some fn) (aA:xJ P esc fn=some dg) (aK:as.length≤dg.n)
  (h:jy P dg.body (TY dg.res Q) (bt.args as) ag):hL P f as ag Q:=by
 intro I w vs m hs ah;unfold xJ at aA;split at aA
 ·cases aA
 rename_i c aj;split at aA
 case h_2=>cases aA
 rename_i r b J3 amQ;simp only[bk]at aA;subst aA;have aK:as.length≤fn.ntmps:=aK
 let E:Entry:=⟨I,ag,w,fn.ntmps⟩
 have st:cx E I ag (bt.args as) (fun _=>0) {tmps:=vs++Array.replicate (fn.ntmps-vs.size) undef,defers:=[]} w:=by
  have lh:∀s,∃x,bt.args as s=.val x:=by
   intro s;unfold bt.args;cases as[s]? <;>exact⟨_,rfl⟩
  refine⟨m,fun s=> ?_,fun s dy h=> ?_,fun s h=> ?_,.refl _ _ _,?_,rfl⟩
  ·unfold bt.args;cases aB:as[s]? with
   |none=>exact aZ.top _
   |some x=>
    have bw:=(hn.1 aB).1;have:=ah s;rw[cM,aB]at this;simp only[lL]at this;show aZ I _ x;rw[gl,qG (by omega),←gl]
    exact this
  ·obtain⟨x,ad⟩:=lh s;rw[ad]at h;exact h.elim
  ·obtain⟨x,ad⟩:=lh s;rw[ad]at h;exact h.elim
  ·simp only[s5,Array.size_replicate,E];omega
 refine calls_of_wp ax aj (wp_mono (yP hm (E:=E) c b amQ (TY r Q) _ w ⟨I,ag,_,_,st,h⟩) fun e a w' u=> ?_);have fin:dz E (fun env ag=>LV env ag r fun x=>Q x ag) a w'→a.defers=[]∧∃v,(results fn a.tmps).run P w'=.ok v w'∧∃jx x I' bp,Ending.returned v=.returned jx∧aZ I' jx x∧e0 I' bp w'∧fC I ag w I' bp w'∧Q x bp:=by
  rintro⟨I',bp,env,bK,x',aB⟩;obtain⟨us,xs,bu,bC,c4,eb⟩:=x'.vK fn.results.toList r J3 _ aB;refine⟨x'.defers,?_⟩;have J3:(results fn a.tmps).run P w'=.ok (if h:us.length=1 then us[0]else .tuple us.toArray) w':=by
   unfold results;rw[Array.mapM_eq_mapM_toList,map_eq_pure_bind];simp only[Sem.run_bind]
   erw [bu]
   simp
  refine⟨_,J3,?_⟩;clear bu J3
  match xs,us,bC,c4,eb with
  | [x],[v],_,c4,eb=>exact⟨v,x,I',bp,rfl,c4 0,x'.cr,x'.kN,eb⟩
  | [],[],_,_,eb=>exact⟨_,_,I',bp,rfl,aZ.tuple #[] [] rfl (fun j=>by simpa using aZ.top _),x'.cr,x'.kN,eb⟩
  |x::y::fl,v::u::b4,bC,c4,eb=>
   refine⟨_,_,I',bp,rfl,?_,x'.cr,x'.kN,eb⟩;rw[dif_neg (by simp)]
   exact aZ.tuple _ _ (by simpa using bC) (fun j=>by simpa[gl,cM]using c4 j)
 cases e with
 |normal=>exact fin u
 |ret=>exact fin u
 |exit id=>obtain⟨_,_,_,_,_,aB⟩:=u;exact aB.elim
 |goto l=>exact u.elim
 |panic c=>exact u.elim
 |outgrown=>exact u.elim
end
end Go.bO
end
