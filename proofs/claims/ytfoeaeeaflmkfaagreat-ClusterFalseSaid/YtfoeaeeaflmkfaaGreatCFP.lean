/- Words on values for this claim: which members of a group are nil, by a mask; which rows of pieces are a route's. -/
import Derived.Test.YtfoeaeeaflmkfaaGreatSX25
set_option linter.unusedSectionVars false
set_option linter.unusedVariables false
set_option linter.unusedSimpArgs false
namespace Go.AL.SX
def isOne (s:SV):Bool:=match toI s with
 |some (_,l)=>match l.const? with
  |some (.ofNat 1)=>true
  |_=>false
 |none=>false
def eq0 (W:SW) (a b:Lin):Bool:=geq W (a.sub b)&&geq W (b.sub a)
def eqI0 (W:SW) (s:SV) (n:Lin):Bool:=match toI s with
 |some (_,l)=>eq0 W l n
 |none=>false
def andsOf (t:SV):List (Nat × List SV)→List Lin
 |(3,[u,t',o])::r=>bif eqSV fuel t t'&&isOne o then(match toI u with
  |some (_,l)=>l::andsOf t r
  |none=>andsOf t r)else andsOf t r
 |_::r=>andsOf t r
 | []=>[]
def bitsOf (W:SW) (w:SV) (n:Lin):List (Nat × List SV)→List Lin
 |(2,[t,w',i])::r=>bif eqSV fuel w w'&&eqI0 W i n then andsOf t W.pr++bitsOf W w n r else bitsOf W w n r
 |_::r=>bitsOf W w n r
 | []=>[]
def nilK (W:SW):SV→Option Bool
 |.k .nilP=>some true
 |.x m=>match W.tyOf m with
  |.ptr _ _=>bif holds W (.nl m false)then some false else none
  |_=>none
 |_=>none
def has100 (b w:SV) (W:SW):Bool:=W.pr.any fun p=>match p with
 |(100,[b',w'])=>eqSV fuel b b'&&eqSV fuel w w'
 |_=>false
def prv100 (W:SW):List SV→Bool
 | [.k (.slice [] true none),_]=>true
 | [.x v,w]=>(toI w).isSome&&match findA v W.pr with
  |some (b,[e])=>(has100 b w W||(match b with
   |.k (.slice [] true none)=>true
   |_=>false))&&match lenBS W b,nilK W e with
   |some n,some p=>(bitsOf W w n W.pr).any fun u=>holds W (.eq (u.addc (.negSucc 0)) p)
   |_,_=>false
  |_=>false
 |_=>false
def isK0 (w:SV):Bool:=match toI w with
 |some (_,l)=>match l.const? with
  |some (.ofNat 0)=>true
  |_=>false
 |none=>false
def lits100 (W:SW) (l m:Lin) (v:Nat) (b:SV):List (Nat × List SV)→List Lit
 |(100,[b',w])::r=>bif eqSV fuel b b'&&(toI w).isSome then
   (bif isK0 w&&geq W l then [.nl v false]else(bitsOf W w l W.pr).flatMap fun u=>bif holds W (.eq (u.addc (.negSucc 0)) true)then [.nl v true]else bif holds W (.eq (u.addc (.negSucc 0)) false)then [.nl v false]else [])++lits100 W l m v b r
  else lits100 W l m v b r
 |_::r=>lits100 W l m v b r
 | []=>[]
def hook0 (W:SW):List SV→List Lit
 | [.x r,.i _ l,.x m]=>lits100 W l l m (.x r) W.pr
 |_=>[]
def P100 (xs:List AVal) (w:AVal):Prop:=∀(j:Nat) (e:AVal),xs[j]? =some e→∀(q:EqK) (lt:Bool) (k:IntKind) (t:AVal) (q':EqK) (lt':Bool) (k':IntKind) (u:AVal),
 binE .shr q lt (.val w) (.val (.int k (j:Nat)))=some (.val t)→binE .and q' lt' (.val t) (.val (.int k' 1))=some (.val u)→(isNilV e=true↔intOf u=1)
theorem shr_int (q:EqK) (lt:Bool) (k k':IntKind) (a b:Int):binE .shr q lt (.val (.int k a)) (.val (.int k' b))=toE (intF .shr k a b):=by
 rw[bin_val]
 show toE (binI .shr k a (.int k' b))=_
 rw[binI_eq]
 rfl
theorem and_int {q:EqK} {lt:Bool} {k':IntKind} {t u:AVal} {n:Int} (h:binE .and q lt (.val t) (.val (.int k' n))=some (.val u)):∃m,t=.int k' m∧toE (intF .and k' m n)=some (.val u):=by
 rw[bin_val]at h
 cases t with
 |int k m=>
  have h1:toE (binI .and k m (.int k' n))=some (.val u):=h
  rw[binI_eq]at h1
  have h2:toE (bif sameK .and k k' then intF .and k m n else none)=some (.val u):=h1
  cases hk:sameK .and k k' with
  |true=>
   rw[hk]at h2
   have:k=k':=by simpa[sameK]using hk
   subst this
   exact⟨m,rfl,h2⟩
  |false=>rw[hk]at h2;cases h2
 |map r=>cases r<;>cases h
 |slice xs nl tok=>cases xs<;>cases nl<;>cases tok<;>cases h
 |_=>cases h
theorem toE_inj {o:Option AVal} {a b:AVal} (h:toE o=some (.val a)) (k:toE o=some (.val b)):a=b:=by
 rw[h]at k;cases k;rfl
end Go.AL.SX
namespace Go.AL.SX
variable {T:Tab} {G:Nat→Cl} {ρ:Val} {W:SW}
theorem eq0_ok (h:Ok T G ρ W) {a b:Lin} (he:eq0 W a b=true):a.ev ρ=b.ev ρ:=by
 obtain⟨h1,h2⟩:=and2 he
 have h1:=geq_ok h h1
 have h2:=geq_ok h h2
 simp only[ev_sub]at h1 h2
 omega
theorem eqI0_ok (h:Ok T G ρ W) {s:SV} {n:Lin} (he:eqI0 W s n=true):∃k,s.ev ρ=.int k (n.ev ρ):=by
 unfold eqI0 at he
 split at he
 ·rename_i k l hl
  obtain⟨e1,_⟩:=toI_ok (ρ:=ρ) hl
  exact⟨k,by rw[e1,eq0_ok h he]⟩
 ·cases he
theorem isOne_ok {s:SV} (h:isOne s=true):∃k,s.ev ρ=.int k 1:=by
 unfold isOne at h
 split at h
 ·rename_i k l hl
  obtain⟨e1,_⟩:=toI_ok (ρ:=ρ) hl
  split at h
  ·rename_i hc
   exact⟨k,by rw[e1,ev_const hc];rfl⟩
  ·cases h
 ·cases h
theorem isK0_ok {s:SV} (h:isK0 s=true):∃k,s.ev ρ=.int k 0:=by
 unfold isK0 at h
 split at h
 ·rename_i k l hl
  obtain⟨e1,_⟩:=toI_ok (ρ:=ρ) hl
  split at h
  ·rename_i hc
   exact⟨k,by rw[e1,ev_const hc];rfl⟩
  ·cases h
 ·cases h
theorem bi_and {r a b:AVal} (h:Bi 3 [r,a,b]):∃q lt,binE .and q lt (.val a) (.val b)=some (.val r):=by
 cases h with
 |and q lt a b r h=>exact⟨q,lt,h⟩
theorem bi_shr {r a b:AVal} (h:Bi 2 [r,a,b]):∃q lt,binE .shr q lt (.val a) (.val b)=some (.val r):=by
 cases h with
 |shr q lt a b r h=>exact⟨q,lt,h⟩
theorem andsOf_ok [TabOk T] {t:SV}:∀{ps:List (Nat × List SV)},(∀p∈ps,phi T p.1 (evs ρ p.2))→∀u∈andsOf t ps,∃q lt k v,binE .and q lt (.val (t.ev ρ)) (.val (.int k 1))=some (.val v)∧intOf v=u.ev ρ
 | [],_,u,hu=>by cases hu
 |p::ps,hp,u,hu=>by
  have rest:u∈andsOf t ps→∃q lt k v,binE .and q lt (.val (t.ev ρ)) (.val (.int k 1))=some (.val v)∧intOf v=u.ev ρ:=andsOf_ok (fun q hq=>hp q (List.mem_cons_of_mem _ hq)) u
  unfold andsOf at hu
  split at hu
  ·rename_i s t' o r he
   cases he
   cases hc:eqSV fuel t t'&&isOne o with
   |true=>
    rw[hc]at hu
    obtain⟨c1,c2⟩:=and2 hc
    have c1:=eqSV_ok c1;subst c1
    obtain⟨k,c2⟩:=isOne_ok (ρ:=ρ) c2
    simp only[cond_true]at hu
    split at hu
    ·rename_i k' l hl
     rcases List.mem_cons.1 hu with rfl|hu
     ·obtain⟨e1,_⟩:=toI_ok (ρ:=ρ) hl
      have hb:=phi_low (T:=T) (k:=3) (by decide) (hp _ (List.mem_cons_self ..))
      simp only[evs,c2]at hb
      obtain⟨q,lt,hb⟩:=bi_and hb
      exact⟨q,lt,k,_,hb,by rw[e1];rfl⟩
     ·exact rest hu
    ·exact rest hu
   |false=>rw[hc]at hu;exact rest hu
  ·rename_i he;cases he;exact rest hu
  ·rename_i he;cases he
theorem bitsOf_ok [TabOk T] (h:Ok T G ρ W) {w:SV} {n:Lin}:∀{ps:List (Nat × List SV)},(∀p∈ps,phi T p.1 (evs ρ p.2))→∀u∈bitsOf W w n ps,∃q lt k t q' lt' k' v,binE .shr q lt (.val (w.ev ρ)) (.val (.int k (n.ev ρ)))=some (.val t)∧binE .and q' lt' (.val t) (.val (.int k' 1))=some (.val v)∧intOf v=u.ev ρ
 | [],_,u,hu=>by cases hu
 |p::ps,hp,u,hu=>by
  have rest:u∈bitsOf W w n ps→_:=bitsOf_ok h (fun q hq=>hp q (List.mem_cons_of_mem _ hq)) u
  unfold bitsOf at hu
  split at hu
  ·rename_i t w' i r he
   cases he
   cases hc:eqSV fuel w w'&&eqI0 W i n with
   |true=>
    rw[hc]at hu
    obtain⟨c1,c2⟩:=and2 hc
    have c1:=eqSV_ok c1;subst c1
    obtain⟨k,c2⟩:=eqI0_ok h c2
    simp only[cond_true]at hu
    rcases List.mem_append.1 hu with hu|hu
    ·obtain⟨q',lt',k',v,h1,h2⟩:=andsOf_ok (T:=T) (ρ:=ρ) h.pr u hu
     have hb:=phi_low (T:=T) (k:=2) (by decide) (hp _ (List.mem_cons_self ..))
     simp only[evs,c2]at hb
     obtain⟨q,lt,hb⟩:=bi_shr hb
     exact⟨q,lt,k,_,q',lt',k',v,hb,h1,h2⟩
    ·exact rest hu
   |false=>rw[hc]at hu;exact rest hu
  ·rename_i he;cases he;exact rest hu
  ·rename_i he;cases he
theorem nilK_ok (h:Ok T G ρ W) {s:SV} {p:Bool} (hs:nilK W s=some p):isNilV (s.ev ρ)=p:=by
 unfold nilK at hs
 split at hs
 ·cases hs;rfl
 ·split at hs
  ·obtain⟨h1,h2⟩:=cond_some hs
   cases h2
   have:=holds_ok h h1
   simp only[Lit.ev,beq_iff_eq]at this
   exact this
  ·cases hs
 ·cases hs
theorem bit_same {w:AVal} {n:Int} {kw:IntKind} {m:Int} (hw:w=.int kw m) {q lt k t q' lt' k' v r mt l u s mu lu x} (h1:binE .shr q lt (.val w) (.val (.int k n))=some (.val t)) (h2:binE .and q' lt' (.val t) (.val (.int k' 1))=some (.val v))
  (g1:binE .shr r mt (.val w) (.val (.int l n))=some (.val u)) (g2:binE .and s mu (.val u) (.val (.int lu 1))=some (.val x)):v=x:=by
 subst hw
 rw[shr_int]at h1 g1
 have:=toE_inj h1 g1
 subst this
 obtain⟨a,e1,e2⟩:=and_int h2
 obtain⟨b,e3,e4⟩:=and_int g2
 rw[e1]at e3
 cases e3
 exact toE_inj e2 e4
def Phi100:Nat→List AVal→Prop
 |100,[.slice xs _ _,w]=>P100 xs w
 |_,_=>False
theorem P100_nil (w:AVal):P100 [] w:=fun j e h=>by simp at h
theorem P100_snoc {xs:List AVal} {e w:AVal} {kw:IntKind} {m:Int} (hw:w=.int kw m) (h:P100 xs w) {q lt k t q' lt' k' v} (h1:binE .shr q lt (.val w) (.val (.int k (xs.length:Nat)))=some (.val t)) (h2:binE .and q' lt' (.val t) (.val (.int k' 1))=some (.val v))
  (he:isNilV e=true↔intOf v=1):P100 (xs++[e]) w:=by
 intro j e' hj r mt l u s mu lu x g1 g2
 rcases Nat.lt_or_ge j xs.length with hlt|hge
 ·rw[List.getElem?_append_left hlt]at hj
  exact h j e' hj r mt l u s mu lu x g1 g2
 ·rw[List.getElem?_append_right hge]at hj
  have:j=xs.length:=by
   rcases Nat.eq_or_lt_of_le hge with h|h
   ·exact h.symm
   ·have:j-xs.length≠0:=by omega
    cases hd:j-xs.length with
    |zero=>exact absurd hd this
    |succ d=>rw[hd]at hj;simp at hj
  subst this
  simp at hj
  subst hj
  rw[←bit_same hw h1 h2 g1 g2];exact he
end Go.AL.SX
namespace Go.AL.SX
variable {T:Tab} {G:Nat→Cl} {ρ:Val} {W:SW}
theorem no_bi100 {as:List AVal} (h:Bi 100 as):False:=by cases h
theorem phi100 (hΦ:∀as,T.Φ 100 as→Phi100 100 as) {as:List AVal} (h:phi T 100 as):Phi100 100 as:=h.elim (fun h=>(no_bi100 h).elim) (hΦ as)
theorem phi100_inv {a w:AVal} (h:Phi100 100 [a,w]):∃xs nl tok,a=.slice xs nl tok∧P100 xs w:=by
 unfold Phi100 at h
 split at h
 ·rename_i xs nl tok w' _ _ he
  simp only[List.cons.injEq,and_true]at he
  obtain⟨rfl,rfl⟩:=he
  exact⟨_,_,_,rfl,h⟩
 ·exact h.elim
theorem has100_ok (hΦ:∀as,T.Φ 100 as→Phi100 100 as) (h:Ok T G ρ W) {b w:SV} (hb:has100 b w W=true):Phi100 100 [b.ev ρ,w.ev ρ]:=by
 unfold has100 at hb
 rw[List.any_eq_true]at hb
 obtain⟨p,hp,hq⟩:=hb
 split at hq
 ·obtain⟨h1,h2⟩:=and2 hq
  rw[eqSV_ok h1,eqSV_ok h2]
  exact phi100 hΦ (h.pr _ hp)
 ·cases hq
theorem lenBS_ok' (h:Ok T G ρ W) {b:SV} {l:Lin} {xs:List AVal} {nl:Bool} {tok:Option Nat} (hb:lenBS W b=some l) (he:b.ev ρ=.slice xs nl tok):l.ev ρ=(xs.length:Nat):=by
 unfold lenBS at hb
 split at hb
 ·cases hb;rw[lenX_ok h];simp only[SV.ev]at he;rw[he];rfl
 ·cases hb;simp only[SV.ev,AVal.slice.injEq]at he;rw[←he.1];simp
 ·cases hb
theorem prv100_ok [TabOk T] (hΦ:∀as,T.Φ 100 as→Phi100 100 as) (h:Ok T G ρ W) {as:List SV} (hp:prv100 W as=true):Phi100 100 (evs ρ as):=by
 unfold prv100 at hp
 split at hp
 ·exact P100_nil _
 ·rename_i v w
  obtain⟨hw,hp⟩:=and2 hp
  obtain⟨⟨kw,lw⟩,hw⟩:=Option.isSome_iff_exists.1 hw
  obtain⟨ew,_⟩:=toI_ok (ρ:=ρ) hw
  split at hp
  ·rename_i b e hA
   obtain⟨hb,hp⟩:=and2 hp
   obtain⟨bi,_⟩:=findA_ok h.pr hA
   obtain⟨us,ws,n1,n2,n3,t1,t2,t3,r1,r2,r3⟩:=bi_app bi
   simp only[evs,AVal.slice.injEq]at r3
   have r3:=r3.1
   subst r3
   have hbase:P100 us (w.ev ρ):=by
    rw[Bool.or_eq_true]at hb
    rcases hb with hb|hb
    ·obtain⟨xs,_,_,q1,q2⟩:=phi100_inv (has100_ok hΦ h hb)
     rw[r2]at q1
     cases q1;exact q2
    ·split at hb
     ·simp only[SV.ev,AVal.slice.injEq]at r2
      rw[←r2.1];exact P100_nil _
     ·cases hb
   split at hp
   ·rename_i n p hn hk
    have hlen:=lenBS_ok' h hn r2
    obtain⟨u,hu,hh⟩:=List.any_eq_true.1 hp
    obtain⟨q,lt,k,t,q',lt',k',x,g1,g2,g3⟩:=bitsOf_ok h h.pr u hu
    have hh:=holds_ok h hh
    rw[hlen]at g1
    have hnil:=nilK_ok h hk
    show Phi100 100 [ρ v,w.ev ρ]
    rw[r1]
    refine P100_snoc ew hbase g1 g2 ?_
    have e1:Int.negSucc 0= -1:=rfl
    simp only[Lit.ev,ev_addc,e1,beq_iff_eq]at hh
    rw[hnil,g3,←hh,decide_eq_true_iff]
    omega
   ·cases hp
  ·cases hp
 ·cases hp
theorem lits100_ok [TabOk T] (hΦ:∀as,T.Φ 100 as→Phi100 100 as) (h:Ok T G ρ W) {l m:Lin} {v:Nat} {b:SV} {k0:IntKind} (hb:Bi 0 [b.ev ρ,.int k0 (l.ev ρ),ρ v]):
  ∀{ps:List (Nat × List SV)},(∀p∈ps,phi T p.1 (evs ρ p.2))→∀f∈lits100 W l m v b ps,f.ev ρ=true
 | [],_,f,hf=>by cases hf
 |p::ps,hp,f,hf=>by
  have rest:f∈lits100 W l m v b ps→f.ev ρ=true:=lits100_ok hΦ h hb (fun q hq=>hp q (List.mem_cons_of_mem _ hq)) f
  unfold lits100 at hf
  split at hf
  ·rename_i b' w r he
   cases he
   cases hc:eqSV fuel b b'&&(toI w).isSome with
   |true=>
    rw[hc]at hf
    obtain⟨c1,c2⟩:=and2 hc
    have c1:=eqSV_ok c1;subst c1
    obtain⟨⟨kw,lw⟩,hw⟩:=Option.isSome_iff_exists.1 c2
    obtain⟨ew,_⟩:=toI_ok (ρ:=ρ) hw
    obtain⟨xs,nl,tok,k1,i,q1,q2,q3⟩:=bi_idx hb
    have hP:=phi100 hΦ (hp _ (List.mem_cons_self ..))
    simp only[evs]at hP
    obtain⟨ys,_,_,p1,p2⟩:=phi100_inv hP
    rw[q1]at p1
    cases p1
    have hl:l.ev ρ=(i:Nat):=by simp only[AVal.int.injEq]at q2;exact q2.2
    simp only[cond_true]at hf
    rcases List.mem_append.1 hf with hf|hf
    ·cases hz:isK0 w&&geq W l with
     |true=>
      rw[hz]at hf
      obtain⟨z1,_⟩:=and2 hz
      obtain⟨kz,z1⟩:=isK0_ok (ρ:=ρ) z1
      simp only[cond_true,List.mem_singleton]at hf
      subst hf
      have g1:binE .shr .bool false (.val (w.ev ρ)) (.val (.int .i64 (i:Nat)))=some (.val (.int kz 0)):=by
       rw[z1]
       refine bin_int rfl ?_
       simp only[intV]
       rw[if_neg (by omega)]
       simp
      have g2:binE .and .bool false (.val (.int kz 0)) (.val (.int kz 1))=some (.val (.int kz 0)):=by
       refine bin_int (by simp[sameK]) ?_
       cases kz<;>rfl
      have:=p2 i _ q3 _ _ _ _ _ _ _ _ g1 g2
      simp only[intOf]at this
      simp only[Lit.ev,beq_iff_eq]
      cases hn:isNilV (ρ v)with
      |false=>rfl
      |true=>exact absurd (this.1 hn) (by decide)
     |false=>
      rw[hz]at hf
      simp only[cond_false]at hf
      obtain⟨u,hu,hf⟩:=List.mem_flatMap.1 hf
      obtain⟨q,lt,k,t,q',lt',k',x,g1,g2,g3⟩:=bitsOf_ok h h.pr u hu
      rw[hl]at g1
      have key:=p2 i _ q3 _ _ _ _ _ _ _ _ g1 g2
      have e1:Int.negSucc 0= -1:=rfl
      cases y1:holds W (.eq (u.addc (.negSucc 0)) true)with
      |true=>
       rw[y1]at hf
       simp only[cond_true,List.mem_singleton]at hf
       subst hf
       have:=holds_ok h y1
       simp only[Lit.ev,ev_addc,e1,beq_iff_eq,decide_eq_true_eq]at this
       simp only[Lit.ev,beq_iff_eq]
       exact key.2 (by omega)
      |false=>
       rw[y1]at hf
       simp only[cond_false]at hf
       cases y2:holds W (.eq (u.addc (.negSucc 0)) false)with
       |true=>
        rw[y2]at hf
        simp only[cond_true,List.mem_singleton]at hf
        subst hf
        have:=holds_ok h y2
        simp only[Lit.ev,ev_addc,e1,beq_iff_eq,decide_eq_false_iff_not]at this
        simp only[Lit.ev,beq_iff_eq]
        cases hn:isNilV (ρ v)with
        |false=>rfl
        |true=>exact absurd (key.1 hn) (by omega)
       |false=>rw[y2]at hf;cases hf
    ·exact rest hf
   |false=>rw[hc]at hf;exact rest hf
  ·rename_i he;cases he;exact rest hf
  ·rename_i he;cases he
theorem hook0_ok [TabOk T] (hΦ:∀as,T.Φ 100 as→Phi100 100 as) (h:Ok T G ρ W) {as:List SV} (hb:phi T 0 (evs ρ as)):∀f∈hook0 W as,f.ev ρ=true:=by
 intro f hf
 unfold hook0 at hf
 split at hf
 ·rename_i r k l m
  have hb:=phi_low (T:=T) (by decide) hb
  exact lits100_ok hΦ h (b:=.x r) (k0:=k) hb h.pr f hf
 ·cases hf
end Go.AL.SX
