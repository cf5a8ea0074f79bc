/- Words on rows of pieces: which are a route's. -/
import Derived.Test.YtfoeaeeaflmkfaaGreatCFP
set_option linter.unusedSectionVars false
set_option linter.unusedVariables false
set_option linter.unusedSimpArgs false
namespace Go.AL.SX
def isX (v:Nat):SV→Bool
 |.x w=>Nat.beq v w
 |_=>false
def strV (W:SW):SV→Bool
 |.x v=>match W.tyOf v with
  |.str _=>true
  |_=>false
 |_=>false
def heads (W:SW) (v:Nat):List (Nat × List SV)→List (Lin × SV)
 |(0,[.x w,.i _ l,.agg (f::_)])::r=>bif Nat.beq v w&&strV W f then(l,f)::heads W v r else heads W v r
 |_::r=>heads W v r
 | []=>[]
def isE (s:SV):Bool:=match s with
 |.k (.str [])=>true
 |_=>false
def saidB (W:SW) (r:SV) (b:Bool):Bool:=match toB r with
 |some f=>holds W (bif b then f else f.neg)
 |none=>false
def cmpE (W:SW) (b:Bool) (f:SV):List (Nat × List SV)→Bool
 |(4,[r,f',e])::q=>(eqSV fuel f f'&&(isE e&&saidB W r b))||cmpE W b f q
 |_::q=>cmpE W b f q
 | []=>false
def cmpG (W:SW) (b:Bool) (f g:SV):List (Nat × List SV)→Bool
 |(8,[r,f',g'])::q=>(eqSV fuel f f'&&(eqSV fuel g g'&&saidB W r b))||cmpG W b f g q
 |_::q=>cmpG W b f g q
 | []=>false
def begB (W:SW) (b:Bool) (v:Nat) (n:Lin):Bool:=(heads W v W.pr).any fun p=>eq0 W p.1 n&&
 ((eq0 W n (.k (.ofNat 0))&&cmpE W b p.2 W.pr)||(geq W (n.addc (.negSucc 0))&&(heads W v W.pr).any fun q=>eq0 W q.1 (n.addc (.negSucc 0))&&cmpG W b p.2 q.2 W.pr))
def neqF (W:SW) (a b:Lin):Bool:=W.fx.any (eqLit (.eq (a.sub b) false))||W.fx.any (eqLit (.eq (b.sub a) false))||geq W ((a.sub b).addc (.negSucc 0))||geq W ((b.sub a).addc (.negSucc 0))
def neqI (W:SW) (s:SV) (n:Lin):Bool:=match toI s with
 |some (_,l)=>neqF W n l
 |none=>false
def slV (W:SW) (v:Nat):Bool:=match W.tyOf v with
 |.sl _ _ _=>true
 |_=>false
def prv104 (W:SW):List SV→Bool
 | [.x v,n]=>match toI n with
  |some (_,l)=>slV W v&&(geq W l.neg||W.pr.any fun p=>match p with
   |(104,[.x w,m])=>Nat.beq v w&&(eqI0 W m (l.addc (.negSucc 0))&&begB W true v (l.addc (.negSucc 0)))
   |_=>false)
  |none=>false
 |_=>false
def elems (v:Nat):List (Nat × List SV)→List (Lin × List SV)
 |(0,[.x w,.i _ l,.agg cs])::r=>bif Nat.beq v w then(l,cs)::elems v r else elems v r
 |_::r=>elems v r
 | []=>[]
def top40:Int:=.ofNat 1099511627776
def goodE (W:SW):List SV→Bool
 | [.x f,.i .i64 s,.i .i64 e]=>strV W (.x f)&&(geq W ((lenX W f).neg.addc (.ofNat 16))&&(geq W s&&(geq W (s.neg.addc (.ofNat 3))&&(geq W (e.addc (.negSucc 0))&&geq W (e.neg.addc top40)))))
 |_=>false
def badE (W:SW):List SV→Bool
 | [.x f,.i .i64 s,.i .i64 e]=>strV W (.x f)&&(geq W ((lenX W f).addc (negI (.ofNat 17)))||geq W (s.neg.addc (.negSucc 0))||geq W (s.addc (negI (.ofNat 4)))||geq W e.neg||geq W ((e.addc (negI top40)).addc (.negSucc 0)))
 |_=>false
def fnNo:SV→Option Nat
 |.k (.func (.func g) _ _)=>some g
 |.fn g _ _=>some g
 |_=>none
def askF:Nat:=91
def prv108 (W:SW):List SV→Bool
 | [.x v,n,f]=>match toI n,fnNo f with
  |some (_,l),none=>slV W v&&geq W l.neg
  |some (_,l),some g=>slV W v&&(!Nat.beq g askF||geq W l.neg||W.pr.any fun p=>match p with
   |(108,[.x w,m,f'])=>Nat.beq v w&&(eqSV fuel f f'&&eqI0 W m (l.addc (.negSucc 0))&&(elems v W.pr).any fun q=>eq0 W q.1 (l.addc (.negSucc 0))&&goodE W q.2)
   |_=>false)
  |_,_=>false
 |_=>false
def prv110 (W:SW):List SV→Bool
 | [i,b]=>match toI i,toI b with
  |some (_,l),some (_,m)=>(geq W (m.sub l)||eq0 W m (.k (.negSucc 0)))||W.pr.any fun p=>match p with
   |(110,[j,b'])=>eqSV fuel b b'&&(eqI0 W j (l.addc (.negSucc 0))&&neqF W (l.addc (.negSucc 0)) m)
   |_=>false
  |_,_=>false
 |_=>false
def contra (W:SW):Bool:=W.pr.any fun p=>match p with
 |(110,[j,b])=>match toI j,toI b with
  |some (_,l),some (_,m)=>geq W m&&geq W ((l.sub m).addc (.negSucc 0))
  |_,_=>false
 |_=>false
def reach (W:SW) (v:Nat) (n:SV):Bool:=match toI n with
 |some (_,l)=>geq W (l.sub (lenX W v))
 |none=>false
def prv106 (W:SW):List SV→Bool
 | [.x v]=>contra W||((slV W v&&(geq W ((lenX W v).addc (.negSucc 0))&&geq W ((lenX W v).neg.addc (.ofNat 32))))&&(W.pr.any (fun p=>match p with
   |(104,[.x w,n])=>Nat.beq v w&&reach W v n
   |_=>false)&&W.pr.any fun p=>match p with
   |(108,[.x w,n,f])=>Nat.beq v w&&((match fnNo f with
    |some g=>Nat.beq g askF
    |none=>false)&&reach W v n)
   |_=>false))
 |_=>false
def prv107 (W:SW):List SV→Bool
 | [.x v]=>contra W||(slV W v&&(geq W (lenX W v).neg||geq W ((lenX W v).addc (negI (.ofNat 33)))||(elems v W.pr).any (fun q=>badE W q.2)||(heads W v W.pr).any fun p=>begB W false v p.1))
 |_=>false
def hook107 (W:SW):List SV→List Lit
 | [.x v]=>bif W.pr.any (fun p=>match p with
  |(106,[.x w])=>Nat.beq v w
  |_=>false)then [.ge (.k (.negSucc 0))]else []
 |_=>[]
def headAt (xs:List AVal) (j:Nat) (f:AVal):Prop:=(∃s,f=.str s)∧∃r,xs[j]? =some (.agg (f::r))
def begP (b:Bool) (xs:List AVal) (j:Nat):Prop:=∃f,headAt xs j f∧
 ((j=0∧∃q lt,binE .eql q lt (.val f) (.val (.str []))=some (.val (.bool b)))∨(0<j∧∃g,headAt xs (j-1) g∧∃q lt,binE .gtr q lt (.val f) (.val g)=some (.val (.bool b))))
def viol (x:AVal):Prop:=∃s sh ep,x=.agg [.str s,.int .i64 sh,.int .i64 ep]∧(16<s.length∨sh<0∨4≤sh∨ep<1∨1099511627776<ep)
def asks (f x:AVal):Prop:=∃a c,f=.func (.func askF) a c∧viol x
def Phi104:List AVal→Prop
 | [.slice xs _ _,.int _ n]=>∀j:Nat,(j:Int)<n→begP true xs j
 |_=>False
def Phi108:List AVal→Prop
 | [.slice xs _ _,.int _ n,f]=>∀(j:Nat) (x:AVal),(j:Int)<n→xs[j]? =some x→¬asks f x
 |_=>False
def Phi106:List AVal→Prop
 | [.slice xs _ _]=>(0<xs.length∧xs.length≤32)∧(∀(j:Nat) (x:AVal),xs[j]? =some x→¬viol x)∧∀j,j<xs.length→begP true xs j
 |_=>False
def Phi107:List AVal→Prop
 | [.slice xs _ _]=>xs.length=0∨33≤xs.length∨(∃(j:Nat) (x:AVal),xs[j]? =some x∧viol x)∨∃j,j<xs.length∧begP false xs j
 |_=>False
def Phi110:List AVal→Prop
 | [.int _ i,.int _ b]=>i≤b∨b= -1
 |_=>False
theorem str_same {op:BinOp} {f g:AVal} {q lt q' lt' a b} (hs:∃s,f=.str s) (h1:binE op q lt (.val f) (.val g)=some (.val a)) (h2:binE op q' lt' (.val f) (.val g)=some (.val b)):a=b:=by
 obtain⟨s,rfl⟩:=hs
 rw[bin_val]at h1 h2
 exact toE_inj (o:=Go.AL.binS op s g) h1 h2
theorem head_same {xs:List AVal} {j:Nat} {f g:AVal} (h:headAt xs j f) (k:headAt xs j g):f=g:=by
 obtain⟨_,r,h⟩:=h
 obtain⟨_,s,k⟩:=k
 rw[h]at k
 cases k;rfl
theorem beg_not {xs:List AVal} {j:Nat} (h:begP true xs j) (k:begP false xs j):False:=by
 obtain⟨f,h1,h2⟩:=h
 obtain⟨g,k1,k2⟩:=k
 have:=head_same h1 k1
 subst this
 rcases h2 with⟨_,q,lt,h2⟩|⟨h0,a,ha,q,lt,h2⟩
 ·rcases k2 with⟨_,q',lt',k2⟩|⟨k0,_⟩
  ·have:=str_same h1.1 h2 k2;cases this
  ·omega
 ·rcases k2 with⟨_,_⟩|⟨_,b,hb,q',lt',k2⟩
  ·omega
  ·have:=head_same ha hb
   subst this
   have:=str_same h1.1 h2 k2;cases this
theorem not_both {as:List AVal} (h:Phi106 as) (k:Phi107 as):False:=by
 unfold Phi106 at h
 split at h
 ·rename_i xs nl tok
  obtain⟨⟨h1,h2⟩,h3,h4⟩:=h
  rcases k with k|k|⟨j,x,k1,k2⟩|⟨j,k1,k2⟩
  ·omega
  ·omega
  ·exact h3 j x k1 k2
  ·exact beg_not (h4 j k1) k2
 ·exact h
variable {T:Tab} {G:Nat→Cl} {ρ:Val} {W:SW}
theorem strV_ok (h:Ok T G ρ W) {s:SV} (hs:strV W s=true):∃l,s.ev ρ=.str l:=by
 unfold strV at hs
 split at hs
 ·rename_i v
  have hv:=h.ty v
  split at hs
  ·rename_i hi ht
   rw[ht]at hv
   simp only[SV.ev]
   generalize ρ v=a at hv
   cases hv with
   |str s _ _=>exact⟨s,rfl⟩
  ·cases hs
 ·cases hs
theorem heads_ok [TabOk T] (h:Ok T G ρ W) {v:Nat}:∀{ps:List (Nat × List SV)},(∀p∈ps,phi T p.1 (evs ρ p.2))→∀q∈heads W v ps,∃xs nl tok,∃i:Nat,ρ v=.slice xs nl tok∧q.1.ev ρ=(i:Int)∧i<xs.length∧headAt xs i (q.2.ev ρ)
 | [],_,q,hq=>by cases hq
 |p::ps,hp,q,hq=>by
  have rest:q∈heads W v ps→_:=heads_ok h (fun q hq=>hp q (List.mem_cons_of_mem _ hq)) q
  unfold heads at hq
  split at hq
  ·rename_i w k l f fs r he
   cases he
   cases hc:Nat.beq v w&&strV W f with
   |true=>
    rw[hc]at hq
    obtain⟨c1,c2⟩:=and2 hc
    have c1:=beqN c1;subst c1
    rcases List.mem_cons.1 hq with rfl|hq
    ·have hb:=phi_low (T:=T) (k:=0) (by decide) (hp _ (List.mem_cons_self ..))
     obtain⟨xs,nl,tok,k1,i,q1,q2,q3⟩:=bi_idx hb
     simp only[SV.ev,AVal.int.injEq]at q1 q2
     have hlt:i<xs.length:=by
      rcases Nat.lt_or_ge i xs.length with h|h
      ·exact h
      ·rw[List.getElem?_eq_none h]at q3;cases q3
     exact⟨xs,nl,tok,i,q1,q2.2,hlt,strV_ok h c2,_,q3⟩
    ·exact rest hq
   |false=>rw[hc]at hq;exact rest hq
  ·rename_i he;cases he;exact rest hq
  ·rename_i he;cases he
theorem saidB_ok (h:Ok T G ρ W) {r:SV} {b:Bool} (hr:saidB W r b=true):r.ev ρ=.bool b:=by
 unfold saidB at hr
 split at hr
 ·rename_i f hf
  obtain⟨e,_⟩:=toB_ok (ρ:=ρ) hf
  have:=holds_ok h hr
  rw[e]
  cases b with
  |true=>rw[show(bif true then f else f.neg)=f from rfl]at this;rw[this]
  |false=>
   have this:f.neg.ev ρ=true:=this
   rw[neg_ev]at this
   cases hv:f.ev ρ with
   |true=>rw[hv]at this;cases this
   |false=>rfl
 ·cases hr
theorem bi_eql {r a b:AVal} (h:Bi 4 [r,a,b]):∃q lt,binE .eql q lt (.val a) (.val b)=some (.val r):=by
 cases h with
 |eql q lt a b r h=>exact⟨q,lt,h⟩
theorem bi_gtr {r a b:AVal} (h:Bi 8 [r,a,b]):∃q lt,binE .gtr q lt (.val a) (.val b)=some (.val r):=by
 cases h with
 |gtr q lt a b r h=>exact⟨q,lt,h⟩
theorem isE_ok {e:SV} (h:isE e=true):e.ev ρ=.str []:=by
 unfold isE at h
 split at h
 ·rfl
 ·cases h
theorem cmpE_ok [TabOk T] (h:Ok T G ρ W) {b:Bool} {f:SV}:∀{ps:List (Nat × List SV)},(∀p∈ps,phi T p.1 (evs ρ p.2))→cmpE W b f ps=true→∃q lt,binE .eql q lt (.val (f.ev ρ)) (.val (.str []))=some (.val (.bool b))
 | [],_,hc=>by cases hc
 |p::ps,hp,hc=>by
  have rest:cmpE W b f ps=true→_:=cmpE_ok h (fun q hq=>hp q (List.mem_cons_of_mem _ hq))
  unfold cmpE at hc
  split at hc
  ·rename_i r f' e q he
   cases he
   rw[Bool.or_eq_true]at hc
   rcases hc with hc|hc
   ·obtain⟨c1,c2⟩:=and2 hc
    obtain⟨c2,c3⟩:=and2 c2
    have c1:=eqSV_ok c1;subst c1
    have hb:=phi_low (T:=T) (k:=4) (by decide) (hp _ (List.mem_cons_self ..))
    simp only[evs,isE_ok c2,saidB_ok h c3]at hb
    exact bi_eql hb
   ·exact rest hc
  ·rename_i he;cases he;exact rest hc
  ·cases hc
theorem cmpG_ok [TabOk T] (h:Ok T G ρ W) {b:Bool} {f g:SV}:∀{ps:List (Nat × List SV)},(∀p∈ps,phi T p.1 (evs ρ p.2))→cmpG W b f g ps=true→∃q lt,binE .gtr q lt (.val (f.ev ρ)) (.val (g.ev ρ))=some (.val (.bool b))
 | [],_,hc=>by cases hc
 |p::ps,hp,hc=>by
  have rest:cmpG W b f g ps=true→_:=cmpG_ok h (fun q hq=>hp q (List.mem_cons_of_mem _ hq))
  unfold cmpG at hc
  split at hc
  ·rename_i r f' e q he
   cases he
   rw[Bool.or_eq_true]at hc
   rcases hc with hc|hc
   ·obtain⟨c1,c2⟩:=and2 hc
    obtain⟨c2,c3⟩:=and2 c2
    have c1:=eqSV_ok c1;subst c1
    have c2:=eqSV_ok c2;subst c2
    have hb:=phi_low (T:=T) (k:=8) (by decide) (hp _ (List.mem_cons_self ..))
    simp only[evs,saidB_ok h c3]at hb
    exact bi_gtr hb
   ·exact rest hc
  ·rename_i he;cases he;exact rest hc
  ·cases hc
theorem begB_ok [TabOk T] (h:Ok T G ρ W) {b:Bool} {v:Nat} {n:Lin} (hb:begB W b v n=true):∃xs nl tok,∃i:Nat,ρ v=.slice xs nl tok∧n.ev ρ=(i:Int)∧i<xs.length∧begP b xs i:=by
 unfold begB at hb
 obtain⟨p,hp,hb⟩:=List.any_eq_true.1 hb
 obtain⟨h1,h2⟩:=and2 hb
 obtain⟨xs,nl,tok,i,e1,e2,e3,e4⟩:=heads_ok h h.pr p hp
 have h1:=eq0_ok h h1
 rw[h1]at e2
 refine⟨xs,nl,tok,i,e1,e2,e3,_,e4,?_⟩
 rw[Bool.or_eq_true]at h2
 rcases h2 with h2|h2
 ·obtain⟨c1,c2⟩:=and2 h2
  have c1:=eq0_ok h c1
  rw[ev_k]at c1
  have c1:n.ev ρ=0:=c1
  exact .inl ⟨by omega,cmpE_ok h h.pr c2⟩
 ·obtain⟨c1,c2⟩:=and2 h2
  have c1:=geq_ok h c1
  have en:Int.negSucc 0= -1:=rfl
  rw[ev_addc,en]at c1
  obtain⟨q,hq,c2⟩:=List.any_eq_true.1 c2
  obtain⟨c2,c3⟩:=and2 c2
  obtain⟨ys,_,_,i',f1,f2,f3,f4⟩:=heads_ok h h.pr q hq
  have c2:=eq0_ok h c2
  rw[e1]at f1
  cases f1
  rw[c2,ev_addc,en]at f2
  have:i'=i-1:=by omega
  subst this
  exact .inr ⟨by omega,_,f4,cmpG_ok h h.pr c3⟩
theorem neqF_ok (h:Ok T G ρ W) {a b:Lin} (hn:neqF W a b=true):a.ev ρ≠b.ev ρ:=by
 intro he
 unfold neqF at hn
 have en:Int.negSucc 0= -1:=rfl
 have fx:∀{l:Lin},W.fx.any (eqLit (.eq l false))=true→l.ev ρ≠0:=by
  intro l hh
  obtain⟨g,hg,hq⟩:=List.any_eq_true.1 hh
  have:=eqLit_ok hq
  subst this
  have:=h.fx _ hg
  simp only[Lit.ev,beq_iff_eq,decide_eq_false_iff_not]at this
  exact this
 simp only[Bool.or_eq_true]at hn
 rcases hn with((hn|hn)|hn)|hn
 ·have:=fx hn;simp only[ev_sub]at this;omega
 ·have:=fx hn;simp only[ev_sub]at this;omega
 ·have:=geq_ok h hn;simp only[ev_sub,ev_addc,en]at this;omega
 ·have:=geq_ok h hn;simp only[ev_sub,ev_addc,en]at this;omega
end Go.AL.SX
namespace Go.AL.SX
def PhiC:Nat→List AVal→Prop
 |100,as=>Phi100 100 as
 |104,as=>Phi104 as
 |106,as=>Phi106 as
 |107,as=>Phi107 as
 |108,as=>Phi108 as
 |110,as=>Phi110 as
 |_,_=>False
def prvC (W:SW) (k:Nat) (as:List SV):Bool:=match k with
 |100=>prv100 W as
 |104=>prv104 W as
 |106=>prv106 W as
 |107=>prv107 W as
 |108=>prv108 W as
 |110=>prv110 W as
 |_=>false
def hookC (W:SW) (k:Nat) (as:List SV):List Lit:=match k with
 |0=>hook0 W as
 |107=>hook107 W as
 |_=>[]
theorem bi_lt {k:Nat} {as:List AVal} (h:Bi k as):k<10:=by cases h<;>decide
section
variable {T:Tab} {G:Nat→Cl} {ρ:Val} {W:SW}
theorem phiT (hΦ:T.Φ=PhiC) {k:Nat} {as:List AVal} (hk:10≤k) (h:phi T k as):PhiC k as:=by
 rcases h with h|h
 ·have:=bi_lt h;omega
 ·rw[hΦ]at h;exact h
theorem sl_ty (h:Ok T G ρ W) {v:Nat} (hv:slV W v=true):∃xs nl tok,ρ v=.slice xs nl tok:=by
 have ht:=h.ty v
 unfold slV at hv
 split at hv
 ·rename_i t lo hi he
  rw[he]at ht
  generalize ρ v=a at ht
  cases ht with
  |sl _ _ _ xs nl tok=>exact⟨xs,nl,tok,rfl⟩
 ·cases hv
theorem len_of {v:Nat} {xs:List AVal} {nl:Bool} {tok:Option Nat} (h:Ok T G ρ W) (hr:ρ v=.slice xs nl tok):(lenX W v).ev ρ=(xs.length:Nat):=by
 rw[lenX_ok h,hr];rfl
theorem m1:Int.negSucc 0= -1:=rfl
theorem prv104_ok [TabOk T] (hΦ:T.Φ=PhiC) (h:Ok T G ρ W) {as:List SV} (hp:prv104 W as=true):Phi104 (evs ρ as):=by
 unfold prv104 at hp
 split at hp
 ·rename_i v n
  split at hp
  ·rename_i k l hl
   obtain⟨hs,hp⟩:=and2 hp
   obtain⟨xs,nl,tok,hr⟩:=sl_ty h hs
   obtain⟨e,_⟩:=toI_ok (ρ:=ρ) hl
   simp only[evs,e,SV.ev,hr]
   show∀j:Nat,(j:Int)<l.ev ρ→begP true xs j
   rw[Bool.or_eq_true]at hp
   rcases hp with hp|hp
   ·have:=geq_ok h hp
    rw[ev_neg]at this
    intro j hj;omega
   ·obtain⟨p,hp1,hp⟩:=List.any_eq_true.1 hp
    split at hp
    ·rename_i w m
     obtain⟨c1,hp⟩:=and2 hp
     obtain⟨c3,c5⟩:=and2 hp
     have c1:=beqN c1;subst c1
     obtain⟨km,c3⟩:=eqI0_ok h c3
     obtain⟨ys,_,_,i,d1,d2,d3,d4⟩:=begB_ok h c5
     rw[hr]at d1
     cases d1
     have hq:=phiT hΦ (k:=104) (by decide) (h.pr _ hp1)
     simp only[evs,SV.ev,hr,c3]at hq
     have hq:∀j:Nat,(j:Int)<(l.addc (.negSucc 0)).ev ρ→begP true xs j:=hq
     rw[d2]at hq
     rw[ev_addc,m1]at d2
     intro j hj
     rcases Nat.lt_or_ge j i with hlt|hge
     ·exact hq j (by omega)
     ·have:j=i:=by omega
      subst this
      exact d4
    ·cases hp
  ·cases hp
 ·cases hp
theorem elems_ok [TabOk T] {v:Nat}:∀{ps:List (Nat × List SV)},(∀p∈ps,phi T p.1 (evs ρ p.2))→∀q∈elems v ps,∃xs nl tok,∃i:Nat,ρ v=.slice xs nl tok∧q.1.ev ρ=(i:Int)∧xs[i]? =some (.agg (evs ρ q.2))
 | [],_,q,hq=>by cases hq
 |p::ps,hp,q,hq=>by
  have rest:q∈elems v ps→_:=elems_ok (fun q hq=>hp q (List.mem_cons_of_mem _ hq)) q
  unfold elems at hq
  split at hq
  ·rename_i w k l cs r he
   cases he
   cases hc:Nat.beq v w with
   |true=>
    rw[hc]at hq
    have hc:=beqN hc;subst hc
    rcases List.mem_cons.1 hq with rfl|hq
    ·have hb:=phi_low (T:=T) (k:=0) (by decide) (hp _ (List.mem_cons_self ..))
     obtain⟨xs,nl,tok,k1,i,q1,q2,q3⟩:=bi_idx hb
     simp only[SV.ev,AVal.int.injEq]at q1 q2
     exact⟨xs,nl,tok,i,q1,q2.2,q3⟩
    ·exact rest hq
   |false=>rw[hc]at hq;exact rest hq
  ·rename_i he;cases he;exact rest hq
  ·rename_i he;cases he
theorem goodE_ok (h:Ok T G ρ W) {cs:List SV} (hg:goodE W cs=true):¬viol (.agg (evs ρ cs)):=by
 unfold goodE at hg
 split at hg
 ·rename_i f s e
  obtain⟨c1,hg⟩:=and2 hg
  obtain⟨c2,hg⟩:=and2 hg
  obtain⟨c3,hg⟩:=and2 hg
  obtain⟨c4,hg⟩:=and2 hg
  obtain⟨c5,c6⟩:=and2 hg
  obtain⟨t,ht⟩:=strV_ok h c1
  have c2:=geq_ok h c2
  have c3:=geq_ok h c3
  have c4:=geq_ok h c4
  have c5:=geq_ok h c5
  have c6:=geq_ok h c6
  simp only[SV.ev]at ht
  rw[ev_addc,ev_neg,lenX_ok h,ht]at c2
  rw[ev_addc,ev_neg]at c4 c6
  rw[ev_addc,m1]at c5
  have c2:(0:Int)≤ -(t.length:Int)+16:=c2
  have c4:(0:Int)≤ -(s.ev ρ)+3:=c4
  have c6:(0:Int)≤ -(e.ev ρ)+1099511627776:=c6
  rintro⟨a,b,c,he,hv⟩
  simp only[evs,SV.ev,ht,AVal.agg.injEq,List.cons.injEq,AVal.str.injEq,AVal.int.injEq,and_true,true_and]at he
  obtain⟨rfl,rfl,rfl⟩:=he
  omega
 ·cases hg
theorem badE_ok (h:Ok T G ρ W) {cs:List SV} (hg:badE W cs=true):viol (.agg (evs ρ cs)):=by
 unfold badE at hg
 split at hg
 ·rename_i f s e
  obtain⟨c1,hg⟩:=and2 hg
  obtain⟨t,ht⟩:=strV_ok h c1
  simp only[SV.ev]at ht
  refine⟨t,s.ev ρ,e.ev ρ,by simp only[evs,SV.ev,ht],?_⟩
  simp only[Bool.or_eq_true]at hg
  rcases hg with(((c|c)|c)|c)|c
  ·have c:=geq_ok h c
   rw[ev_addc,lenX_ok h,ht,negI_eq]at c
   have c:(0:Int)≤(t.length:Int)+ -17:=c
   omega
  ·have c:=geq_ok h c;rw[ev_addc,ev_neg,m1]at c;omega
  ·have c:=geq_ok h c
   rw[ev_addc,negI_eq]at c
   have c:(0:Int)≤s.ev ρ+ -4:=c
   omega
  ·have c:=geq_ok h c;rw[ev_neg]at c;omega
  ·have c:=geq_ok h c
   rw[ev_addc,ev_addc,m1,negI_eq]at c
   have c:(0:Int)≤e.ev ρ+ -1099511627776+ -1:=c
   omega
 ·cases hg
theorem fnNo_ok {f:SV} {g:Nat} (hf:fnNo f=some g):∃a c,f.ev ρ=.func (.func g) a c:=by
 unfold fnNo at hf
 split at hf<;>cases hf
 ·exact⟨_,_,rfl⟩
 ·exact⟨_,_,rfl⟩
theorem prv108_ok [TabOk T] (hΦ:T.Φ=PhiC) (h:Ok T G ρ W) {as:List SV} (hp:prv108 W as=true):Phi108 (evs ρ as):=by
 unfold prv108 at hp
 split at hp
 ·rename_i v n f
  split at hp
  ·rename_i k l hl _
   obtain⟨hs,hp⟩:=and2 hp
   obtain⟨xs,nl,tok,hr⟩:=sl_ty h hs
   obtain⟨e,_⟩:=toI_ok (ρ:=ρ) hl
   simp only[evs,e,SV.ev,hr]
   show∀(j:Nat) (x:AVal),(j:Int)<l.ev ρ→xs[j]? =some x→¬asks (f.ev ρ) x
   have:=geq_ok h hp
   rw[ev_neg]at this
   intro j x hj;omega
  ·rename_i k l g hl hg
   obtain⟨hs,hp⟩:=and2 hp
   obtain⟨xs,nl,tok,hr⟩:=sl_ty h hs
   obtain⟨e,_⟩:=toI_ok (ρ:=ρ) hl
   obtain⟨fa,fc,ef⟩:=fnNo_ok (ρ:=ρ) hg
   simp only[evs,e,SV.ev,hr]
   show∀(j:Nat) (x:AVal),(j:Int)<l.ev ρ→xs[j]? =some x→¬asks (f.ev ρ) x
   simp only[Bool.or_eq_true]at hp
   rcases hp with(hp|hp)|hp
   ·intro j x _ _ ⟨a,c,ha,_⟩
    rw[ef]at ha
    cases ha
    simp at hp
   ·have:=geq_ok h hp
    rw[ev_neg]at this
    intro j x hj;omega
   ·obtain⟨p,hp1,hp⟩:=List.any_eq_true.1 hp
    split at hp
    ·rename_i w m f'
     obtain⟨c1,hp⟩:=and2 hp
     obtain⟨c3,c5⟩:=and2 hp
     obtain⟨c2,c4⟩:=and2 c3
     clear c3
     have c1:=beqN c1;subst c1
     have c2:=eqSV_ok c2;subst c2
     obtain⟨km,c3⟩:=eqI0_ok h c4
     obtain⟨q,hq,c5⟩:=List.any_eq_true.1 c5
     obtain⟨c5,c6⟩:=and2 c5
     have c5:=eq0_ok h c5
     obtain⟨ys,_,_,i,d1,d2,d3⟩:=elems_ok (T:=T) (ρ:=ρ) h.pr q hq
     rw[hr]at d1
     cases d1
     have hq:=phiT hΦ (k:=108) (by decide) (h.pr _ hp1)
     simp only[evs,SV.ev,hr,c3]at hq
     have hq:∀(j:Nat) (x:AVal),(j:Int)<(l.addc (.negSucc 0)).ev ρ→xs[j]? =some x→¬asks (f.ev ρ) x:=hq
     rw[c5]at d2
     rw[d2]at hq
     rw[ev_addc,m1]at d2
     intro j x hj hx
     rcases Nat.lt_or_ge j i with hlt|hge
     ·exact hq j x (by omega) hx
     ·have:j=i:=by omega
      subst this
      rw[d3]at hx
      cases hx
      rintro⟨_,_,_,hv⟩
      exact goodE_ok h c6 hv
    ·cases hp
  ·cases hp
 ·cases hp
theorem prv110_ok (hΦ:T.Φ=PhiC) (h:Ok T G ρ W) {as:List SV} (hp:prv110 W as=true):Phi110 (evs ρ as):=by
 unfold prv110 at hp
 split at hp
 ·rename_i i b
  split at hp
  ·rename_i k l k' m hl hm
   obtain⟨e,_⟩:=toI_ok (ρ:=ρ) hl
   obtain⟨e2,_⟩:=toI_ok (ρ:=ρ) hm
   simp only[evs,e,e2]
   show l.ev ρ≤m.ev ρ∨m.ev ρ= -1
   simp only[Bool.or_eq_true]at hp
   rcases hp with(hp|hp)|hp
   ·have:=geq_ok h hp;rw[ev_sub]at this;omega
   ·have:=eq0_ok h hp;rw[ev_k,m1]at this;exact .inr this
   ·obtain⟨p,hp1,hp⟩:=List.any_eq_true.1 hp
    split at hp
    ·rename_i j b'
     obtain⟨c1,hp⟩:=and2 hp
     obtain⟨c2,c3⟩:=and2 hp
     have c1:=eqSV_ok c1;subst c1
     obtain⟨kj,c2⟩:=eqI0_ok h c2
     have c3:=neqF_ok h c3
     have hq:=phiT hΦ (k:=110) (by decide) (h.pr _ hp1)
     simp only[evs,c2,e2]at hq
     have hq:(l.addc (.negSucc 0)).ev ρ≤m.ev ρ∨m.ev ρ= -1:=hq
     rw[ev_addc,m1]at hq c3
     omega
    ·cases hp
  ·cases hp
 ·cases hp
theorem contra_ok (hΦ:T.Φ=PhiC) (h:Ok T G ρ W) (hp:contra W=true):False:=by
 unfold contra at hp
 obtain⟨p,hp1,hp⟩:=List.any_eq_true.1 hp
 split at hp
 ·rename_i j b
  split at hp
  ·rename_i k l k' m hl hm
   obtain⟨e,_⟩:=toI_ok (ρ:=ρ) hl
   obtain⟨e2,_⟩:=toI_ok (ρ:=ρ) hm
   obtain⟨c1,c2⟩:=and2 hp
   have c1:=geq_ok h c1
   have c2:=geq_ok h c2
   rw[ev_addc,ev_sub,m1]at c2
   have hq:=phiT hΦ (k:=110) (by decide) (h.pr _ hp1)
   simp only[evs,e,e2]at hq
   have hq:l.ev ρ≤m.ev ρ∨m.ev ρ= -1:=hq
   omega
  ·cases hp
 ·cases hp
theorem phi104_inv {a n:AVal} (h:Phi104 [a,n]):∃xs nl tok k m,a=.slice xs nl tok∧n=.int k m∧∀j:Nat,(j:Int)<m→begP true xs j:=by
 unfold Phi104 at h
 split at h
 ·rename_i he
  simp only[List.cons.injEq,and_true]at he
  obtain⟨rfl,rfl⟩:=he
  exact⟨_,_,_,_,_,rfl,rfl,h⟩
 ·exact h.elim
theorem phi108_inv {a n f:AVal} (h:Phi108 [a,n,f]):∃xs nl tok k m,a=.slice xs nl tok∧n=.int k m∧∀(j:Nat) (x:AVal),(j:Int)<m→xs[j]? =some x→¬asks f x:=by
 unfold Phi108 at h
 split at h
 ·rename_i he
  simp only[List.cons.injEq,and_true]at he
  obtain⟨rfl,rfl,rfl⟩:=he
  exact⟨_,_,_,_,_,rfl,rfl,h⟩
 ·exact h.elim
theorem reach_ok (h:Ok T G ρ W) {v:Nat} {n:SV} {xs:List AVal} {nl:Bool} {tok:Option Nat} (hr:ρ v=.slice xs nl tok) (hn:reach W v n=true):∃k m,n.ev ρ=.int k m∧(xs.length:Int)≤m:=by
 unfold reach at hn
 split at hn
 ·rename_i k l hl
  obtain⟨e,_⟩:=toI_ok (ρ:=ρ) hl
  have:=geq_ok h hn
  rw[ev_sub,len_of h hr]at this
  exact⟨k,_,e,by omega⟩
 ·cases hn
theorem prv106_ok (hΦ:T.Φ=PhiC) (h:Ok T G ρ W) {as:List SV} (hp:prv106 W as=true):Phi106 (evs ρ as):=by
 unfold prv106 at hp
 split at hp
 ·rename_i v
  rw[Bool.or_eq_true]at hp
  rcases hp with hp|hp
  ·exact(contra_ok hΦ h hp).elim
  ·obtain⟨c0,hp⟩:=and2 hp
   obtain⟨cs,c0⟩:=and2 c0
   obtain⟨c1,c2⟩:=and2 c0
   obtain⟨p1,p2⟩:=and2 hp
   obtain⟨xs,nl,tok,hr⟩:=sl_ty h cs
   have hlen:=len_of h hr
   have g1:=geq_ok h c1
   have g2:=geq_ok h c2
   rw[ev_addc,hlen,m1]at g1
   rw[ev_addc,ev_neg,hlen]at g2
   have g2:(0:Int)≤ -(xs.length:Int)+32:=g2
   simp only[evs,SV.ev,hr]
   refine⟨⟨by omega,by omega⟩,?_,?_⟩
   ·obtain⟨p,hp1,hq⟩:=List.any_eq_true.1 p2
    split at hq
    ·rename_i w n f
     obtain⟨d1,hq⟩:=and2 hq
     obtain⟨d2,d3⟩:=and2 hq
     have d1:=beqN d1;subst d1
     split at d2
     ·rename_i g hg
      have d2:=beqN d2
      obtain⟨fa,fc,ef⟩:=fnNo_ok (ρ:=ρ) hg
      obtain⟨k,m,e1,e2⟩:=reach_ok h hr d3
      have hh:=phiT hΦ (k:=108) (by decide) (h.pr _ hp1)
      simp only[evs,SV.ev,hr,e1]at hh
      have hh2:Phi108 [AVal.slice xs nl tok,AVal.int k m,SV.ev ρ f]:=hh
      obtain⟨ys,_,_,k',m',q1,q2,q3⟩:=phi108_inv hh2
      cases q1
      cases q2
      intro j x hx hv
      have hlt:j<xs.length:=by
       rcases Nat.lt_or_ge j xs.length with h|h
       ·exact h
       ·rw[List.getElem?_eq_none h]at hx;cases hx
      exact q3 j x (by omega) hx ⟨fa,fc,by rw[ef,d2],hv⟩
     ·cases d2
    ·cases hq
   ·obtain⟨p,hp1,hq⟩:=List.any_eq_true.1 p1
    split at hq
    ·rename_i w n
     obtain⟨d1,d3⟩:=and2 hq
     have d1:=beqN d1;subst d1
     obtain⟨k,m,e1,e2⟩:=reach_ok h hr d3
     have hh:=phiT hΦ (k:=104) (by decide) (h.pr _ hp1)
     simp only[evs,SV.ev,hr,e1]at hh
     have hh2:Phi104 [AVal.slice xs nl tok,AVal.int k m]:=hh
     obtain⟨ys,_,_,k',m',q1,q2,q3⟩:=phi104_inv hh2
     cases q1
     cases q2
     exact fun j hj=>q3 j (by omega)
    ·cases hq
 ·cases hp
theorem prv107_ok [TabOk T] (hΦ:T.Φ=PhiC) (h:Ok T G ρ W) {as:List SV} (hp:prv107 W as=true):Phi107 (evs ρ as):=by
 unfold prv107 at hp
 split at hp
 ·rename_i v
  rw[Bool.or_eq_true]at hp
  rcases hp with hp|hp
  ·exact(contra_ok hΦ h hp).elim
  ·obtain⟨cs,hp⟩:=and2 hp
   obtain⟨xs,nl,tok,hr⟩:=sl_ty h cs
   have hlen:=len_of h hr
   simp only[evs,SV.ev,hr]
   show xs.length=0∨33≤xs.length∨(∃(j:Nat) (x:AVal),xs[j]? =some x∧viol x)∨∃j,j<xs.length∧begP false xs j
   simp only[Bool.or_eq_true]at hp
   rcases hp with((hp|hp)|hp)|hp
   ·have:=geq_ok h hp
    rw[ev_neg,hlen]at this
    left;omega
   ·have:=geq_ok h hp
    rw[ev_addc,hlen,negI_eq]at this
    have this:(0:Int)≤xs.length+ -33:=this
    right;left;omega
   ·obtain⟨q,hq,hb⟩:=List.any_eq_true.1 hp
    obtain⟨ys,_,_,i,d1,d2,d3⟩:=elems_ok (T:=T) (ρ:=ρ) h.pr q hq
    rw[hr]at d1
    cases d1
    exact .inr (.inr (.inl ⟨i,_,d3,badE_ok h hb⟩))
   ·obtain⟨q,hq,hb⟩:=List.any_eq_true.1 hp
    obtain⟨ys,_,_,i,d1,d2,d3,d4⟩:=begB_ok h hb
    rw[hr]at d1
    cases d1
    exact .inr (.inr (.inr ⟨i,d3,d4⟩))
 ·cases hp
theorem hook107_ok (hΦ:T.Φ=PhiC) (h:Ok T G ρ W) {as:List SV} (hb:phi T 107 (evs ρ as)):∀f∈hook107 W as,f.ev ρ=true:=by
 intro f hf
 unfold hook107 at hf
 split at hf
 ·rename_i v
  cases hc:W.pr.any (fun p=>match p with
   |(106,[.x w])=>Nat.beq v w
   |_=>false)with
  |false=>rw[hc]at hf;cases hf
  |true=>
   obtain⟨p,hp,hq⟩:=List.any_eq_true.1 hc
   split at hq
   ·have hq:=beqN hq;subst hq
    exact(not_both (phiT hΦ (k:=106) (by decide) (h.pr _ hp)) (phiT hΦ (k:=107) (by decide) hb)).elim
   ·cases hq
 ·cases hf
end
def mkTab (D:Nat→Ty) (K:Nat→CD) (E:Nat→Ty):Tab:= {D:=D,K:=K,E:=E,Φ:=PhiC,prv:=prvC,hook:=hookC}
theorem phiC_low {k:Nat} {as:List AVal} (hk:k<100):¬PhiC k as:=by
 intro h
 unfold PhiC at h
 split at h<;>first|omega|exact h
def bare (T:Tab):Tab:= {T with prv:=fun _ _ _=>false,hook:=fun _ _ _=>[]}
instance (D:Nat→Ty) (K:Nat→CD) (E:Nat→Ty):TabOk (mkTab D K E):=by
 have base:∀{T:Tab},T.Φ=PhiC→T.prv=prvC→T.hook=hookC→TabOk T:=by
  intro T h1 h2 h3
  have low:∀k as,k<100→¬T.Φ k as:=by rw[h1];exact fun k as hk=>phiC_low hk
  have h100:∀as,T.Φ 100 as→Phi100 100 as:=by rw[h1];exact fun as h=>h
  have t0:TabOk (bare T):=⟨low,fun _ h=>(by cases h),fun _ _ f hf=>(by cases hf)⟩
  refine⟨low,fun {G ρ W k as} h hp=> ?_,fun {G ρ W k as} h hp f hf=> ?_⟩
  ·have h':Ok (bare T) G ρ W:=⟨h.ty,h.top,h.ge,h.fx,h.ln,h.pr⟩
   rw[h2]at hp
   refine .inr ?_
   rw[h1]
   unfold prvC at hp
   split at hp
   ·exact prv100_ok (T:=bare T) h100 h' hp
   ·exact prv104_ok (T:=bare T) h1 h' hp
   ·exact prv106_ok (T:=bare T) h1 h' hp
   ·exact prv107_ok (T:=bare T) h1 h' hp
   ·exact prv108_ok (T:=bare T) h1 h' hp
   ·exact prv110_ok (T:=bare T) h1 h' hp
   ·cases hp
  ·have h':Ok (bare T) G ρ W:=⟨h.ty,h.top,h.ge,h.fx,h.ln,h.pr⟩
   rw[h3]at hf
   unfold hookC at hf
   split at hf
   ·exact hook0_ok (T:=bare T) h100 h' hp f hf
   ·exact hook107_ok (T:=bare T) h1 h' hp f hf
   ·cases hf
 exact base rfl rfl rfl
end Go.AL.SX
