/-
  AN ABSTRACT LOGIC OVER THE MODEL, part 18: what the evaluator's small functions reckon, told in the model's words.
-/
import Derived.Test.YthjhmfhmejlenaaGreatAL16
set_option linter.unusedSectionVars false
set_option linter.unusedVariables false
set_option linter.unusedSimpArgs false
section
namespace Go.bO
open Go.RowKit
theorem uM (a b:Int):mh a b=(a==b):=by
 cases a<;>cases b<;>simp only[mh]
 ·rename_i m n;by_cases h:m=n
  ·subst h;simp[yF]
  ·have U:Nat.beq m n=false:=by
    cases aj:Nat.beq m n with
    |false=>rfl
    |true=>exact absurd (oT aj) h
   rw[U]
   symm;apply beq_eq_false_iff_ne.2
   intro aF;injection aF;contradiction
 ·symm;apply beq_eq_false_iff_ne.2;intro aF;cases aF
 ·symm;apply beq_eq_false_iff_ne.2;intro aF;cases aF
 ·rename_i m n;by_cases h:m=n
  ·subst h;simp[yF]
  ·have U:Nat.beq m n=false:=by
    cases aj:Nat.beq m n with
    |false=>rfl
    |true=>exact absurd (oT aj) h
   rw[U]
   symm;apply beq_eq_false_iff_ne.2
   intro aF;injection aF;contradiction
theorem kK (a b:Nat):Nat.blt a b=decide (a<b):=by
 by_cases h:a<b
 ·rw[decide_eq_true h];exact OL h
 ·rw[decide_eq_false h];cases aj:Nat.blt a b with
  |false=>rfl
  |true=>exact absurd (s_ aj) h
theorem fT (a b:Nat):Nat.ble a b=decide (a≤b):=by
 by_cases h:a≤b
 ·rw[decide_eq_true h];exact OL h
 ·rw[decide_eq_false h];cases aj:Nat.ble a b with
  |false=>rfl
  |true=>exact absurd (s_ aj) h
theorem gY (a b:Nat):Nat.beq a b=decide (a=b):=by
 by_cases h:a=b
 ·rw[decide_eq_true h];subst h;exact yF a
 ·rw[decide_eq_false h];cases aj:Nat.beq a b with
  |false=>rfl
  |true=>exact absurd (oT aj) h
theorem tK (a b:Int):my a b=decide (a<b):=by
 cases a<;>cases b<;>simp only[my]
 ·rw[kK];rename_i m n;by_cases h:m<n
  ·rw[decide_eq_true h,decide_eq_true (by simp only[hU];omega)]
  ·rw[decide_eq_false h,decide_eq_false (by simp only[hU];omega)]
 ·symm;apply decide_eq_false;simp only[hU,wy];omega
 ·symm;apply decide_eq_true;simp only[hU,wy];omega
 ·rw[kK];rename_i m n;by_cases h:n<m
  ·rw[decide_eq_true h,decide_eq_true (by simp only[wy];omega)]
  ·rw[decide_eq_false h,decide_eq_false (by simp only[wy];omega)]
theorem yt (a b:Int):pH a b=a+b:=by cases a<;>cases b<;>rfl
theorem DM (a b:Int):ya a b=a-b:=by
 cases a<;>cases b<;>try rfl
 rename_i m n;show UG m n=_;unfold UG;have U:Nat.sub m n=m-n:=rfl;have aa:Nat.sub (Nat.sub n m) 1=n-m-1:=rfl;rw[fT,U,aa];by_cases h:n≤m
 ·rw[decide_eq_true h,cond_true];simp only[hU];omega
 ·rw[decide_eq_false h,cond_false];simp only[hU,wy];omega
theorem wrap_small (k:IntKind) (m:Nat) (h:m<(bif k.signed then 2^(k.bits-1)else 2^k.bits)):k.wrap (.ofNat m)=.ofNat m:=by
 have aj:0<k.bits:=by cases k<;>decide
 have aa:2^k.bits=2*2^(k.bits-1):=by
  obtain⟨q,aB⟩:∃q,k.bits=q+1:=⟨k.bits-1,by omega⟩
  rw[aB,By,IG,qH]
 have bf:(2^k.bits:Int)=((2^k.bits:Nat):Int):=(uw 2 k.bits).symm;have c2:(2^(k.bits-1):Int)=((2^(k.bits-1):Nat):Int):=(uw 2 (k.bits-1)).symm;unfold IntKind.wrap;rw[bf,c2];generalize hq:2^k.bits=A at*;generalize fF:2^(k.bits-1)=B at*;have hm:m<A:=by cases hs:k.signed<;>rw[hs]at h<;>simp only[cond_true,cond_false]at h<;>omega
 have e:(Int.ofNat m)%(A:Int)=(m:Int):=by
  show((m:Nat):Int)%(A:Int)=_;exact Int.emod_eq_of_lt (by omega) (by omega)
 simp only[e];rw[if_neg]
 ·rfl
 ·cases hs:k.signed with
  |false=>simp
  |true=>
   rw[hs,cond_true]at h;simp only[s7,decide_eq_true_eq];omega
theorem ag5 (k:IntKind) (m:Nat) (hs:k.signed=true) (h:m<2^(k.bits-1)):k.wrap (.negSucc m)=.negSucc m:=by
 have aj:0<k.bits:=by cases k<;>decide
 have aa:2^k.bits=2*2^(k.bits-1):=by
  obtain⟨q,aB⟩:∃q,k.bits=q+1:=⟨k.bits-1,by omega⟩
  rw[aB,By,IG,qH]
 have bf:(2^k.bits:Int)=((2^k.bits:Nat):Int):=(uw 2 k.bits).symm;have c2:(2^(k.bits-1):Int)=((2^(k.bits-1):Nat):Int):=(uw 2 (k.bits-1)).symm;unfold IntKind.wrap;rw[bf,c2,hs];generalize hq:2^k.bits=A at*;generalize fF:2^(k.bits-1)=B at*;have e:(Int.negSucc m)%(A:Int)=(A:Int)-(m+1):=by
  rw[wy];have:(-((m:Int)+1))%(A:Int)=((A:Int)-(m+1))%A:=by
   rw[←Int.add_emod_right,show -((m:Int)+1)+A=(A:Int)-(m+1)by omega]
  rw[this];exact Int.emod_eq_of_lt (by omega) (by omega)
 simp only[e];rw[if_pos]
 ·rw[wy];omega
 ·simp only[s7,decide_eq_true_eq];omega
theorem abM (k:IntKind):RV k=bif k.signed then 2^(k.bits-1)else 2^k.bits:=rfl
theorem DY (k:IntKind) (n:Int):uf k n=k.wrap n:=by
 have aj:0<k.bits:=by cases k<;>decide
 have aa:2^k.bits=2*2^(k.bits-1):=by
  obtain⟨q,aB⟩:∃q,k.bits=q+1:=⟨k.bits-1,by omega⟩
  rw[aB,By,IG,qH]
 cases n with
 |ofNat m=>
  show Vq k (.ofNat m) m=_;unfold Vq;rw[kK,abM];by_cases h:m<(bif k.signed then 2^(k.bits-1)else 2^k.bits)
  ·rw[decide_eq_true h,cond_true];exact(wrap_small k m h).symm
  ·rw[decide_eq_false h,cond_false]
 |negSucc m=>
  show Vp k (.negSucc m) m=_;unfold Vp;rw[kK,abM];cases hs:k.signed with
  |false=>rfl
  |true=>
   rw[cond_true,s7];by_cases h:m<2^(k.bits-1)
   ·rw[decide_eq_true h,cond_true];exact(ag5 k m hs h).symm
   ·rw[decide_eq_false h,cond_false]
theorem m3 (xs:List ab) (n:Nat):j9 xs n=n+xs.length:=by
 induction xs generalizing n with
 |nil=>rfl
 |cons x xs bm=>show j9 xs (n+1)=_;rw[bm,mb];omega
theorem Gl (xs:List UInt8) (n:Nat):vl xs n=n+xs.length:=by
 induction xs generalizing n with
 |nil=>rfl
 |cons x xs bm=>show vl xs (n+1)=_;rw[bm,mb];omega
theorem aqn (xs:List (ab × ab)) (n:Nat):Gm xs n=n+xs.length:=by
 induction xs generalizing n with
 |nil=>rfl
 |cons x xs bm=>show Gm xs (n+1)=_;rw[bm,mb];omega
theorem Of {a:ab} {o:Option (List ab)} {l:List ab} (h:wN a o=some l):∃as,o=some as∧l=a::as:=by
 cases o with
 |none=>cases h
 |some as=>exact⟨as,rfl,(by cases h;rfl)⟩
theorem AI:∀{n:Nat} {cs l:List ab},iw n cs=some l→n≤cs.length∧l=cs.take n
 |0,cs,l,h=>by cases cs<;>(cases h;exact⟨fv _,rfl⟩)
 |n+1,[],l,h=>by cases h
 |n+1,x::xs,l,h=>by
  obtain⟨as,U,rfl⟩:=Of (o:=iw n xs) h;obtain⟨aa,rfl⟩:=AI U;exact⟨Nat.succ_le_succ aa,rfl⟩
theorem y0 {n:Nat} {cs:List ab} (h:mP n cs=true):n≤cs.length:=by
 unfold mP at h;cases e:iw n cs with
 |none=>rw[e]at h;cases h
 |some l=>exact(AI e).1
theorem amX {cs:List ab} {v:ab} (h:Qk cs=some v):1≤cs.length∧v=cs.headD .top:=by
 cases cs with
 |nil=>cases h
 |cons x xs=>cases h;exact⟨by simp,rfl⟩
theorem Tv {agg:Bool} {n:Nat} {cs:List ab} {v:ab} (h:sF agg n cs=some v):n≤cs.length∧v=gh agg (cs.take n):=by
 cases agg with
 |true=>
  simp only[sF,cond_true]at h;cases e:iw n cs with
  |none=>rw[e]at h;cases h
  |some l=>rw[e]at h;cases h;obtain⟨U,rfl⟩:=AI e;exact⟨U,rfl⟩
 |false=>
  simp only[sF,cond_false]at h;rw[gY]at h;by_cases aK:n=1
  ·subst aK;simp only[decide_true,cond_true]at h;obtain⟨U,rfl⟩:=amX h;refine⟨U,?_⟩;cases cs with
   |nil=>simp at U
   |cons x xs=>rfl
  ·rw[decide_eq_false aK]at h;cases h
theorem wq {β:Type} {f:List ab→Option β}:∀{o:Nat} {cs:List ab} {v:β},nU f o cs=some v→o≤cs.length∧f (cs.drop o)=some v
 |0,cs,v,h=>⟨fv _,by rw[IE];exact h⟩
 |o+1,[],v,h=>by cases h
 |o+1,c::cs,v,h=>by
  obtain⟨U,aa⟩:=wq (o:=o) (cs:=cs) h;exact⟨Nat.succ_le_succ U,aa⟩
theorem Tu {agg:Bool} {n o:Nat} {cs:List ab} {v:ab} (h:partAt agg n o cs=some v):o+n≤cs.length∧v=gh agg ((cs.drop o).take n):=by
 obtain⟨aV,h⟩:=wq h;obtain⟨U,aa⟩:=Tv h;rw[nk]at U;exact⟨by omega,aa⟩
theorem af_ {n o:Nat} {cs l:List ab} (h:nU (iw n) o cs=some l):o+n≤cs.length∧l=(cs.drop o).take n:=by
 obtain⟨aV,h⟩:=wq h;obtain⟨U,aa⟩:=AI h;rw[nk]at U;exact⟨by omega,aa⟩
theorem adD:∀{vs cs:List ab},vs.length≤cs.length→re vs cs=vs++cs.drop vs.length
 | [],cs,_=>by cases cs<;>rfl
 |v::vs,[],h=>by simp at h
 |v::vs,c::cs,h=>by
  show v::re vs cs=_;rw[adD (by simpa using h)];rfl
theorem Ad:∀{o:Nat} {vs cs:List ab},o+vs.length≤cs.length→gi o vs cs=ft cs o vs
 |0,vs,cs,h=>by
  show re vs cs=_;rw[adD (by omega)];simp[ft]
 |n+1,vs,[],h=>by simp at h
 |n+1,vs,c::cs,h=>by
  show c::gi n vs cs=_;rw[Ad (by simp only[mb]at h;omega)]
  simp only[ft,ED,Bg]
  congr 2
  rw[show n+1+vs.length=(n+vs.length)+1 by omega,List.drop_succ_cons]
theorem KI:∀{n:Nat} {xs:List ab},vm n xs=true→xs.length=n
 |0,[],_=>rfl
 |0,_::_,h=>by cases h
 |n+1,[],h=>by cases h
 |n+1,_::xs,h=>by rw[mb,KI (n:=n) h]
theorem EL (v:ab):wI v=v.cells:=by cases v<;>rfl
theorem IM {n:Nat} {v:ab} (h:pR n v=true):v.cells.length=n∧v.cells.all ab.one=true:=by
 have one:∀{m:Nat},Nat.beq m 1=true→1=m:=fun h=>(oT h).symm;cases v with
 |agg cs=>
  have h:(bif vm n cs then cs.all ab.one else false)=true:=h
  cases e:vm n cs with
  |false=>rw[e]at h;cases h
  |true=>rw[e]at h;exact⟨KI e,h⟩
 |top=>cases h
 |tuple vs=>cases h
 |_=>exact⟨one h,rfl⟩
theorem Jb {sz:Nat}:∀{ys:List ab},nt sz ys=true→sT sz ys
 | [],_=>XG sz
 |y::ys,h=>by
  have h:(bif pR sz y then nt sz ys else false)=true:=h
  cases e:pR sz y with
  |false=>rw[e]at h;cases h
  |true=>
   rw[e]at h;intro z a';rcases cu.1 a' with rfl|a'
   ·exact IM e
   ·exact Jb (ys:=ys) h z a'
theorem GD:∀(xs:List ab) (n:Nat),vx xs n=xs[n]?
 | [],n=>by simp[vx]
 |x::xs,0=>rfl
 |x::xs,n+1=>by rw[nV];exact GD xs n
theorem I_ (v:ab):∀(n:Nat) (xs:List ab),BC v n xs=xs.set n v
 |0,[]=>rfl
 |n+1,[]=>rfl
 |0,x::xs=>rfl
 |n+1,x::xs=>by show x::BC v n xs=_;rw[I_ v n xs];rfl
theorem BN (xs:List ab):k7 xs=xs.flatMap ab.cells:=by
 induction xs with
 |nil=>rfl
 |cons x xs bm=>show wI x++k7 xs=_;rw[bm,EL];rfl
theorem Kh {l:List ab}:tF l=true↔l=[]:=by cases l<;>simp[tF]
theorem Dy {n b:Nat} (h:oC n b=true):n≤maxLen∧n*b≤140737488355328:=by
 unfold oC at h;cases e:Nat.ble n maxLen with
 |false=>rw[e]at h;cases h
 |true=>rw[e]at h;exact⟨s_ e,s_ h⟩
theorem E5:∀(a b:List UInt8),tk a b=(a==b)
 | [],[]=>rfl
 | [],_::_=>rfl
 |_::_,[]=>rfl
 |a::as,b::bs=>by
  show(bif Nat.beq a.toNat b.toNat then tk as bs else false)=_
  rw[gY,E5 as bs,List.cons_beq_cons];by_cases h:a=b
  ·subst h;simp
  ·have:¬a.toNat=b.toNat:=fun aF=>h (UInt8.toNat_inj.1 aF);rw[decide_eq_false this];have aa:(a==b)=false:=by simpa using h
   rw[aa];rfl
theorem WS (a b:ab):Bo a b=mM a b:=by
 unfold Bo mM;split<;>first|rfl|exact uM _ _|exact E5 _ _|skip
 all_goals (split<;>first|rfl|contradiction|skip)
 all_goals (rename_i U aa au;first|exact absurd rfl (U _ _ rfl)|exact absurd rfl (aa _ _ _ _ rfl)|exact absurd rfl (au _ _ rfl)|skip)
theorem N2:∀(a b:List ab),wJ a b=mN a b
 | [],[]=>rfl
 | [],_::_=>rfl
 |_::_,[]=>rfl
 |a::as,b::bs=>by
  show(bif Bo a b then wJ as bs else false)=(mM a b&&mN as bs)
  rw[WS,N2 as bs];cases mM a b<;>rfl
theorem RN (a b:ab):hx a b=kv a b:=by
 unfold hx kv;split
 ·exact N2 _ _
 ·split
  ·rename_i h;exact(h _ _ rfl rfl).elim
  ·exact WS _ _
theorem afH {a b:dH} (h:DF a b=true):a=b:=by
 cases a<;>cases b<;>first|rfl|cases h|skip
 simp only[DF,decide_eq_true_eq]at h;rw[h]
theorem afK:∀{a b:List dH},DG a b=true→a=b
 | [],[],_=>rfl
 | [],_::_,h=>by cases h
 |_::_,[],h=>by cases h
 |a::as,b::bs,h=>by
  unfold DG at h;cases e:DF a b with
  |false=>rw[e]at h;cases h
  |true=>rw[e]at h;rw[afH e,afK (a:=as) h]
theorem abQ {a b:cL} (h:Ku a b=true):a=b:=by
 cases a<;>cases b<;>first|cases h|skip
 ·exact congrArg _ (afH h)
 ·exact congrArg _ (afK h)
theorem acx (key:ab) (es:List (ab × ab)):ky key es=ox key es:=by
 induction es with
 |nil=>rfl
 |cons e r bm=>
  show(bif hx key e.1 then some e.2 else ky key r)=_
  rw[RN,bm];unfold ox;rw[List.find?_cons];cases kv key e.1<;>rfl
theorem aqQ (key:ab) (es:List (ab × ab)):qb key es=mdel key es:=by
 induction es with
 |nil=>rfl
 |cons e r bm=>
  show(bif hx key e.1 then r else e::qb key r)=_
  rw[RN,bm];unfold mdel;rw[List.eraseP_cons]
theorem aq6 (key v:ab) (es:List (ab × ab)):kV key v es=xD key v es:=by
 induction es with
 |nil=>rfl
 |cons e r bm=>
  show(bif hx key e.1 then(key,v)::r else e::kV key v r)=_
  rw[RN,bm];unfold xD;rw[List.findIdx?_cons];cases aq:kv key e.1 with
  |true=>rfl
  |false=>
   simp only[cond_false,lK,if_false];cases ax:List.findIdx? (fun e=>kv key e.1) r with
   |none=>rfl
   |some i=>rfl
theorem WH:∀{xs:List ab} {l:List UInt8},bytesOf xs=some l→xs=kq l
 | [],l,h=>by cases h;rfl
 |x::xs,l,h=>by
  have b0:NP (bytesOf xs) (byteOf x)=some l:=h;cases e:byteOf x with
  |none=>rw[e]at b0;cases b0
  |some c=>
   rw[e]at b0;cases aN:bytesOf xs with
   |none=>rw[aN]at b0;cases b0
   |some r=>
    rw[aN]at b0;cases b0;rw[WH aN];show _=ab.int .u8 c.toNat::kq r
    congr 1
    unfold byteOf at e;split at e
    ·rename_i n;rw[kK]at e;by_cases aK:n<256
     ·rw[decide_eq_true aK,cond_true]at e;cases e
      congr 1
      rw[UInt8.toNat_ofNat'];show Int.ofNat n=((n%256:Nat):Int);rw[yG aK];rfl
     ·rw[decide_eq_false aK]at e;cases e
    ·cases e
theorem arB (l:List UInt8):vy l=kq l:=by
 induction l with
 |nil=>rfl
 |cons c l bm=>show Lh c::vy l=_;rw[bm];rfl
theorem ZV {op:BinOp} {k:IntKind} {a b:Int} {v:ab} (h:xo op k a b=some v):iZ op k a b=some v:=by
 cases op<;>try exact h
 ·have:ZF k a b=some v:=h;rw[←this];show some (ab.int k (k.wrap (a+b)))=some (.int k (uf k (pH a b)));rw[DY,yt]
 ·have:ZM k a b=some v:=h;rw[←this];show some (ab.int k (k.wrap (a-b)))=some (.int k (uf k (ya a b)));rw[DY,DM]
 ·have h:afE a b k=some v:=h;cases a with
  |negSucc m=>cases b<;>exact h
  |ofNat m=>
  cases b with
  |negSucc n=>exact h
  |ofNat n=>
  rw[←h];have aj:0<k.bits:=by cases k<;>decide
  show(if(Int.ofNat n)<0 then none else some (ab.int k ((Int.ofNat m).fdiv (2^Nat.min (Int.ofNat n).toNat k.bits))))=some (.int k (.ofNat (Nat.div m (Nat.pow 2 (bif Nat.ble n k.bits then n else k.bits)))))
  rw[if_neg (by simp only[hU];omega),fT]
  have hm:(bif decide (n≤k.bits)then n else k.bits)=min n k.bits:=by
   by_cases aK:n≤k.bits
   ·rw[decide_eq_true aK,cond_true,IH aK]
   ·rw[decide_eq_false aK,cond_false,Nat.min_eq_right (by omega)]
  rw[hm]
  congr 2
  show(Int.ofNat m).fdiv (2^(min n k.bits):Int)=((m/2^(min n k.bits):Nat):Int);have bf:(2^(min n k.bits):Int)=((2^(min n k.bits):Nat):Int):=(uw 2 _).symm;rw[bf,OM _ (nW _)];rfl
 ·have:ZG k a b=some v:=h;rw[←this];show some (ab.bool (a==b))=some (.bool (mh a b));rw[uM]
 ·have:ZL k a b=some v:=h;rw[←this];show some (ab.bool (a !=b))=some (.bool (!mh a b));rw[uM];rfl
 ·have:ZK k a b=some v:=h;rw[←this];show some (ab.bool (decide (a<b)))=some (.bool (my a b));rw[tK]
 ·have:ZJ k a b=some v:=h;rw[←this];show some (ab.bool (decide (a≤b)))=some (.bool (!my b a));rw[tK]
  congr 2
  by_cases h:a≤b
  ·rw[decide_eq_true h,decide_eq_false (by omega)];rfl
  ·rw[decide_eq_false h,decide_eq_true (by omega)];rfl
 ·have:ZI k a b=some v:=h;rw[←this];show some (ab.bool (decide (a>b)))=some (.bool (my b a));rw[tK]
 ·have:ZH k a b=some v:=h;rw[←this];show some (ab.bool (decide (a≥b)))=some (.bool (!my a b));rw[tK]
  congr 2
  by_cases h:a≥b
  ·rw[decide_eq_true h,decide_eq_false (by omega)];rfl
  ·rw[decide_eq_false h,decide_eq_true (by omega)];rfl
theorem af7 {op:BinOp} {a b:List UInt8} {v:ab} (h:Hu op a b=some v):vR op a b=some v:=by
 cases op<;>try exact h
 ·have:afj a b=some v:=h;rw[←this];show some (ab.bool (a==b))=some (.bool (tk a b));rw[E5]
 ·have:afk a b=some v:=h;rw[←this];show some (ab.bool (!(a==b)))=some (.bool (!tk a b));rw[E5]
theorem abA (a b:IntKind):mw a b=decide (a=b):=by cases a<;>cases b<;>rfl
theorem atg (op:BinOp) (a b:IntKind):Ug op a b=sI op a b:=by cases op<;>first|rfl|exact abA a b
theorem alb (op:BinOp) (t:Option Bool):ih op t=XN op t:=by cases op<;>rfl
theorem Wm (op:BinOp) (k:IntKind) (a:Int) (y:ab):Is op k a y=Wl op k a y:=by
 cases y<;>try rfl
 rename_i ao b;show(bif Ug op k ao then xo op k a b else none)=(bif sI op k ao then xo op k a b else none)
 rw[atg]
theorem Wo (op:BinOp) (a:List UInt8) (y:ab):wD op a y=Wn op a y:=by cases y<;>rfl
theorem Wp (op:BinOp) (q:cG) (lit:Bool) (x y:ab):Et op q lit x y=nf op q lit x y:=by
 cases x<;>try rfl
 ·cases y<;>try rfl
  cases q<;>rfl
 ·cases y<;>try rfl
  cases q<;>cases lit<;>rfl
theorem Wk (op:BinOp) (q:cG) (lit:Bool) (x y:aJ):k6 op q lit x y=Nz op q lit x y:=by
 cases x<;>try rfl
 cases y<;>rfl
theorem acR (e:aJ):SQ e=acQ e:=by
 cases e with
 |val a=>cases a<;>rfl
 |_=>rfl
theorem acX (e:aJ):acV e=acW e:=by
 cases e with
 |val a=>cases a<;>rfl
 |_=>rfl
theorem Xg (k:IntKind) (e:aJ):Og k e=Xf k e:=by
 cases e with
 |val a=>cases a<;>rfl
 |_=>rfl
theorem Yd (n:Nat) (e:aJ):y1 n e=Yc n e:=by
 cases e with
 |val a=>cases a<;>rfl
 |_=>rfl
theorem XX (n:Nat) (e:aJ):Pl n e=XW n e:=by
 cases e with
 |val a=>cases a<;>rfl
 |_=>rfl
theorem X0 (o n:Nat) (agg:Bool) (e:aJ):Pn o n agg e=XZ o n agg e:=by
 cases e with
 |val a=>cases a<;>rfl
 |_=>rfl
theorem KH (e:aJ):R4 e=ab7 e:=by
 cases e with
 |val a=>cases a<;>rfl
 |_=>rfl
theorem aeg (a b:aG) (env:aP) (e:aJ):aee a b env e=aef a b env e:=by
 cases e with
 |val a=>cases a<;>rfl
 |_=>rfl
theorem Kd (sz n:Nat) (e:aJ):zC sz n e=Rw sz n e:=by
 cases e with
 |val a=>cases a<;>rfl
 |_=>rfl
theorem ZO (sz:Nat) (x e:aJ):Cl sz x e=ZN sz x e:=by
 cases e with
 |val a=>
  cases a<;>try rfl
  rename_i n;cases n<;>rfl
 |_=>rfl
theorem Sa (agg:Bool) (n o:Nat) (e:aJ):xt agg n o e=acb agg n o e:=by cases e<;>rfl
theorem KL (agg:Bool) (n:Nat) (env:aP) (V:aO) (e:aJ):xu agg n env V e=Gq agg n env V e:=by
 cases e with
 |val a=>cases a<;>rfl
 |_=>rfl
theorem aj9 (o:eA):WT o=WU o:=by cases o<;>rfl
theorem adt (n:Nat) (vs:List ab) (d:Option Nat) (k:bI) (env:aP) (V:aO) (e:aJ):Ti n vs d k env V e=Tj n vs d k env V e:=by
 cases e with
 |val a=>cases a<;>rfl
 |_=>rfl
theorem afX (sz:Nat) (V:aO) (e:aJ):Mn sz V e=afW sz V e:=by
 cases e with
 |val a=>cases a<;>rfl
 |_=>rfl
theorem VW (ys:List ab) (sz e bytes:Nat) (d:Option Nat) (k:bI) (env:aP) (V:aO) (x:aJ):Ih ys sz e bytes d k env V x=Ni ys sz e bytes d k env V x:=by
 cases x with
 |val a=>
  cases a<;>try rfl
  rename_i xs nl tok;cases tok with
  |some g=>rfl
  |none=>cases xs<;>cases nl<;>rfl
 |_=>rfl
theorem I8 (env:aP) (s:Nat) (e:aJ) (t:Nat):c7 (wV env s e) t=if s=t then e else c7 env t:=cg.o4 _ _ _ _ _
theorem akT (t:Nat):c7 .dL t=.val .top:=cg.PH _ _
theorem PF {f:aJ→aJ} (ax:f (.val .top)=.val .top):∀(p:iR) (t:aP),cg.jG (.val .top) p (vu f t)=f (cg.jG (.val .top) p t)
 |.z,.dL=>ax.symm
 |.z,.fr v l r=>rfl
 |.a p,.dL=>by
  have U:cg.jG (.val .top) (.a p) (vu f .dL)=cg.jG (.val .top) p (.dL:aP):=rfl;have aa:cg.jG (.val .top) (.a p) (.dL:aP)=cg.jG (.val .top) p (.dL:aP):=rfl;rw[U,aa,cg.y3,ax]
 |.b p,.dL=>by
  have U:cg.jG (.val .top) (.b p) (vu f .dL)=cg.jG (.val .top) p (.dL:aP):=rfl;have aa:cg.jG (.val .top) (.b p) (.dL:aP)=cg.jG (.val .top) p (.dL:aP):=rfl;rw[U,aa,cg.y3,ax]
 |.a p,.fr v l r=>PF ax p l
 |.b p,.fr v l r=>PF ax p r
theorem I9 {f:aJ→aJ} (ax:f (.val .top)=.val .top) (env:aP) (t:Nat):c7 (vu f env) t=f (c7 env t):=PF ax _ _
theorem JG (W:List Nat) (s:Nat):rY W s=W.contains s:=by
 induction W with
 |nil=>rfl
 |cons t W bm=>
  show(bif Nat.beq t s then true else rY W s)=_
  rw[List.contains_cons,bm,gY];by_cases h:t=s
  ·subst h;simp
  ·rw[decide_eq_false h];have:(s==t)=false:=by simpa using fun aF=>h aF.symm
   rw[this];rfl
theorem HE:∀(l:List (Nat × Nat)) (u:Nat),AL l u=oG l u
 | [],_=>rfl
 |(t,f)::r,u=>by
  show(bif Nat.beq t u then some f else AL r u)=(if t=u then some f else oG r u)
  rw[gY,HE r u];by_cases h:t=u
  ·rw[decide_eq_true h,cond_true,if_pos h]
  ·rw[decide_eq_false h,cond_false,if_neg h]
end Go.bO
end
section
namespace Go.bO
open Go.RowKit
def a8.fL (ag:a8) (b:Nat):Option (List ab) × Option (Nat × Nat × Nat) × Option nd:=(ag.obj b,ag.cF b,ag.mp b)
theorem Fh {ag:a8} {b:Nat}:ag.fresh b↔ag.fL b=(none,none,none):=by
 unfold a8.fresh a8.fL;constructor
 ·rintro⟨U,aa,au⟩;rw[U,aa,au]
 ·intro h;simp only[Prod.mk.injEq]at h;exact h
theorem ig {ag:a8} {b:Nat} {x:Option (List ab)} {y:Option (Nat × Nat × Nat)} {z:Option nd} (h:ag.fL b=(x,y,z)):ag.obj b=x∧ag.cF b=y∧ag.mp b=z:=by
 unfold a8.fL at h;simp only[Prod.mk.injEq]at h;exact h
def a8.v' (ag bp:a8) (b:Nat):Prop:=∀x,x≠b→bp.fL x=ag.fL x
theorem yB (ag:a8) (b:Nat) (cs:List ab):ag.v' (ag.setObj b cs) b:=fun x ad=>by
 have:(x==b)=false:=by simpa using ad
 simp[a8.fL,a8.setObj,this]
theorem ajR (ag:a8) (b:Nat) (r:Nat × Nat × Nat):ag.v' (ag.m_ b r) b:=fun x ad=>by
 have:(x==b)=false:=by simpa using ad
 simp[a8.fL,a8.m_,this]
theorem Ix (ag:a8) (b:Nat):ag.v' (ag.jF (some b)) b:=fun x ad=>by
 have:(x==b)=false:=by simpa using ad
 simp[a8.fL,a8.jF,this]
theorem nX (ag:a8) (b:Nat) (r:nd):ag.v' (ag.c5 b r) b:=fun x ad=>by
 have:(x==b)=false:=by simpa using ad
 simp[a8.fL,a8.c5,this]
theorem A9 (ag:a8) (b:Nat) (cs:List ab):(ag.setObj b cs).fL b=(some cs,ag.cF b,ag.mp b):=by simp[a8.fL,a8.setObj]
theorem ajF (ag:a8) (b:Nat) (r:Nat × Nat × Nat):(ag.m_ b r).fL b=(ag.obj b,some r,ag.mp b):=by simp[a8.fL,a8.m_]
theorem ajE (ag:a8) (b:Nat):(ag.jF (some b)).fL b=(ag.obj b,none,ag.mp b):=by simp[a8.fL,a8.jF]
theorem uB (ag:a8) (b:Nat) (r:nd):(ag.c5 b r).fL b=(ag.obj b,ag.cF b,some r):=by simp[a8.fL,a8.c5]
def gS (R:cV):List (ab × ab)→List (ab × ab)→Prop
 | [],ys=>ys=[]
 |e::r,ys=>∃v en,aY R e.2 v∧gS R r en∧ys=(e.1,v)::en
section
variable {R aL:cV}
theorem gS.mono (bz:R.dY aL):∀{es es':List (ab × ab)},gS R es es'→gS aL es es'
 | [],_,h=>h
 |_::_,_,⟨v,ys,U,aa,au⟩=>⟨v,ys,U.mono bz,aa.mono bz,au⟩
theorem gS.fw:∀{es a b:List (ab × ab)},gS R es a→gS R es b→a=b
 | [],_,_,h,k=>Eq.trans h (Eq.symm k)
 |e::r,_,_,⟨v,ys,U,aa,au⟩,⟨w,fm,az,ao,aX⟩=>by
  rw[au,aX,aY.fw e.2 U az,aa.fw ao]
theorem gS.length:∀{es es':List (ab × ab)},gS R es es'→es'.length=es.length
 | [],_,h=>by cases h;rfl
 |_::_,_,⟨v,ys,U,aa,au⟩=>by subst au;simp[aa.length]
theorem gS.keys:∀{es es':List (ab × ab)},gS R es es'→∀{a7:cL},(∀e∈es,a7.is e.1=true)→∀e∈es',a7.is e.1=true
 | [],_,h,a7,_,e,he=>by cases h;cases he
 |x::r,_,⟨v,ys,U,aa,au⟩,a7,aq,e,he=>by
  subst au;rcases cu.1 he with rfl|he
  ·exact aq x (cz ..)
  ·exact aa.keys (fun y aI=>aq y (cv _ aI)) e he
theorem gS.find (key:ab):∀{es es':List (ab × ab)},gS R es es'→(ky key es=none∧ky key es'=none)∨∃v jx,ky key es=some v∧ky key es'=some jx∧aY R v jx
 | [],_,h=>by cases h;exact .inl ⟨rfl,rfl⟩
 |x::r,_,⟨v,ys,U,aa,au⟩=>by
  subst au;show(((bif hx key x.1 then some x.2 else ky key r)=none∧(bif hx key x.1 then some v else ky key ys)=none)∨
   ∃u pA,(bif hx key x.1 then some x.2 else ky key r)=some u∧(bif hx key x.1 then some v else ky key ys)=some pA∧aY R u pA)
  cases hx key x.1 with
  |true=>exact .inr ⟨_,_,rfl,rfl,U⟩
  |false=>exact aa.find key
theorem gS.put (key:ab) {v jx:ab} (ar:aY R v jx):∀{es es':List (ab × ab)},gS R es es'→gS R (kV key v es) (kV key jx es')
 | [],_,h=>by cases h;exact⟨jx,[],ar,rfl,rfl⟩
 |x::r,_,⟨w,ys,U,aa,au⟩=>by
  subst au;show gS R (bif hx key x.1 then(key,v)::r else x::kV key v r) (bif hx key x.1 then(key,jx)::ys else(x.1,w)::kV key jx ys)
  cases hx key x.1 with
  |true=>exact⟨jx,ys,ar,aa,rfl⟩
  |false=>exact⟨w,_,U,aa.put key ar,rfl⟩
theorem gS.del (key:ab):∀{es es':List (ab × ab)},gS R es es'→gS R (qb key es) (qb key es')
 | [],_,h=>by cases h;exact rfl
 |x::r,_,⟨w,ys,U,aa,au⟩=>by
  subst au;show gS R (bif hx key x.1 then r else x::qb key r) (bif hx key x.1 then ys else(x.1,w)::qb key ys)
  cases hx key x.1 with
  |true=>exact aa
  |false=>exact⟨w,_,U,aa.del key,rfl⟩
theorem abJ {a7:cL} {key v:ab} (aq:a7.is key=true):∀{es:List (ab × ab)},(∀e∈es,a7.is e.1=true)→∀e∈kV key v es,a7.is e.1=true
 | [],_,e,he=>by
  have he:e∈[(key,v)]:=he;rw[iS]at he;subst he;exact aq
 |x::r,h,e,he=>by
  have he:e∈(bif hx key x.1 then(key,v)::r else x::kV key v r):=he
  cases aB:hx key x.1 with
  |true=>
   rw[aB,cond_true]at he;rcases cu.1 he with rfl|he
   ·exact aq
   ·exact h e (cv _ he)
  |false=>
   rw[aB,cond_false]at he;rcases cu.1 he with rfl|he
   ·exact h _ (cz ..)
   ·exact abJ aq (fun y aI=>h y (cv _ aI)) e he
theorem KV {key:ab}:∀{es:List (ab × ab)} {e:ab × ab},e∈qb key es→e∈es
 | [],e,he=>he
 |x::r,e,he=>by
  have he:e∈(bif hx key x.1 then r else x::qb key r):=he
  cases aB:hx key x.1 with
  |true=>rw[aB,cond_true]at he;exact cv _ he
  |false=>
   rw[aB,cond_false]at he;rcases cu.1 he with rfl|he
   ·exact cz ..
   ·exact cv _ (KV he)
theorem dH.Cs {s:dH} {a b:ab} (h:s.is a=true) (ar:aY R a b):b=a:=by
 cases s<;>cases a<;>simp only[dH.is,lK]at h<;>(simp only[aY]at ar;exact ar)
theorem L1:∀{ss:List dH} {as bs:List ab},gW ss as=true→bW R as bs→bs=as
 | [],[],bs,_,ar=>ar.js
 | [],_::_,_,h,_=>by cases h
 |_::_,[],_,h,_=>by cases h
 |s::ss,a::as,bs,h,ar=>by
  obtain⟨y,ys,U,aa,rfl⟩:=ar.cons_inv;have h:(s.is a&&gW ss as)=true:=h;simp only[dF]at h;rw[dH.Cs h.1 U,L1 h.2 aa]
theorem cL.Cs {a7:cL} {a b:ab} (h:a7.is a=true) (ar:aY R a b):b=a:=by
 cases a7 with
 |one s=>exact dH.Cs (s:=s) h ar
 |row ss=>
  cases a<;>first|cases h|skip
  simp only[aY]at ar;obtain⟨ds,U,rfl⟩:=ar;rw[L1 (ss:=ss) h U]
end
def wb (R:cV):Option (ab × ab)→Option (ab × ab)→Prop
 |none,c=>c=none
 |some e,c=>∃v,aY R e.2 v∧c=some (e.1,v)
theorem wb.mono {R aL:cV} (bz:R.dY aL) {c bF:Option (ab × ab)} (h:wb R c bF):wb aL c bF:=by
 cases c with
 |none=>exact h
 |some e=>obtain⟨v,U,aa⟩:=h;exact⟨v,U.mono bz,aa⟩
theorem wb.fw {R:cV} {c a b:Option (ab × ab)} (h:wb R c a) (k:wb R c b):a=b:=by
 cases c with
 |none=>exact Eq.trans h (Eq.symm k)
 |some e=>obtain⟨v,U,aa⟩:=h;obtain⟨w,az,ao⟩:=k;rw[aa,ao,aY.fw _ U az]
def pG (R:cV) (ag:a8) (x:nT):eA→Prop
 |.dead=>True
 |.obj cs=>∃ds,bW R cs ds∧ag.fL x.b=(some ds,none,none)
 |.row sz cs=>∃ds,bW R cs ds∧ag.fL x.b=(some (ds++x.rest),none,none)∧(ds++x.rest).length=x.m*sz
 |.cF n sz e=>ag.fL x.b=(none,some (n,sz,e),none)∧x.m=n
 |.map ko es=>∃es',gS R es es'∧ag.fL x.b=(none,none,some (.map es'))∧(∀a7,ko=some a7→∀e∈es,a7.is e.1=true)∧(ko=none→es=[])
 |.iter m ko es left cur=>∃y es' iK jV,R m=some y∧gS R es es'∧gS R left iK∧wb R cur jV∧ag.fL x.b=(none,none,some (.iter (some y.b) es' iK jV))∧(∀a7,ko=some a7→∀e∈es,a7.is e.1=true)∧(ko=none→es=[])
 |.eL=>ag.fL x.b=(none,none,some .eL)
 |.q5=>ag.fL x.b=(none,none,some (.iter none [] [] none))
theorem pG.iJ {R aL:cV} {ag bp:a8} {x:nT} {o:eA} (h:pG R ag x o) (bz:R.dY aL) (aj:bp.fL x.b=ag.fL x.b):pG aL bp x o:=by
 cases o with
 |dead=>trivial
 |obj cs=>obtain⟨ds,U,aa⟩:=h;exact⟨ds,U.mono bz,aj.trans aa⟩
 |row sz cs=>obtain⟨ds,U,aa,au⟩:=h;exact⟨ds,U.mono bz,aj.trans aa,au⟩
 |cF n sz e=>exact⟨aj.trans h.1,h.2⟩
 |map ko es=>obtain⟨ds,U,aa,au⟩:=h;exact⟨ds,U.mono bz,aj.trans aa,au⟩
 |iter m ko es left cur=>
  obtain⟨y,es',iK,jV,U,aa,au,ba,cb,du⟩:=h;exact⟨y,es',iK,jV,bz _ _ U,aa.mono bz,au.mono bz,ba.mono bz,aj.trans cb,du⟩
 |eL=>exact aj.trans h
 |q5=>exact aj.trans h
theorem pG.arx {R:cV} {ag:a8} {x:nT} {o:eA} (h:pG R ag x o) (aQ:o≠.dead):¬ag.fresh x.b:=by
 rw[Fh];intro ax;cases o with
 |dead=>exact aQ rfl
 |obj cs=>obtain⟨ds,U,aa⟩:=h;rw[ax]at aa;cases aa
 |row sz cs=>obtain⟨ds,U,aa,au⟩:=h;rw[ax]at aa;cases aa
 |cF n sz e=>have aa:=h.1;rw[ax]at aa;cases aa
 |map ko es=>obtain⟨ds,U,aa,au⟩:=h;rw[ax]at aa;cases aa
 |iter m ko es left cur=>obtain⟨y,es',iK,jV,U,aa,au,ba,cb,du⟩:=h;rw[ax]at cb;cases cb
 |eL=>have h:ag.fL x.b=_:=h;rw[ax]at h;cases h
 |q5=>have h:ag.fL x.b=_:=h;rw[ax]at h;cases h
theorem pG.same {R aL:cV} {ag bp:a8} {x:nT} {o:eA} (h:pG R ag x o) (bz:R.dY aL) (k:pG aL bp x o) (aQ:o≠.dead):bp.fL x.b=ag.fL x.b:=by
 cases o with
 |dead=>exact absurd rfl aQ
 |obj cs=>
  obtain⟨ds,U,aa⟩:=h;obtain⟨es,az,ao⟩:=k;rw[aa,ao,bW.fw cs (U.mono bz) az]
 |row sz cs=>
  obtain⟨ds,U,aa,_⟩:=h;obtain⟨es,az,ao,_⟩:=k;rw[aa,ao,bW.fw cs (U.mono bz) az]
 |cF n sz e=>rw[h.1,k.1]
 |map ko es=>
  obtain⟨ds,U,aa,_⟩:=h;obtain⟨es,az,ao,_⟩:=k;rw[aa,ao,(U.mono bz).fw az]
 |iter m ko es left cur=>
  obtain⟨y,es',iK,jV,U,aa,au,ba,cb,du⟩:=h;obtain⟨z,fs',av7,avG,az,ao,aX,bD,c8,e'⟩:=k;have a':=bz _ _ U;rw[az]at a';cases a';rw[cb,c8,(aa.mono bz).fw ao,(au.mono bz).fw aX,(ba.mono bz).fw bD]
 |eL=>exact Eq.trans (show bp.fL x.b=_ from k) (Eq.symm (show ag.fL x.b=_ from h))
 |q5=>exact Eq.trans (show bp.fL x.b=_ from k) (Eq.symm (show ag.fL x.b=_ from h))
structure cT (bo:a8) (R:cV) (V:aO) (ag:a8):Prop where
 BQ:V.g≤V.n
 wP:∀i x,R i=some x→i<V.n
 obj:∀i,V.at i≠.dead→∃x,R i=some x∧pG R ag x (V.at i)∧bo.fresh x.b
 inj:∀i j x y,V.at i≠.dead→V.at j≠.dead→R i=some x→R j=some y→x.b=y.b→i=j
 sub:bo.Sub ag
structure jR (V V':aO):Prop where
 g:V'.g=V.g
 n:V.n≤V'.n
 iJ:∀i,i<V.g→V'.at i=V.at i
theorem jR.refl (V:aO):jR V V:=⟨rfl,b1 _,fun _ _=>rfl⟩
theorem jR.trans {A B C:aO} (h:jR A B) (k:jR B C):jR A C:=⟨k.g.trans h.g,fp h.n k.n,fun i hi=>(k.iJ i (by rw[h.g];exact hi)).trans (h.iJ i hi)⟩
theorem fS (V:aO) (i:Nat) (o:eA) (j:Nat):(V.put i o).at j=if i=j then o else V.at j:=cg.o4 _ _ _ _ _
theorem kp (V:aO) (o:eA) (j:Nat):(V.new o).at j=if V.n=j then o else V.at j:=cg.o4 _ _ _ _ _
def cV.add (R:cV) (n:Nat) (x:nT):cV:=fun i=>if i=n then some x else R i
theorem cV.add_get (R:cV) (n:Nat) (x:nT):(R.add n x) n=some x:=if_pos rfl
theorem af' {bo ag bp:a8} {b:Nat} (h:bo.Sub ag) (ax:bo.fresh b) (aj:ag.v' bp b):bo.Sub bp:=by
 refine⟨fun x cs e=> ?_,fun x r e=> ?_,fun x m e=> ?_⟩
 ·have ad:x≠b:=by rintro rfl;rw[ax.1]at e;cases e
  have:=(ig (aj x ad)).1;rw[this];exact h.obj x cs e
 ·have ad:x≠b:=by rintro rfl;rw[ax.2.1]at e;cases e
  have:=(ig (aj x ad)).2.1;rw[this];exact h.cF x r e
 ·have ad:x≠b:=by rintro rfl;rw[ax.2.2]at e;cases e
  have:=(ig (aj x ad)).2.2;rw[this];exact h.mp x m e
section
variable {bo:a8} {R:cV} {V:aO} {ag bp:a8}
theorem cT.get (h:cT bo R V ag) {i:Nat} {o:eA} (he:V.at i=o) (aQ:o≠.dead):∃x,R i=some x∧pG R ag x o∧bo.fresh x.b:=by
 subst he;exact h.obj i aQ
theorem cT.put (h:cT bo R V ag) {i:Nat} {x:nT} {o:eA} (ad:R i=some x) (ak:V.at i≠.dead) (av:V.g≤i) (aj:ag.v' bp x.b) (ay:pG R bp x o):
  cT bo R (V.put i o) bp∧jR V (V.put i o):=by
 have YC:bo.fresh x.b:=by
  obtain⟨y,U,_,au⟩:=h.obj i ak;rw[ad]at U;cases U;exact au
 have live:∀j,(V.put i o).at j≠.dead→V.at j≠.dead:=by
  intro j aU;rw[fS]at aU;by_cases lj:i=j
  ·subst lj;exact ak
  ·rw[if_neg lj]at aU;exact aU
 refine⟨⟨h.BQ,h.wP,fun j aU=> ?_,fun j k y z aU aq aI a' e=>h.inj j k y z (live j aU) (live k aq) aI a' e,af' h.sub YC aj⟩,⟨rfl,b1 _,fun j aU=> ?_⟩⟩
 ·by_cases lj:i=j
  ·subst lj;refine⟨x,ad,?_,YC⟩;rw[fS,if_pos rfl];exact ay
  ·obtain⟨y,U,aa,au⟩:=h.obj j (live j aU);refine⟨y,U,?_,au⟩;rw[fS,if_neg lj];refine aa.iJ (.refl _) (aj y.b fun aoE=>lj (h.inj i j x y ak (live j aU) ad U aoE.symm))
 ·rw[fS,if_neg (by omega)]
theorem cT.new (h:cT bo R V ag) {x:nT} {o:eA} (aK:∀j y,V.at j≠.dead→R j=some y→y.b≠x.b) (a1:bo.fresh x.b) (aj:ag.v' bp x.b) (ay:pG (R.add V.n x) bp x o):
  cT bo (R.add V.n x) (V.new o) bp∧R.dY (R.add V.n x)∧jR V (V.new o):=by
 have bz:R.dY (R.add V.n x):=by
  intro i y aI;have:=h.wP i y aI;unfold cV.add;rw[if_neg (by omega)];exact aI
 have g':∀j,V.n≠j→∀y,(R.add V.n x) j=some y→R j=some y:=by
  intro j aU y aI;unfold cV.add at aI;rw[if_neg (fun aF=>aU aF.symm)]at aI;exact aI
 refine⟨⟨II h.BQ,fun i y aI=> ?_,fun j aU=> ?_,fun j k y z aU aq aI a' e=> ?_,af' h.sub a1 aj⟩,bz,⟨rfl,hA _,fun j aU=> ?_⟩⟩
 ·show i<V.n+1;by_cases hi:V.n=i
  ·omega
  ·have:=h.wP i y (g' i hi y aI);omega
 ·rw[kp]at aU⊢;by_cases hi:V.n=j
  ·subst hi;rw[if_pos rfl];exact⟨x,cV.add_get ..,ay,a1⟩
  ·rw[if_neg hi]at aU⊢;obtain⟨y,U,aa,au⟩:=h.obj j aU;exact⟨y,bz j y U,aa.iJ bz (aj y.b (aK j y aU U)),au⟩
 ·rw[kp]at aU aq;by_cases hi:V.n=j
  ·by_cases o_:V.n=k
   ·rw[←hi,←o_]
   ·rw[if_neg o_]at aq;subst hi;rw[cV.add_get]at aI;cases aI;exact absurd e.symm (aK k z aq (g' k o_ z a'))
  ·rw[if_neg hi]at aU;by_cases o_:V.n=k
   ·subst o_;rw[cV.add_get]at a';cases a';exact absurd e (aK j y aU (g' j hi y aI))
   ·rw[if_neg o_]at aq;exact h.inj j k y z aU aq (g' j hi y aI) (g' k o_ z a') e
 ·rw[kp,if_neg (by have:=h.BQ;omega)]
theorem cT.y2 (h:cT bo R V ag) {b:Nat} (ax:ag.fresh b):(∀j y,V.at j≠.dead→R j=some y→y.b≠b)∧bo.fresh b:=by
 refine⟨fun j y aU aI e=> ?_,h.sub.fresh ax⟩;obtain⟨z,U,aa,_⟩:=h.obj j aU;rw[aI]at U;cases U;exact aa.arx aU (e▸ax)
theorem cT.Xu (h:cT bo R V ag) {i:Nat} {x:nT} (ad:R i=some x) (ak:V.at i≠.dead):(∀j y,(V.put i .dead).at j≠.dead→R j=some y→y.b≠x.b)∧bo.fresh x.b:=by
 refine⟨fun j y aU aI e=> ?_,?_⟩
 ·rw[fS]at aU;by_cases lj:i=j
  ·rw[if_pos lj]at aU;exact aU rfl
  ·rw[if_neg lj]at aU;exact lj (h.inj i j x y ak aU ad aI e.symm)
 ·obtain⟨y,U,_,au⟩:=h.obj i ak;rw[ad]at U;cases U;exact au
end
def cq (R:cV) (env:aP) (aR:bt):Prop:=∀t,ef R (c7 env t) (aR t)
theorem cq.mono {R aL:cV} (bz:R.dY aL) {env:aP} {aR:bt} (h:cq R env aR):cq aL env aR:=fun t=>(h t).mono bz
theorem cq.put {R:cV} {env:aP} {aR:bt} (h:cq R env aR) (s:Nat) {x y:aJ} (ad:ef R x y):cq R (wV env s x) (fun t=>bif t==s then y else aR t):=by
 intro t;rw[I8];by_cases im:s=t
 ·subst im;simpa using ad
 ·have:(t==s)=false:=by simpa using fun aF=>im aF.symm
  rw[if_neg im];simp only[this,cond_false];exact h t
theorem cq.set {R:cV} {env:aP} {aR:bt} (h:cq R env aR) (d:Option Nat) {x y:aJ} (ad:ef R x y):cq R (dc d x env) (aR.set d y):=by
 cases d with
 |none=>exact h
 |some s=>exact h.put s ad
theorem cq.Mf {R:cV} {env:aP} {aR:bt} (h:cq R env aR) (s:Nat) {y:aJ} (ad:ef R (c7 env s) y):cq R env (aR.set (some s) y):=by
 intro t;show ef R (c7 env t) (bif t==s then y else aR t)
 by_cases im:t=s
 ·subst im;simpa using ad
 ·have:(t==s)=false:=by simpa using im
  simp only[this,cond_false];exact h t
def aG.plain:aG→Bool
 |.tmp _=>true
 |.const a=>a.plain
theorem dA {R:cV} {env:aP} {aR:bt} (h:cq R env aR):∀{x:aG},x.plain=true→ef R (bV x env) (a_ aR x)
 |.const a,ae=>⟨a,aY.g_ a ae,rfl⟩
 |.tmp t,_=>by
  have:=h t;show ef R (O8 t (c7 env t)) (match aR t with|.box _=>.b7 t 0|e=>e)
  cases e:c7 env t with
  |val a=>rw[e]at this;obtain⟨b,U,aa⟩:=this;rw[aa];exact⟨b,U,rfl⟩
  |box cs=>rw[e]at this;obtain⟨b,U,aa⟩:=this;rw[aa];exact rfl
  |b7 s o=>rw[e]at this;have aa:aR t=.b7 s o:=this;rw[aa];exact rfl
theorem ef.cJ {R:cV} {v:ab} {e:aJ} (h:ef R (.val v) e):∃a,aY R v a∧e=.val a:=h
theorem ef.q9 {R:cV} {s o:Nat} {e:aJ} (h:ef R (.b7 s o) e):e=.b7 s o:=h
theorem ef.Bb {R:cV} {v:List ab} {e:aJ} (h:ef R (.box v) e):∃a,bW R v a∧e=.box a:=h
theorem ef.dx {R:cV} {v a:ab} (h:aY R v a):ef R (.val v) (.val a):=⟨a,h,rfl⟩
theorem ef.plain {R:cV} {v:ab} (h:v.plain=true):ef R (.val v) (.val v):=⟨v,aY.g_ v h,rfl⟩
theorem aY.jb {R:cV} {xs:List ab} {nl:Bool} {tok:Option Nat} {a:ab} (h:aY R (.slice xs nl tok) a):
  ∃ys t,bW R xs ys∧a=.slice ys nl t∧(tok=none→t=none)∧∀g,tok=some g→∃x,R g=some x∧x.m=xs.length∧t=some x.b:=by
 cases tok with
 |none=>simp only[aY]at h;obtain⟨ys,U,rfl⟩:=h;exact⟨ys,none,U,rfl,fun _=>rfl,fun g av=>(by cases av)⟩
 |some g=>simp only[aY]at h;obtain⟨ys,x,U,aa,rfl⟩:=h;exact⟨ys,some x.b,U,rfl,fun aF=>(by cases aF),fun eH av=>(by cases av;exact⟨x,aa.1,aa.2,rfl⟩)⟩
theorem aY.Av {R:cV} {nl:Bool} {a:ab} (h:aY R (.slice [] nl none) a):a=.slice [] nl none:=by
 simp only[aY]at h;obtain⟨ys,U,rfl⟩:=h;rw[U.js]
section
variable {R:cV} {env:aP} {aR:bt}
theorem HF {o:Option ab} {e:aJ} (h:mG o=some e):∃a,o=some a∧e=.val a:=by
 cases o with
 |none=>cases h
 |some a=>cases h;exact⟨a,rfl,rfl⟩
theorem Pe {op:BinOp} {t:Option Bool} {v:ab} (h:ih op t=some v):∃b,t=some b∧((op=.eql∧v=.bool b)∨(op=.neq∧v=.bool (!b))):=by
 rw[alb]at h;unfold XN at h;split at h
 ·cases t with
  |none=>cases h
  |some b=>cases h;exact⟨b,rfl,.inl ⟨rfl,rfl⟩⟩
 ·cases t with
  |none=>cases h
  |some b=>cases h;exact⟨b,rfl,.inr ⟨rfl,rfl⟩⟩
 ·cases h
theorem aY.aen {v a:ab} (h:aY R v a) (ae:v.plain=true):a=v:=aY.fw v h (aY.g_ v ae)
theorem ajC {op:BinOp} {q:cG} {lit b:Bool} {x y v:ab} (h:yV q x y=some b) (eX:(op=.eql∧v=.bool b)∨(op=.neq∧v=.bool (!b))):rK op q lit (.val x) (.val y)=some v:=by
 have ad:∀k n k' gI,¬(x=.int k n∧y=.int k' gI):=by
  rintro k n k' gI ⟨rfl,rfl⟩;cases q<;>cases h
 have hs:∀s t,¬(x=.str s∧y=.str t):=by
  rintro k n ⟨rfl,rfl⟩;cases q<;>cases h
 have aK:¬(x=.dC∧y=.dC):=by
  rintro⟨rfl,rfl⟩;cases q<;>cases h
 unfold rK;split
 ·exact absurd ⟨by rename_i U _;injection U,by rename_i _ U;injection U⟩ (ad _ _ _ _)
 ·exact absurd ⟨by rename_i U _;injection U,by rename_i _ U;injection U⟩ (hs _ _)
 ·exact absurd ⟨by rename_i U _;injection U,by rename_i _ U;injection U⟩ aK
 ·rename_i _ _ _ c3 kE U aa;injection U with U;injection aa with aa;subst U;subst aa;rw[h];rcases eX with⟨rfl,rfl⟩|⟨rfl,rfl⟩<;>rfl
 ·rename_i U _;cases U
 ·rename_i aF _;exact absurd rfl (aF _ _ rfl)
theorem aoQ {c:Prop} [Decidable c] {a v:ab} (h:(if c then none else some a)=some v):v=a:=by
 by_cases af:c
 ·rw[if_pos af]at h;cases h
 ·rw[if_neg af]at h;cases h;rfl
theorem aoS {op:BinOp} {k:IntKind} {a b:Int} {v:ab} (h:iZ op k a b=some v):v.plain=true:=by
 cases op<;>simp only[iZ,F_]at h<;>first|(have ar:=aoQ h;subst ar;rfl)|(cases h;rfl)|(cases h;done)
theorem auw {op:BinOp} {a b:List UInt8} {v:ab} (h:vR op a b=some v):v.plain=true:=by
 cases op<;>simp only[vR]at h<;>first|(cases h;rfl)|cases h
theorem ajA {op:BinOp} {q:cG} {lit:Bool} {x y a b v:ab} (h:Et op q lit x y=some v) (ad:aY R x a) (aI:aY R y b):rK op q lit (.val a) (.val b)=some v∧v.plain=true:=by
 have o3:∀{t:Option Bool},ih op t=some v→(∀c,t=some c→yV q a b=some c)→rK op q lit (.val a) (.val b)=some v∧v.plain=true:=by
  intro t aw af;obtain⟨c,U,aa⟩:=Pe aw;refine⟨ajC (af c U) aa,?_⟩;rcases aa with⟨_,rfl⟩|⟨_,rfl⟩<;>rfl
 rw[Wp]at h;unfold nf at h;split at h
 ·rename_i k m;simp only[aY]at ad;subst ad;rw[Wm]at h;unfold Wl at h;split at h
  ·rename_i k' n;simp only[aY]at aI;subst aI;cases hs:sI op k k' with
   |false=>rw[hs]at h;cases h
   |true=>
    rw[hs,cond_true]at h;have h:=ZV h;refine⟨by simp only[rK];rw[if_pos hs];exact h,?_⟩
    exact aoS h
  ·cases h
 ·rename_i s;simp only[aY]at ad;subst ad;rw[Wo]at h;unfold Wn at h;split at h
  ·simp only[aY]at aI;subst aI;have h:=af7 h;refine⟨h,?_⟩;exact auw h
  ·cases h
 ·simp only[aY]at ad aI;subst ad;subst aI;cases lit with
  |false=>cases h
  |true=>
   rw[cond_true]at h;split at h
   ·obtain⟨c,U,aa⟩:=Pe h;cases U;rcases aa with⟨rfl,rfl⟩|⟨rfl,rfl⟩<;>exact⟨rfl,rfl⟩
   ·cases h
 ·split at h
  ·refine o3 h fun c af=> ?_;simp only[aY]at ad aI;subst ad;subst aI;exact af
  ·cases h
 ·split at h
  ·refine o3 h fun c af=> ?_;simp only[aY]at ad aI;subst ad;subst aI;exact af
  ·cases h
 ·split at h
  ·refine o3 h fun c af=> ?_;simp only[aY]at ad aI;obtain⟨z,_,rfl⟩:=aI;subst ad;exact af
  ·cases h
 ·split at h
  ·refine o3 h fun c af=> ?_;simp only[aY]at ad aI;obtain⟨z,_,rfl⟩:=aI;subst ad;exact af
  ·cases h
 ·split at h
  ·refine o3 h fun c af=> ?_;simp only[aY]at ad aI;obtain⟨z,_,rfl⟩:=ad;subst aI;exact af
  ·cases h
 ·split at h
  ·refine o3 h fun c af=> ?_;simp only[aY]at ad aI;obtain⟨z,_,rfl⟩:=ad;subst aI;exact af
  ·cases h
 ·split at h
  ·refine o3 h fun c af=> ?_;obtain⟨ys,t,U,rfl,_⟩:=ad.jb;rw[aI.Av];exact af
  ·cases h
 ·split at h
  ·refine o3 h fun c af=> ?_;rw[aI.Av];simp only[aY]at ad;obtain⟨z,_,rfl⟩:=ad;exact af
  ·cases h
 ·split at h
  ·refine o3 h fun c af=> ?_;simp only[aY]at ad aI;obtain⟨z,_,rfl⟩:=ad;subst aI;exact af
  ·cases h
 ·split at h
  ·refine o3 h fun c af=> ?_;simp only[aY]at ad aI;obtain⟨_,_,_,_,rfl⟩:=ad;subst aI;exact af
  ·cases h
 ·split at h
  ·refine o3 h fun c af=> ?_;simp only[aY]at ad aI;subst ad;subst aI;exact af
  ·cases h
 ·split at h
  ·refine o3 h fun c af=> ?_;simp only[aY]at ad aI;subst ad;subst aI;exact af
  ·cases h
 ·split at h
  ·refine o3 h fun c af=> ?_;simp only[aY]at ad aI;obtain⟨z,_,rfl⟩:=ad;subst aI;exact af
  ·cases h
 ·rename_i la gz;split at h
  ·rename_i ss;refine o3 h fun c af=> ?_;simp only[aY]at ad aI;obtain⟨ds,U,rfl⟩:=ad;obtain⟨es,az,rfl⟩:=aI;unfold Jo at af;cases ah:(gW ss la&&gW ss gz)with
   |false=>rw[ah]at af;cases af
   |true=>
    rw[ah]at af;simp only[dF]at ah;rw[L1 ah.1 U,L1 ah.2 az];simp only[cond_true]at af;show(if gW ss la=true∧gW ss gz=true then some (mN la gz)else none)=_
    rw[if_pos ah,←N2];exact af
  ·cases h
 ·rename_i i n k z;simp only[aY]at ad aI;subst aI;obtain⟨x,_,ay⟩:=ad;unfold aeI at h;split at h
  ·rename_i m;cases aj:(Nat.beq n 1&&Nat.beq m 0)with
   |false=>rw[aj]at h;cases h
   |true=>
    rw[aj,cond_true]at h;cases h;simp only[dF]at aj;have aK:n=1:=oT aj.1;have hm:m=0:=oT aj.2;subst aK;subst hm;obtain⟨_,l,ak,_,rfl⟩:=ay;have ae:0<l.length:=IJ.2 ak.1;refine⟨?_,rfl⟩;simp[rK,sI,iZ,F_,ae]
  ·cases h
 ·cases h
theorem ajv {op:BinOp} {q:cG} {lit:Bool} {x y a b e:aJ} (h:k6 op q lit x y=some e) (ad:ef R x a) (aI:ef R y b):∃v,rK op q lit a b=some v∧e=.val v∧v.plain=true:=by
 rw[Wk]at h;unfold Nz at h;split at h
 ·obtain⟨v,U,rfl⟩:=HF h;obtain⟨c3,az,rfl⟩:=ad.cJ;obtain⟨kE,ao,rfl⟩:=aI.cJ;obtain⟨au,ba⟩:=ajA U az ao;exact⟨v,au,rfl,ba⟩
 ·split at h
  ·obtain⟨v,U,rfl⟩:=HF h;rw[ad.q9];obtain⟨kE,ao,rfl⟩:=aI.cJ;simp only[aY]at ao;subst ao;obtain⟨c,au,ba⟩:=Pe U;cases au;rcases ba with⟨rfl,rfl⟩|⟨rfl,rfl⟩<;>exact⟨_,rfl,rfl,rfl⟩
  ·cases h
 ·cases h
theorem uN (aC:cq R env aR):∀{l:List aG} {as:List ab},kM l env=some as→(∀x∈l,x.plain=true)→∃bs,iQ (l.map (a_ aR))=some bs∧bW R as bs
 | [],as,h,_=>by cases h;exact⟨[],rfl,.nil⟩
 |x::l,as,h,ae=>by
  have h:Pj (kM l) env (bV x env)=some as:=h;have ad:=dA aC (ae x (cz ..));cases he:bV x env with
  |val a=>
   rw[he]at h ad;obtain⟨hC,U,rfl⟩:=Of h;obtain⟨bs,az,ao⟩:=uN aC U (fun y aI=>ae y (cv _ aI));obtain⟨gX,aa,au⟩:=ad.cJ;refine⟨gX::bs,?_,.cons aa ao⟩;rw[gM,au];show(match iQ (l.map (a_ aR))with|some as=>some (gX::as)|none=>none)=_
   rw[az]
  |box cs=>rw[he]at h;cases h
  |b7 s o=>rw[he]at h;cases h
end
end Go.bO
end
section
namespace Go.bO
open Go.RowKit
section
variable {R:cV} {env:aP} {aR:bt} {e:aJ}
theorem aY.atA {xs ys:List ab} {nl:Bool} {tok t:Option Nat} (h:bW R xs ys) (aK:tok=none→t=none) (hs:∀g,tok=some g→∃x,R g=some x∧x.m=xs.length∧t=some x.b):
  aY R (.slice xs nl tok) (.slice ys nl t):=by
 cases tok with
 |none=>rw[aK rfl];simp only[aY];exact⟨ys,h,rfl⟩
 |some g=>obtain⟨x,U,aa,au⟩:=hs g rfl;subst au;simp only[aY];exact⟨ys,x,h,⟨U,aa⟩,rfl⟩
theorem ad3 (aC:cq R env aR) {x:aG} (ae:x.plain=true) (h:G0 x env=some e):∃f,bX aR (.mv x)=some f∧ef R e f:=by
 cases h;exact⟨_,rfl,dA aC ae⟩
theorem ad5 (aC:cq R env aR) {x:aG} (ae:x.plain=true) (h:Di x env=some e):∃f,bX aR (.nilCheck x)=some f∧ef R e f:=by
 have ad:=dA aC ae;unfold Di at h;rw[acR]at h;unfold acQ at h;split at h
 ·rename_i bQ;rw[bQ]at ad;obtain⟨a,U,aa⟩:=ad.cJ;have w3:=U;simp only[aY]at U;obtain⟨y,_,rfl⟩:=U;cases h;exact⟨_,by simp only[bX,aa]<;>rfl,.dx w3⟩
 ·rename_i bQ;rw[bQ]at ad;obtain⟨a,U,aa⟩:=ad.cJ;have w3:=U;simp only[aY]at U;obtain⟨y,_,rfl⟩:=U;cases h;exact⟨_,by simp only[bX,aa]<;>rfl,.dx w3⟩
 ·rename_i bQ;rw[bQ]at ad;have aa:=ad.q9;cases h;exact⟨_,by simp only[bX,aa]<;>rfl,rfl⟩
 ·cases h
theorem adJ (aC:cq R env aR) {op:BinOp} {q:cG} {x y:aG} (ae:x.plain=true) (aB:y.plain=true) (h:GY op q x y env=some e):∃f,bX aR (.bin op q x y)=some f∧ef R e f:=by
 obtain⟨v,U,rfl,au⟩:=ajv h (dA aC ae) (dA aC aB);exact⟨.val v,by simp only[bX,U]<;>rfl,.plain au⟩
theorem ad6 (aC:cq R env aR) {x:aG} (ae:x.plain=true) (h:Dj x env=some e):∃f,bX aR (.not x)=some f∧ef R e f:=by
 have ad:=dA aC ae;unfold Dj at h;rw[acX]at h;unfold acW at h;split at h
 ·rename_i bQ;rw[bQ]at ad;obtain⟨a,U,aa⟩:=ad.cJ;simp only[aY]at U;subst U;cases h;exact⟨_,by simp only[bX,aa]<;>rfl,.plain rfl⟩
 ·cases h
theorem adL (aC:cq R env aR) {k:IntKind} {x:aG} (ae:x.plain=true) (h:C5 k x env=some e):∃f,bX aR (.rR k x)=some f∧ef R e f:=by
 have ad:=dA aC ae;unfold C5 at h;rw[Xg]at h;unfold Xf at h;split at h
 ·rename_i bQ;rw[bQ]at ad;obtain⟨a,U,aa⟩:=ad.cJ;simp only[aY]at U;subst U;cases h;exact⟨_,by simp only[bX,aa]<;>rfl,by rw[DY];exact .plain rfl⟩
 ·cases h
theorem ad8 (aC:cq R env aR) {x:aG} (ae:x.plain=true) (h:Dk x env=some e):∃f,bX aR (.same x)=some f∧ef R e f:=by
 have ad:=dA aC ae;unfold Dk afl at h;split at h
 ·rename_i bQ;rw[bQ]at ad;obtain⟨a,U,aa⟩:=ad.cJ;simp only[aY]at U;subst U;cases h;exact⟨_,by simp only[bX,aa]<;>rfl,.plain rfl⟩
 ·cases h
theorem adV (aC:cq R env aR) {t:Nat} {x:aG} (ae:x.plain=true) (h:C' t x env=some e):∃f,bX aR (.iface t x)=some f∧ef R e f:=by
 have ad:=dA aC ae;unfold C' ZR at h;split at h
 ·rename_i bQ;rw[bQ]at ad;obtain⟨a,U,aa⟩:=ad.cJ;cases h;exact⟨_,by simp only[bX,aa]<;>rfl,.dx (by simp only[aY];exact⟨a,U,rfl⟩)⟩
 ·cases h
theorem ad2 (aC:cq R env aR) {fn:Fn} {f c:List aG} (ax:∀x∈f,x.plain=true) (af:∀x∈c,x.plain=true) (h:Dg fn f c env=some e):∃g,bX aR (.tN fn f c)=some g∧ef R e g:=by
 unfold Dg Sy at h;split at h
 ·rename_i fs B2;unfold acC at h;split at h
  ·rename_i cs gd;cases h;obtain⟨fs',U,aa⟩:=uN aC B2 ax;obtain⟨cU,az,ao⟩:=uN aC gd af;exact⟨_,by simp only[bX,U,az]<;>rfl,.dx (by simp only[aY];exact⟨fs',cU,aa,ao,rfl⟩)⟩
  ·cases h
 ·cases h
theorem Ye {off:Nat} {x y:aJ} (ad:ef R x y) (h:y1 off x=some e):∃f,(match y with
   |.val (.ptr b o)=>some (.val (.ptr b (o+off)))
   |.val (.dK cs)=>some (.val (.dK (cs.drop off)))
   |.b7 s o=>some (.b7 s (o+off))
   |_=>none)=some f∧ef R e f:=by
 rw[Yd]at h;unfold Yc at h;split at h
 ·obtain⟨a,U,rfl⟩:=ad.cJ;simp only[aY]at U;obtain⟨z,a',rfl⟩:=U;cases h;exact⟨_,rfl,.dx (by simp only[aY];exact⟨z,a',rfl⟩)⟩
 ·obtain⟨a,U,rfl⟩:=ad.cJ;simp only[aY]at U;obtain⟨z,a',rfl⟩:=U;cases h;exact⟨_,rfl,.dx (by simp only[aY];exact⟨_,a'.drop _,rfl⟩)⟩
 ·rw[ad.q9];cases h;exact⟨_,rfl,rfl⟩
 ·cases h
theorem adR (aC:cq R env aR) {off:Nat} {x:aG} (ae:x.plain=true) (h:GZ off x env=some e):∃f,bX aR (.foff off x)=some f∧ef R e f:=by
 obtain⟨f,U,aa⟩:=Ye (dA aC ae) h;exact⟨f,by simp only[bX];exact U,aa⟩
theorem adH (aC:cq R env aR) {n sz:Nat} {x i:aG} (ae:x.plain=true) (aB:i.plain=true) (h:C3 n sz x i env=some e):∃f,bX aR (.aidx n sz x i)=some f∧ef R e f:=by
 have hi:=dA aC aB;unfold C3 VJ at h;split at h
 ·rename_i bQ;rw[bQ]at hi;obtain⟨a,U,aa⟩:=hi.cJ;simp only[aY]at U;subst U;unfold Nc at h;split at h
  ·rename_i j;rw[kK]at h;by_cases aU:j<n
   ·rw[decide_eq_true aU,cond_true]at h;obtain⟨f,az,ao⟩:=Ye (dA aC ae) h;refine⟨f,?_,ao⟩;simp only[bX,aa];rw[if_pos ⟨by simp only[hU];omega,by simp only[hU];omega⟩]
    exact az
   ·rw[decide_eq_false aU]at h;cases h
  ·cases h
 ·cases h
theorem adI (aC:cq R env aR) {n:Nat} {x:aG} (ae:x.plain=true) (h:LB n x env=some e):∃f,bX aR (.arr n x)=some f∧ef R e f:=by
 have ad:=dA aC ae;unfold LB V7 at h;split at h
 ·rename_i b o bQ;rw[bQ]at ad;obtain⟨a,U,aa⟩:=ad.cJ;simp only[aY]at U;obtain⟨z,a',rfl⟩:=U;cases af:(Nat.ble n maxLen&&Nat.blt 0 n)with
  |false=>rw[af]at h;cases h
  |true=>
   rw[af,cond_true]at h;cases h;simp only[dF,fT,decide_eq_true_eq]at af;refine⟨_,by simp only[bX,aa];rw[if_pos af.1],.dx ?_⟩
   simp only[aY];refine⟨z,a',?_⟩
   congr 1
   show n=oX z.m (2*n);unfold oX;rw[if_neg (by omega)];omega
 ·cases h
theorem ad4 (aC:cq R env aR) {x:aG} (ae:x.plain=true) (h:Dh x env=some e):∃f,bX aR (.neg x)=some f∧ef R e f:=by
 have ad:=dA aC ae;unfold Dh acJ at h;split at h
 ·rename_i bQ;rw[bQ]at ad;obtain⟨a,U,aa⟩:=ad.cJ;simp only[aY]at U;subst U;cases h;exact⟨_,by simp only[bX,aa]<;>rfl,by rw[DY];exact .plain rfl⟩
 ·cases h
theorem adG (aC:cq R env aR) {m n:Nat} {agg:Bool} {x i:aG} (ae:x.plain=true) (aB:i.plain=true) (h:LA m n agg x i env=some e):∃f,bX aR (.wm m n agg x i)=some f∧ef R e f:=by
 have ad:=dA aC ae;have hi:=dA aC aB;unfold LA VH at h;split at h
 ·rename_i cs bQ;rw[bQ]at ad;obtain⟨a,U,aa⟩:=ad.cJ;simp only[aY]at U;obtain⟨ds,aQ,rfl⟩:=U;unfold VI at h;split at h
  ·rename_i k j hQ;rw[hQ]at hi;obtain⟨b,au,ba⟩:=hi.cJ;simp only[aY]at au;subst au;cases aj:Nat.blt j m&&Nat.ble (Nat.add (Nat.mul j n) n) (j9 cs 0)with
   |false=>rw[aj]at h;cases h
   |true=>
    rw[aj]at h;simp only[dF]at aj;obtain⟨cp,b_⟩:=aj;rw[kK,decide_eq_true_iff]at cp;have b_:=s_ b_;rw[m3,fy,Nat.add_eq,Nat.mul_eq]at b_;cases h;have af:(0:Int)≤Int.ofNat j∧Int.ofNat j<(m:Int)∧(Int.ofNat j).toNat*n+n≤ds.length:=by
     refine⟨nW j,Int.ofNat_lt.2 cp,?_⟩;rw[aQ.length];exact b_
    exact⟨.val (gh agg ((ds.drop (j*n)).take n)),by simp only[bX,aa,ba];rw[if_pos af];rfl,.dx (aY.CK agg ((aQ.drop _).take n))⟩
  ·cases h
 ·cases h
theorem ad_ (aC:cq R env aR) {t:Nat} {x:aG} (ae:x.plain=true) (h:G1 t x env=some e):∃f,bX aR (.ua t x)=some f∧ef R e f:=by
 have ad:=dA aC ae;unfold G1 My at h;split at h
 ·rename_i u v bQ;rw[bQ]at ad;obtain⟨a,U,aa⟩:=ad.cJ;simp only[aY]at U;obtain⟨d,aQ,rfl⟩:=U;cases h;by_cases hu:u=t
  ·refine⟨_,by simp only[bX,aa,hu,if_true]<;>rfl,?_⟩
   rw[hu,gY];simp only[decide_true,cond_true];exact .dx (by simp only[aY];exact⟨_,.cons aQ (.cons (by simp only[aY]) .nil),rfl⟩)
  ·refine⟨_,by simp only[bX,aa,if_neg hu]<;>rfl,?_⟩
   rw[gY,decide_eq_false hu];exact .plain rfl
 ·rename_i bQ;rw[bQ]at ad;obtain⟨a,U,aa⟩:=ad.cJ;simp only[aY]at U;subst U;cases h;exact⟨_,by simp only[bX,aa]<;>rfl,.plain rfl⟩
 ·cases h
theorem adP (aC:cq R env aR) {i:Nat} {x:aG} (ae:x.plain=true) (h:C8 x i env=some e):∃f,bX aR (.extract x i)=some f∧ef R e f:=by
 have ad:=dA aC ae;unfold C8 at h;rw[XX]at h;unfold XW at h;split at h
 ·rename_i bQ;rw[bQ]at ad;obtain⟨a,U,aa⟩:=ad.cJ;simp only[aY]at U;obtain⟨ds,aQ,rfl⟩:=U;obtain⟨v,az,rfl⟩:=HF h;rw[GD]at az;obtain⟨w,ao,aX⟩:=aQ.get az;exact⟨.val w,by simp only[bX,aa,ao]<;>rfl,.dx aX⟩
 ·cases h
theorem adQ (aC:cq R env aR) {off n:Nat} {agg:Bool} {x:aG} (ae:x.plain=true) (h:C9 off n agg x env=some e):∃f,bX aR (.field off n agg x)=some f∧ef R e f:=by
 have ad:=dA aC ae;unfold C9 at h;rw[X0]at h;unfold XZ at h;split at h
 ·rename_i bQ;rw[bQ]at ad;obtain⟨a,U,aa⟩:=ad.cJ;simp only[aY]at U;obtain⟨ds,aQ,rfl⟩:=U;obtain⟨v,az,rfl⟩:=HF h;obtain⟨ao,rfl⟩:=Tu az;refine⟨_,by simp only[bX,aa];rw[if_pos (by rw[aQ.length];exact ao)],.dx (aY.CK agg ((aQ.drop off).take n))⟩
 ·cases h
theorem adY (aC:cq R env aR) {x:aG} (ae:x.plain=true) (h:Db x env=some e):∃f,bX aR (.len x)=some f∧ef R e f:=by
 have ad:=dA aC ae;unfold Db at h;rw[KH]at h;unfold ab7 at h;split at h
 ·rename_i bQ;rw[bQ]at ad;obtain⟨a,U,aa⟩:=ad.cJ;obtain⟨ys,t,az,rfl,_⟩:=U.jb;cases h;refine⟨_,by simp only[bX,aa]<;>rfl,?_⟩
  rw[m3,fy,az.length];exact .plain rfl
 ·rename_i bQ;rw[bQ]at ad;obtain⟨a,U,aa⟩:=ad.cJ;simp only[aY]at U;obtain⟨z,a',rfl⟩:=U;cases h;exact⟨_,by simp only[bX,aa]<;>rfl,.plain rfl⟩
 ·rename_i i n bQ;rw[bQ]at ad;obtain⟨a,U,aa⟩:=ad.cJ;have w3:=U;simp only[aY]at w3;obtain⟨z,a',ay⟩:=w3;unfold TS at h;cases aj:Nat.beq n 2 with
  |false=>rw[aj]at h;cases h
  |true=>
   rw[aj,cond_true]at h;cases h;have aK:n=2:=oT aj;subst aK;obtain⟨_,ah,l,ak,rfl⟩:=ay;refine⟨_,by simp only[bX,aa]<;>rfl,.dx ?_⟩
   simp only[aY,ng];exact⟨z,a',rfl,l,ak,ah,rfl⟩
 ·cases h
theorem adX (aC:cq R env aR) {x:aG} (ae:x.plain=true) (h:Dc x env=some e):∃f,bX aR (.tI x)=some f∧ef R e f:=by
 have ad:=dA aC ae;unfold Dc R6 at h;split at h
 ·rename_i bQ;rw[bQ]at ad;obtain⟨a,U,aa⟩:=ad.cJ;simp only[aY]at U;subst U;cases h;refine⟨_,by simp only[bX,aa]<;>rfl,?_⟩
  rw[Gl,fy];exact .plain rfl
 ·cases h
theorem ad1 (aC:cq R env aR) {x y:aG} (ae:x.plain=true) (aB:y.plain=true) (h:Df x y env=some e):∃f,bX aR (.min x y)=some f∧ef R e f:=by
 have ad:=dA aC ae;have aI:=dA aC aB;unfold Df K1 at h;split at h
 ·rename_i k a k' b zx zz;rw[zx]at ad;rw[zz]at aI;obtain⟨a,U,aa⟩:=ad.cJ;simp only[aY]at U;subst U;obtain⟨b,az,ao⟩:=aI.cJ;simp only[aY]at az;subst az;cases h;refine⟨_,by simp only[bX,aa,ao]<;>rfl,?_⟩
  rw[tK,OO];exact .plain rfl
 ·cases h
theorem ad0 (aC:cq R env aR) {x y:aG} (ae:x.plain=true) (aB:y.plain=true) (h:Dd x y env=some e):∃f,bX aR (.max x y)=some f∧ef R e f:=by
 have ad:=dA aC ae;have aI:=dA aC aB;unfold Dd xz at h;split at h
 ·rename_i k a k' b zx zz;rw[zx]at ad;rw[zz]at aI;obtain⟨a,U,aa⟩:=ad.cJ;simp only[aY]at U;subst U;obtain⟨b,az,ao⟩:=aI.cJ;simp only[aY]at az;subst az;cases h;refine⟨_,by simp only[bX,aa,ao]<;>rfl,?_⟩
  rw[tK,OO];exact .plain rfl
 ·cases h
theorem acq (a b:Int):KR a b=if b>a then b else a:=by
 unfold KR;rw[tK,OO]
theorem adZ (aC:cq R env aR) {x y z:aG} (ae:x.plain=true) (aB:y.plain=true) (a':z.plain=true) (h:De x y z env=some e):∃f,bX aR (.tM x y z)=some f∧ef R e f:=by
 have ad:=dA aC ae;have aI:=dA aC aB;have a':=dA aC a';unfold De KQ at h;split at h
 ·rename_i k a k' b avZ c zx zz Rr;rw[zx]at ad;rw[zz]at aI;rw[Rr]at a';obtain⟨a,U,aa⟩:=ad.cJ;simp only[aY]at U;subst U;obtain⟨b,az,ao⟩:=aI.cJ;simp only[aY]at az;subst az;obtain⟨c,ep,dV⟩:=a'.cJ;simp only[aY]at ep;subst ep;cases h;refine⟨_,by simp only[bX,aa,ao,dV]<;>rfl,?_⟩
  rw[acq,acq];exact .plain rfl
 ·cases h
theorem X2 (aC:cq R env aR):∀{br:List (Nat × Nat × aG)} {cs cU ds:List ab},uS cs br env=some ds→bW R cs cU→(∀p∈br,p.2.2.plain=true)→
  ∃jt wQ,pt (a_ aR) br=some jt∧tn cU jt=some wQ∧bW R ds wQ
 | [],cs,cU,ds,h,af,_=>by
  have h:some cs=some ds:=h;cases h;exact⟨[],cU,rfl,rfl,af⟩
 |(o,n,x)::r,cs,cU,ds,h,af,ae=>by
  have ad:=dA aC (ae _ (cz ..));unfold uS at h;split at h
  ·rename_i v bQ;rw[show bV (o,n,x).2.2 env=.val v from bQ]at ad
   obtain⟨a,U,aa⟩:=ad.cJ;cases aj:(pR n v&&mP (Nat.add o n) cs)with
   |false=>rw[aj]at h;cases h
   |true=>
    rw[aj,cond_true]at h;simp only[dF]at aj;obtain⟨bf,c2⟩:=IM aj.1;have fU:o+n≤cs.length:=y0 aj.2;rw[Ad (by rw[bf];exact fU)]at h
    obtain⟨jt,wQ,az,ao,aX⟩:=X2 aC h (af.ft o U.cells) (fun p aB=>ae p (cv _ aB));refine⟨(o,n,a)::jt,wQ,?_,?_,aX⟩
    ·unfold pt;rw[show a_ aR x=.val a from aa,az]
    ·unfold tn;rw[if_pos ⟨by rw[U.cells.length];exact bf,by rw[U.cells.s3];exact c2,by rw[af.length];exact fU⟩];exact ao
  ·cases h
theorem WD (aC:cq R env aR) {z:List ab} {br:List (Nat × Nat × aG)} (a':gV z=true) (ae:∀p∈br,p.2.2.plain=true) (h:Bc z br env=some e):∃f,bX aR (.build z br)=some f∧ef R e f:=by
 unfold Bc at h;obtain⟨a,U,rfl⟩:=HF h;cases ax:uS z br env with
 |none=>rw[ax]at U;cases U
 |some ds=>
  rw[ax]at U;cases U;obtain⟨jt,wQ,az,ao,aX⟩:=X2 aC ax (bW.g_ z a') ae;exact⟨_,by simp only[bX,az,ao]<;>rfl,.dx (by simp only[aY];exact⟨wQ,aX,rfl⟩)⟩
theorem Hq (aC:cq R env aR) {sz:Nat}:∀{br:List (Nat × aG)} {xs nR ys:List ab},k0 sz xs br env=some ys→bW R xs nR→(∀p∈br,p.2.plain=true)→
  ∃en,ql sz nR (a_ aR) br=some en∧bW R ys en∧ys.length=xs.length
 | [],xs,nR,ys,h,af,_=>by
  have h:some xs=some ys:=h;cases h;exact⟨nR,rfl,af,rfl⟩
 |(i,x)::r,xs,nR,ys,h,af,ae=>by
  have ad:=dA aC (ae _ (cz ..));unfold k0 at h;split at h
  ·rename_i v bQ;rw[show bV (i,x).2 env=.val v from bQ]at ad
   obtain⟨a,U,aa⟩:=ad.cJ;cases aj:(pR sz v&&mP (Nat.add i 1) xs)with
   |false=>rw[aj]at h;cases h
   |true=>
    rw[aj,cond_true]at h;simp only[dF]at aj;obtain⟨bf,c2⟩:=IM aj.1;have fU:i+1≤xs.length:=y0 aj.2;rw[I_]at h;obtain⟨en,az,ao,aX⟩:=Hq aC h (af.set i U) (fun p aB=>ae p (cv _ aB));refine⟨en,?_,ao,by rw[aX,OT]⟩
    unfold ql;rw[show a_ aR x=.val a from aa]
    simp only;rw[if_pos ⟨by rw[af.length];omega,by rw[U.cells.length];exact bf,by rw[U.cells.s3];exact c2⟩];exact az
  ·cases h
theorem MF {a b:Option Nat} {k:Nat→Nat→Option aJ} (h:HK a b k=some e):∃m n,a=some m∧b=some n∧k m n=some e:=by
 cases a with
 |none=>cases h
 |some m=>
  cases b with
  |none=>cases h
  |some n=>exact⟨m,n,rfl,rfl,h⟩
theorem pP (aC:cq R env aR) {d n:Nat}:∀{hi:Option aG},iB d env hi=some n→(∀x,hi=some x→x.plain=true)→∀{k:Nat→Prop},k n→fz aR d hi k
 |none,h,_,k,aq=>by
  have h:some d=some n:=h;cases h;exact aq
 |some x,h,ae,k,aq=>by
  have ad:=dA aC (ae x rfl);unfold iB at h;simp only at h;split at h
  ·rename_i bQ;rw[bQ]at ad;obtain⟨a,U,aa⟩:=ad.cJ;simp only[aY]at U;subst U;cases h;unfold fz;simp only[aa];exact⟨by simp only[hU];omega,aq⟩
  ·cases h
theorem UI {sz:Nat} {xs ys:List ab} (h:sO sz xs=true) (ar:bW R xs ys):∀x,ys[0]? =some x→x.cells.length=sz:=by
 intro x ad;cases xs with
 |nil=>rw[ar.js]at ad;cases ad
 |cons z fm=>
  obtain⟨y,en,U,_,rfl⟩:=ar.cons_inv;simp only[l5,bk]at ad;subst ad;rw[U.cells.length];exact KI h
def rC (P:Program) (o:a2) (aR:bt) (R:cV) (e:aJ):Prop:=∃f,ef R e f∧∀(d:Option Nat) (K:bt→a8→Prop) (ag:a8) (W:List Nat),K (aR.set d f) ag→bH P o d K aR ag∧f_ P W o d K aR ag
variable {P:Program}
theorem fN {o:a2} (ae:o.sq=true) (amh:∀W d K ag,f_ P W o d K aR ag=bH P o d K aR ag) (h:∃f,bX aR o=some f∧ef R e f):rC P o aR R e:=by
 obtain⟨f,U,aa⟩:=h;refine⟨f,aa,fun d K ag W aq=> ?_⟩;have:bH P o d K aR ag:=by
  rw[HO P o d K aR ag ae,U];exact aq
 exact⟨this,by rw[amh];exact this⟩
theorem ad7 (aC:cq R env aR) {c a b:aG} (af:c.plain=true) (aA:a.plain=true) (aj:b.plain=true) (h:Aa c a b env=some e):rC P (.pick c a b) aR R e:=by
 have ad:=dA aC af;unfold Aa at h;rw[aeg]at h;unfold aef at h;split at h
 ·rename_i t bQ;rw[bQ]at ad;obtain⟨v,U,aa⟩:=ad.cJ;simp only[aY]at U;subst U;cases h;refine⟨bif t then a_ aR a else a_ aR b,?_,fun d K ag W aq=> ?_⟩
  ·cases t
   ·exact dA aC aj
   ·exact dA aC aA
  ·have:bH P (.pick c a b) d K aR ag:=by
    simp only[bH,aa];cases t
    ·exact⟨fun h=>(by cases h),fun _=>aq⟩
    ·exact⟨fun _=>aq,fun h=>(by cases h)⟩
   exact⟨this,this⟩
 ·cases h
theorem aty {o:Option (List ab)} (h:Ut o=some e):∃xs,o=some xs∧e=.val (.slice xs false none):=by
 cases o with
 |none=>cases h
 |some xs=>cases h;exact⟨xs,rfl,rfl⟩
theorem asa (aC:cq R env aR) {own:Bool} {sz q n:Nat} {z:ab} {br:List (Nat × aG)} (a':z.plain=true) (ae:∀p∈br,p.2.plain=true) (h:Ts own sz n z br env=some e):rC P (.bslice own sz q n z br) aR R e:=by
 unfold Ts at h;cases own with
 |true=>cases h
 |false=>
  rw[cond_false]at h;obtain⟨xs,U,rfl⟩:=aty h;obtain⟨ys,az,ao,_⟩:=Hq aC U (bW.replicate n (aY.g_ z a')) ae;refine⟨.val (.slice ys false none),.dx (by simp only[aY];exact⟨ys,ao,rfl⟩),fun d K ag W aq=> ?_⟩
  have:bH P (.bslice false sz q n z br) d K aR ag:=by
   simp only[bH,az];simpa using aq
  exact⟨this,this⟩
theorem auu {o:Option (List UInt8)} (h:UD o=some e):∃xs,o=some xs∧e=.val (.str xs):=by
 cases o with
 |none=>cases h
 |some xs=>cases h;exact⟨xs,rfl,rfl⟩
theorem aek (l:List UInt8):gV (kq l)=true:=by
 induction l with
 |nil=>rfl
 |cons c l bm=>exact bm
theorem adK (aC:cq R env aR) {x:aG} (ae:x.plain=true) (h:C4 x env=some e):rC P (.bytesStr x) aR R e:=by
 have ad:=dA aC ae;unfold C4 NL at h;split at h
 ·rename_i xs nl tok bQ;rw[bQ]at ad;obtain⟨v,U,aa⟩:=ad.cJ;obtain⟨ys,t,az,rfl,_⟩:=U.jb;obtain⟨l,bd,rfl⟩:=auu h;have lr:=WH bd;subst lr;have lu:ys=kq l:=bW.fw _ az (bW.g_ _ (aek l));subst lu;refine⟨.val (.str l),.plain rfl,fun d K ag W aq=> ?_⟩;have:bH P (.bytesStr x) d K aR ag:=by
   simp only[bH,aa];exact⟨l,rfl,aq⟩
  exact⟨this,this⟩
 ·cases h
theorem ad9 (aC:cq R env aR) {q:Nat} {x:aG} (ae:x.plain=true) (h:Dl x env=some e):rC P (.strBytes q x) aR R e:=by
 have ad:=dA aC ae;unfold Dl UE at h;split at h
 ·rename_i l bQ;rw[bQ]at ad;obtain⟨v,U,aa⟩:=ad.cJ;simp only[aY]at U;subst U;rw[fT,Gl,fy]at h;by_cases ak:l.length≤maxLen
  ·rw[decide_eq_true ak,cond_true]at h;cases h;refine⟨.val (.slice (kq l) false none),?_,fun d K ag W aq=> ?_⟩
   ·rw[arB];exact .plain (aek l)
   ·have:bH P (.strBytes q x) d K aR ag:=by
     simp only[bH,aa];exact⟨ak,aq⟩
    exact⟨this,this⟩
  ·rw[decide_eq_false ak]at h;cases h
 ·cases h
theorem adO (aC:cq R env aR) {sz:Nat} {x:aG} {lo hi:Option aG} (ae:x.plain=true) (ht:∀x,lo=some x→x.plain=true) (j0:∀x,hi=some x→x.plain=true) (h:C6 sz x lo hi env=some e):rC P (.cut sz x lo hi) aR R e:=by
 have ad:=dA aC ae;unfold C6 nr at h;split at h
 ·rename_i xs nl tok bQ;rw[bQ]at ad;obtain⟨v,U,aa⟩:=ad.cJ;obtain⟨ys,t,az,rfl,ao,aX⟩:=U.jb;cases hs:sO sz xs with
  |false=>rw[hs]at h;cases h
  |true=>
   rw[hs,cond_true,m3,fy]at h;obtain⟨m,n,cp,b_,dh⟩:=MF h;unfold I0 at dh;cases aj:(Nat.ble m xs.length&&Nat.ble n m)with
   |false=>rw[aj]at dh;cases dh
   |true=>
    rw[aj,cond_true]at dh;cases dh;simp only[dF,fT,decide_eq_true_eq]at aj;have cl:=az.length;refine⟨.val (.slice ((ys.take m).drop n) nl (bif n==0&&m==ys.length then t else none)),.dx (aY.atA ((az.take m).drop n) ?_ ?_),fun d K ag W aq=> ?_⟩
    ·intro aK;by_cases af:n=0∧m=xs.length
     ·obtain⟨rfl,rfl⟩:=af;simp only[gY,decide_true,s8,cond_true]at aK;rw[ao aK];simp
     ·have:(n==0&&m==ys.length)=false:=by
       simp only[cl,OU,beq_eq_false_iff_ne,ne_eq];omega
      rw[this];rfl
    ·intro g av;by_cases af:n=0∧m=xs.length
     ·obtain⟨rfl,rfl⟩:=af;simp only[gY,decide_true,s8,cond_true]at av;obtain⟨z,bZ,cB,z3⟩:=aX g av;exact⟨z,bZ,by simp[cB],by simp[cl,z3]⟩
     ·have:(Nat.beq n 0&&Nat.beq m xs.length)=false:=by
       simp only[gY,OU,decide_eq_false_iff_not];omega
      rw[this]at av;cases av
    ·have Wc:iB ys.length env hi=some m:=by rw[cl];exact cp
     constructor
     ·simp only[bH,aa];exact⟨UI hs az,pP aC Wc j0 ⟨by rw[cl];exact aj.1,pP aC b_ ht ⟨aj.2,aq⟩⟩⟩
     ·simp only[f_,aa];exact⟨UI hs az,pP aC Wc j0 ⟨by rw[cl];exact aj.1,pP aC b_ ht ⟨aj.2,aq⟩⟩⟩
 ·rename_i b o n c bQ;rw[bQ]at ad;obtain⟨v,U,aa⟩:=ad.cJ;simp only[aY]at U;obtain⟨z,a',rfl⟩:=U;obtain⟨m,l,cp,b_,dh⟩:=MF h;unfold uH at dh;cases aj:(Nat.ble m n&&Nat.ble l m)with
  |false=>rw[aj]at dh;cases dh
  |true=>
   rw[aj,cond_true]at dh;simp only[dF,fT,decide_eq_true_eq]at aj;refine⟨.val (wO z.b o (oX z.m c) sz m l),?_,fun d K ag W aq=> ?_⟩
   ·unfold wO;rw[gY,gY,gY]at dh;by_cases aV:l=0
    ·rw[decide_eq_true aV,cond_true]at dh;cases dh;rw[if_pos aV];exact .dx (by simp only[aY];exact⟨z,a',rfl⟩)
    ·rw[decide_eq_false aV,cond_false]at dh;rw[if_neg aV];by_cases au:m=l
     ·rw[decide_eq_true au,cond_true]at dh;cases dh;rw[if_pos au];exact .plain rfl
     ·rw[decide_eq_false au,cond_false]at dh;rw[if_neg au];by_cases ba:c%2=1
      ·rw[show Nat.mod c 2=c%2 from rfl,decide_eq_true ba,cond_true]at dh;cases dh
       refine .dx ?_;simp only[aY];refine⟨z,a',?_⟩;show ab.ref z.b (o+l*sz) (m-l) (oX z.m c-l)=.ref z.b (o+l*sz) (m-l) (oX z.m (c+2*l))
       congr 1
       unfold oX;rw[if_pos ba,if_pos (by omega)];omega
      ·rw[show Nat.mod c 2=c%2 from rfl,decide_eq_false ba,cond_false]at dh;cases dh
       refine .dx ?_;simp only[aY];refine⟨z,a',?_⟩;show ab.ref z.b (o+l*sz) (m-l) (oX z.m c-l)=.ref z.b (o+l*sz) (m-l) (oX z.m (c-2*l))
       congr 1
       unfold oX;rw[if_neg ba,if_neg (by omega)];omega
   ·constructor
    ·simp only[bH,aa];exact pP aC cp j0 ⟨aj.1,pP aC b_ ht ⟨aj.2,aq⟩⟩
    ·simp only[f_,aa];exact pP aC cp j0 ⟨aj.1,pP aC b_ ht ⟨aj.2,aq⟩⟩
 ·cases h
theorem adM (aC:cq R env aR) {sz:Nat} {x:aG} {lo:Option aG} {hi mx:aG} (ae:x.plain=true) (ht:∀x,lo=some x→x.plain=true) (j0:hi.plain=true) (oi:mx.plain=true) (h:C7 sz x lo hi mx env=some e):rC P (.cut3 sz x lo hi mx) aR R e:=by
 have ad:=dA aC ae;unfold C7 E1 at h;split at h
 ·rename_i xs nl tok bQ;rw[bQ]at ad;obtain⟨v,U,aa⟩:=ad.cJ;obtain⟨ys,t,az,rfl,ao,aX⟩:=U.jb;cases hs:sO sz xs with
  |false=>rw[hs]at h;cases h
  |true=>
   rw[hs,cond_true,m3,fy]at h;unfold Xi at h;cases hm:iB 0 env (some mx)with
   |none=>rw[hm]at h;cases h
   |some q=>
    rw[hm]at h;obtain⟨m,n,cp,b_,dh⟩:=MF h;unfold IZ at dh;cases aj:(Nat.ble q xs.length&&(Nat.ble m q&&Nat.ble n m))with
    |false=>rw[aj]at dh;cases dh
    |true=>
     rw[aj,cond_true]at dh;cases dh;simp only[dF,fT,decide_eq_true_eq]at aj;refine⟨.val (.slice ((ys.take m).drop n) nl none),.dx (by simp only[aY];exact⟨_,(az.take m).drop n,rfl⟩),fun d K ag W aq=> ?_⟩
     have:bH P (.cut3 sz x lo hi mx) d K aR ag:=by
      simp only[bH,aa];exact⟨UI hs az,pP aC hm (fun x ad=>by cases ad;exact oi) ⟨by rw[az.length];exact aj.1,pP aC cp (fun x ad=>by cases ad;exact j0) ⟨aj.2.1,pP aC b_ ht ⟨aj.2.2,aq⟩⟩⟩⟩
     exact⟨this,this⟩
 ·cases h
theorem adN (aC:cq R env aR) {x:aG} {lo hi:Option aG} (ae:x.plain=true) (ht:∀x,lo=some x→x.plain=true) (j0:∀x,hi=some x→x.plain=true) (h:LC x lo hi env=some e):rC P (.cutStr x lo hi) aR R e:=by
 have ad:=dA aC ae;unfold LC Xk at h;split at h
 ·rename_i s bQ;rw[bQ]at ad;obtain⟨v,U,aa⟩:=ad.cJ;simp only[aY]at U;subst U;rw[Gl,fy]at h;obtain⟨m,n,cp,b_,dh⟩:=MF h;unfold Xl at dh;cases aj:(Nat.ble m s.length&&Nat.ble n m)with
  |false=>rw[aj]at dh;cases dh
  |true=>
   rw[aj,cond_true]at dh;cases dh;simp only[dF,fT,decide_eq_true_eq]at aj;refine⟨_,.plain rfl,fun d K ag W aq=> ?_⟩;have:bH P (.cutStr x lo hi) d K aR ag:=by
    simp only[bH,aa];exact pP aC cp j0 ⟨aj.1,pP aC b_ ht ⟨aj.2,aq⟩⟩
   exact⟨this,this⟩
 ·cases h
theorem adU (aC:cq R env aR) {sz:Nat} {x i:aG} (ae:x.plain=true) (aB:i.plain=true) (h:C_ sz x i env=some e):rC P (.iaddr sz x i) aR R e:=by
 have ad:=dA aC ae;have hi:=dA aC aB;unfold C_ at h;rw[ZO]at h;unfold ZN at h;split at h
 ·rename_i k n bQ;rw[bQ]at hi;obtain⟨v,U,aa⟩:=hi.cJ;simp only[aY]at U;subst U;have aK:(0:Int)≤Int.ofNat n:=by simp only[hU];omega
  rw[Kd]at h;unfold Rw at h;split at h
  ·rename_i xs nl tok hQ;rw[hQ]at ad;obtain⟨v,az,ao⟩:=ad.cJ;obtain⟨ys,t,bd,rfl,_⟩:=az.jb;cases ar:vx xs n with
   |none=>rw[ar]at h;cases h
   |some a=>
    rw[ar]at h;have h:Ax sz a=some e:=h;unfold Ax at h;cases ak:vm sz (wI a)with
    |false=>rw[ak]at h;cases h
    |true=>
     rw[ak,cond_true]at h;cases h;rw[EL]at ak⊢;rw[GD]at ar;obtain⟨w,hc,fJ⟩:=bd.get ar;refine⟨.val (.dK w.cells),.dx (by simp only[aY];exact⟨_,fJ.cells,rfl⟩),fun d K ag W aq=> ?_⟩
     have:bH P (.iaddr sz x i) d K aR ag:=by
      simp only[bH,aa,ao];exact⟨aK,w,hc,by rw[fJ.cells.length];exact KI ak,aq⟩
     exact⟨this,this⟩
  ·rename_i b o m c hQ;rw[hQ]at ad;obtain⟨v,az,ao⟩:=ad.cJ;simp only[aY]at az;obtain⟨z,a',rfl⟩:=az;rw[kK]at h;by_cases hm:n<m
   ·rw[decide_eq_true hm,cond_true]at h;cases h;refine⟨.val (.ptr z.b (o+n*sz)),.dx (by simp only[aY];exact⟨z,a',rfl⟩),fun d K ag W aq=> ?_⟩
    have:bH P (.iaddr sz x i) d K aR ag:=by
     simp only[bH,aa,ao];exact⟨aK,by simp only[hU];omega,aq⟩
    exact⟨this,this⟩
   ·rw[decide_eq_false hm]at h;cases h
  ·cases h
 ·cases h
theorem adW (aC:cq R env aR) {x i:aG} (ae:x.plain=true) (aB:i.plain=true) (h:Da x i env=some e):rC P (.istr x i) aR R e:=by
 have ad:=dA aC ae;have hi:=dA aC aB;unfold Da RI at h;split at h
 ·rename_i k n bQ;rw[bQ]at hi;obtain⟨v,U,aa⟩:=hi.cJ;simp only[aY]at U;subst U;have aK:(0:Int)≤Int.ofNat n:=by simp only[hU];omega
  split at h
  ·rename_i s hQ;rw[hQ]at ad;obtain⟨v,az,ao⟩:=ad.cJ;simp only[aY]at az;subst az;unfold Kn at h;split at h
   ·rename_i c af;cases h;refine⟨.val (Lh c),.plain rfl,fun d K ag W aq=> ?_⟩;have:bH P (.istr x i) d K aR ag:=by
     simp only[bH,aa,ao];exact⟨aK,c,af,aq⟩
    exact⟨this,this⟩
   ·cases h
  ·cases h
 ·cases h
end
end Go.bO
end
