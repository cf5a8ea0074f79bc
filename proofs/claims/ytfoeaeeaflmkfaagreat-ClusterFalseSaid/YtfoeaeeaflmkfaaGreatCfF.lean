/- What is told by hand: the head; a range over a store that has nothing. -/
import Derived.Test.YtfoeaeeaflmkfaaGreatCfM
import Derived.Test.YtfoeaeeaflmkfaaGreatCfR
import Derived.Test.YtfoeaeeaflmkfaaGreatCfC
set_option linter.unusedSectionVars false
set_option linter.unusedVariables false
set_option linter.unusedSimpArgs false
namespace Go.Proofs.RepT
open Go Go.AL Go.AL.SX Go.Proofs Go.RowKit
set_option maxRecDepth 1000000
theorem mixed:Tryz.prog.follows .mixedOrders=true:=by kernel_rfl
theorem tOk_set {P:Program} {T:FT} (h:TOk P T) {f:Nat} {e:FE} (he:FOk P f e):TOk P (Tr.set .none T f e):=by
 intro g
 rw[Tr.get_set]
 by_cases hfg:f=g
 ·subst hfg;rw[if_pos rfl];exact he
 ·rw[if_neg hfg];exact h g
noncomputable def headE:Callee':=fun l V=>match l with
 | []=>.got (.bool true) V
 |_=>.fail
theorem headE_ok:CallOk Tryz.prog 4 headE:=by
 intro xs V a V' h
 unfold headE at h
 split at h
 case h_2=>cases h
 cases h
 have hc:=callN_sound mixed tabOk 60 4
 cases hx:callN tab 60 4 [] ⟨0,0,.lf⟩with
 |fail=>have ht:=head_true;rw[show callN tab (nat_lit 60) (nat_lit 4) [] ⟨nat_lit 0,nat_lit 0,.lf⟩=.fail from hx]at ht;cases ht
 |got b W=>
  have ht:=head_true
  rw[show callN tab (nat_lit 60) (nat_lit 4) [] ⟨nat_lit 0,nat_lit 0,.lf⟩=.got b W from hx]at ht
  have hb:b=.bool true:=by
   unfold isTrue at ht
   split at ht
   ·rename_i heq;cases heq;rfl
   ·cases ht
  subst hb
  refine⟨(hc _ _ _ _ hx).1,fun R ρ σ bs hR hv=> ?_⟩
  rw[hv.nil_inv]
  refine(hc.plain hx .nil rfl σ).mono ?_
  rintro c τ ⟨rfl,rfl⟩
  exact⟨ρ,.refl _,.refl _,hR,VR.of_plain _ rfl⟩
theorem models_below {I:Sealed} {σ:Store} {w w':Go.World} (m:Models I σ w) (h:RowKit.Below w.heap.size w w'):Models I σ w'∧Evo I σ w I σ w':=by
 have heq:∀{b:Nat} {o:Obj},w.heap[b]? =some o→w'.heap[b]? =some o:=fun {b o} hb=>(h.block b (lt_of_heap hb)).trans hb
 refine⟨⟨fun b o v hc=> ?_,fun b n hc=>Nat.lt_of_lt_of_le (m.cap b n hc) h.size,fun b xs ho=> ?_,fun b n sz e ho=> ?_,fun b mo hm=> ?_⟩,⟨.refl I,h.size,h.os,h.tape,h.output,fun b hb hf=>⟨h.block b hb,hf,fun _=>rfl,rfl⟩⟩⟩
 ·obtain⟨cs,T,fz,h1,h2⟩:=m.cell b o v hc
  exact⟨cs,T,fz,heq h1,h2⟩
 ·obtain⟨cs,T,h1,h2⟩:=m.obj b xs ho
  exact⟨cs,T,heq h1,h2⟩
 ·obtain⟨h1,cs,cap,h2,h3⟩:=m.opn b n sz e ho
  exact⟨h1,cs,cap,heq h2,h3⟩
 ·obtain⟨h1,h2,h3,h4⟩:=m.mp b mo hm
  refine⟨h1,h2,fun cs T fz hh=>h3 cs T fz ?_,h4.keep (.refl I) h.size fun x o hx _=>heq hx⟩
  rw[←h.block b h4.lt];exact hh
noncomputable def rangeE1 (V:VS):VObj→FR
 |.obj [.slice [] true none]=>.got (.slice [] true none) V
 |_=>.fail
noncomputable def rangeE:Callee':=fun l V=>match l with
 | [.ptr i 0,.str _,.str _]=>rangeE1 V (V.at i)
 |_=>.fail
theorem rep_str {I:Sealed} {u:Value} {l:List UInt8} (h:RepC I u (.str l)):∃s,u=.string s:=by cases h;exact⟨_,rfl⟩
theorem rangeE_ok:CallOk Tryz.prog 62 rangeE:=by
 intro xs V a V' h
 unfold rangeE at h
 split at h
 case h_2=>cases h
 rename_i i t1 t2
 unfold rangeE1 at h
 split at h
 case h_2=>cases h
 rename_i hat
 cases h
 refine⟨⟨Tryz.f62,Tryz.func62,by kernel_rfl⟩,fun R ρ σ bs hR hv=> ?_⟩
 obtain⟨b1,bs1,v1,v2,rfl⟩:=hv.cons_inv
 obtain⟨b2,bs2,v3,v4,rfl⟩:=v2.cons_inv
 obtain⟨b3,bs3,v5,v6,rfl⟩:=v4.cons_inv
 have:=v6.nil_inv
 subst this
 simp only[VR]at v1 v3 v5
 obtain⟨z,hz,rfl⟩:=v1
 subst v3;subst v5
 obtain⟨z',hz',⟨ds,d1,d2⟩,_⟩:=hR.get hat (by intro hh;cases hh)
 rw[hz]at hz';cases hz'
 obtain⟨dm,ds',d3,d4,rfl⟩:=d1.cons_inv
 have:=d4.nil_inv
 subst this
 have:=d3.slice_nil
 subst this
 intro I w vs m hs hr
 obtain⟨u0,u1,u2,hvs⟩:∃u0 u1 u2,vs= #[u0,u1,u2]:=by
  have hs:vs.size=3:=hs
  obtain⟨l⟩:=vs
  match l,hs with
  | [u0,u1,u2],_=>exact⟨u0,u1,u2,rfl⟩
 subst hvs
 have h0:RepC I u0 (.ptr z.b 0):=hr 0
 have h1:RepC I u1 (.str t1):=hr 1
 have h2:RepC I u2 (.str t2):=hr 2
 have e0:u0=.pointer (some ⟨z.b,0,none⟩):=by cases h0;rfl
 obtain⟨s1,rfl⟩:=rep_str h1
 obtain⟨s2,rfl⟩:=rep_str h2
 subst e0
 obtain⟨cs,T,k1,k2,k3,_⟩:=m.obj z.b _ (blk_inv d2).1
 have hcs:cs= #[.slice none 0 0]:=by
  have hs1:cs.size=1:=k2
  obtain⟨l⟩:=cs
  match l,hs1 with
  | [x],_=>
   have hx:RepC I x (.slice [] true none):=k3 0
   cases hx
   rfl
 subst hcs
 refine((callsIn_wide (n:=6)).1 (range_in w z.b s1 s2 T _ k1)).mono ?_
 rintro e w' ⟨rfl,hB⟩
 obtain⟨g1,g2⟩:=models_below m hB
 exact⟨_,.slice [] true none,I,σ,rfl,.nilS,g1,g2,ρ,.refl _,.refl _,hR,VR.of_plain _ rfl⟩
noncomputable def FTb:FT:=Tr.set .none (Tr.set .none tab (nat_lit 62) (.told rangeE)) (nat_lit 4) (.told headE)
theorem FTbOk:TOk Tryz.prog FTb:=tOk_set (f:=4) (e:=.told headE) (tOk_set (f:=62) (e:=.told rangeE) tabOk rangeE_ok) headE_ok
theorem con_quiet {T:Tab} [TabOk T] {call:Callee'} {con:Con} (h:∀V G xs,Entry T con V G xs→∃r t,call xs V=.got r V∧con.outs=[([t],[],[])]∧ownT t=false∧HasTy T.D G t r):ConSem T call con:=by
 intro V G xs hE
 obtain⟨r,t,h1,h2,h3,h4⟩:=h V G xs hE
 refine⟨[r],V,G,_,h1,by rw[h2];exact List.mem_singleton.2 rfl,hE.wd,rfl,fun j t' a hj ha=> ?_,?_,fun l hl=>(by cases hl),fun q hq=>(by cases hq)⟩
 ·cases j with
  |zero=>
   cases hj;cases ha
   refine⟨by rw[readT_of h3];exact h4,fun t' sz e lo hi he=> ?_⟩
   rw[he]at h3;cases h3
  |succ j=>cases hj
 ·rw[gtoks_of (fun t' ht=>by rw[List.mem_singleton.1 ht];exact h3)];exact .nil
instance:TabOk TB:=inferInstanceAs (TabOk (mkTab _ _ _))
theorem con4 (k:Nat) (hk:1≤k):ConSem TB (callN FTb k 4) ⟨[],[],[([.con (.bool true)],[],[])],[],[],[],[]⟩:=by
 obtain⟨k,rfl⟩:∃j,k=j+1:=⟨k-1,by omega⟩
 show ConSem TB (callF (callN FTb k) (Tr.get .none FTb 4)) _
 rw[show Tr.get .none FTb 4=.told headE by kernel_rfl]
 refine con_quiet fun V G xs hE=>⟨.bool true,.con (.bool true),?_,rfl,rfl,.con _⟩
 have hl:=hE.len
 match xs,hl with
 | [],_=>rfl
theorem con62 (k:Nat) (hk:1≤k):ConSem TB (callN FTb k 62) ⟨[(.ptr 189 false),(.str maxLen),(.str maxLen)],[],[([.con (.slice [] true none)],[],[])],[],[],[],[]⟩:=by
 obtain⟨k,rfl⟩:∃j,k=j+1:=⟨k-1,by omega⟩
 show ConSem TB (callF (callN FTb k) (Tr.get .none FTb 62)) _
 rw[show Tr.get .none FTb 62=.told rangeE by kernel_rfl]
 refine con_quiet fun V G xs hE=>⟨.slice [] true none,.con (.slice [] true none),?_,rfl,rfl,.con _⟩
 have hl:=hE.len
 match xs,hl with
 | [x,y,z],_=>
  have g0:=(hE.gives 0 _ x rfl rfl).1
  have g1:=(hE.gives 1 _ y rfl rfl).1
  have g2:=(hE.gives 2 _ z rfl rfl).1
  cases g0 with
  |ptr c nl i hi=>
   cases g1 with
   |str s1=>
    cases g2 with
    |str s2=>
     obtain⟨cs,h1,h2,h3⟩:ObjOk TB G V (fun _ _=>False) i (.obj [.con (.slice [] true none)]):=(hE.wd.wf i 189 hi).2
     match cs,h2 with
     | [u],_=>
      have hu:=(h3 0 _ u rfl rfl).1
      cases hu
      show rangeE1 V (V.at i)=_
      rw[h1];rfl
end Go.Proofs.RepT
