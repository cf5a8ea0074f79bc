/- The law says true, whatever its argument. -/
import Derived.Test.YtfoeaeeaflmkfaaGreatCfG
import Derived.Test.YtfoeaeeaflmkfaaGreatCfE0
import Derived.Test.YtfoeaeeaflmkfaaGreatCfE1
import Derived.Test.YtfoeaeeaflmkfaaGreatCfE2
import Derived.Test.YtfoeaeeaflmkfaaGreatCfE3
import Derived.Test.YtfoeaeeaflmkfaaGreatCfE4
import Derived.Test.YtfoeaeeaflmkfaaGreatCfE5
import Derived.Test.YtfoeaeeaflmkfaaGreatCfE6
import Derived.Test.YtfoeaeeaflmkfaaGreatAL12
set_option linter.unusedSectionVars false
set_option linter.unusedVariables false
set_option linter.unusedSimpArgs false
namespace Go.Proofs.RepT
open Go Go.AL Go.AL.SX Go.Proofs Go.RowKit
set_option maxRecDepth 1000000
def noD:Nat→Ty:=TB.D
theorem full_of {n:Int} (h:(Lit.int .i64 n).wf=true):HasTy TB.D G00 (full .i64) (.int .i64 n)∧kMin .i64≤n∧n≤kMax .i64:=by
 obtain⟨h1,h2⟩:=wf_range h
 exact⟨.int _ _ _ _ h1 h2,h1,h2⟩
theorem cells3:Tryz.prog.cellsOf 3=1:=by kernel_rfl
theorem cells9:Tryz.prog.cellsOf 9=1:=by kernel_rfl
theorem cells2:Tryz.prog.cellsOf 2=1:=by kernel_rfl
theorem cells22:Tryz.prog.cellsOf 22=1:=by kernel_rfl
theorem cells23:Tryz.prog.cellsOf 23=1:=by kernel_rfl
theorem cells25:Tryz.prog.cellsOf 25=4:=by kernel_rfl
theorem cells91:Tryz.prog.cellsOf 91=3:=by kernel_rfl
theorem row3:isRow Tryz.prog 3=false:=by unfold isRow;rw[Tryz.underlying3]
theorem row25:isRow Tryz.prog 25=true:=by unfold isRow;rw[Tryz.underlying25]
theorem row91:isRow Tryz.prog 91=true:=by unfold isRow;rw[Tryz.underlying91]
theorem piece_ty {n:Nat} {cs:List AVal} (h:Shp Tryz.prog n 91 cs):HasTy TB.D G00 pcT (mkv true cs)∧(mkv true cs).plain=true:=by
 obtain⟨h1,m,rfl,h2⟩:=h.struct Tryz.underlying91
 rw[cells91]at h1
 match cs,h1 with
 | [a,b,c],_=>
  have f0:=h2 _ (List.mem_cons_self ..)
  have f1:=h2 _ (List.mem_cons_of_mem _ (List.mem_cons_self ..))
  have f2:=h2 _ (List.mem_cons_of_mem _ (List.mem_cons_of_mem _ (List.mem_cons_self ..)))
  simp only[cells3,cells9,cells2]at f0 f1 f2
  obtain⟨s,e0,hs⟩:=Shp.str («as»:=[a]) f0 Tryz.underlying9
  obtain⟨x,e1,hx⟩:=Shp.int («as»:=[b]) f1 Tryz.underlying3
  obtain⟨y,e2,hy⟩:=Shp.int («as»:=[c]) f2 Tryz.underlying2
  cases e0;cases e1;cases e2
  refine⟨.agg _ _ rfl fun j t c ht hc=> ?_,rfl⟩
  match j with
  |0=>cases ht;cases hc;exact .str _ _ (Nat.le_trans hs (by decide))
  |1=>cases ht;cases hc;exact(full_of hx).1
  |2=>cases ht;cases hc;exact(full_of hy).1
  |j+3=>cases ht
structure Arg (cs:List AVal) (F S:Int) (ps L:List AVal) (n1 n2:Bool):Prop where
 eq:cs=[.int .i64 F,.int .i64 S,.slice ps n1 none,.slice L n2 none]
 F1:kMin .i64≤F
 F2:F≤kMax .i64
 S1:kMin .i64≤S
 S2:S≤kMax .i64
 hps:HasTy TB.D G00 (.sl pcT 0 maxLen) (.slice ps n1 none)
 hL:∀x∈L,HasTy TB.D G00 (full .i64) x
 nl:n2=true→L=[]
 len:L.length≤maxLen
 plain:plains [.agg cs]=true
theorem plains_all:∀{l:List AVal},(∀x∈l,x.plain=true)→plains l=true
 | [],_=>rfl
 |x::l,h=>by
  simp only[plains,h x (List.mem_cons_self ..),plains_all fun y hy=>h y (List.mem_cons_of_mem _ hy),Bool.and_self]
theorem arg_of {n:Nat} {cs:List AVal} (h:Shp Tryz.prog n 25 cs):∃F S ps L n1 n2,Arg cs F S ps L n1 n2:=by
 obtain⟨h1,m,rfl,h2⟩:=h.struct Tryz.underlying25
 rw[cells25]at h1
 match cs,h1 with
 | [a,b,c,d],_=>
  have f0:=h2 _ (List.mem_cons_self ..)
  have f1:=h2 _ (List.mem_cons_of_mem _ (List.mem_cons_self ..))
  have f2:=h2 _ (List.mem_cons_of_mem _ (List.mem_cons_of_mem _ (List.mem_cons_self ..)))
  have f3:=h2 _ (List.mem_cons_of_mem _ (List.mem_cons_of_mem _ (List.mem_cons_of_mem _ (List.mem_cons_self ..))))
  simp only[cells3,cells22,cells23]at f0 f1 f2 f3
  obtain⟨F,e0,hF⟩:=Shp.int («as»:=[a]) f0 Tryz.underlying3
  obtain⟨S,e1,hS⟩:=Shp.int («as»:=[b]) f1 Tryz.underlying3
  obtain⟨ps,n1,m1,e2,hn1,hl1,_,_,hp⟩:=Shp.slice («as»:=[c]) f2 Tryz.underlying22
  obtain⟨L,n2,m2,e3,hn2,hl2,_,_,hL⟩:=Shp.slice («as»:=[d]) f3 Tryz.underlying23
  cases e0;cases e1;cases e2;cases e3
  have hps:∀x∈ps,HasTy TB.D G00 pcT x∧x.plain=true:=fun x hx=>by
   obtain⟨cs,rfl,hs⟩:=hp x hx
   rw[row91];exact piece_ty hs
  have hLs:∀x∈L,HasTy TB.D G00 (full .i64) x∧x.plain=true:=fun x hx=>by
   obtain⟨cs,rfl,hs⟩:=hL x hx
   obtain⟨k,rfl,hk⟩:=hs.int Tryz.underlying3
   rw[row3];exact⟨(full_of hk).1,rfl⟩
  refine⟨F,S,ps,L,n1,n2,rfl,(full_of hF).2.1,(full_of hF).2.2,(full_of hS).2.1,(full_of hS).2.2,.sl _ _ _ _ _ _ (Nat.zero_le _) hl1 hn1 fun x hx=>(hps x hx).1,fun x hx=>(hLs x hx).1,hn2,hl2,?_⟩
  simp only[plains,AVal.plain,plains_all fun x hx=>(hps x hx).2,plains_all fun x hx=>(hLs x hx).2,Bool.and_self]
theorem g3:Tr.get .none FTb 3=.code c3:=by kernel_rfl
theorem of_ck {f0 f1 s0 s1:Int} {l0 l1:Nat} (hc:Ck f0 f1 s0 s1 l0 l1) {cs:List AVal} {F S:Int} {ps L:List AVal} {n1 n2:Bool} (h:Arg cs F S ps L n1 n2) (a1:f0≤F) (a2:F≤f1) (a3:s0≤S) (a4:S≤s1) (a5:l0≤L.length) (a6:L.length≤l1):
  ACall Tryz.prog 3 [.agg cs] Store.empty fun b τ=>b=.bool true∧τ=Store.empty:=by
 have hsem:=layers_check layers g3 hc (Nat.le_refl _)
 have he:=h.eq
 refine true_call mixed FTbOk hsem rfl h.plain (entry00 rfl rfl (fun j t a hj ha=> ?_) rfl (fun l hl=>(by cases hl)) rfl) _
 match j with
 |0=>
  cases hj;cases ha
  rw[he]
  refine .agg _ _ rfl fun j t c ht hc=> ?_
  match j with
  |0=>cases ht;cases hc;exact .int _ _ _ _ a1 a2
  |1=>cases ht;cases hc;exact .int _ _ _ _ a3 a4
  |2=>cases ht;cases hc;exact h.hps
  |3=>cases ht;cases hc;exact .sl _ _ _ _ _ _ a5 a6 h.nl h.hL
  |j+4=>cases ht
 |j+1=>cases hj
theorem cf_all {cs:List AVal} {F S:Int} {ps L:List AVal} {n1 n2:Bool} (h:Arg cs F S ps L n1 n2):ACall Tryz.prog 3 [.agg cs] Store.empty fun b τ=>b=.bool true∧τ=Store.empty:=by
 by_cases b1:F≤ -1
 ·exact of_ck eA h h.F1 b1 h.S1 h.S2 (Nat.zero_le _) h.len
 by_cases b2:2≤F
 ·exact of_ck eB h b2 h.F2 h.S1 h.S2 (Nat.zero_le _) h.len
 have c1:(0:Int)≤F:=by omega
 have c2:F≤(1:Int):=by omega
 by_cases b3:S≤0
 ·exact of_ck eC h c1 c2 h.S1 b3 (Nat.zero_le _) h.len
 by_cases b4:4≤S
 ·exact of_ck eD h c1 c2 b4 h.S2 (Nat.zero_le _) h.len
 obtain hs|hs|hs:S=1∨S=2∨S=3:=by omega
 ·subst hs
  have go:=fun {l:Nat} (hc:Ck 0 1 1 1 l l) (hl:L.length=l)=>of_ck hc h c1 c2 (Int.le_refl _) (Int.le_refl _) (Nat.le_of_eq hl.symm) (Nat.le_of_eq hl)
  by_cases b5:3≤L.length
  ·exact of_ck eE1 h c1 c2 (Int.le_refl _) (Int.le_refl _) b5 h.len
  obtain hl|hl|hl:L.length=0∨L.length=1∨L.length=2:=by omega
  ·exact go e10 hl
  ·exact go e11 hl
  ·exact go e12 hl
 ·subst hs
  have go:=fun {l:Nat} (hc:Ck 0 1 2 2 l l) (hl:L.length=l)=>of_ck hc h c1 c2 (Int.le_refl _) (Int.le_refl _) (Nat.le_of_eq hl.symm) (Nat.le_of_eq hl)
  by_cases b5:4≤L.length
  ·exact of_ck eE2 h c1 c2 (Int.le_refl _) (Int.le_refl _) b5 h.len
  obtain hl|hl|hl|hl:L.length=0∨L.length=1∨L.length=2∨L.length=3:=by omega
  ·exact go e20 hl
  ·exact go e21 hl
  ·exact go e22 hl
  ·exact go e23 hl
 ·subst hs
  have go:=fun {l:Nat} (hc:Ck 0 1 3 3 l l) (hl:L.length=l)=>of_ck hc h c1 c2 (Int.le_refl _) (Int.le_refl _) (Nat.le_of_eq hl.symm) (Nat.le_of_eq hl)
  by_cases b5:5≤L.length
  ·exact of_ck eE3 h c1 c2 (Int.le_refl _) (Int.le_refl _) b5 h.len
  obtain hl|hl|hl|hl|hl:L.length=0∨L.length=1∨L.length=2∨L.length=3∨L.length=4:=by omega
  ·exact go e30 hl
  ·exact go e31 hl
  ·exact go e32 hl
  ·exact go e33 hl
  ·exact go e34 hl
theorem cf_args (av:List AVal) (h:ArgsShp Tryz.prog 9 [25] av):ACall Tryz.prog 3 av Store.empty fun a _=>a=.bool true:=by
 match av,h with
 | [a],h=>
  obtain⟨⟨cs,rfl,hs⟩,_⟩:=h
  obtain⟨F,S,ps,L,n1,n2,ha⟩:=arg_of hs
  rw[row25]
  exact(cf_all ha).mono fun _ _ h=>h.1
end Go.Proofs.RepT
