/- Store.Range of an empty store, told by hand: it gives none. -/
import Derived.Test.YtfoeaeeaflmkfaaGreatCfT
import Derived.RangeFuncBound
import Derived.RangeFuncCalls
import Derived.RangeFuncLeaves
import Derived.RangeFuncFrom
import Derived.Shelf.Abstract
import Derived.WalkKit
import Derived.OwnWalkIn
import Derived.TacticsInMore
import Derived.LoopNIn
import Derived.LoopIn
set_option linter.unusedSectionVars false
set_option linter.unusedVariables false
set_option linter.unusedSimpArgs false
namespace Go.Proofs.RepT
open Go Go.AL Go.Proofs Go.RowKit Go.Shelf
attribute [local go_sem] Oper.semAt_some
set_option maxRecDepth 1000000
def sealAll (w:World):Sealed:=⟨fun b o=>match w.heap[b]? with
 |some (.cells cs _ _)=>cs[o]?
 |_=>none,fun _=>none⟩
theorem sealAll_models (w:World):Models (sealAll w) Store.empty w:=by
 refine⟨fun b o v h=> ?_,fun b n h=>(by cases h),fun b xs h=>(by cases h),fun b n sz e h=>(by cases h),fun b mo h=>(by cases h)⟩
 simp only[sealAll]at h
 split at h
 ·rename_i cs T fz hb
  exact⟨cs,T,fz,hb,h⟩
 ·cases h
theorem sealAll_cell {w:World} {b:Nat} {v:Value} {T:TypeId} {fz:Nat × Nat} (h:w.heap[b]? =some (.cells #[v] T fz)):(sealAll w).cell b 0=some v:=by
 simp only[sealAll,h];rfl
theorem rep_box {w:World} {b:Nat} {v:Value} {a:AVal} {T:TypeId} {fz:Nat × Nat} (h:w.heap[b]? =some (.cells #[v] T fz)) (hr:RepC (sealAll w) v a):RepC (sealAll w) (.pointer (some ⟨b,0,none⟩)) (.sptr [a]):=by
 refine .sptr b 0 [a] (fun _=>v) (fun j hj=> ?_) (fun j=> ?_)
 ·have:j=0:=by simp at hj;omega
  subst this;exact sealAll_cell h
 ·cases j with
  |zero=>exact hr
  |succ j=>simpa using RepC.top v
noncomputable section
def ra:List AVal:=[.top,.sptr [.sptr [.slice [] true none]],.sptr [.top],.sptr [.top]]
theorem r142:callN tab (nat_lit 20) (nat_lit 142) ra ⟨nat_lit 0,nat_lit 0,.lf⟩=.got (.tuple []) ⟨nat_lit 0,nat_lit 0,.lf⟩:=by kernel_rfl
end
theorem calls142 (w:World) (l b q0 q1 q2:Nat) (s1 s2:Value) (T T0 T1 T2:TypeId) (fz f0 f1 f2:Nat × Nat) (hb:w.heap[b]? =some (.cells #[.slice none 0 0] T fz))
  (h0:w.heap[q0]? =some (.cells #[.pointer (some ⟨b,0,none⟩)] T0 f0)) (h1:w.heap[q1]? =some (.cells #[s1] T1 f1)) (h2:w.heap[q2]? =some (.cells #[s2] T2 f2)):
  Calls Tryz.prog 142 #[.func (.yield l) #[] #[],.pointer (some ⟨q0,0,none⟩),.pointer (some ⟨q1,0,none⟩),.pointer (some ⟨q2,0,none⟩)] w
   fun e w'=>(∃v,e=.returned v)∧Below w.heap.size w w':=by
 have hA:ACall Tryz.prog 142 ra Store.empty fun _ _=>True:=
  ((callN_sound (by kernel_rfl) tabOk 20 142).plain («as»:=ra) (bs:=ra) r142 (by simp[ra,VRs,VR]) rfl Store.empty).mono fun _ _ _=>trivial
 refine(hA (sealAll w) w _ (sealAll_models w) rfl fun j=> ?_).mono ?_
 ·match j with
  |0=>exact .top _
  |1=>exact rep_box h0 (rep_box hb .nilS)
  |2=>exact rep_box h1 (.top _)
  |3=>exact rep_box h2 (.top _)
  |j+4=>exact .top _
 ·rintro e w' ⟨v,_,I',σ',rfl,_,_,ev,_⟩
  exact⟨⟨v,rfl⟩,ev.os,ev.tape,ev.output,ev.size,fun k hk=>(ev.keep k hk ⟨rfl,rfl,rfl⟩).1⟩
set_option maxHeartbeats 1000000 in
theorem within_in (F:Fence) (n:Nat) (h96:F.fn 96) (hro:F.round=none) (p0:Option Addr) (s1 s2:ByteArray) (w:World):
  CallsIn F n Tryz.prog 96 #[.pointer p0,.string s1,.string s2] w fun e w'=>e=.returned (.func (.func 142) #[] #[.pointer (some ⟨w.heap.size,0,none⟩),.pointer (some ⟨w.heap.size+1,0,none⟩),.pointer (some ⟨w.heap.size+2,0,none⟩)])∧
   w'=((w.alloc (.cells #[.pointer p0] 121)).alloc (.cells #[.string s1] 9)).alloc (.cells #[.string s2] 9):=by
 refine callsIn_of_wp Tryz.func96 rfl h96 ?_ hro
 simp only[Tryz.ntmps96,List.size_toArray,List.length_cons,List.length_nil,Nat.reduceAdd,Nat.reduceSub,Array.replicate_succ,Array.replicate_zero,List.push_toArray,List.append_toArray,List.nil_append,List.cons_append]
 gi_wp2
 go_ret
 exact⟨rfl,rfl⟩
theorem cells_ne {b:Nat} {w:World} {cs:Array Value} {T:TypeId} {fz:Nat × Nat} (h:w.heap[b]? =some (.cells cs T fz)):b<w.heap.size:=lt_of_heap h
set_option maxHeartbeats 2000000 in
theorem range_in (w:World) (b:Nat) (s1 s2:ByteArray) (T:TypeId) (fz:Nat × Nat) (hb:w.heap[b]? =some (.cells #[.slice none 0 0] T fz)):
  CallsIn Fence.wide 6 Tryz.prog 62 #[.pointer (some ⟨b,0,none⟩),.string s1,.string s2] w fun e w'=>e=.returned (.slice none 0 0)∧Below w.heap.size w w':=by
 have hlt:=lt_of_heap hb
 refine callsIn_of_wp_marks Tryz.func62 rfl trivial ?_ rfl
 simp only[Tryz.ntmps62,List.size_toArray,List.length_cons,List.length_nil,Nat.reduceAdd,Nat.reduceSub,Array.replicate_succ,Array.replicate_zero,List.push_toArray,List.append_toArray,List.nil_append,List.cons_append]
 gi_wp2_with (refine⟨trivial,?_⟩;gi_at_call 96;refine(within_in Fence.wide (6-1) trivial rfl _ _ _ _).mono ?_;rintro e w' ⟨rfl,rfl⟩)
 have hsz:(w.alloc (.cells #[.slice none 0 0] 32)).heap.size=w.heap.size+1:=by simp
 obtain⟨W0,hW0⟩:∃W0,(((w.alloc (.cells #[.slice none 0 0] 32)).alloc (.cells #[.pointer (some ⟨b,0,none⟩)] 121)).alloc (.cells #[.string s1] 9)).alloc (.cells #[.string s2] 9)=W0:=⟨_,rfl⟩
 have hB0:Below w.heap.size w W0:=by
  rw[←hW0]
  exact((((Below.refl _ w).alloc (Nat.le_refl _) _).alloc (by simp) _).alloc (by simp;omega) _).alloc (by simp;omega) _
 have hWs:W0.heap.size=w.heap.size+4:=by rw[←hW0];simp
 have g0:W0.heap[w.heap.size]? =some (.cells #[.slice none 0 0] 32):=by
  rw[←hW0,Below.heap_alloc _ _ _ (by simp;omega),Below.heap_alloc _ _ _ (by simp;omega),Below.heap_alloc _ _ _ (by simp)];exact World.alloc_heap_new _ _
 have g1:W0.heap[w.heap.size+1]? =some (.cells #[.pointer (some ⟨b,0,none⟩)] 121):=by
  rw[←hW0,Below.heap_alloc _ _ _ (by simp),Below.heap_alloc _ _ _ (by simp),←hsz];exact World.alloc_heap_new _ _
 have g2:W0.heap[w.heap.size+1+1]? =some (.cells #[.string s1] 9):=by
  rw[←hW0,Below.heap_alloc _ _ _ (by simp),←hsz];simpa using World.alloc_heap_new ((w.alloc (.cells #[.slice none 0 0] 32)).alloc (.cells #[.pointer (some ⟨b,0,none⟩)] 121)) (.cells #[.string s1] 9)
 have g3:W0.heap[w.heap.size+1+2]? =some (.cells #[.string s2] 9):=by
  rw[←hW0,←hsz];simpa using World.alloc_heap_new (((w.alloc (.cells #[.slice none 0 0] 32)).alloc (.cells #[.pointer (some ⟨b,0,none⟩)] 121)).alloc (.cells #[.string s1] 9)) (.cells #[.string s2] 9)
 rw[hW0]
 refine wpIn_rangeFunc_ownF (α:=Empty) rfl (by omega) (gf:=142) (lb:= #[.pointer (some ⟨w.heap.size+1,0,none⟩),.pointer (some ⟨w.heap.size+1+1,0,none⟩),.pointer (some ⟨w.heap.size+1+2,0,none⟩)]) rfl trivial (enters_of Tryz.func142 (by kernel_rfl) rfl)
  (encs:=fun x=>x.elim) (Kp:=fun _ _=>True) (S:=fun xs=>xs=[]) (Sp:=fun _=>False) (N:=0) (w0:=W0) ?seq (fun _ _=>trivial) (fun _ _ _ _ _ _ _ _=>trivial) (Below.refl _ _) (fun x=>x.elim)
  (fun pre W=>W.heap[w.heap.size]? =some (.cells #[.slice none 0 0] 32)∧Below w.heap.size w W)
  (fun _ _ _=>False)
  ?own (fun _ _ _ _ _ hs _ _=>hs) ⟨g0,hB0⟩ (fun x=>x.elim) (fun _ x=>x.elim) (fun _ _ x=>x.elim) ?done (fun _ _ _ _ _ h=>h.elim)
 case seq=>
  intro l J Jx W hW hJ hJx hY h0
  refine(callsIn_wide (n:=6-1)).2 ((calls142 W l b _ _ _ (.string s1) (.string s2) T 121 9 9 fz (0,0) (0,0) (0,0) ?_ ?_ ?_ ?_).mono ?_)
  ·rw[hW.block b (by omega),hB0.block b (by omega)];exact hb
  ·rw[hW.block _ (by omega)];exact g1
  ·rw[hW.block _ (by omega)];exact g2
  ·rw[hW.block _ (by omega)];exact g3
  ·rintro e w' ⟨hv,hB⟩
   exact⟨hv,.inl ⟨[],rfl,hJ [] W w' none h0 ⟨hB.os,hB.tape,hB.output,hB.size,fun k hk _=>hB.block k hk⟩ (fun r hr=>by cases hr)⟩⟩
 case own=>
  rintro s A B row ⟨h1,h2⟩ hg hr
  refine⟨?_,h2.grown hg h2.size (fun k e=>by have:=(hr k e).1;omega)⟩
  rw[hg.block _ (lt_of_heap h1) (fun e=>by have:=(hr _ e.symm).1;omega)];exact h1
 case done=>
  rintro D xs W hD rfl ⟨hc,hBW⟩ hK
  have hcell:W.cell? ⟨w.heap.size,0,none⟩=some (.slice none 0 0):=by simp[World.cell?,hc]
  have hfz:W.frozen? ⟨w.heap.size,0,none⟩=false:=by simp[World.frozen?,hc]
  gi_wp2
  refine⟨by simp,.inl ⟨_,_,rfl,run_takeDeferred hK,?_⟩⟩
  refine⟨_,results_tmp rfl _ _ _,rfl,?_⟩
  exact hBW.trans (belowK_b (w:=w) (Nat.le_refl _) W D _ _ (by omega) hK rfl rfl)
end Go.Proofs.RepT
