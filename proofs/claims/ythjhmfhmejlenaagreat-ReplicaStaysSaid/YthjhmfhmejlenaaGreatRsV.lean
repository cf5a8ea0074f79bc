/- slices.Sorted, slices.Sort, the keys of a map: where the kit's facts lie in this program. -/
import Derived.Test.YthjhmfhmejlenaaGreatRsS
import Derived.Test.YthjhmfhmejlenaaGreatProg
import Derived.Shelf.SlIterI.Nil
import Derived.Shelf.SortM.Plain
import Derived.Shelf.SortM.SortNone
set_option linter.unusedSectionVars false
set_option linter.unusedVariables false
set_option linter.unusedSimpArgs false
namespace Go.Proofs.eK
open Go Go.bO Go.Proofs Go.RowKit Go.Maps Go.Sort Go.Shelf
set_option maxRecDepth 100000
def aqu:Ren:=⟨fun|10=>294|n=>n,fun|3=>134|23=>193|26=>2|33=>276|n=>n,fun n=>n⟩
theorem R_:SlLaysZI.n10 Tryz.prog aqu where
 mixed:=by kernel_rfl
 f10:=⟨"maps.Keys[map[int64]cohort/api.Prepared,int64,cohort/api.Prepared]$1",by decide,Tryz.func294.trans (congrArg some (by kernel_rfl))⟩
 t0:=Tryz.underlying0
 a0:=Tryz.isAgg0
 z0:=Tryz.sizeOf0
 v0:=Tryz.zeroValue0
 t4:=Tryz.underlying4
 a4:=Tryz.isAgg4
 z4:=Tryz.sizeOf4
 v4:=Tryz.zeroValue4
 t23:=Tryz.underlying193
 a23:=Tryz.isAgg193
 z23:=Tryz.sizeOf193
 v23:=Tryz.zeroValue193
 t26:=Tryz.underlying2
 a26:=Tryz.isAgg2
 z26:=Tryz.sizeOf2
 v26:=Tryz.zeroValue2
 t33:=Tryz.underlying276
 a33:=Tryz.isAgg276
 z33:=Tryz.sizeOf276
 v33:=Tryz.zeroValue276
def acf:Ren:=⟨fun|6=>261|8=>292|9=>293|11=>319|12=>320|13=>321|14=>340|15=>341|16=>342|17=>343|18=>344|19=>345|20=>346|21=>347|22=>348|23=>349|24=>350|25=>366|26=>367|27=>368|28=>369|29=>370|30=>371|31=>399|n=>n,fun|24=>223|26=>2|28=>332|33=>276|37=>287|39=>431|40=>432|45=>184|48=>439|50=>441|51=>452|55=>456|57=>482|58=>303|n=>n,fun n=>n⟩
theorem ls:SlLaysZI.n6 Tryz.prog acf where
 mixed:=by kernel_rfl
 f6:=⟨"slices.Sorted[int64]",by decide,Tryz.func261.trans (congrArg some (by kernel_rfl))⟩
 f8:=⟨"slices.Collect[int64]",by decide,Tryz.func292.trans (congrArg some (by kernel_rfl))⟩
 f11:=⟨"slices.AppendSeq[[]int64,int64]",by decide,Tryz.func319.trans (congrArg some (by kernel_rfl))⟩
 t0:=Tryz.underlying0
 a0:=Tryz.isAgg0
 z0:=Tryz.sizeOf0
 v0:=Tryz.zeroValue0
 t24:=Tryz.underlying223
 a24:=Tryz.isAgg223
 z24:=Tryz.sizeOf223
 v24:=Tryz.zeroValue223
 t26:=Tryz.underlying2
 a26:=Tryz.isAgg2
 z26:=Tryz.sizeOf2
 v26:=Tryz.zeroValue2
 t28:=Tryz.underlying332
 a28:=Tryz.isAgg332
 z28:=Tryz.sizeOf332
 v28:=Tryz.zeroValue332
 i26:=by kernel_rfl
def aqv:Ren:=⟨fun|5=>293|7=>320|8=>321|10=>340|11=>341|12=>342|13=>343|14=>344|15=>345|16=>346|17=>347|18=>348|19=>349|20=>350|30=>366|31=>367|32=>368|33=>369|34=>370|35=>371|40=>399|n=>n,fun|22=>223|23=>223|25=>2|32=>287|35=>431|36=>432|41=>184|44=>439|46=>441|53=>452|57=>456|63=>482|64=>303|n=>n,fun n=>n⟩
theorem lm:SlLaysM.n5 Tryz.prog aqv where
 mixed:=by kernel_rfl
 f5:=⟨"slices.Sort[[]int64,int64]",by decide,Tryz.func293.trans (congrArg some (by kernel_rfl))⟩
 f7:=⟨"slices.pdqsortOrdered[int64]",by decide,Tryz.func320.trans (congrArg some (by kernel_rfl))⟩
 f8:=Tryz.func321.trans (congrArg some (by kernel_rfl))
 f10:=⟨"slices.insertionSortOrdered[int64]",by decide,Tryz.func340.trans (congrArg some (by kernel_rfl))⟩
 f11:=⟨"slices.heapSortOrdered[int64]",by decide,Tryz.func341.trans (congrArg some (by kernel_rfl))⟩
 f12:=⟨"slices.breakPatternsOrdered[int64]",by decide,Tryz.func342.trans (congrArg some (by kernel_rfl))⟩
 f13:=⟨"slices.choosePivotOrdered[int64]",by decide,Tryz.func343.trans (congrArg some (by kernel_rfl))⟩
 f14:=⟨"slices.reverseRangeOrdered[int64]",by decide,Tryz.func344.trans (congrArg some (by kernel_rfl))⟩
 f15:=⟨"slices.partialInsertionSortOrdered[int64]",by decide,Tryz.func345.trans (congrArg some (by kernel_rfl))⟩
 f16:=⟨"cmp.Less[int64]",by decide,Tryz.func346.trans (congrArg some (by kernel_rfl))⟩
 f17:=⟨"slices.partitionEqualOrdered[int64]",by decide,Tryz.func347.trans (congrArg some (by kernel_rfl))⟩
 f18:=⟨"slices.partitionOrdered[int64]",by decide,Tryz.func348.trans (congrArg some (by kernel_rfl))⟩
 f19:=Tryz.func349.trans (congrArg some (by kernel_rfl))
 f20:=Tryz.func350.trans (congrArg some (by kernel_rfl))
 f30:=⟨"slices.siftDownOrdered[int64]",by decide,Tryz.func366.trans (congrArg some (by kernel_rfl))⟩
 f31:=Tryz.func367.trans (congrArg some (by kernel_rfl))
 f32:=Tryz.func368.trans (congrArg some (by kernel_rfl))
 f33:=⟨"slices.medianAdjacentOrdered[int64]",by decide,Tryz.func369.trans (congrArg some (by kernel_rfl))⟩
 f34:=⟨"slices.medianOrdered[int64]",by decide,Tryz.func370.trans (congrArg some (by kernel_rfl))⟩
 f35:=⟨"cmp.isNaN[int64]",by decide,Tryz.func371.trans (congrArg some (by kernel_rfl))⟩
 f40:=⟨"slices.order2Ordered[int64]",by decide,Tryz.func399.trans (congrArg some (by kernel_rfl))⟩
 t0:=Tryz.underlying0
 a0:=Tryz.isAgg0
 z0:=Tryz.sizeOf0
 v0:=Tryz.zeroValue0
 t3:=Tryz.underlying3
 a3:=Tryz.isAgg3
 z3:=Tryz.sizeOf3
 v3:=Tryz.zeroValue3
 t4:=Tryz.underlying4
 a4:=Tryz.isAgg4
 z4:=Tryz.sizeOf4
 v4:=Tryz.zeroValue4
 t5:=Tryz.underlying5
 a5:=Tryz.isAgg5
 z5:=Tryz.sizeOf5
 v5:=Tryz.zeroValue5
 t9:=Tryz.underlying9
 a9:=Tryz.isAgg9
 z9:=Tryz.sizeOf9
 v9:=Tryz.zeroValue9
 t22:=Tryz.underlying223
 a22:=Tryz.isAgg223
 z22:=Tryz.sizeOf223
 v22:=Tryz.zeroValue223
 t23:=Tryz.underlying223
 a23:=Tryz.isAgg223
 z23:=Tryz.sizeOf223
 v23:=Tryz.zeroValue223
 t25:=Tryz.underlying2
 a25:=Tryz.isAgg2
 z25:=Tryz.sizeOf2
 v25:=Tryz.zeroValue2
 t32:=Tryz.underlying287
 a32:=Tryz.isAgg287
 z32:=Tryz.sizeOf287
 v32:=Tryz.zeroValue287
 t35:=Tryz.underlying431
 a35:=Tryz.isAgg431
 z35:=Tryz.sizeOf431
 v35:=Tryz.zeroValue431
 t36:=Tryz.underlying432
 a36:=Tryz.isAgg432
 z36:=Tryz.sizeOf432
 v36:=Tryz.zeroValue432
 t41:=Tryz.underlying184
 a41:=Tryz.isAgg184
 z41:=Tryz.sizeOf184
 v41:=Tryz.zeroValue184
 t44:=Tryz.underlying439
 a44:=Tryz.isAgg439
 z44:=Tryz.sizeOf439
 v44:=Tryz.zeroValue439
 t46:=Tryz.underlying441
 a46:=Tryz.isAgg441
 z46:=Tryz.sizeOf441
 v46:=Tryz.zeroValue441
 t53:=Tryz.underlying452
 a53:=Tryz.isAgg452
 z53:=Tryz.sizeOf452
 v53:=Tryz.zeroValue452
 t57:=Tryz.underlying456
 a57:=Tryz.isAgg456
 z57:=Tryz.sizeOf456
 v57:=Tryz.zeroValue456
 t63:=Tryz.underlying482
 a63:=Tryz.isAgg482
 z63:=Tryz.sizeOf482
 v63:=Tryz.zeroValue482
 t64:=Tryz.underlying303
 a64:=Tryz.isAgg303
 z64:=Tryz.sizeOf303
 v64:=Tryz.zeroValue303
theorem afP (m:Nat):AnyZI.SortsIn Tryz.prog acf Fence.wide m:=
 ⟨fun fL off cap ss W BT qT dj=>callsIn_wide.2 (AnyM.slices_Sort_int lm fL off cap ss W BT qT dj),
  fun p cap W=>callsIn_wide.2 (AnyM.slices_Sort_int_none lm p cap W)⟩
theorem atF:VC Tryz.prog 261 294 2 where
 fn:=⟨Tryz.f261,Tryz.func261,by kernel_rfl⟩
 key:=Tryz.underlying2
 has w b r bB D aj g6 anx uZ:=by
  refine(callsIn_wide (n:=6)).1 ?_;have BY:b<w.heap.size:=by
   rcases lJ b w.heap.size with h|h
   ·exact h
   ·unfold World.cell? at aj;rw[OC h]at aj;cases aj
  have Ra:SeqGives Fence.wide 3 Tryz.prog 294 #[.pointer (some ⟨b,0,none⟩)] encZ (fun ss=>ss.Perm (Go.intKeys D)) (Maps.size D) w:=
   AnyZI.keys_gives R_ Fence.wide _ trivial rfl (by omega) b r bB D w BY aj g6
  refine(AnyZI.sorted_in ls Fence.wide 6 trivial trivial trivial trivial rfl (by omega) (afP _) (enters_of Tryz.func293 (by kernel_rfl) rfl) 294 #[.pointer (some ⟨b,0,none⟩)] trivial (enters_of Tryz.func294 (by kernel_rfl) rfl) _ _ anx uZ _ Ra).mono ?_
  rintro e w' ⟨v,ss,U,aa,au,ba,cb⟩;exact⟨v,ss,U,aa,au,ba,cb⟩
 no w b aj:=by
  refine(callsIn_wide (n:=6)).1 ?_;have BY:b<w.heap.size:=by
   rcases lJ b w.heap.size with h|h
   ·exact h
   ·unfold World.cell? at aj;rw[OC h]at aj;cases aj
  have Ra:SeqGives Fence.wide 3 Tryz.prog 294 #[.pointer (some ⟨b,0,none⟩)] encZ (fun ss:List Int=>ss=[]) 0 w:=
   AnyZI.keys_gives_nil R_ Fence.wide _ trivial rfl b w BY aj
  refine(AnyZI.sorted_in ls Fence.wide 6 trivial trivial trivial trivial rfl (by omega) (afP _) (enters_of Tryz.func293 (by kernel_rfl) rfl) 294 #[.pointer (some ⟨b,0,none⟩)] trivial (enters_of Tryz.func294 (by kernel_rfl) rfl) _ _ (fv _) (by omega) _ Ra).mono ?_
  rintro e w' ⟨v,ss,U,aa,au,ba,cb⟩;exact⟨v,ss,U,Ox aa,au,ba,cb⟩
theorem atH:hz Tryz.prog 261 (Aw 294):=atE atF
end Go.Proofs.eK
