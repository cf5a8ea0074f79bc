/- Of a range over a function that gives nothing: the keys of an empty map, gathered, are none. -/
import Derived.Test.YtihkdgfmmcfpmaaGreatRepT
import Derived.Shelf.SlIterI.Collect
namespace Go.Proofs.RepT
open Go Go.AL Go.Proofs Go.RowKit Go.Maps Go.Shelf
set_option maxRecDepth 100000

def renf : Nat → Nat
  | 10 => 272
  | 11 => 308
  | n => n
def rent : Nat → Nat
  | 0 => 0
  | 3 => 108
  | 4 => 4
  | 23 => 192
  | 24 => 199
  | 26 => 2
  | 28 => 296
  | 33 => 231
  | n => n
def ren : Ren := ⟨renf, rent, fun n => n⟩
theorem keysL : SlLaysZI.n10 Tryz.prog ren where
  mixed := by kernel_rfl
  f10 := ⟨("maps.Keys[map[int64]cohort/api.Prepared,int64,cohort/api.Prepared]$1"), by decide, Tryz.func272.trans (congrArg some (by kernel_rfl))⟩
  t0 := Tryz.underlying0
  a0 := Tryz.isAgg0
  z0 := Tryz.sizeOf0
  v0 := Tryz.zeroValue0
  t4 := Tryz.underlying4
  a4 := Tryz.isAgg4
  z4 := Tryz.sizeOf4
  v4 := Tryz.zeroValue4
  t23 := Tryz.underlying192
  a23 := Tryz.isAgg192
  z23 := Tryz.sizeOf192
  v23 := Tryz.zeroValue192
  t26 := Tryz.underlying2
  a26 := Tryz.isAgg2
  z26 := Tryz.sizeOf2
  v26 := Tryz.zeroValue2
  t33 := Tryz.underlying231
  a33 := Tryz.isAgg231
  z33 := Tryz.sizeOf231
  v33 := Tryz.zeroValue231
theorem seqL : SlLaysZI.n11 Tryz.prog ren where
  mixed := by kernel_rfl
  f11 := ⟨("slices.AppendSeq[[]int64,int64]"), by decide, Tryz.func308.trans (congrArg some (by kernel_rfl))⟩
  t0 := Tryz.underlying0
  a0 := Tryz.isAgg0
  z0 := Tryz.sizeOf0
  v0 := Tryz.zeroValue0
  t24 := Tryz.underlying199
  a24 := Tryz.isAgg199
  z24 := Tryz.sizeOf199
  v24 := Tryz.zeroValue199
  t26 := Tryz.underlying2
  a26 := Tryz.isAgg2
  z26 := Tryz.sizeOf2
  v26 := Tryz.zeroValue2
  t28 := Tryz.underlying296
  a28 := Tryz.isAgg296
  z28 := Tryz.sizeOf296
  v28 := Tryz.zeroValue296
  i26 := by kernel_rfl

theorem calls_empty (w : World) (b r : Nat) (T : TypeId) (fz : Nat × Nat) (clock : Nat) (hb : w.heap[b]? = some (.cells #[.map (some r)] T fz)) (hr : w.heap[r]? = some (.map #[] clock)) :
    Calls Tryz.prog 308 #[.slice none 0 0, .func (.func 272) #[] #[.pointer (some ⟨b, 0, none⟩)]] w fun e w' => e = .returned (.slice none 0 0) ∧ RowKit.Below w.heap.size w w' := by
  refine (callsIn_wide (n := 6)).1 ?_
  have hown : w.ownsMap (H := Unit) Tryz.prog (ren.t 26) (fun _ => none) r 0 (.map []) := by
    exact ⟨#[], clock, hr, ⟨by simp, ⟨fun _ h => by simp at h, by simp, by simp⟩, fun _ h => by simp at h⟩, Nat.le_refl _, rfl⟩
  have hseq := AnyZI.keys_gives keysL Fence.wide 5 trivial rfl (by omega) b r 0 (.map [] : DataW Unit) w (lt_of_heap hb) (by
    unfold World.cell?
    simp [hb]) hown
  refine (AnyZI.appendSeq_in seqL Fence.wide 6 trivial rfl (by omega) 272 #[.pointer (some ⟨b, 0, none⟩)] trivial (enters_of Tryz.func272 (by kernel_rfl) rfl) _ _ (Nat.zero_le _) (Nat.zero_le _) w hseq).mono ?_
  rintro e w' ⟨v, ss, rfl, hS, _, hv, hB⟩
  have hss : ss = [] := List.Perm.eq_nil hS
  rw [hv.2 hss]
  exact ⟨rfl, hB⟩

theorem models_below {I : Sealed} {σ : Store} {w w' : World} (m : Models I σ w) (h : RowKit.Below w.heap.size w w') : Models I σ w' ∧ Evo I σ w I σ w' := by
  have heq : ∀ {b : Nat} {o : Obj}, w.heap[b]? = some o → w'.heap[b]? = some o := fun {b o} hb => (h.block b (lt_of_heap hb)).trans hb
  refine ⟨⟨fun b o v hc => ?_, fun b n hc => Nat.lt_of_lt_of_le (m.cap b n hc) h.size, fun b xs ho => ?_, fun b n sz e ho => ?_, fun b mo hm => ?_⟩, ⟨.refl I, h.size, h.os, h.tape, h.output, fun b hb hf => ⟨h.block b hb, hf, fun _ => rfl, rfl⟩⟩⟩
  · obtain ⟨cs, T, fz, h1, h2⟩ := m.cell b o v hc
    exact ⟨cs, T, fz, heq h1, h2⟩
  · obtain ⟨cs, T, h1, h2⟩ := m.obj b xs ho
    exact ⟨cs, T, heq h1, h2⟩
  · obtain ⟨h1, cs, cap, h2, h3⟩ := m.opn b n sz e ho
    exact ⟨h1, cs, cap, heq h2, h3⟩
  · obtain ⟨h1, h2, h3, h4⟩ := m.mp b mo hm
    refine ⟨h1, h2, fun cs T fz hh => h3 cs T fz ?_, h4.keep (.refl I) h.size fun x o hx _ => heq hx⟩
    rw [← h.block b h4.lt]; exact hh

/-- The keys of an empty map, gathered: none. -/
noncomputable def appE2 (V : VS) : VObj → FR
  | .map _ [] => .got (.slice [] true none) V
  | _ => .fail
noncomputable def appE1 (V : VS) : VObj → FR
  | .obj [.map (some r)] => appE2 V (V.at r)
  | _ => .fail
noncomputable def appE : Callee' := fun l V => match l with
  | [.slice [] true none, .func (.func 272) [] [.ptr i 0]] => appE1 V (V.at i)
  | _ => .fail
theorem appE_ok : CallOk Tryz.prog 308 appE := by
  intro xs V a V' h
  unfold appE at h
  split at h
  case h_2 => cases h
  rename_i i
  unfold appE1 at h
  split at h
  case h_2 => cases h
  rename_i r hat
  unfold appE2 at h
  split at h
  case h_2 => cases h
  rename_i ko hat2
  cases h
  refine ⟨⟨Tryz.f308, Tryz.func308, by kernel_rfl⟩, fun R ρ σ bs hR hv => ?_⟩
  obtain ⟨b1, bs1, v1, v2, rfl⟩ := hv.cons_inv
  obtain ⟨b2, bs2, v3, v4, rfl⟩ := v2.cons_inv
  have := v4.nil_inv
  subst this
  have := v1.slice_nil
  subst this
  simp only [VR] at v3
  obtain ⟨f', c', f1, c1, rfl⟩ := v3
  have := f1.nil_inv
  subst this
  obtain ⟨p, ps, p1, p2, rfl⟩ := c1.cons_inv
  have := p2.nil_inv
  subst this
  simp only [VR] at p1
  obtain ⟨z, hz, rfl⟩ := p1
  obtain ⟨z', hz', ⟨ds, d1, d2⟩, _⟩ := hR.get hat (by intro hh; cases hh)
  rw [hz] at hz'; cases hz'
  obtain ⟨dm, ds', d3, d4, rfl⟩ := d1.cons_inv
  have := d4.nil_inv
  subst this
  simp only [VR] at d3
  obtain ⟨y, hy, rfl⟩ := d3
  obtain ⟨es', q1, q2, q3, q4, _⟩ := map_get hR hat2 hy
  have hes : es' = [] := q1
  subst hes
  intro I w vs m hs hr
  have h0 := hr 0
  have h1 := hr 1
  obtain ⟨u0, u1, hvs⟩ : ∃ u0 u1, vs = #[u0, u1] := by
    have hs : vs.size = 2 := hs
    obtain ⟨l⟩ := vs
    match l, hs with
    | [u0, u1], _ => exact ⟨u0, u1, rfl⟩
  subst hvs
  have h0 : RepC I u0 (.slice [] true none) := h0
  have h1 : RepC I u1 (.func (.func 272) [] [.ptr z.b 0]) := h1
  have e0 : u0 = .slice none 0 0 := by cases h0; rfl
  have e1 : u1 = .func (.func 272) #[] #[.pointer (some ⟨z.b, 0, none⟩)] := by
    cases h1 with
    | func fn f c xs bs k1 k2 r1 r2 =>
      have hf : f = #[] := Array.eq_empty_of_size_eq_zero k1
      have hc : c.size = 1 := k2
      obtain ⟨l⟩ := c
      match l, hc with
      | [x], _ =>
        have hx := r2 0
        have hx : RepC I x (.ptr z.b 0) := hx
        cases hx
        rw [hf]
  subst e0; subst e1
  obtain ⟨cs, T, k1, k2, k3, _⟩ := m.obj z.b _ (blk_inv d2).1
  obtain ⟨_, _, _, k4⟩ := m.mp y.b _ q4
  obtain ⟨ms, clock, k5, _, k6⟩ := k4
  have hcs : cs = #[.map (some y.b)] := by
    have hs1 : cs.size = 1 := k2
    obtain ⟨l⟩ := cs
    match l, hs1 with
    | [x], _ =>
      have hx : RepC I x (.map (some y.b)) := k3 0
      cases hx
      rfl
  have hms : ms = #[] := by
    have := k6.1
    exact Array.eq_empty_of_size_eq_zero (by simpa using this)
  subst hcs; subst hms
  refine (calls_empty w z.b y.b T _ clock k1 k5).mono ?_
  rintro e w' ⟨rfl, hB⟩
  obtain ⟨g1, g2⟩ := models_below m hB
  exact ⟨_, .slice [] true none, I, σ, rfl, .nilS, g1, g2, ρ, .refl _, .refl _, hR, VR.of_plain _ rfl⟩
end Go.Proofs.RepT
