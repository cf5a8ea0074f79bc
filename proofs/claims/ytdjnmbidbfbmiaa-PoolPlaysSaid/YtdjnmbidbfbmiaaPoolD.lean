import Derived.Test.YtdjnmbidbfbmiaaPoolC
namespace Go.Proofs.Ytdjnmbidbfbmiaa
open Go.AL
set_option maxRecDepth 100000

theorem grow_ (n : Nat) (σ : Store) (hn : n ≤ 1000000) :
    ACall Try.prog 23 [.slice [] true none, .int .i64 n] σ fun a σ' => (n = 0 ∧ a = .slice [] true none ∧ σ' = σ) ∨ (0 < n ∧ ∃ g, σ.fresh g ∧ a = .slice [] false (some g) ∧ σ' = σ.setOpn g (0, 4, 33)) := by
  refine acall_of mixed Try.func23 s23 (by simp [a23]) ?_
  have h1 : ¬ ((n : Int) < 0) := by omega
  have w1 : IntKind.i64.wrap ((n : Int) - IntKind.i64.wrap ((0 : Nat) : Int)) = n := by
    rw [IntWalk.i64_in ((0 : Nat) : Int) (by omega), IntWalk.i64_in _ (by omega)]; omega
  simp [a23, h1]
  rintro c hc rfl
  rw [w1]
  refine ⟨fun h0 c' _ hc' => ⟨hc', by omega, by omega, by omega, by omega, fun _ g hg => ⟨by omega, g, hg, rfl, rfl⟩⟩, by omega⟩

/-- A list of mails as a slice. -/
def SL (x : List Mail × Bool × Option Nat) : AVal := .slice (x.1.map Mail.A) x.2.1 x.2.2
def tot (ls : List (List Mail × Bool × Option Nat)) : List Mail := ls.flatMap (·.1)
theorem tot_snoc (ls : List (List Mail × Bool × Option Nat)) (k : Nat) (h : k < ls.length) : tot (ls.take (k + 1)) = tot (ls.take k) ++ ls[k].1 := by
  unfold tot; rw [List.take_succ_eq_append_getElem h, List.flatMap_append, List.flatMap_cons, List.flatMap_nil, List.append_nil]
theorem tot_le (ls : List (List Mail × Bool × Option Nat)) (k : Nat) : (tot (ls.take k)).length ≤ (tot ls).length := by
  have : tot ls = tot (ls.take k) ++ tot (ls.drop k) := by unfold tot; rw [← List.flatMap_append, List.take_append_drop]
  rw [this]; simp

/-- What a result of Concat is. -/
def Cat (σ : Store) (ms : List Mail) (n : Nat) (a : AVal) (σ' : Store) : Prop :=
  (n = 0 ∧ ms = [] ∧ a = .slice [] true none ∧ σ' = σ) ∨ (0 < n ∧ ∃ g, σ.fresh g ∧ a = .slice (ms.map Mail.A) false (some g) ∧ σ' = σ.setOpn g (ms.length, 4, 33))

theorem concat_ (ls : List (List Mail × Bool × Option Nat)) (nl : Bool) (tok : Option Nat) (σ : Store) (hb : (tot ls).length ≤ 1000000) (hl : ls.length ≤ 1000000) :
    ACall Try.prog 21 [.slice (ls.map SL) nl tok] σ fun a σ' => Cat σ (tot ls) (tot ls).length a σ' := by
  refine acall_dim mixed Try.func21 s21 (by simp [a21]) ?_
  simp [a21]
  refine vc_loop (fun k => ls.length - k) (fun k τ => k ≤ ls.length ∧ τ = σ) (fun k => [(0, .val (.slice (ls.map SL) nl tok)), (3, .val (.int .i64 (tot (ls.take k)).length)), (9, .val (.slice (ls.map SL) nl tok)), (10, .val (.int .i64 ls.length)), (11, .val (.int .i64 k))])
    0 σ (by simp [tot]) (.refl _) ⟨by omega, rfl⟩ ?_
  rintro k τ ⟨hk, rfl⟩
  simp [-List.getElem?_map]
  refine ⟨fun hlt => ?_, fun hge => ?_⟩
  · have hlt' : k < ls.length := by omega
    have h1 := tot_snoc ls k hlt'
    have h2 := tot_le ls (k + 1)
    have h3 : (tot (List.take (k + 1) ls)).length = (tot (List.take k ls)).length + ls[k].1.length := by rw [h1]; simp
    have w1 : IntKind.i64.wrap (((tot (List.take k ls)).length : Int) + (ls[k].1.length : Int)) = (tot (List.take (k + 1) ls)).length := by rw [IntWalk.i64_in _ (by omega)]; omega
    have w2 : IntKind.i64.wrap ((k : Int) + 1) = (k + 1 : Nat) := by rw [IntWalk.i64_in _ (by omega)]; omega
    have hsl : (List.map SL ls)[k]? = some (SL ls[k]) := by simp [List.getElem?_eq_getElem hlt']
    simp [-List.getElem?_map, hsl, SL, w1, w2]
    exact ⟨k + 1, by omega, ⟨rfl, rfl⟩, .refl _, by omega⟩
  · have hke : k = ls.length := by omega
    subst hke
    simp
    refine (grow_ (tot ls).length τ hb).mono ?_
    rintro a σ' (⟨h0, rfl, rfl⟩ | ⟨h0, g, hg, rfl, rfl⟩)
    · -- nothing at all
      have hnil : tot ls = [] := List.eq_nil_of_length_eq_zero h0
      have hall : ∀ k, k < ls.length → ls[k]!.1 = [] := by
        intro k hk
        have h1 := tot_snoc ls k hk
        have h2 := tot_le ls (k + 1)
        rw [h1, List.length_append] at h2
        have : ls[k].1 = [] := List.eq_nil_of_length_eq_zero (by omega)
        simpa [hk] using this
      refine vc_loop (fun k => ls.length - k) (fun k τ' => k ≤ ls.length ∧ τ' = σ') (fun k => [(6, .val (.slice [] true none)), (25, .val (.slice (ls.map SL) nl tok)), (26, .val (.int .i64 ls.length)), (27, .val (.int .i64 k))])
        0 σ' (by simp) (.refl _) ⟨by omega, rfl⟩ ?_
      rintro k τ' ⟨hk, rfl⟩
      simp [-List.getElem?_map]
      refine ⟨fun hlt => ?_, fun hge => .of (.inl ⟨h0, hnil, rfl, rfl⟩)⟩
      have hlt' : k < ls.length := by omega
      have w2 : IntKind.i64.wrap ((k : Int) + 1) = (k + 1 : Nat) := by rw [IntWalk.i64_in _ (by omega)]; omega
      have hsl : (List.map SL ls)[k]? = some (SL ls[k]) := by simp [List.getElem?_eq_getElem hlt']
      have he : ls[k].1 = [] := by have := hall k hlt'; simpa [hlt'] using this
      simp [-List.getElem?_map, hsl, SL, w2, he]
      refine ⟨.inl ⟨rfl, rfl, rfl⟩, elemsOk_nil _, fun a σ' hr => ?_⟩
      rcases hr with ⟨_, rfl, rfl⟩ | ⟨h, _⟩
      · exact .of ⟨k + 1, by omega, ⟨rfl, rfl⟩, .refl _, by omega⟩
      · exact absurd rfl h
    · refine vc_loop (S := Nat × Nat) (fun s => ls.length - s.1) (fun s τ' => s.1 ≤ ls.length ∧ τ.fresh s.2 ∧ τ' = τ.setOpn s.2 ((tot (ls.take s.1)).length, 4, 33))
        (fun s => [(6, .val (.slice ((tot (ls.take s.1)).map Mail.A) false (some s.2))), (25, .val (.slice (ls.map SL) nl tok)), (26, .val (.int .i64 ls.length)), (27, .val (.int .i64 s.1))])
        (0, g) _ (by simp [tot]) (.refl _) ⟨by simp, hg, by simp [tot]⟩ ?_
      rintro ⟨k, g⟩ τ' ⟨hk, hg, rfl⟩
      simp [-List.getElem?_map]
      simp at hk hg
      refine ⟨fun hlt => ?_, fun hge => ?_⟩
      · have hlt' : k < ls.length := by omega
        have h1 := tot_snoc ls k hlt'
        have h2 := tot_le ls (k + 1)
        have h3 : (tot (List.take (k + 1) ls)).length = (tot (List.take k ls)).length + ls[k].1.length := by rw [h1]; simp
        have w2 : IntKind.i64.wrap ((k : Int) + 1) = (k + 1 : Nat) := by rw [IntWalk.i64_in _ (by omega)]; omega
        have hsl : (List.map SL ls)[k]? = some (SL ls[k]) := by simp [List.getElem?_eq_getElem hlt']
        simp [-List.getElem?_map, hsl, SL, w2]
        refine ⟨.inr ⟨g, rfl, by simp [Store.setOpn]⟩, elemsOk_mails _, by simp only [maxLen]; omega, by omega, fun a σ' hr => ?_⟩
        rcases hr with ⟨he, rfl, rfl⟩ | ⟨_, g', rfl, rfl, hg'⟩
        · have he' : ls[k].1 = [] := by simpa using he
          have hh : tot (List.take (k + 1) ls) = tot (List.take k ls) := by rw [h1, he', List.append_nil]
          exact .of ⟨k + 1, by omega, g, ⟨by rw [hh], rfl⟩, _, .refl _, by omega, hg, by rw [hh]⟩
        · have hfr : τ.fresh g' := by
            rcases hg' with hg' | hg'
            · cases hg'; exact hg
            · exact (fresh_setOpn.1 hg').1
          refine .of ⟨k + 1, by omega, g', ⟨by rw [h1, List.map_append], rfl⟩, τ.setOpn g' ((tot (List.take (k + 1) ls)).length, 4, 33), ?_, by omega, hfr, rfl⟩
          rw [h3]
          simp only [List.length_map]
          exact sub_setOpn_same (sub_dropOpn (sub_setOpn (.refl _) hg.2.1) (fun q hq => by cases hq; exact hg.2.1))
      · have hke : k = ls.length := by omega
        subst hke
        simp
        exact .of (.inr ⟨h0, g, hg, rfl, rfl⟩)

end Go.Proofs.Ytdjnmbidbfbmiaa
