/-
  AN ABSTRACT LOGIC OVER THE MODEL, part 26: where a loop begins slots may be forgotten.
-/
import Derived.Test.YtihkdgfmmcfpmaaGreatAL25
namespace Go.AL
open Go.RowKit
noncomputable section
variable {P : Program} {Q : Ex → Env → Store → Prop} {call : Nat → Callee'} {n : Nat}

theorem enter_loop {b : ACode} {m : Nat} {K : List Fr} {env env2 : VE} {V V2 : VS} (h : (Cf.go b (.loop b m :: K) env2 V2).Means P Q) (he : ∀ t, eat env2 t = eat env t ∨ eat env2 t = .val .top) (hg : V2.g ≤ V2.n) (hn : V.n ≤ V2.n) (ha : ∀ i, V2.at i = V.at i ∨ V2.at i = .dead) :
    (Cf.go (.loop b) K env V).Means P Q := by
  intro ρ σ e hR hE
  obtain ⟨e2, h1, h2⟩ := hE.less he
  have h3 : vcL P b (onK P Q K) (m + 1) e2 σ := h ρ σ e2 (hR.less hg hn ha) h2
  refine ⟨fun k e σ => vcL P b (onK P Q K) k e σ, ⟨m + 1, e2, σ, h1, .refl _, h3⟩, fun k e σ hk => ?_⟩
  cases k with
  | zero => exact hk.elim
  | succ k =>
    refine vc_mono hk fun x e σ hx => ?_
    cases x with
    | normal => exact dim_self ⟨k, Nat.lt_succ_self k, hx⟩
    | exit id => exact hx
    | ret => exact hx

def lessT : VE → VE → Bool
  | .lf, _ => true
  | .nd v l r, .lf => topE v && (allTop l && allTop r)
  | .nd v l r, .nd w m s => (topE v || eqEn v w) && (lessT l m && lessT r s)
theorem lessT_true : ∀ {a b : VE}, lessT a b = true → ∀ p, Tr.getP (.val .top) p a = Tr.getP (.val .top) p b ∨ Tr.getP (.val .top) p a = .val .top
  | .lf, b, h, p => .inr (Tr.getP_lf _ _)
  | .nd v l r, .lf, h, p => .inr (allTop_true (t := .nd v l r) h p)
  | .nd v l r, .nd w m s, h, p => by
    have h : ((topE v || eqEn v w) && (lessT l m && lessT r s)) = true := h
    simp only [Bool.and_eq_true, Bool.or_eq_true] at h
    cases p with
    | z =>
      rcases h.1 with h1 | h1
      · exact .inr (topE_true h1)
      · exact .inl (eqEn_true h1)
    | a p => exact lessT_true h.2.1 p
    | b p => exact lessT_true h.2.2 p
/-- It comes to a loop's beginning, where this at least is known. -/
def comesF (E : List (Nat × Ent)) (N : Nat) (L : List (Nat × VObj)) : Cf → Bool
  | .go (.loop _) _ env V => lessT (envL E) env && (Nat.ble V.n N && allO V L)
  | _ => false
theorem start_sound (hc : ∀ f, CallOk P f (call f)) (k : Nat) {c : Cf} (hp : c.plainB = true) {E : List (Nat × Ent)} {N : Nat} {L : List (Nat × VObj)} {b : ACode} {K : List Fr} {m : Nat} (h : comesF E N L (stepsM call n k c) = true)
    (hs : (stepsM call n k c).at E N L = .go (.loop b) K (envL E) (stL N L)) (h2 : (Cf.go b (.loop b m :: K) (envL E) (stL N L)).Means P Q) : c.Means P Q := by
  cases hx : stepsM call n k c with
  | bad => rw [hx] at hs; cases hs
  | back x K' env V => rw [hx] at hs; cases hs
  | go c' K' env V =>
    rw [hx] at hs h
    simp only [Cf.at, Cf.go.injEq] at hs
    obtain ⟨rfl, rfl, _⟩ := hs
    have h : (lessT (envL E) env && (Nat.ble V.n N && allO V L)) = true := h
    simp only [Bool.and_eq_true, ble_eq, decide_eq_true_eq] at h
    refine steps_sound (n := n) hc k hp (by rw [hx]; intro hh; cases hh) ?_
    rw [hx]
    exact enter_loop h2 (fun t => lessT_true h.1 _) (Nat.zero_le _) h.2.1 (allO_true h.2.2)
end
end Go.AL
