import Derived.Test.YtdjnmbidbfbmiaaPoolK
namespace Go.Proofs.Ytdjnmbidbfbmiaa
open Go.AL
set_option maxRecDepth 100000

/-- A store without some blocks. -/
def sans (σ : Store) (F : List Nat) : Store := ⟨fun b => if b ∈ F then none else σ.obj b, fun b => if b ∈ F then none else σ.opn b, fun b => if b ∈ F then none else σ.mp b⟩
theorem sans_sub (σ : Store) (F : List Nat) : (sans σ F).Sub σ := by
  refine ⟨fun b c h => ?_, fun b c h => ?_, fun b c h => ?_⟩ <;>
  · simp only [sans] at h
    split at h
    · cases h
    · exact h
theorem sans_fresh {σ : Store} {F : List Nat} {b : Nat} (h : b ∈ F) : (sans σ F).fresh b := ⟨by simp [sans, h], by simp [sans, h], by simp [sans, h]⟩
theorem sub_sans {τ σ : Store} {F : List Nat} (h : τ.Sub σ) (hf : ∀ b ∈ F, τ.fresh b) : τ.Sub (sans σ F) := by
  refine ⟨fun b c e => ?_, fun b c e => ?_, fun b c e => ?_⟩
  · have : b ∉ F := fun hb => by rw [(hf b hb).1] at e; cases e
    simp only [sans, this, if_false]; exact h.obj b c e
  · have : b ∉ F := fun hb => by rw [(hf b hb).2.1] at e; cases e
    simp only [sans, this, if_false]; exact h.opn b c e
  · have : b ∉ F := fun hb => by rw [(hf b hb).2.2] at e; cases e
    simp only [sans, this, if_false]; exact h.mp b c e

/-- A row of one's own, behind a store that knows nothing of it. -/
structure RowIs (σ0 : Store) (b : Nat) (cs : List AVal) (σ : Store) : Prop where
  sub : σ0.Sub σ
  fr : σ0.fresh b
  is : σ.obj b = some cs

theorem PoolIs.foot {σ0 σ : Store} {p : Nat} {ms : List Mail} (h : PoolIs σ0 p ms σ) : ∃ F : List Nat, (∀ x ∈ F, σ0.fresh x ∧ ¬ σ.fresh x) ∧ ∀ σ' τ, σ.Sub σ' → (∀ x ∈ F, τ.fresh x) → τ.Sub σ' → PoolIs τ p ms σ' := by
  obtain ⟨nl, tok, ha, ht⟩ := h.is
  refine ⟨p :: tok.toList, fun x hx => ?_, fun σ' τ hs' hf hs => ⟨hs, hf p (by simp), nl, tok, ?_, fun g hg => hf g (by simp [hg])⟩⟩
  · rcases List.mem_cons.1 hx with rfl | hx
    · exact ⟨h.fp, fun hf => by have h0 := ha.1; rw [hf.1] at h0; cases h0⟩
    · have hx : tok = some x := by simpa using hx
      refine ⟨ht x hx, fun hf => ?_⟩
      rcases ha.2 with ⟨_, _, h0⟩ | ⟨g, hg, hg2⟩
      · rw [hx] at h0; cases h0
      · rw [hx] at hg; cases hg; rw [hf.2.1] at hg2; cases hg2
  · refine ⟨hs'.obj _ _ ha.1, ?_⟩
    rcases ha.2 with h | ⟨g, hg, hg2⟩
    · exact .inl h
    · exact .inr ⟨g, hg, hs'.opn _ _ hg2⟩

theorem PoolIs.below {σ0 β σ : Store} {p : Nat} {ms : List Mail} {F : List Nat} (h0 : σ0.Sub β) (hF : ∀ x ∈ F, σ0.fresh x ∧ ¬ β.fresh x) (h : PoolIs β p ms σ) : PoolIs σ0 p ms (sans σ F) := by
  obtain ⟨nl, tok, ha, ht⟩ := h.is
  have hp : p ∉ F := fun hx => (hF p hx).2 h.fp
  have htk : ∀ g, tok = some g → g ∉ F := fun g hg hx => (hF g hx).2 (ht g hg)
  refine ⟨sub_sans (h0.trans h.sub) fun x hx => (hF x hx).1, h0.fresh h.fp, nl, tok, ⟨by simp only [sans, hp, if_false]; exact ha.1, ?_⟩, fun g hg => h0.fresh (ht g hg)⟩
  rcases ha.2 with h | ⟨g, hg, hg2⟩
  · exact .inl h
  · exact .inr ⟨g, hg, by simp only [sans, htk g hg, if_false]; exact hg2⟩
theorem RowIs.below {σ0 β σ : Store} {b : Nat} {cs : List AVal} {F : List Nat} (h0 : σ0.Sub β) (hF : ∀ x ∈ F, σ0.fresh x ∧ ¬ β.fresh x) (h : RowIs β b cs σ) : RowIs σ0 b cs (sans σ F) := by
  have hp : b ∉ F := fun hx => (hF b hx).2 h.fr
  exact ⟨sub_sans (h0.trans h.sub) fun x hx => (hF x hx).1, h0.fresh h.fr, by simp only [sans, hp, if_false]; exact h.is⟩

/-- What was made first comes on top. -/
theorem swap_pools {σ0 β σ : Store} {p d : Nat} {ms ns : List Mail} (h1 : PoolIs σ0 d ns β) (h2 : PoolIs β p ms σ) : ∃ γ, PoolIs σ0 p ms γ ∧ PoolIs γ d ns σ := by
  obtain ⟨F, hF, hup⟩ := h1.foot
  exact ⟨sans σ F, h2.below h1.sub hF, hup _ _ h2.sub (fun x hx => sans_fresh hx) (sans_sub _ _)⟩
theorem swap_pool_row {σ0 β σ : Store} {d b : Nat} {ns : List Mail} {cs : List AVal} (h1 : PoolIs σ0 d ns β) (h2 : RowIs β b cs σ) : ∃ γ, RowIs σ0 b cs γ ∧ PoolIs γ d ns σ := by
  obtain ⟨F, hF, hup⟩ := h1.foot
  exact ⟨sans σ F, h2.below h1.sub hF, hup _ _ h2.sub (fun x hx => sans_fresh hx) (sans_sub _ _)⟩
theorem swap_row_pool {σ0 β σ : Store} {p b : Nat} {ms : List Mail} {cs : List AVal} (h1 : RowIs σ0 b cs β) (h2 : PoolIs β p ms σ) : ∃ γ, PoolIs σ0 p ms γ ∧ RowIs γ b cs σ :=
  ⟨sans σ [b], h2.below h1.sub fun x hx => by
    obtain rfl : x = b := by simpa using hx
    exact ⟨h1.fr, fun hf => by have := h1.is; rw [hf.1] at this; cases this⟩, sans_sub _ _, sans_fresh (by simp), h2.sub.obj _ _ h1.is⟩
theorem PoolIs.base {τ σ0 σ : Store} {p : Nat} {ms : List Mail} (hs : τ.Sub σ0) (h : PoolIs σ0 p ms σ) : PoolIs τ p ms σ := by
  obtain ⟨nl, tok, ha, ht⟩ := h.is
  exact ⟨hs.trans h.sub, hs.fresh h.fp, nl, tok, ha, fun g hg => hs.fresh (ht g hg)⟩

/-- A call, as it was handed in. -/
structure OpV where
  w : Int
  t : Int
  m : Mail
def OpV.A (o : OpV) : AVal := .agg [.int .i64 o.w, .int .i64 o.t, .int .i64 o.m.g, .int .i64 o.m.p, .bool o.m.o, .slice (bytesA o.m.b) o.m.nl none]

theorem great_ (os : List OpV) (xs : List AVal) (hx : xs = os.map OpV.A) (hl : xs.length ≤ 70368744177664) (nl : Bool) (σ : Store) : ACall Try.prog 9 [.slice xs nl none] σ fun a σ' => (∃ t, a = .bool t) ∧ σ' = σ := by
  refine acall_x mixed Try.func9 s9 (by simp [a9]) fun C ok ar cmp scmp cv len slen mm X => ?_
  conv => cbv
  refine VLoop.of (S := Int × Int × Nat) (fun s => os.length - s.2.2) (fun s τ => (s.2.2 : Int) = s.2.1 ∧ s.2.2 ≤ os.length ∧ τ = σ)
    (fun s => [(0, .val (.slice xs nl none)), (3, .val (.int .i64 s.1)), (4, .val (.int .i64 s.2.1))]) (0, 0, 0) σ ⟨rfl, rfl, rfl, trivial⟩ (.refl _) ⟨rfl, by simp, rfl⟩ ?_
  rintro ⟨n, i, k⟩ τ ⟨hi, hk, rfl⟩
  simp only at hi hk
  have hxl : xs.length = os.length := by rw [hx]; simp
  conv => cbv
  cases hc : cmp .lss i (len xs)
  case true =>
    conv => cbv
    cases hc2 : cmp .lss n 4000
    case true =>
      have hlt : k < os.length := by
        rw [X.lss, X.len_, hxl] at hc
        have := of_decide_eq_true hc
        omega
      obtain ⟨o, ho⟩ : ∃ o, os[k]? = some o := ⟨_, List.getElem?_eq_getElem hlt⟩
      have hget : xs[k]? = some o.A := by rw [hx]; simp [ho]
      have hA : o.A = .agg [.int .i64 o.w, .int .i64 o.t, .int .i64 o.m.g, .int .i64 o.m.p, .bool o.m.o, .slice (bytesA o.m.b) o.m.nl none] := rfl
      rw [hA] at hget
      generalize bytesA o.m.b = ys at hget
      conv => cbv
      refine VIdx.of k hi.symm hget rfl ?_
      conv => cbv
      have w : ar .add .i64 i 1 = (k + 1 : Nat) := X.add (by omega)
      rw [w]
      exact Next.of (_, ((k + 1 : Nat) : Int), k + 1) _ (by simp; omega) ⟨rfl, rfl, rfl, trivial⟩ (.refl _) ⟨rfl, hlt, rfl⟩
    conv => cbv
    cases hc3 : cmp .geq n 4000
    all_goals
      conv => cbv
      exact Post.of ⟨⟨_, rfl⟩, rfl⟩
  conv => cbv
  cases hc3 : cmp .geq n 4000
  all_goals
    conv => cbv
    exact Post.of ⟨⟨_, rfl⟩, rfl⟩

end Go.Proofs.Ytdjnmbidbfbmiaa
