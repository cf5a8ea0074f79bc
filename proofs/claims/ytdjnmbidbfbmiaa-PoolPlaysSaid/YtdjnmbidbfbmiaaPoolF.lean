import Derived.Test.YtdjnmbidbfbmiaaPoolD
import Derived.Test.YtdjnmbidbfbmiaaAL11
namespace Go.Proofs.Ytdjnmbidbfbmiaa
open Go.AL
set_option maxRecDepth 100000
/-- What a pool is behind a step that makes its list anew. -/
def PStep (σ : Store) (p : Nat) (ms : List Mail) (σ' : Store) : Prop :=
  (ms = [] ∧ σ' = σ.setObj p [.slice [] true none]) ∨ ∃ g, σ.fresh g ∧ σ' = (σ.setOpn g (ms.length, 4, 33)).setObj p [.slice (ms.map Mail.A) false (some g)]

theorem mails_cells (ms : List Mail) : ∀ x ∈ ms.map Mail.A, x.cells.length = 4 := by
  intro x hx; obtain ⟨m, _, rfl⟩ := List.mem_map.1 hx; rfl

theorem take_no (l : List AVal) (p : Nat) (nl : Bool) (tok : Option Nat) (i : Int) (σ : Store) (h : σ.obj p = some [.slice l nl tok]) (hi : i < 0 ∨ (l.length : Int) ≤ i) :
    ACall Try.prog 12 [.ptr p 0, .int .i64 i] σ fun a σ' => (a = .tuple [zeroMail, .bool false] ∧ σ' = σ) := by
  refine acall_x mixed Try.func12 s12 (by simp [a12]) fun C ok ar cmp scmp cv len slen mm X => ?_
  conv => cbv
  refine X.call (at_no l p nl tok i σ h hi) ?_
  rintro a σ' ⟨rfl, rfl⟩
  conv => cbv
  exact Post.of ⟨rfl, rfl⟩

theorem take_yes (ms : List Mail) (p : Nat) (nl : Bool) (tok : Option Nat) (i : Nat) (m : Mail) (hm : m.Ok) (σ : Store) (h : σ.obj p = some [.slice (ms.map Mail.A) nl tok]) (hi : ms[i]? = some m) (hl : ms.length ≤ 600) :
    ACall Try.prog 12 [.ptr p 0, .int .i64 i] σ fun a σ' => (a = .tuple [m.A, .bool true] ∧ PStep σ p (ms.eraseIdx i) σ') := by
  have hlt : i < ms.length := (List.getElem?_eq_some_iff.1 hi).1
  refine acall_x mixed Try.func12 s12 (by simp [a12]) fun C ok ar cmp scmp cv len slen mm X => ?_
  generalize hQ : (fun a σ' => (a = AVal.tuple [m.A, .bool true] ∧ PStep σ p (ms.eraseIdx i) σ')) = Q
  generalize hn : ((i : Nat) : Int) = n
  conv => cbv
  refine X.call (hn ▸ at_yes ms p nl tok i m hm σ h hi) ?_
  rintro a σ' ⟨rfl, rfl⟩
  generalize hb : m.A = mA
  have hA : mA = .agg [.int .i64 m.g, .int .i64 m.p, .bool m.o, .slice (bytesA m.b) m.nl none] := hb ▸ rfl
  generalize bytesA m.b = mb at hA
  subst hA
  have w2 : ar .add .i64 n 1 = (i + 1 : Nat) := X.add (by omega)
  conv => cbv
  rw [w2]
  generalize hn2 : ((i + 1 : Nat) : Int) = n2
  generalize hx : ms.map Mail.A = xs at h
  have hxl : xs.length = ms.length := by rw [← hx]; simp
  refine VLoad.of h rfl (by simp) ?_
  conv => cbv
  refine VCut3.of 0 i i rfl hn.symm hn.symm (by omega) (by omega) (by omega) (hx ▸ mails_cells ms) fun ys hys => ?_
  conv => cbv
  refine VLoad.of h rfl (by simp) ?_
  conv => cbv
  refine VCut.of0 (i + 1) xs.length hn2.symm rfl (by omega) (by omega) (hx ▸ mails_cells ms) (by omega) fun zs hzs => ?_
  conv => cbv
  have hcat : tot [(ms.take i, nl, none), (ms.drop (i + 1), nl, none)] = ms.eraseIdx i := by simp [tot, List.eraseIdx_eq_take_drop_succ]
  have hc := concat_ [(ms.take i, nl, none), (ms.drop (i + 1), nl, none)] false none σ' (by rw [hcat]; have := List.length_eraseIdx_le ms i; omega) (by simp)
  rw [hcat] at hc
  have e1 : List.map SL [(ms.take i, nl, none), (ms.drop (i + 1), nl, none)] = [.slice ys nl none, .slice zs nl none] := by
    subst hys hzs hx; simp [SL, List.map_take, List.map_drop, hxl]; rw [List.take_of_length_le (by simp)]
  rw [e1] at hc
  refine X.call hc ?_
  have hfin : ∀ (τ τ' : Store) (l : List AVal) (b : Bool) (t : Option Nat), PStep σ' p (ms.eraseIdx i) (τ.setObj p [.slice l b t]) → Q (.tuple [.agg [.int .i64 m.g, .int .i64 m.p, .bool m.o, .slice mb m.nl none], .bool true]) (τ.setObj p [.slice l b t]) := fun τ τ' l b t hs => by
    subst hQ; exact ⟨by rw [hb], hs⟩
  rintro a τ (⟨h0, h1, rfl, rfl⟩ | ⟨h0, g, hg, rfl, rfl⟩)
  · conv => cbv
    refine VStore.of h (by simp) rfl fun τ' hτ => ?_
    conv => cbv
    refine Post.of ?_
    subst hτ
    exact hfin _ τ _ _ _ (.inl ⟨h1, rfl⟩)
  · generalize hye : (ms.eraseIdx i).map Mail.A = ye
    generalize hτ0 : σ'.setOpn g ((ms.eraseIdx i).length, 4, 33) = τ0
    conv => cbv
    refine VStore.of (by subst hτ0; exact h) (by simp) rfl fun τ' hτ => ?_
    conv => cbv
    refine Post.of ?_
    subst hτ
    refine hfin _ τ0 _ _ _ (.inr ⟨g, hg, ?_⟩)
    subst hτ0 hye
    rfl

theorem double_no (ms : List Mail) (p : Nat) (nl : Bool) (tok : Option Nat) (i : Int) (σ : Store) (h : PoolAt σ p ms nl tok) (hi : i < 0 ∨ (ms.length : Int) ≤ i) :
    ACall Try.prog 15 [.ptr p 0, .int .i64 i] σ fun a σ' => (a = .bool false ∧ σ' = σ) := by
  refine acall_x mixed Try.func15 s15 (by simp [a15]) fun C ok ar cmp scmp cv len slen mm X => ?_
  conv => cbv
  refine X.call (at_no _ p nl tok i σ h.1 (by simpa using hi)) ?_
  rintro a σ' ⟨rfl, rfl⟩
  conv => cbv
  exact Post.of ⟨rfl, rfl⟩

theorem double_full (ms : List Mail) (p : Nat) (nl : Bool) (tok : Option Nat) (i : Nat) (m : Mail) (hm : m.Ok) (σ : Store) (h : PoolAt σ p ms nl tok) (hi : ms[i]? = some m) (hl : ms.length = 600) :
    ACall Try.prog 15 [.ptr p 0, .int .i64 i] σ fun a σ' => (a = .bool false ∧ σ' = σ) := by
  refine acall_x mixed Try.func15 s15 (by simp [a15]) fun C ok ar cmp scmp cv len slen mm X => ?_
  generalize hn : ((i : Nat) : Int) = n
  conv => cbv
  refine X.call (hn ▸ at_yes ms p nl tok i m hm σ h.1 hi) ?_
  rintro a σ' ⟨rfl, rfl⟩
  have hA : m.A = m.T none := rfl
  have hc := post_no ms p nl tok none m σ' h hl
  rw [← hA] at hc
  generalize hb : m.A = mA at hc
  have hA : mA = .agg [.int .i64 m.g, .int .i64 m.p, .bool m.o, .slice (bytesA m.b) m.nl none] := hb ▸ rfl
  generalize bytesA m.b = mb at hA
  subst hA
  conv => cbv
  refine X.call hc ?_
  rintro a σ' ⟨rfl, rfl⟩
  conv => cbv
  exact Post.of ⟨rfl, rfl⟩

theorem double_yes (ms : List Mail) (p : Nat) (nl : Bool) (tok : Option Nat) (i : Nat) (m : Mail) (hm : m.Ok) (σ : Store) (h : PoolAt σ p ms nl tok) (hi : ms[i]? = some m) (hl : ms.length < 600) :
    ACall Try.prog 15 [.ptr p 0, .int .i64 i] σ fun a σ' => (a = .bool true ∧ ∃ g, (tok = some g ∨ σ.fresh g) ∧
      σ' = ((σ.dropOpn tok).setOpn g (ms.length + 1, 4, 33)).setObj p [.slice ((ms ++ [m]).map Mail.A) false (some g)]) := by
  refine acall_x mixed Try.func15 s15 (by simp [a15]) fun C ok ar cmp scmp cv len slen mm X => ?_
  generalize hQ : (fun a σ' => (a = AVal.bool true ∧ ∃ g, (tok = some g ∨ σ.fresh g) ∧
      σ' = ((σ.dropOpn tok).setOpn g (ms.length + 1, 4, 33)).setObj p [.slice ((ms ++ [m]).map Mail.A) false (some g)])) = Q
  generalize hn : ((i : Nat) : Int) = n
  conv => cbv
  refine X.call (hn ▸ at_yes ms p nl tok i m hm σ h.1 hi) ?_
  rintro a σ' ⟨rfl, rfl⟩
  have hA : m.A = m.T none := rfl
  have hc := post_yes ms p nl tok none m hm σ' h hl
  rw [← hA, hQ] at hc
  clear hQ
  generalize hb : m.A = mA at hc
  have hA : mA = .agg [.int .i64 m.g, .int .i64 m.p, .bool m.o, .slice (bytesA m.b) m.nl none] := hb ▸ rfl
  generalize bytesA m.b = mb at hA
  subst hA
  conv => cbv
  refine X.call hc ?_
  intro a τ hq
  conv => cbv
  exact Post.of hq

/-- A pool, made behind a store that knows nothing of it. -/
structure PoolIs (σ0 : Store) (p : Nat) (ms : List Mail) (σ : Store) : Prop where
  sub : σ0.Sub σ
  fp : σ0.fresh p
  is : ∃ nl tok, PoolAt σ p ms nl tok ∧ ∀ g, tok = some g → σ0.fresh g

theorem PoolIs.grown {σ0 σ : Store} {p : Nat} {ms ms' : List Mail} {tok : Option Nat} {g n : Nat} (h : PoolIs σ0 p ms σ) (ht : ∀ g, tok = some g → σ0.fresh g) (hg : tok = some g ∨ σ.fresh g) (hn : n = ms'.length) :
    PoolIs σ0 p ms' (((σ.dropOpn tok).setOpn g (n, 4, 33)).setObj p [.slice (ms'.map Mail.A) false (some g)]) := by
  have hfg : σ0.fresh g := by
    rcases hg with hg | hg
    · exact ht g hg
    · exact h.sub.fresh hg
  refine ⟨sub_setObj (sub_setOpn (sub_dropOpn h.sub fun q hq => (ht q hq).2.1) hfg.2.1) h.fp.1, h.fp, false, some g, ⟨by simp [Store.setObj], .inr ⟨g, rfl, by simp [Store.setOpn, Store.setObj, hn]⟩⟩, fun q hq => by cases hq; exact hfg⟩
theorem PoolIs.step {σ0 σ σ' : Store} {p : Nat} {ms ms' : List Mail} (h : PoolIs σ0 p ms σ) (hs : PStep σ p ms' σ') : PoolIs σ0 p ms' σ' := by
  rcases hs with ⟨rfl, rfl⟩ | ⟨g, hg, rfl⟩
  · exact ⟨sub_setObj h.sub h.fp.1, h.fp, true, none, ⟨by simp [Store.setObj], .inl ⟨rfl, rfl, rfl⟩⟩, fun q hq => by cases hq⟩
  · have hfg := h.sub.fresh hg
    exact ⟨sub_setObj (sub_setOpn h.sub hfg.2.1) h.fp.1, h.fp, false, some g, ⟨by simp [Store.setObj], .inr ⟨g, rfl, by simp [Store.setOpn, Store.setObj]⟩⟩, fun q hq => by cases hq; exact hfg⟩

theorem pool_new (σ : Store) : ACall Try.prog 8 [] σ fun a σ' => ∃ p, a = .ptr p 0 ∧ PoolIs σ p [] σ' :=
  (new_ σ).mono fun a σ' ⟨b, hb, ha, hs⟩ => by
    subst hs
    exact ⟨b, ha, sub_setObj (.refl _) hb.1, hb, true, none, ⟨by simp [Store.setObj], .inl ⟨rfl, rfl, rfl⟩⟩, fun q hq => by cases hq⟩
theorem pool_full {σ0 σ : Store} {p : Nat} {ms : List Mail} (h : PoolIs σ0 p ms σ) (hl : ms.length = 600) (m : Mail) : ACall Try.prog 10 [.ptr p 0, m.A] σ fun a σ' => a = .bool false ∧ σ' = σ := by
  obtain ⟨nl, tok, ha, _⟩ := h.is
  exact post_no ms p nl tok none m σ ha hl
theorem pool_post {σ0 σ : Store} {p : Nat} {ms : List Mail} (h : PoolIs σ0 p ms σ) (hl : ms.length < 600) (m : Mail) (hm : m.Ok) (t : Option Nat) : ACall Try.prog 10 [.ptr p 0, m.T t] σ fun a σ' => a = .bool true ∧ PoolIs σ0 p (ms ++ [m]) σ' := by
  obtain ⟨nl, tok, ha, ht⟩ := h.is
  refine (post_yes ms p nl tok t m hm σ ha hl).mono ?_
  rintro a σ' ⟨rfl, g, hg, rfl⟩
  exact ⟨rfl, h.grown ht hg (by simp)⟩
theorem pool_none {σ0 σ : Store} {p : Nat} {ms : List Mail} (h : PoolIs σ0 p ms σ) (i : Int) (hi : i < 0 ∨ (ms.length : Int) ≤ i) : ACall Try.prog 12 [.ptr p 0, .int .i64 i] σ fun a σ' => a = .tuple [zeroMail, .bool false] ∧ σ' = σ := by
  obtain ⟨nl, tok, ha, _⟩ := h.is
  exact take_no _ p nl tok i σ ha.1 (by simpa using hi)
theorem pool_take {σ0 σ : Store} {p : Nat} {ms : List Mail} (h : PoolIs σ0 p ms σ) (hl : ms.length ≤ 600) (n : Int) (i : Nat) (hn : (i : Int) = n) (m : Mail) (hi : ms[i]? = some m) (hm : m.Ok) : ACall Try.prog 12 [.ptr p 0, .int .i64 n] σ fun a σ' => a = .tuple [m.A, .bool true] ∧ PoolIs σ0 p (ms.eraseIdx i) σ' := by
  obtain ⟨nl, tok, ha, _⟩ := h.is
  subst hn
  exact (take_yes ms p nl tok i m hm σ ha.1 hi hl).mono fun a σ' ⟨h1, h2⟩ => ⟨h1, h.step h2⟩
theorem pool_at_no {σ0 σ : Store} {p : Nat} {ms : List Mail} (h : PoolIs σ0 p ms σ) (i : Int) (hi : i < 0 ∨ (ms.length : Int) ≤ i) : ACall Try.prog 17 [.ptr p 0, .int .i64 i] σ fun a σ' => a = .tuple [zeroMail, .bool false] ∧ σ' = σ := by
  obtain ⟨nl, tok, ha, _⟩ := h.is
  exact at_no _ p nl tok i σ ha.1 (by simpa using hi)
theorem pool_at {σ0 σ : Store} {p : Nat} {ms : List Mail} (h : PoolIs σ0 p ms σ) (n : Int) (i : Nat) (hn : (i : Int) = n) (m : Mail) (hi : ms[i]? = some m) (hm : m.Ok) : ACall Try.prog 17 [.ptr p 0, .int .i64 n] σ fun a σ' => a = .tuple [m.A, .bool true] ∧ σ' = σ := by
  obtain ⟨nl, tok, ha, _⟩ := h.is
  subst hn
  exact at_yes ms p nl tok i m hm σ ha.1 hi
theorem pool_double_no {σ0 σ : Store} {p : Nat} {ms : List Mail} (h : PoolIs σ0 p ms σ) (i : Int) (hi : i < 0 ∨ (ms.length : Int) ≤ i) : ACall Try.prog 15 [.ptr p 0, .int .i64 i] σ fun a σ' => a = .bool false ∧ σ' = σ := by
  obtain ⟨nl, tok, ha, _⟩ := h.is
  exact double_no ms p nl tok i σ ha hi
theorem pool_double_full {σ0 σ : Store} {p : Nat} {ms : List Mail} (h : PoolIs σ0 p ms σ) (hl : ms.length = 600) (n : Int) (i : Nat) (hn : (i : Int) = n) (m : Mail) (hi : ms[i]? = some m) (hm : m.Ok) : ACall Try.prog 15 [.ptr p 0, .int .i64 n] σ fun a σ' => a = .bool false ∧ σ' = σ := by
  obtain ⟨nl, tok, ha, _⟩ := h.is
  subst hn
  exact double_full ms p nl tok i m hm σ ha hi hl
theorem pool_double {σ0 σ : Store} {p : Nat} {ms : List Mail} (h : PoolIs σ0 p ms σ) (hl : ms.length < 600) (n : Int) (i : Nat) (hn : (i : Int) = n) (m : Mail) (hi : ms[i]? = some m) (hm : m.Ok) : ACall Try.prog 15 [.ptr p 0, .int .i64 n] σ fun a σ' => a = .bool true ∧ PoolIs σ0 p (ms ++ [m]) σ' := by
  obtain ⟨nl, tok, ha, ht⟩ := h.is
  subst hn
  refine (double_yes ms p nl tok i m hm σ ha hi hl).mono ?_
  rintro a σ' ⟨rfl, g, hg, rfl⟩
  exact ⟨rfl, h.grown ht hg (by simp)⟩
theorem pool_many {σ0 σ : Store} {p : Nat} {ms : List Mail} (h : PoolIs σ0 p ms σ) : ACall Try.prog 19 [.ptr p 0] σ fun a σ' => a = .int .i64 ms.length ∧ σ' = σ := by
  obtain ⟨nl, tok, ha, _⟩ := h.is
  have := many_ _ nl tok p σ ha.1
  simpa using this

/-- One mail, told by its parts. -/
theorem Mail.open (m : Mail) : ∃ b, b = bytesA m.b ∧ m.A = .agg [.int .i64 m.g, .int .i64 m.p, .bool m.o, .slice b m.nl none] := ⟨_, rfl, rfl⟩

theorem same_ (m : Mail) (σ : Store) : ACall Try.prog 14 [m.A, m.A] σ fun a σ' => a = .bool true ∧ σ' = σ := by
  obtain ⟨b, hb, hA⟩ := m.open
  rw [hA]
  obtain ⟨g, p, o, l, nl⟩ := m
  simp only at hb ⊢
  clear hA
  refine acall_x mixed Try.func14 s14 (by simp [a14]) fun C ok ar cmp scmp cv len slen mm X => ?_
  conv => cbv
  rw [X.eql, decide_eq_true rfl]
  conv => cbv
  rw [X.eql, decide_eq_true rfl]
  conv => cbv
  cases o
  all_goals
    conv => cbv
    refine VBstr.of l hb ?_
    conv => cbv
    refine VBstr.of l hb ?_
    conv => cbv
    rw [X.seql, beq_self_eq_true]
    conv => cbv
    exact Post.of ⟨rfl, rfl⟩

/-- The letter of the head's mail. -/
def m1 : Mail := ⟨1, 0, false, [97], false⟩
theorem m1_ok : m1.Ok := ⟨by decide, fun h => by cases h⟩
theorem m1_A : m1.A = .agg [.int .i64 1, .int .i64 0, .bool false, .slice [.int .u8 97] false none] := rfl

theorem head_ (σ : Store) : ACall Try.prog 7 [] σ fun a σ' => a = .bool true ∧ σ' = σ := by
  refine acall_x mixed Try.func7 s7 (by simp [a7]) fun C ok ar cmp scmp cv len slen mm X => ?_
  generalize hQ : (fun a σ' => a = AVal.bool true ∧ σ' = σ) = Q
  conv => cbv
  refine X.call (pool_new σ) ?_
  rintro _ σ1 ⟨p, rfl, h1⟩
  conv => cbv
  refine ⟨fun t1 ht1 σ2 hσ2 => ?_⟩
  conv => cbv
  refine ⟨⟨(1, 1, 5), by rw [hσ2]; simp [Store.setOpn]⟩, fun σ3 hσ3 => ?_⟩
  have h3 : PoolIs σ p [] σ3 := by
    have hf := h1.sub.fresh ht1
    obtain ⟨nl, tok, ha, ht⟩ := h1.is
    subst hσ2 hσ3
    have hne : ∀ g, tok = some g → g ≠ t1 := by
      rintro g rfl rfl
      rcases ha.2 with ⟨_, _, h⟩ | ⟨q, hq, hq2⟩
      · cases h
      · cases hq; rw [ht1.2.1] at hq2; cases hq2
    refine ⟨sub_dropOpn (sub_setOpn h1.sub hf.2.1) fun q hq => by cases hq; exact hf.2.1, h1.fp, nl, tok, ⟨ha.1, ?_⟩, ht⟩
    rcases ha.2 with h | ⟨g, hg, hg2⟩
    · exact .inl h
    · have hq := hne g hg
      have hq' : (g == t1) = false := by simpa using hq
      refine .inr ⟨g, hg, ?_⟩
      simpa [Store.dropOpn, Store.setOpn, hq'] using hg2
  conv => cbv
  refine X.call (show ACall Try.prog 10 [.ptr p 0, m1.T none] σ3 _ from pool_post h3 (by decide) m1 m1_ok none) ?_
  rintro _ σ4 ⟨rfl, h4⟩
  conv => cbv
  refine X.call (pool_double h4 (by decide) 0 0 rfl m1 rfl m1_ok) ?_
  rintro _ σ5 ⟨rfl, h5⟩
  conv => cbv
  refine X.call (pool_double_no h5 2 (.inr (by decide))) ?_
  rintro _ σ5 ⟨rfl, rfl⟩
  conv => cbv
  refine X.call (pool_take h5 (by decide) 0 0 rfl m1 rfl m1_ok) ?_
  rintro _ σ6 ⟨rfl, h6⟩
  rw [m1_A]
  conv => cbv
  refine X.call (pool_at_no h6 1 (.inr (by decide))) ?_
  rintro _ σ6 ⟨rfl, rfl⟩
  conv => cbv
  refine VBstr.of [97] rfl ?_
  conv => cbv
  rw [X.seql, beq_self_eq_true]
  conv => cbv
  refine X.call (pool_many h6) ?_
  rintro _ σ6 ⟨rfl, rfl⟩
  conv => cbv
  rw [show cmp .eql (Int.ofNat 1) 1 = true from by rw [X.eql]; rfl]
  conv => cbv
  refine Post.dim (.bool true) σ (.refl _) h6.sub ?_
  subst hQ
  exact ⟨rfl, rfl⟩

end Go.Proofs.Ytdjnmbidbfbmiaa
