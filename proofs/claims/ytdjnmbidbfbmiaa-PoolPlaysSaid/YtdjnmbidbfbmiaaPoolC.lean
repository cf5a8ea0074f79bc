import Derived.Test.YtdjnmbidbfbmiaaPoolS
namespace Go.Proofs.Ytdjnmbidbfbmiaa
open Go.AL
set_option maxRecDepth 100000

theorem mixed : Try.prog.follows .mixedOrders = true := by kernel_rfl

theorem clone_ (b : List UInt8) (nl : Bool) (tok : Option Nat) (σ : Store) (hb : b.length ≤ 140737488351232) (hnl : nl = true → b = []) :
    ACall Try.prog 22 [.slice (bytesA b) nl tok] σ fun a σ' => (a = .slice (bytesA b) nl none ∧ σ' = σ) := by
  refine acall_dim mixed Try.func22 s22 (by simp [a22]) ?_
  simp [a22]
  refine ⟨fun h => ?_, fun h g hg => ⟨.inr ⟨g, rfl, by simp [Store.setOpn]⟩, elemsOk_bytes _, by rw [bytesA_length]; simp only [maxLen]; omega, by rw [bytesA_length]; omega, fun a σ' hr => ?_⟩⟩
  · obtain rfl := hnl h
    subst h
    exact .of ⟨rfl, rfl⟩
  · subst h
    obtain ⟨h1, h2⟩ := appRes_dim (τ := σ) hr (sub_setOpn (.refl _) hg.2.1) (fun q hq => by cases hq; exact hg.2.1)
    exact ⟨_, _, .refl _, .refl _, rfl, _, _, h1, h2, by simp⟩

structure Mail where
  g : Int
  p : Int
  o : Bool
  b : List UInt8
  nl : Bool
def Mail.A (m : Mail) : AVal := .agg [.int .i64 m.g, .int .i64 m.p, .bool m.o, .slice (bytesA m.b) m.nl none]
def Mail.Ok (m : Mail) : Prop := m.b.length ≤ 140737488351232 ∧ (m.nl = true → m.b = [])

theorem copied_ (m : Mail) (hm : m.Ok) (tok : Option Nat) (σ : Store) :
    ACall Try.prog 20 [.agg [.int .i64 m.g, .int .i64 m.p, .bool m.o, .slice (bytesA m.b) m.nl tok]] σ fun a σ' => (a = m.A ∧ σ' = σ) := by
  refine acall_of mixed Try.func20 s20 (by simp [a20]) ?_
  simp [a20]
  refine (clone_ m.b m.nl tok σ hm.1 hm.2).mono ?_
  rintro a σ' ⟨rfl, rfl⟩
  simp [Mail.A]

theorem many_ (l : List AVal) (nl : Bool) (tok : Option Nat) (p : Nat) (σ : Store) (h : σ.obj p = some [.slice l nl tok]) :
    ACall Try.prog 19 [.ptr p 0] σ fun a σ' => (a = .int .i64 l.length ∧ σ' = σ) := by
  refine acall_of mixed Try.func19 s19 (by simp [a19]) ?_
  simp [a19, h]

def Mail.T (m : Mail) (t : Option Nat) : AVal := .agg [.int .i64 m.g, .int .i64 m.p, .bool m.o, .slice (bytesA m.b) m.nl t]

theorem elemsOk_mails (ms : List Mail) : ElemsOk 4 (ms.map Mail.A) := elemsOk_map ms fun _ => ⟨rfl, rfl⟩

@[simp] theorem Mail.A_len (m : Mail) : m.A.cells.length = 4 := rfl
theorem Mail.A_one_ (m : Mail) : ∀ x ∈ m.A.cells, x.one = true := by simp [Mail.A]
@[simp] theorem Mail.A_one (m : Mail) : (∀ x ∈ m.A.cells, x.one = true) ↔ True := ⟨fun _ => trivial, fun _ => m.A_one_⟩
@[simp] theorem Mail.A_take (m : Mail) : List.take 4 m.A.cells = m.A.cells := rfl
@[simp] theorem Mail.A_agg (m : Mail) : AVal.agg m.A.cells = m.A := rfl

/-- Both pools are one shape: an object of one cell, a list of mails that may grow. -/
def PoolAt (σ : Store) (p : Nat) (ms : List Mail) (nl : Bool) (tok : Option Nat) : Prop := σ.obj p = some [.slice (ms.map Mail.A) nl tok] ∧ grows σ (ms.map Mail.A) nl tok 4 33

theorem post_no (ms : List Mail) (p : Nat) (nl : Bool) (tok t : Option Nat) (m : Mail) (σ : Store) (h : PoolAt σ p ms nl tok) (hl : ms.length = 600) :
    ACall Try.prog 10 [.ptr p 0, m.T t] σ fun a σ' => (a = .bool false ∧ σ' = σ) := by
  refine acall_of mixed Try.func10 s10 (by simp [a10]) ?_
  simp [a10, h.1, hl, Mail.T]

theorem post_yes (ms : List Mail) (p : Nat) (nl : Bool) (tok t : Option Nat) (m : Mail) (hm : m.Ok) (σ : Store) (h : PoolAt σ p ms nl tok) (hl : ms.length < 600) :
    ACall Try.prog 10 [.ptr p 0, m.T t] σ fun a σ' => (a = .bool true ∧ ∃ g, (tok = some g ∨ σ.fresh g) ∧
      σ' = ((σ.dropOpn tok).setOpn g (ms.length + 1, 4, 33)).setObj p [.slice ((ms ++ [m]).map Mail.A) false (some g)]) := by
  have hne : ¬ (ms.length : Int) = 600 := by omega
  refine acall_of mixed Try.func10 s10 (by simp [a10]) ?_
  simp [a10, h.1, hne, Mail.T]
  refine ⟨m.A, copied_ m hm t σ, ?_⟩
  simp
  refine ⟨h.2, fun y hy => by simp at hy; subst hy; exact ⟨rfl, rfl⟩, by simp only [maxLen]; omega, by omega, fun a σ' hr => ?_⟩
  rcases hr with ⟨h0, _⟩ | ⟨_, g, rfl, rfl, hg⟩
  · simp at h0
  · have ho : ((σ.dropOpn tok).setOpn g (ms.length + 1, 4, 33)).obj p = some [.slice (ms.map Mail.A) nl tok] := h.1
    refine .of ?_
    simp [ho]
    exact ⟨g, hg, rfl⟩

theorem new_ (σ : Store) : ACall Try.prog 8 [] σ fun a σ' => ∃ b, σ.fresh b ∧ a = .ptr b 0 ∧ σ' = σ.setObj b [.slice [] true none] := by
  refine acall_of mixed Try.func8 s8 (by simp [a8]) ?_
  simp [a8]
  exact fun b hb => ⟨b, hb, rfl, rfl⟩

/-- No mail at all. -/
def zeroMail : AVal := .agg [.int .i64 0, .int .i64 0, .bool false, .slice [] true none]

theorem at_no (l : List AVal) (p : Nat) (nl : Bool) (tok : Option Nat) (i : Int) (σ : Store) (h : σ.obj p = some [.slice l nl tok]) (hi : i < 0 ∨ (l.length : Int) ≤ i) :
    ACall Try.prog 17 [.ptr p 0, .int .i64 i] σ fun a σ' => (a = .tuple [zeroMail, .bool false] ∧ σ' = σ) := by
  refine acall_of mixed Try.func17 s17 (by simp [a17]) ?_
  simp [a17, h, zeroMail]
  omega

theorem at_yes (ms : List Mail) (p : Nat) (nl : Bool) (tok : Option Nat) (i : Nat) (m : Mail) (hm : m.Ok) (σ : Store) (h : σ.obj p = some [.slice (ms.map Mail.A) nl tok]) (hi : ms[i]? = some m) :
    ACall Try.prog 17 [.ptr p 0, .int .i64 i] σ fun a σ' => (a = .tuple [m.A, .bool true] ∧ σ' = σ) := by
  have hlt : i < ms.length := (List.getElem?_eq_some_iff.1 hi).1
  have h1 : ¬ ((i : Int) < 0) := by omega
  have h2 : ¬ ((ms.length : Int) ≤ (i : Int)) := by omega
  refine acall_of mixed Try.func17 s17 (by simp [a17]) ?_
  simp [a17, h, hi, h1, h2]
  refine (copied_ m hm none σ).mono ?_
  rintro a σ' ⟨rfl, rfl⟩
  simp

end Go.Proofs.Ytdjnmbidbfbmiaa
