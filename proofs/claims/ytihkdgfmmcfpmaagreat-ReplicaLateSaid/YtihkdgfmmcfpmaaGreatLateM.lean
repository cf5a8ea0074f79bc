/- Calls that name nothing are reckoned once; what is told. -/
import Derived.Test.YtihkdgfmmcfpmaaGreatLateT
import Derived.Test.YtihkdgfmmcfpmaaGreatAL27
namespace Go.Proofs.RepT
open Go Go.AL Go.Proofs
set_option maxRecDepth 1000000
noncomputable section
def deep : Nat := nat_lit 60
def memoAt (T : FT) (f : Nat) : FE := .told (memoF (callN T deep f))
def tab0 : FT := tab
def tab1 : FT := Tr.set .none (Tr.set .none tab0 (nat_lit 183) (memoAt tab0 (nat_lit 183))) (nat_lit 111) (memoAt tab0 (nat_lit 111))
def tab2 : FT := Tr.set .none tab1 (nat_lit 112) (memoAt tab1 (nat_lit 112))
def tab3 : FT := Tr.set .none (Tr.set .none tab2 (nat_lit 188) (memoAt tab2 (nat_lit 188))) (nat_lit 68) (memoAt tab2 (nat_lit 68))
theorem mixed : Tryz.prog.follows .mixedOrders = true := by kernel_rfl
theorem tOk_set {P : Program} {T : FT} (h : TOk P T) {f : Nat} {e : FE} (he : FOk P f e) : TOk P (Tr.set .none T f e) := by
  intro g
  rw [Tr.get_set]
  by_cases hfg : f = g
  · subst hfg; rw [if_pos rfl]; exact he
  · rw [if_neg hfg]; exact h g
theorem memoAt_ok {T : FT} (h : TOk Tryz.prog T) (f : Nat) : FOk Tryz.prog f (memoAt T f) := memoF_ok (callN_sound mixed h deep f)
theorem tab0Ok : TOk Tryz.prog tab0 := tabOk
theorem tab1Ok : TOk Tryz.prog tab1 := tOk_set (tOk_set tab0Ok (memoAt_ok tab0Ok _)) (memoAt_ok tab0Ok _)
theorem tab2Ok : TOk Tryz.prog tab2 := tOk_set tab1Ok (memoAt_ok tab1Ok _)
theorem tab3Ok : TOk Tryz.prog tab3 := tOk_set (tOk_set tab2Ok (memoAt_ok tab2Ok _)) (memoAt_ok tab2Ok _)

/-! ### What each statement asks first -/

def isTrue : FR → Bool
  | .got (.bool true) _ => true
  | _ => false
theorem head_true : isTrue (callN tab3 deep (nat_lit 5) [] ⟨nat_lit 0, nat_lit 0, .lf⟩) = true := by kernel_rfl
def headE : Callee' := fun l V => match l with
  | [] => .got (.bool true) V
  | _ => .fail
theorem headE_ok : CallOk Tryz.prog 5 headE := by
  intro xs V a V' h
  unfold headE at h
  split at h
  case h_2 => cases h
  cases h
  have hc := callN_sound mixed tab3Ok deep 5
  cases hx : callN tab3 deep 5 [] ⟨0, 0, .lf⟩ with
  | fail => have ht := head_true; rw [show callN tab3 deep (nat_lit 5) [] ⟨nat_lit 0, nat_lit 0, .lf⟩ = .fail from hx] at ht; cases ht
  | got b W =>
    have ht := head_true
    rw [show callN tab3 deep (nat_lit 5) [] ⟨nat_lit 0, nat_lit 0, .lf⟩ = .got b W from hx] at ht
    have hb : b = .bool true := by
      unfold isTrue at ht
      split at ht
      · rename_i heq; cases heq; rfl
      · cases ht
    subst hb
    refine ⟨(hc _ _ _ _ hx).1, fun R ρ σ bs hR hv => ?_⟩
    rw [hv.nil_inv]
    refine (hc.plain hx .nil rfl σ).mono ?_
    rintro c τ ⟨rfl, rfl⟩
    exact ⟨ρ, .refl _, .refl _, hR, VR.of_plain _ rfl⟩
def tab4 : FT := Tr.set .none tab3 (nat_lit 5) (.told headE)
theorem tab4Ok : TOk Tryz.prog tab4 := tOk_set tab3Ok headE_ok
def call4 : Nat → Callee' := callN tab4 deep
theorem call4_ok : ∀ f, CallOk Tryz.prog f (call4 f) := callN_sound mixed tab4Ok deep

/-- A part of a piece of code. -/
def sub : ACode → List Bool → ACode
  | c, [] => c
  | .seq a b, p :: l => sub (bif p then b else a) l
  | .cond _ a b, p :: l => sub (bif p then b else a) l
  | .block _ b, _ :: l => sub b l
  | .loop b, _ :: l => sub b l
  | c, _ :: _ => c
def body3 : ACode := c3.body
end
end Go.Proofs.RepT
