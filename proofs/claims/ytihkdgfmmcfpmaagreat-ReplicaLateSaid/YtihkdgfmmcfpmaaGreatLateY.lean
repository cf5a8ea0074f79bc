/- The run of one call: its beginning, by hand where it looks at its arguments. -/
import Derived.Test.YtihkdgfmmcfpmaaGreatLateS
namespace Go.Proofs.RepT
open Go Go.AL Go.Proofs
set_option maxRecDepth 1000000
noncomputable section

def start (x y : Nat) : Cf := .go body3 [] (argsE [U x, U y] (nat_lit 0) .lf) ⟨nat_lit 0, nat_lit 0, .lf⟩
theorem pre_run : comes Ea Na La (stepsM call4 rounds (nat_lit 20) (.go preB [] .lf ⟨nat_lit 0, nat_lit 0, .lf⟩)) = true ∧ (stepsM call4 rounds (nat_lit 20) (.go preB [] .lf ⟨nat_lit 0, nat_lit 0, .lf⟩)).at Ea Na La = .back .normal [] (envL Ea) (stL Na La) := ⟨by kernel_rfl, by kernel_rfl⟩

theorem vc_assoc {P : Program} {a b r : ACode} {K : Ex → Env → Store → Prop} {e : Env} {σ : Store} (h : vc P (.seq (.seq a b) r) K e σ) : vc P (.seq a (.seq b r)) K e σ := by
  have h : vc P a (Ex.then (vc P b (Ex.then (vc P r K) K)) (Ex.then (vc P r K) K)) e σ := h
  show vc P a (Ex.then (vc P (.seq b r) K) K) e σ
  refine vc_mono h fun x e σ hx => ?_
  cases x with
  | normal => exact hx
  | exit i => exact hx
  | ret => exact hx

theorem loop_dim {P : Program} {b : ACode} {K : Ex → Env → Store → Prop} {n : Nat} {e e2 : Env} {σ : Store} (h1 : e.Le e2) (h3 : vcL P b K (n + 1) e2 σ) : vc P (.loop b) K e σ := by
  refine ⟨fun k e σ => vcL P b K k e σ, ⟨n + 1, e2, σ, h1, .refl _, h3⟩, fun k e σ hk => ?_⟩
  cases k with
  | zero => exact hk.elim
  | succ k =>
    refine vc_mono hk fun x e σ hx => ?_
    cases x with
    | normal => exact dim_self ⟨k, Nat.lt_succ_self k, hx⟩
    | exit id => exact hx
    | ret => exact hx

theorem set_ne {e : Env} {d t : Nat} {x : Ent} (h : t ≠ d) : (e.set (some d) x) t = e t := by
  have h1 : (t == d) = false := by simpa using h
  show (bif t == d then x else e t) = e t
  rw [h1]; rfl
theorem wrapI : ∀ n < 14, IntKind.wrap .i64 (Int.ofNat n) = Int.ofNat n := by decide
theorem rem14 (x : Nat) (lit : Bool) : binV .rem .other lit (.val (U x)) (.val (U 14)) = some (U (x % 14)) := by
  have e : Int.tmod (Int.ofNat x) (Int.ofNat 14) = Int.ofNat (x % 14) := rfl
  simp only [binV, U, sameK, intV]
  simp only [e]
  simp
theorem rem3 (x : Nat) (lit : Bool) : binV .rem .other lit (.val (U x)) (.val (U 3)) = some (U (x % 3)) := by
  have e : Int.tmod (Int.ofNat x) (Int.ofNat 3) = Int.ofNat (x % 3) := rfl
  simp only [binV, U, sameK, intV]
  simp only [e]
  simp
theorem add1 (n : Nat) (hn : n < 13) (lit : Bool) : binV .add .other lit (.val (I 1)) (.val (I n)) = some (I (1 + n)) := by
  have h := wrapI (1 + n) (by omega)
  have e : (Int.ofNat 1) + (Int.ofNat n) = Int.ofNat (1 + n) := rfl
  simp only [binV, I, sameK, intV]
  simp only [e, h]
  simp

def args01 (x y : Nat) : Nat → AVal := fun t => bif t == 0 then U x else U y
def afterE (x y : Nat) (e : Env) : Env := ((((((((((up [0, 1] (args01 x y) e).set (some 26) (.val (U x))).set (some 27) (.val (U (x % 14)))).set (some 28) (.val (I (x % 14)))).set (some 8) (.val (I (x % 14)))).set (some 29) (.val (U y))).set (some 30) (.val (U (y % 3)))).set (some 31) (.val (I (y % 3)))).set (some 32) (.val (I (1 + y % 3)))).set (some 9) (.val (I (1 + y % 3)))).set (some 10) (.val (I 0))
theorem tail_vc {x y : Nat} {e : Env} {σ : Store} (h : vc Tryz.prog (.loop loopB) X' (afterE x y e) σ) : vc Tryz.prog tailB post3 (up [0, 1] (args01 x y) e) σ := by
  have h0 : up [0, 1] (args01 x y) e 0 = .val (U x) := up_on rfl
  have h1 : up [0, 1] (args01 x y) e 1 = .val (U y) := up_on rfl
  have hy : y % 3 < 13 := by have := Nat.mod_lt y (show 3 > 0 by decide); omega
  have hw := wrapI (x % 14) (Nat.mod_lt _ (by decide))
  have hw3 := wrapI (y % 3) (by omega)
  show vcOps Tryz.prog _ _ _ σ
  refine op_mv (a := U x) h0 (op_bin (a := U (x % 14)) ?_ (op_conv (kd' := .u8) (n := Int.ofNat (x % 14)) (a := I (x % 14)) (by simp [Env.set, U]) (by rw [hw]; rfl) (op_mv (a := I (x % 14)) (by simp [Env.set]) ?_)))
  · rw [opd_val (a := U x) (by simp [Env.set])]; exact rem14 x _
  show vcOps Tryz.prog _ _ _ σ
  refine op_mv (a := U y) (by simp [Env.set, h1]) (op_bin (a := U (y % 3)) ?_ (op_conv (kd' := .u8) (n := Int.ofNat (y % 3)) (a := I (y % 3)) (by simp [Env.set, U]) (by rw [hw3]; rfl) (op_bin (a := I (1 + y % 3)) ?_ (op_mv (a := I (1 + y % 3)) (by simp [Env.set]) ?_))))
  · rw [opd_val (a := U y) (by simp [Env.set])]; exact rem3 y _
  · rw [opd_val (a := I (y % 3)) (by simp [Env.set])]; exact add1 _ hy _
  show vcOps Tryz.prog _ _ _ σ
  exact op_const h

theorem a_top : eat (envL Ea) 8 = .val .top ∧ eat (envL Ea) 26 = .val .top ∧ eat (envL Ea) 27 = .val .top ∧ eat (envL Ea) 28 = .val .top ∧ eat (envL Ea) 29 = .val .top ∧ eat (envL Ea) 30 = .val .top ∧ eat (envL Ea) 31 = .val .top ∧ eat (envL Ea) 32 = .val .top := ⟨by kernel_rfl, by kernel_rfl, by kernel_rfl, by kernel_rfl, by kernel_rfl, by kernel_rfl, by kernel_rfl, by kernel_rfl⟩

theorem after_le {x y : Nat} {e : Env} {ρ : Names} (hE : EnvR ρ (envL Ea) e) (hT : Tops [0, 1] e) : (afterE x y e).Le (up [8] (fun _ => I (x % 14)) ((e.set (some 9) (.val (I (1 + y % 3)))).set (some 10) (.val (I 0)))) := by
  obtain ⟨a8, a26, a27, a28, a29, a30, a31, a32⟩ := a_top
  have tp : ∀ t, eat (envL Ea) t = .val .top → e t = .val .top := fun t ht => top_inv (by have := hE t; rw [ht] at this; exact this)
  have key : ∀ t, t ≠ 8 → t ≠ 9 → t ≠ 10 → up [8] (fun _ => I (x % 14)) ((e.set (some 9) (.val (I (1 + y % 3)))).set (some 10) (.val (I 0))) t = e t := fun t h8 h9 h10 => by
    rw [up_off (by simpa using h8)]
    rw [set_ne h10, set_ne h9]
  intro t
  by_cases h8 : t = 8
  · subst h8; right; left; rw [up_on rfl]; simp [afterE, Env.set]
  by_cases h9 : t = 9
  · subst h9; right; left; rw [up_off (by decide)]; simp [afterE, Env.set]
  by_cases h10 : t = 10
  · subst h10; right; left; rw [up_off (by decide)]; simp [afterE, Env.set]
  by_cases hd : t = 0 ∨ t = 1 ∨ t = 26 ∨ t = 27 ∨ t = 28 ∨ t = 29 ∨ t = 30 ∨ t = 31 ∨ t = 32
  · left
    rw [key t h8 h9 h10]
    rcases hd with rfl | rfl | rfl | rfl | rfl | rfl | rfl | rfl | rfl
    · exact hT 0 rfl
    · exact hT 1 rfl
    · exact tp _ a26
    · exact tp _ a27
    · exact tp _ a28
    · exact tp _ a29
    · exact tp _ a30
    · exact tp _ a31
    · exact tp _ a32
  · right; left
    rw [key t h8 h9 h10]
    have h0 : t ≠ 0 := fun h => hd (by omega)
    have h1 : t ≠ 1 := fun h => hd (by omega)
    have h26 : t ≠ 26 := fun h => hd (by omega)
    have h27 : t ≠ 27 := fun h => hd (by omega)
    have h28 : t ≠ 28 := fun h => hd (by omega)
    have h29 : t ≠ 29 := fun h => hd (by omega)
    have h30 : t ≠ 30 := fun h => hd (by omega)
    have h31 : t ≠ 31 := fun h => hd (by omega)
    have h32 : t ≠ 32 := fun h => hd (by omega)
    have hoff : [0, 1].contains t = false := by simp [h0, h1]
    unfold afterE
    rw [set_ne h10, set_ne h9, set_ne h32, set_ne h31, set_ne h30, set_ne h29, set_ne h8, set_ne h28, set_ne h27, set_ne h26, up_off hoff]

theorem put2 {ρ : Names} {env : VE} {e : Env} (h : EnvR ρ env e) (s : Nat) {x y : Ent} (hx : EntR ρ x y) : EnvR ρ (eput env s x) (e.set (some s) y) := h.set (some s) hx
theorem E0_env {ρ : Names} {e : Env} (w : Nat) (hE : EnvR ρ (envL Ea) e) : EnvR ρ (E0 w) ((e.set (some 9) (.val (I w))).set (some 10) (.val (I 0))) := by
  unfold E0
  exact put2 (put2 hE 9 (EntR.plain rfl)) 10 (EntR.plain rfl)
theorem E0_tops {ρ : Names} {e : Env} (w : Nat) (hE : EnvR ρ (envL Ea) e) : Tops [8] ((e.set (some 9) (.val (I w))).set (some 10) (.val (I 0))) := by
  intro t ht
  have ht : t = 8 := by simpa using ht
  subst ht
  rw [set_ne (by decide), set_ne (by decide)]
  exact top_inv (by have := hE 8; rw [a_top.1] at this; exact this)
theorem then_n {B : Ex → Env → Store → Prop} {C : Env → Store → Prop} {e : Env} {σ : Store} (h : C e σ) : Ex.then C B .normal e σ := h
theorem back_F {P : Program} {Q : Ex → Env → Store → Prop} {S : List Nat} {g : Nat → AVal} {env : VE} {V : VS} (h : ∀ ρ σ e, Rel Store.empty ρ V σ → EnvR ρ env e → Tops S e → Q .normal (up S g e) σ) : (Cf.back .normal [] env V).MeansF P Q S g := h
theorem seq_n {P : Program} {a b : ACode} {K : Ex → Env → Store → Prop} {e : Env} {σ : Store} (h : vc P a (Ex.then (vc P b K) K) e σ) : vc P (.seq a b) K e σ := h
theorem go_nil {P : Program} {Q : Ex → Env → Store → Prop} {c : ACode} {env : VE} {V : VS} (h : (Cf.go c [] env V).Means P Q) : ∀ ρ σ e, Rel Store.empty ρ V σ → EnvR ρ env e → vc P c Q e σ := h
theorem nil_go {P : Program} {Q : Ex → Env → Store → Prop} {c : ACode} {env : VE} {V : VS} (h : ∀ ρ σ e, Rel Store.empty ρ V σ → EnvR ρ env e → vc P c Q e σ) : (Cf.go c [] env V).Means P Q := h
theorem preB_eq : preB = .seq (.seq (.seq cA1 cA2) cA3) cA4 := rfl
theorem tail_ok {x y : Nat} (h : ∀ v, v ≤ 13 → HM (E0 (1 + y % 3)) Na La 14 [8] v) : (Cf.back .normal [] (envL Ea) (stL Na La)).MeansF Tryz.prog (Ex.then (vc Tryz.prog tailB post3) post3) [0, 1] (args01 x y) := by
  refine back_F fun ρ σ e hR hE hT => ?_
  have h4 := h (x % 14) (Nat.le_of_lt_succ (Nat.mod_lt x (by decide))) ρ σ _ hR (E0_env _ hE) (E0_tops _ hE)
  have h5 := loop_dim (n := 13) (after_le (x := x) (y := y) hE hT) h4
  exact then_n (tail_vc h5)
theorem pre_ok {x y : Nat} (h : ∀ v, v ≤ 13 → HM (E0 (1 + y % 3)) Na La 14 [8] v) : (Cf.go preB [] .lf ⟨nat_lit 0, nat_lit 0, .lf⟩).MeansF Tryz.prog (Ex.then (vc Tryz.prog tailB post3) post3) [0, 1] (args01 x y) :=
  cut_soundF call4_ok (nat_lit 20) (pre_plain _ _) (pre_off _ _) pre_run.1 pre_run.2 (tail_ok h)
theorem argsE2 (x y : Nat) : argsE [U x, U y] (nat_lit 0) .lf = eput (eput .lf 0 (.val (U x))) 1 (.val (U y)) := rfl
theorem pre_means {x y : Nat} (h : ∀ v, v ≤ 13 → HM (E0 (1 + y % 3)) Na La 14 [8] v) : (Cf.go preB [] (argsE [U x, U y] (nat_lit 0) .lf) ⟨nat_lit 0, nat_lit 0, .lf⟩).Means Tryz.prog (Ex.then (vc Tryz.prog tailB post3) post3) := by
  rw [argsE2]
  refine means_ofF (env := .lf) (fun t ht => ?_) (fun t ht => ?_) (pre_ok (x := x) h)
  · have ht : t = 0 ∨ t = 1 := by simpa using ht
    refine ⟨Tr.get_lf _ _, ?_⟩
    rcases ht with rfl | rfl
    · exact ⟨U x, by rw [eat_eput, if_neg (by decide), eat_eput, if_pos rfl], rfl, rfl⟩
    · exact ⟨U y, by rw [eat_eput, if_pos rfl], rfl, rfl⟩
  · have ht : ¬ (t = 0 ∨ t = 1) := by simpa using ht
    rw [eat_eput, if_neg (by omega), eat_eput, if_neg (by omega)]
theorem start_run (x y : Nat) (h : ∀ v, v ≤ 13 → HM (E0 (1 + y % 3)) Na La 14 [8] v) : (start x y).Means Tryz.prog post3 := by
  refine nil_go fun ρ σ e hR hE => ?_
  have key := seq_n (go_nil (pre_means (x := x) h) ρ σ e hR hE)
  rw [preB_eq] at key
  rw [body3_eq]
  exact vc_assoc (vc_assoc (vc_assoc key))
end
end Go.Proofs.RepT
