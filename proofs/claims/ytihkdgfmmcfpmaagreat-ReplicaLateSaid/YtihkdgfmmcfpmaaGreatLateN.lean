/- The run of one call: the loop's head by hand, its rounds by the machine. -/
import Derived.Test.YtihkdgfmmcfpmaaGreatLateM
namespace Go.Proofs.RepT
open Go Go.AL Go.Proofs
set_option maxRecDepth 1000000
noncomputable section

/-! ### Short words for states -/

def p (n : Nat) : AVal := .ptr n (nat_lit 0)
def m (n : Nat) : AVal := .map (some n)
def A (l : List AVal) : AVal := .agg l
def S (t : Nat) (l : List AVal) : AVal := .slice l false (some t)
def J (l : List AVal) : AVal := .slice l false none
def byte (n k : Nat) : Nat := Nat.mod (Nat.div n k) (nat_lit 256)
def w8 (n : Nat) (r : List AVal) : List AVal := U (byte n (nat_lit 72057594037927936)) :: U (byte n (nat_lit 281474976710656)) :: U (byte n (nat_lit 1099511627776)) :: U (byte n (nat_lit 4294967296)) :: U (byte n (nat_lit 16777216)) :: U (byte n (nat_lit 65536)) :: U (byte n (nat_lit 256)) :: U (byte n (nat_lit 1)) :: r
def wl (l : List Nat) (r : List AVal) : List AVal := @List.rec Nat (fun _ => List AVal) r (fun n _ ih => w8 n ih) l
def ul (l : List Nat) : List AVal := @List.rec Nat (fun _ => List AVal) [] (fun n _ ih => U n :: ih) l
def W (l : List Nat) : AVal := .slice (wl l []) false none
def Wt (l r : List Nat) : AVal := .slice (wl l (ul r)) false none
def V (t : Nat) (l : List Nat) : AVal := .slice (wl l []) false (some t)
def Vt (t : Nat) (l r : List Nat) : AVal := .slice (wl l (ul r)) false (some t)
def b8 (n : Nat) (r : List UInt8) : List UInt8 := UInt8.ofNat (byte n (nat_lit 72057594037927936)) :: UInt8.ofNat (byte n (nat_lit 281474976710656)) :: UInt8.ofNat (byte n (nat_lit 1099511627776)) :: UInt8.ofNat (byte n (nat_lit 4294967296)) :: UInt8.ofNat (byte n (nat_lit 16777216)) :: UInt8.ofNat (byte n (nat_lit 65536)) :: UInt8.ofNat (byte n (nat_lit 256)) :: UInt8.ofNat (byte n (nat_lit 1)) :: r
def bl (l : List Nat) (r : List UInt8) : List UInt8 := @List.rec Nat (fun _ => List UInt8) r (fun n _ ih => b8 n ih) l
def tl (l : List Nat) : List UInt8 := @List.rec Nat (fun _ => List UInt8) [] (fun n _ ih => UInt8.ofNat n :: ih) l
def Q (l : List Nat) : AVal := .str (bl l [])
def Qt (l r : List Nat) : AVal := .str (bl l (tl r))

/-! ### The code's parts -/

def post3 : Ex → Env → Store → Prop := retPost c3.res fun b _ => b = .bool true
def loopB : ACode := sub body3 [true, true, true, true, true, true, false, true, false, false]
def restB : ACode := sub body3 [true, true, true, true, true, true, false, true, false, false, true]
def endB : ACode := sub body3 [true, true, true, true, true, true, true]
def cA1 : ACode := sub body3 [false]
def cA2 : ACode := sub body3 [true, false]
def cA3 : ACode := sub body3 [true, true, false]
def cA4 : ACode := sub body3 [true, true, true, false]
def preB : ACode := .seq (.seq (.seq cA1 cA2) cA3) cA4
def cN1 : ACode := .region [⟨some 26, none, .mv (.tmp 0)⟩, ⟨some 27, none, .bin .rem .other (.tmp 26) (.const (U 14))⟩, ⟨some 28, none, .convInt .i64 (.tmp 27)⟩, ⟨some 8, none, .mv (.tmp 28)⟩]
def cN2 : ACode := .region [⟨some 29, none, .mv (.tmp 1)⟩, ⟨some 30, none, .bin .rem .other (.tmp 29) (.const (U 3))⟩, ⟨some 31, none, .convInt .i64 (.tmp 30)⟩, ⟨some 32, none, .bin .add .other (.const (I 1)) (.tmp 31)⟩, ⟨some 9, none, .mv (.tmp 32)⟩]
def cN3 : ACode := .region [⟨some 10, none, .mv (.const (I 0))⟩]
def tailB : ACode := .seq cN1 (.seq cN2 (.seq (.seq cN3 (.block 0 (.loop loopB))) endB))
theorem body3_eq : body3 = .seq cA1 (.seq cA2 (.seq cA3 (.seq cA4 tailB))) := by kernel_rfl
theorem loopB_eq : loopB = .seq (.seq (.region [⟨some 33, none, .mv (.tmp 10)⟩, ⟨some 34, none, .mv (.tmp 8)⟩, ⟨some 35, none, .bin .lss .other (.tmp 33) (.tmp 34)⟩]) (.cond (.tmp 35) .skip (.exit 0))) restB := by kernel_rfl
theorem rest_plain (env : VE) (V : VS) : (Cf.go restB [] env V).plainB = true := by kernel_rfl
theorem rest_off (env : VE) (V : VS) : (Cf.go restB [] env V).offB [8, 34] = true := by kernel_rfl
theorem end_plain (env : VE) (V : VS) : (Cf.go endB [] env V).plainB = true := by kernel_rfl
theorem pre_plain (env : VE) (V : VS) : (Cf.go preB [] env V).plainB = true := by kernel_rfl
theorem pre_off (env : VE) (V : VS) : (Cf.go preB [] env V).offB [0, 1] = true := by kernel_rfl
def X' : Ex → Env → Store → Prop := onK Tryz.prog post3 [.block 0, .seq endB]

/-! ### The loop's head -/

theorem lss_nat (i v : Nat) (lit : Bool) : binV .lss .other lit (.val (I i)) (.val (I v)) = some (.bool (decide (i < v))) := by
  simp [binV, intV, I, sameK]
variable {P : Program} {os : List AOper} {k : Env → Store → Prop} {K : Ex → Env → Store → Prop} {e : Env} {σ : Store} {d s : Nat} {a : AVal}
theorem op_mv (h : e s = .val a) (hk : vcOps P os k (e.set (some d) (.val a)) σ) : vcOps P (⟨some d, none, .mv (.tmp s)⟩ :: os) k e σ := by
  simp only [vcOps, vcOper, vcOp, vcPure, pureV, evalOpd, h]; exact hk
theorem op_const (hk : vcOps P os k (e.set (some d) (.val a)) σ) : vcOps P (⟨some d, none, .mv (.const a)⟩ :: os) k e σ := by
  simp only [vcOps, vcOper, vcOp, vcPure, pureV, evalOpd]; exact hk
theorem op_bin {op : BinOp} {q : EqK} {x y : Opd} (h : binV op q (nilConst x || nilConst y) (evalOpd e x) (evalOpd e y) = some a) (hk : vcOps P os k (e.set (some d) (.val a)) σ) : vcOps P (⟨some d, none, .bin op q x y⟩ :: os) k e σ := by
  simp only [vcOps, vcOper, vcOp, vcPure, pureV, h]; exact hk
theorem op_conv {kd kd' : IntKind} {n : Int} (h : e s = .val (.int kd' n)) (ha : a = .int kd (kd.wrap n)) (hk : vcOps P os k (e.set (some d) (.val a)) σ) : vcOps P (⟨some d, none, .convInt kd (.tmp s)⟩ :: os) k e σ := by
  subst ha
  simp only [vcOps, vcOper, vcOp, vcPure, pureV, evalOpd, h]; exact hk
theorem opd_val (h : e s = .val a) : evalOpd e (.tmp s) = .val a := by simp only [evalOpd, h]
theorem head_vc {i v : Nat} (h10 : e 10 = .val (I i)) (h8 : e 8 = .val (I v))
    (hl : i < v → vc Tryz.prog restB K (((e.set (some 33) (.val (I i))).set (some 34) (.val (I v))).set (some 35) (.val (.bool true))) σ)
    (hg : ¬ i < v → K (.exit 0) (((e.set (some 33) (.val (I i))).set (some 34) (.val (I v))).set (some 35) (.val (.bool false))) σ) : vc Tryz.prog loopB K e σ := by
  rw [loopB_eq]
  show vcOps Tryz.prog _ _ e σ
  refine op_mv h10 (op_mv (a := I v) (by simp [Env.set, h8]) (op_bin (a := .bool (decide (i < v))) ?_ ?_))
  · rw [opd_val (a := I i) (by simp [Env.set]), opd_val (a := I v) (by simp [Env.set])]
    exact lss_nat i v _
  · simp only [vcOps, Ex.then, vc, opd_val (e := (((e.set (some 33) (.val (I i))).set (some 34) (.val (I v))).set (some 35) (.val (.bool (decide (i < v)))))) (s := 35) (a := .bool (decide (i < v))) (by simp [Env.set])]
    refine ⟨fun ht => ?_, fun ht => ?_⟩
    · rw [ht]; exact hl (of_decide_eq_true ht)
    · rw [ht]; exact hg (of_decide_eq_false ht)

/-! ### Where the head is reached -/

/-- At the loop's head, so many rounds left at most. -/
def HM (E : VE) (N : Nat) (L : List (Nat × VObj)) (n : Nat) (T : List Nat) (v : Nat) : Prop := ∀ ρ σ e, Rel Store.empty ρ (stL N L) σ → EnvR ρ E e → Tops T e → vcL Tryz.prog loopB X' n (up T (fun _ => I v) e) σ
def inE (E : VE) (i : Nat) : VE := eput (eput E 33 (.val (I i))) 35 (.val (.bool true))
def outE (E : VE) (i : Nat) : VE := eput (eput (eput (eput E 33 (.val (I i))) 35 (.val (.bool false))) 8 (.val (I i))) 34 (.val (I i))
/-- A round. -/
abbrev RR (E : VE) (N : Nat) (L : List (Nat × VObj)) (i k : Nat) (E' : List (Nat × Ent)) (N' : Nat) (L' : List (Nat × VObj)) : Prop :=
  comes E' N' L' (stepsM call4 rounds k (.go restB [] (inE E i) (stL N L))) = true ∧ (stepsM call4 rounds k (.go restB [] (inE E i) (stL N L))).at E' N' L' = .back .normal [] (envL E') (stL N' L')
/-- What the head looks at. -/
abbrev HH (E : VE) (i : Nat) : Prop := eat E 10 = .val (I i) ∧ eat E 34 = .val .top
/-- The end. -/
abbrev EE (E : VE) (N : Nat) (L : List (Nat × VObj)) (i k : Nat) : Prop := Go.AL.endsIn c3 (.bool true) (stepsM call4 rounds k (.go endB [] (outE E i) (stL N L))) = true

theorem top_inv {ρ : Names} {x : Ent} (h : EntR ρ (.val .top) x) : x = .val .top := by
  obtain ⟨a, h1, h2⟩ := h.val_inv
  simp only [VR] at h1
  rw [h2, h1]
theorem two {t : Nat} : [8, 34].contains t = true ↔ t = 8 ∨ t = 34 := by simp
theorem round_step {E : VE} {N : Nat} {L : List (Nat × VObj)} {i k : Nat} {E' : List (Nat × Ent)} {N' : Nat} {L' : List (Nat × VObj)} {n v : Nat} {T : List Nat} (h8 : T.contains 8 = true) (hT : ∀ t, T.contains t = true → t = 8 ∨ t = 34)
    (hh : HH E i) (hr : i < v → RR E N L i k E' N' L' ∧ HM (envL E') N' L' n [8, 34] v) (he : ¬ i < v → i = v ∧ (Cf.go endB [] (outE E i) (stL N L)).Means Tryz.prog post3) : HM E N L (n + 1) T v := by
  intro ρ σ e hR hE hTe
  have h10 : e 10 = .val (I i) := by
    have := hE 10
    rw [hh.1] at this
    obtain ⟨a, h1, h2⟩ := this.val_inv
    rw [h2, h1.prim rfl]
  have h34 : e 34 = .val .top := top_inv (by have := hE 34; rw [hh.2] at this; exact this)
  have hn8 : T.contains 10 = false := by
    rw [Bool.eq_false_iff]; intro h; have := hT 10 h; omega
  show vc Tryz.prog loopB (Ex.then (vcL Tryz.prog loopB X' n) X') (up T (fun _ => I v) e) σ
  have hup : ∀ b : Bool, (((up T (fun _ => I v) e).set (some 33) (.val (I i))).set (some 34) (.val (I v))).set (some 35) (.val (.bool b)) = up [8, 34] (fun _ => I v) (fun t => bif t == 8 then .val .top else ((e.set (some 33) (.val (I i))).set (some 35) (.val (.bool b))) t) := by
    intro b
    funext t
    by_cases h1 : t = 8
    · subst h1
      rw [up_on (two.2 (.inl rfl))]
      have : ((((up T (fun _ => I v) e).set (some 33) (.val (I i))).set (some 34) (.val (I v))).set (some 35) (.val (.bool b))) 8 = up T (fun _ => I v) e 8 := by simp [Env.set]
      rw [this, up_on h8]
    · by_cases h2 : t = 34
      · subst h2
        rw [up_on (two.2 (.inr rfl))]
        rfl
      · have h3 : [8, 34].contains t = false := by rw [Bool.eq_false_iff]; intro h; rcases two.1 h with h | h <;> contradiction
        have h4 : T.contains t = false := by rw [Bool.eq_false_iff]; intro h; rcases hT t h with h | h <;> contradiction
        rw [up_off h3]
        have e1 : (t == 8) = false := by simpa using h1
        have e2 : (t == 34) = false := by simpa using h2
        simp only [Env.set, e1, e2, cond_false, up_off h4]
  have hE1 : ∀ b : Bool, EnvR ρ (eput (eput E 33 (.val (I i))) 35 (.val (.bool b))) ((e.set (some 33) (.val (I i))).set (some 35) (.val (.bool b))) := fun b => (hE.set (some 33) (EntR.plain rfl)).set (some 35) (EntR.plain rfl)
  have hE8 : e 8 = .val .top := hTe 8 h8
  have same8 : ∀ b : Bool, (fun t => bif t == 8 then Ent.val .top else ((e.set (some 33) (.val (I i))).set (some 35) (.val (.bool b))) t) = (e.set (some 33) (.val (I i))).set (some 35) (.val (.bool b)) := by
    intro b
    funext t
    by_cases h1 : t = 8
    · subst h1; exact hE8.symm
    · have e1 : (t == 8) = false := by simpa using h1
      simp only [e1, cond_false]
  refine head_vc (i := i) (v := v) ((up_off hn8).trans h10) (up_on h8) (fun hlt => ?_) (fun hge => ?_)
  · rw [hup, same8]
    obtain ⟨⟨r1, r2⟩, hm⟩ := hr hlt
    have hgo : (Cf.go restB [] (inE E i) (stL N L)).MeansF Tryz.prog (Ex.then (vcL Tryz.prog loopB X' n) X') [8, 34] (fun _ => I v) :=
      cut_soundF call4_ok k (rest_plain _ _) (rest_off _ _) r1 r2 (fun ρ σ e hR hE hT => hm ρ σ e hR hE hT)
    refine hgo ρ σ _ hR (hE1 true) (fun t ht => ?_)
    rcases two.1 ht with rfl | rfl
    · exact hE8
    · exact h34
  · rw [hup, same8]
    obtain ⟨hiv, hm⟩ := he hge
    subst hiv
    show vc Tryz.prog endB post3 _ σ
    refine hm ρ σ _ hR fun t => ?_
    unfold outE
    rw [eat_eput, eat_eput]
    by_cases h2 : 34 = t
    · subst h2
      rw [if_pos rfl, up_on (two.2 (.inr rfl))]; exact EntR.plain rfl
    · rw [if_neg h2]
      by_cases h1 : 8 = t
      · subst h1
        rw [if_pos rfl, up_on (two.2 (.inl rfl))]; exact EntR.plain rfl
      · rw [if_neg h1, up_off (by rw [Bool.eq_false_iff]; intro h; rcases two.1 h with h | h <;> exact absurd h.symm (by assumption))]
        exact hE1 false t
theorem end_means {E : VE} {N : Nat} {L : List (Nat × VObj)} {i k : Nat} (h : EE E N L i k) : (Cf.go endB [] (outE E i) (stL N L)).Means Tryz.prog post3 := by
  refine steps_sound call4_ok k (end_plain _ _) (fun hh => ?_) (ends_sound h)
  unfold EE at h
  rw [hh] at h; cases h
/-- From the head with i orders done on: all that have at least i. -/
theorem chain {E : VE} {N : Nat} {L : List (Nat × VObj)} {i k k2 : Nat} {E' : List (Nat × Ent)} {N' : Nat} {L' : List (Nat × VObj)} {n : Nat} {T : List Nat} (h8 : T.contains 8 = true) (hT : ∀ t, T.contains t = true → t = 8 ∨ t = 34)
    (hh : HH E i) (hr : RR E N L i k E' N' L') (he : EE E N L i k2) (hn : ∀ v, i + 1 ≤ v → v ≤ 13 → HM (envL E') N' L' n [8, 34] v) : ∀ v, i ≤ v → v ≤ 13 → HM E N L (n + 1) T v :=
  fun v h1 h2 => round_step h8 hT hh (fun hlt => ⟨hr, hn v hlt h2⟩) (fun hge => ⟨by omega, end_means he⟩)
theorem chain_end {E : VE} {N : Nat} {L : List (Nat × VObj)} {k2 : Nat} (hh : HH E 13) (he : EE E N L 13 k2) : ∀ v, 13 ≤ v → v ≤ 13 → HM E N L 1 [8, 34] v :=
  fun v h1 h2 => round_step (k := 0) (E' := []) (N' := 0) (L' := []) rfl (fun _ h => two.1 h) hh (fun hlt => by omega) (fun hge => ⟨by omega, end_means he⟩)
end
end Go.Proofs.RepT
