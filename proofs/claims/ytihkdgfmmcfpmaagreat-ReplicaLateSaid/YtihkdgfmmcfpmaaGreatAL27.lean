/-
  AN ABSTRACT LOGIC OVER THE MODEL, part 27: slots that a run does not write keep what they hold, whatever that is.
-/
import Derived.Test.YtihkdgfmmcfpmaaGreatAL26
namespace Go.AL
open Go.RowKit
noncomputable section
variable {P : Program} {Q : Ex → Env → Store → Prop} {call : Nat → Callee'} {n : Nat}

/-! ### An operation -/

theorem vcOp_swap {o : AOp} {d : Option Nat} {k k2 : Env → Store → Prop} {env : Env} (hk : ∀ x σ, k (env.set d x) σ → k2 (env.set d x) σ) (hb : ∀ d' cs σ, d = some d' → k (env.newBox d' cs) σ → k2 (env.newBox d' cs) σ)
    (hs : ∀ s cs x σ, (∃ c, env s = .box c) → k ((env.setBox s cs).set d x) σ → k2 ((env.setBox s cs).set d x) σ) {σ : Store} (h : vcOp P o d k env σ) : vcOp P o d k2 env σ := by
  let K : Env → Store → Prop := fun e σ => k e σ ∧ ((∃ x, e = env.set d x) ∨ (∃ d' cs, d = some d' ∧ e = env.newBox d' cs) ∨ (∃ s cs x, (∃ c, env s = .box c) ∧ e = (env.setBox s cs).set d x))
  have hK : ∀ e σ, K e σ → k2 e σ := by
    rintro e σ ⟨h1, ⟨x, rfl⟩ | ⟨d', cs, h2, rfl⟩ | ⟨s, cs, x, h2, rfl⟩⟩
    · exact hk _ _ h1
    · exact hb _ _ _ h2 h1
    · exact hs _ _ _ _ h2 h1
  refine vcOp_mono (k := K) ?_ hK
  have e1 : ∀ x σ, K (env.set d x) σ = k (env.set d x) σ := fun x σ => propext ⟨fun h => h.1, fun h => ⟨h, .inl ⟨x, rfl⟩⟩⟩
  cases o
  case box cs =>
    simp only [vcOp] at h ⊢
    split at h
    · rename_i d'; exact ⟨h, .inr (.inl ⟨d', _, rfl, rfl⟩)⟩
    · exact h.elim
  case boxv x =>
    simp only [vcOp] at h ⊢
    split at h
    · rename_i d' a _; exact ⟨h.1, h.2, .inr (.inl ⟨d', _, rfl, rfl⟩)⟩
    · exact h.elim
  case store m x v =>
    simp only [vcOp, e1] at h ⊢
    split at h
    · refine ⟨h.1, h.2.1, ?_⟩
      have h := h.2.2
      split at h
      · exact h
      · split at h
        · rename_i s o hx _ cs hcs
          exact ⟨h.1, h.2, .inr (.inr ⟨s, _, _, ⟨_, hcs⟩, rfl⟩)⟩
        · exact h.elim
      · exact h.elim
    · exact h.elim
  case dead => exact h
  all_goals first
    | (simp only [vcOp, e1] at h ⊢; exact h)
    | (simp only [vcOp, vcPure] at h ⊢; split at h <;> first | (rw [e1]; exact h) | exact h.elim)

/-! ### Slots that are not looked at -/

/-- These slots are told nothing of. -/
def Tops (S : List Nat) (e : Env) : Prop := ∀ t, S.contains t = true → e t = .val .top
/-- They hold this. -/
def up (S : List Nat) (g : Nat → AVal) (e : Env) : Env := fun t => bif S.contains t then .val (g t) else e t
variable {S : List Nat} {g : Nat → AVal}

theorem up_on {e : Env} {t : Nat} (h : S.contains t = true) : up S g e t = .val (g t) := by unfold up; rw [h]; rfl
theorem up_off {e : Env} {t : Nat} (h : S.contains t = false) : up S g e t = e t := by unfold up; rw [h]; rfl
theorem up_set {e : Env} {d : Option Nat} (hd : ∀ t, d = some t → S.contains t = false) (x : Ent) : (up S g e).set d x = up S g (e.set d x) := by
  cases d with
  | none => rfl
  | some d =>
    funext t
    show (bif t == d then x else up S g e t) = up S g (fun t => bif t == d then x else e t) t
    by_cases hS : S.contains t = true
    · rw [up_on hS, up_on hS]
      have : (t == d) = false := by
        rw [Bool.eq_false_iff]
        intro h
        have : t = d := by simpa using h
        rw [this, hd d rfl] at hS; cases hS
      rw [this]; rfl
    · rw [Bool.not_eq_true] at hS
      rw [up_off hS, up_off hS]
theorem Tops.set {e : Env} (h : Tops S e) {d : Option Nat} (hd : ∀ t, d = some t → S.contains t = false) (x : Ent) : Tops S (e.set d x) := by
  intro t ht
  cases d with
  | none => exact h t ht
  | some d =>
    have : (t == d) = false := by
      rw [Bool.eq_false_iff]
      intro hh
      have : t = d := by simpa using hh
      rw [this, hd d rfl] at ht; cases ht
    show (bif t == d then x else e t) = _
    rw [this]; exact h t ht
theorem up_newBox {e : Env} {d : Nat} (hd : S.contains d = false) (cs : List AVal) : (up S g e).newBox d cs = up S g (e.newBox d cs) := by
  funext t
  show (bif t == d then .box cs else (up S g e t).kill d) = up S g (fun t => bif t == d then .box cs else (e t).kill d) t
  by_cases hS : S.contains t = true
  · rw [up_on hS, up_on hS]
    have : (t == d) = false := by
      rw [Bool.eq_false_iff]
      intro h
      have : t = d := by simpa using h
      rw [this, hd] at hS; cases hS
    rw [this]; rfl
  · rw [Bool.not_eq_true] at hS
    rw [up_off hS, up_off hS]
theorem Tops.newBox {e : Env} (h : Tops S e) {d : Nat} (hd : S.contains d = false) (cs : List AVal) : Tops S (e.newBox d cs) := by
  intro t ht
  have : (t == d) = false := by
    rw [Bool.eq_false_iff]
    intro hh
    have : t = d := by simpa using hh
    rw [this, hd] at ht; cases ht
  show (bif t == d then .box cs else (e t).kill d) = _
  rw [this, h t ht]; rfl
theorem up_setBox {e : Env} {d : Nat} (hd : S.contains d = false) (cs : List AVal) : (up S g e).setBox d cs = up S g (e.setBox d cs) := up_set (d := some d) (fun t ht => by cases ht; exact hd) _
theorem Tops.setBox {e : Env} (h : Tops S e) {d : Nat} (hd : S.contains d = false) (cs : List AVal) : Tops S (e.setBox d cs) := h.set (d := some d) (fun t ht => by cases ht; exact hd) _
theorem Tops.off {e : Env} (h : Tops S e) {s : Nat} {cs : List AVal} (hb : e s = .box cs) : S.contains s = false := by
  rw [Bool.eq_false_iff]
  intro hs
  rw [h s hs] at hb; cases hb

/-- Their operands lie elsewhere. -/
def offO (S : List Nat) (o : AOp) : Prop := ∀ x ∈ o.opds, ∀ t, x = .tmp t → S.contains t = false
theorem up_opd {e : Env} {x : Opd} (h : ∀ t, x = .tmp t → S.contains t = false) : evalOpd (up S g e) x = evalOpd e x := by
  cases x with
  | tmp t => simp only [evalOpd, up_off (h t rfl)]
  | const c => rfl
theorem map_up {e : Env} {l : List Opd} (h : ∀ x ∈ l, evalOpd (up S g e) x = evalOpd e x) : l.map (evalOpd (up S g e)) = l.map (evalOpd e) := List.map_congr_left h

theorem pure_up (P : Program) {o : AOp} (hp : o.isPure = true) {e : Env} (h : ∀ x ∈ o.opds, evalOpd (up S g e) x = evalOpd e x) : pureV (up S g e) o = pureV e o := by
  have hr : ∀ (env : Env) (y : Ent), rel P S o env Store.empty y = (pureV env o = some y) := by
    intro env y
    cases o <;> first | rfl | exact absurd hp (by simp [AOp.isPure])
  have key : ∀ y, pureV e o = some y → pureV (up S g e) o = some y := fun y hy => by
    have := rel_local (P := P) (W := S) (σ := Store.empty) (σ' := Store.empty) o y h (.inr ⟨rfl, fun s hs => up_off hs⟩) (by rw [hr]; exact hy)
    rw [hr] at this; exact this
  have key2 : ∀ y, pureV (up S g e) o = some y → pureV e o = some y := fun y hy => by
    have := rel_local (P := P) (W := S) (σ := Store.empty) (σ' := Store.empty) (env := up S g e) (env' := e) o y (fun x hx => (h x hx).symm) (.inr ⟨rfl, fun s hs => (up_off hs).symm⟩) (by rw [hr]; exact hy)
    rw [hr] at this; exact this
  cases h1 : pureV e o with
  | some y => exact key y h1
  | none =>
    cases h2 : pureV (up S g e) o with
    | none => rfl
    | some y => rw [key2 y h2] at h1; cases h1

theorem vcOp_up {o : AOp} {d : Option Nat} {k k' : Env → Store → Prop} {e : Env} {σ : Store} (hT : Tops S e) (ho : offO S o) (hd : ∀ t, d = some t → S.contains t = false) (hk : ∀ e σ, Tops S e → k e σ → k' (up S g e) σ) (h : vcOp P o d k e σ) : vcOp P o d k' (up S g e) σ := by
  replace h := vcOp_swap (k2 := fun e σ => k' (up S g e) σ) (fun x σ hx => hk _ _ (hT.set hd x) hx) (fun d' cs σ hd' hx => hk _ _ (hT.newBox (hd _ hd') cs) hx) (fun s cs x σ hs hx => by
    obtain ⟨c, hc⟩ := hs
    exact hk _ _ ((hT.setBox (hT.off hc) cs).set hd x) hx) h
  have hev : ∀ x ∈ o.opds, evalOpd (up S g e) x = evalOpd e x := fun x hx => up_opd (ho x hx)
  by_cases hp : o.isPure = true
  · rw [vcOp_pure _ _ _ _ _ _ hp] at h ⊢
    rw [pure_up P hp hev]
    cases hq : pureV e o with
    | none => rw [hq] at h; exact h.elim
    | some y => rw [hq] at h; show k' ((up S g e).set d y) σ; rw [up_set hd]; exact h
  have hset : ∀ x, (up S g e).set d x = up S g (e.set d x) := up_set hd
  cases o <;> first | exact absurd rfl hp | skip
  case box cs =>
    simp only [vcOp] at h ⊢
    split at h
    · rename_i d'; simp only [up_newBox (hd _ rfl)]; exact h
    · exact h.elim
  case boxv x =>
    simp only [vcOp, hev x (by simp [AOp.opds])] at h ⊢
    split at h
    · rename_i d' a hx; simp only [up_newBox (hd _ rfl)]; exact h
    · exact h.elim
  case store m x v =>
    simp only [vcOp, hev x (by simp [AOp.opds]), hev v (by simp [AOp.opds]), hset] at h ⊢
    split at h
    · refine ⟨h.1, h.2.1, ?_⟩
      have h := h.2.2
      split at h
      · exact h
      · split at h
        · rename_i s o _ _ cs hcs
          have hs := hT.off hcs
          rw [up_off hs, hcs]
          simp only [up_setBox hs, up_set hd]
          exact h
        · exact h.elim
      · exact h.elim
    · exact h.elim
  case load agg m x =>
    simp only [vcOp, hev x (by simp [AOp.opds]), hset] at h ⊢
    generalize evalOpd e x = ex at h ⊢
    cases ex with
    | box c => exact h
    | val v => cases v <;> exact h
    | lptr s off =>
      simp only [] at h ⊢
      split at h
      · rename_i cs hcs
        rw [up_off (hT.off hcs), hcs]; exact h
      · exact h.elim
  case bslice own sz et n z ps => simp only [vcOp, setAll_congr (sz := sz) (xs := List.replicate n z) (f := evalOpd (up S g e)) (g := evalOpd e) (l := ps) hev, hset] at h ⊢; exact h
  case mslice sz et n z ps => simp only [vcOp, setAll_congr (sz := sz) (xs := List.replicate n z) (f := evalOpd (up S g e)) (g := evalOpd e) (l := ps) hev, hset] at h ⊢; exact h
  case call f as => simp only [vcOp, map_up (g := g) (e := e) (l := as) (fun x hx => hev x (by simp [AOp.opds, hx])), hset] at h ⊢; exact h
  case callv f as => simp only [vcOp, hev f (by simp [AOp.opds]), map_up (g := g) (e := e) (l := as) (fun x hx => hev x (by simp [AOp.opds, hx])), hset] at h ⊢; exact h
  case inv tbl f as => simp only [vcOp, hev f (by simp [AOp.opds]), map_up (g := g) (e := e) (l := as) (fun x hx => hev x (by simp [AOp.opds, hx])), hset] at h ⊢; exact h
  case cut sz x lo hi =>
    have h1 : ∀ d K, bound (up S g e) d lo K = bound e d lo K := fun d K => bound_congr fun y hy => hev y (by simp [AOp.opds] at hy ⊢; simp [hy])
    have h2 : ∀ d K, bound (up S g e) d hi K = bound e d hi K := fun d K => bound_congr fun y hy => hev y (by simp [AOp.opds] at hy ⊢; simp [hy])
    simp only [vcOp, hev x (by simp [AOp.opds]), h1, h2, hset] at h ⊢; exact h
  case cutStr x lo hi =>
    have h1 : ∀ d K, bound (up S g e) d lo K = bound e d lo K := fun d K => bound_congr fun y hy => hev y (by simp [AOp.opds] at hy ⊢; simp [hy])
    have h2 : ∀ d K, bound (up S g e) d hi K = bound e d hi K := fun d K => bound_congr fun y hy => hev y (by simp [AOp.opds] at hy ⊢; simp [hy])
    simp only [vcOp, hev x (by simp [AOp.opds]), h1, h2, hset] at h ⊢; exact h
  case cut3 sz x lo hi mx =>
    have h1 : ∀ d K, bound (up S g e) d lo K = bound e d lo K := fun d K => bound_congr fun y hy => hev y (by simp [AOp.opds] at hy ⊢; simp [hy])
    have h2 : ∀ d K, bound (up S g e) d (some hi) K = bound e d (some hi) K := fun d K => bound_congr fun y hy => hev y (by simp [AOp.opds] at hy ⊢; simp [hy])
    have h3 : ∀ d K, bound (up S g e) d (some mx) K = bound e d (some mx) K := fun d K => bound_congr fun y hy => hev y (by simp [AOp.opds] at hy ⊢; simp [hy])
    simp only [vcOp, hev x (by simp [AOp.opds]), h1, h2, h3, hset] at h ⊢; exact h
  case dead => exact h
  case mmap => simp only [vcOp, hset] at h ⊢; exact h
  case obj cs => simp only [vcOp, hset] at h ⊢; exact h
  case pick c a b => simp only [vcOp, hev c (by simp [AOp.opds]), hev a (by simp [AOp.opds]), hev b (by simp [AOp.opds]), hset] at h ⊢; exact h
  case mset kk x i v => simp only [vcOp, hev x (by simp [AOp.opds]), hev i (by simp [AOp.opds]), hev v (by simp [AOp.opds]), hset] at h ⊢; exact h
  case append sz q b x y => simp only [vcOp, hev x (by simp [AOp.opds]), hev y (by simp [AOp.opds]), hset] at h ⊢; exact h
  case appendM sz q b x y => simp only [vcOp, hev x (by simp [AOp.opds]), hev y (by simp [AOp.opds]), hset] at h ⊢; exact h
  case appendZ sz q b x y => simp only [vcOp, hev x (by simp [AOp.opds]), hev y (by simp [AOp.opds]), hset] at h ⊢; exact h
  case iaddr sz x y => simp only [vcOp, hev x (by simp [AOp.opds]), hev y (by simp [AOp.opds]), hset] at h ⊢; exact h
  case istr x y => simp only [vcOp, hev x (by simp [AOp.opds]), hev y (by simp [AOp.opds]), hset] at h ⊢; exact h
  case mget kk z ok x y => simp only [vcOp, hev x (by simp [AOp.opds]), hev y (by simp [AOp.opds]), hset] at h ⊢; exact h
  case mdel kk x y => simp only [vcOp, hev x (by simp [AOp.opds]), hev y (by simp [AOp.opds]), hset] at h ⊢; exact h
  case objv x => simp only [vcOp, hev x (by simp [AOp.opds]), hset] at h ⊢; exact h
  case bytesStr x => simp only [vcOp, hev x (by simp [AOp.opds]), hset] at h ⊢; exact h
  case strBytes q x => simp only [vcOp, hev x (by simp [AOp.opds]), hset] at h ⊢; exact h
  case mark x => simp only [vcOp, hev x (by simp [AOp.opds]), hset] at h ⊢; exact h
  case cap x => simp only [vcOp, hev x (by simp [AOp.opds]), hset] at h ⊢; exact h
  case mlen x => simp only [vcOp, hev x (by simp [AOp.opds]), hset] at h ⊢; exact h
  case range x => simp only [vcOp, hev x (by simp [AOp.opds]), hset] at h ⊢; exact h
  case next x => simp only [vcOp, hev x (by simp [AOp.opds]), hset] at h ⊢; exact h
  case entry x => simp only [vcOp, hev x (by simp [AOp.opds]), hset] at h ⊢; exact h
  case clearS sz z x => simp only [vcOp, hev x (by simp [AOp.opds]), hset] at h ⊢; exact h
  case clearM x => simp only [vcOp, hev x (by simp [AOp.opds]), hset] at h ⊢; exact h

theorem vcOpD_up {W : List Nat} {o : AOp} {d : Option Nat} {k k' : Env → Store → Prop} {e : Env} {σ : Store} (hT : Tops S e) (ho : offO S o) (hd : ∀ t, d = some t → S.contains t = false) (hk : ∀ e σ, Tops S e → k e σ → k' (up S g e) σ) (h : vcOpD P W o d k e σ) : vcOpD P W o d k' (up S g e) σ := by
  have hev : ∀ x ∈ o.opds, evalOpd (up S g e) x = evalOpd e x := fun x hx => up_opd (ho x hx)
  have hk1 : ∀ x σ, k (e.set d x) σ → k' ((up S g e).set d x) σ := fun x σ h => by rw [up_set hd]; exact hk _ _ (hT.set hd x) h
  cases o
  case load agg m x =>
    simp only [vcOpD, hev x (by simp [AOp.opds])] at h ⊢
    generalize evalOpd e x = ex at h ⊢
    cases ex with
    | box c => exact h
    | val v =>
      cases v <;> first | exact h.elim | skip
      · obtain ⟨cs, h1, h2, h3⟩ := h; exact ⟨cs, h1, h2, hk1 _ _ h3⟩
      · exact ⟨h.1, hk1 _ _ h.2⟩
    | lptr s off =>
      simp only [] at h ⊢
      refine ⟨h.1, ?_⟩
      replace h := h.2
      split at h
      · rename_i cs hcs
        rw [up_off (hT.off hcs), hcs]; exact ⟨h.1, hk1 _ _ h.2⟩
      · exact h.elim
  case call f as =>
    simp only [vcOpD, map_up (g := g) (e := e) (l := as) (fun x hx => hev x (by simp [AOp.opds, hx]))] at h ⊢
    split at h
    · obtain ⟨c, h1, h2⟩ := h; exact ⟨c, h1, hk1 _ _ h2⟩
    · exact h.elim
  case callv f as =>
    simp only [vcOpD, hev f (by simp [AOp.opds]), map_up (g := g) (e := e) (l := as) (fun x hx => hev x (by simp [AOp.opds, hx]))] at h ⊢
    split at h
    · obtain ⟨h0, c, h1, h2⟩ := h; exact ⟨h0, c, h1, hk1 _ _ h2⟩
    · exact h.elim
  case inv tbl x as =>
    simp only [vcOpD, hev x (by simp [AOp.opds]), map_up (g := g) (e := e) (l := as) (fun x hx => hev x (by simp [AOp.opds, hx]))] at h ⊢
    split at h
    · obtain ⟨f, h0, c, h1, h2⟩ := h; exact ⟨f, h0, c, h1, hk1 _ _ h2⟩
    · exact h.elim
  case cut sz x lo hi =>
    have h1 : ∀ d K, bound (up S g e) d lo K = bound e d lo K := fun d K => bound_congr fun y hy => hev y (by simp [AOp.opds] at hy ⊢; simp [hy])
    have h2 : ∀ d K, bound (up S g e) d hi K = bound e d hi K := fun d K => bound_congr fun y hy => hev y (by simp [AOp.opds] at hy ⊢; simp [hy])
    simp only [vcOpD, hev x (by simp [AOp.opds]), h1, h2] at h ⊢
    generalize evalOpd e x = ex at h ⊢
    split at h
    · exact ⟨h.1, bound_mono (fun n h => ⟨h.1, bound_mono (fun m h => ⟨h.1, hk1 _ _ h.2⟩) h.2⟩) h.2⟩
    · exact bound_mono (fun n h => ⟨h.1, bound_mono (fun m h => ⟨h.1, hk1 _ _ h.2⟩) h.2⟩) h
    · exact h.elim
  all_goals (simp only [vcOpD] at h ⊢; exact vcOp_up hT ho hd hk h)

/-- An operation that touches none of these slots. -/
def AOper.offB (S : List Nat) (o : AOper) : Bool := (o.slots ++ o.dst.toList).all fun t => !S.contains t
theorem offB_inv {o : AOper} (h : o.offB S = true) : offO S o.op ∧ (∀ t, o.dst = some t → S.contains t = false) ∧ (∀ j w, o.guard = some (j, w) → S.contains j = false) := by
  unfold AOper.offB at h
  rw [List.all_eq_true] at h
  have h : ∀ t ∈ o.slots ++ o.dst.toList, S.contains t = false := fun t ht => by simpa using h t ht
  refine ⟨fun x hx t ht => h t ?_, fun t ht => h t ?_, fun j w hj => h j ?_⟩
  · subst ht
    simp only [AOper.slots, List.mem_append, List.mem_filterMap]
    exact .inl (.inr ⟨_, hx, rfl⟩)
  · rw [ht]; simp
  · simp only [AOper.slots, hj, List.mem_append]
    exact .inl (.inl (by simp))

theorem vcOper_up {o : AOper} {k k' : Env → Store → Prop} {e : Env} {σ : Store} (hT : Tops S e) (ho : o.offB S = true) (hk : ∀ e σ, Tops S e → k e σ → k' (up S g e) σ) (h : vcOper P o k e σ) : vcOper P o k' (up S g e) σ := by
  obtain ⟨h1, h2, h3⟩ := offB_inv ho
  unfold vcOper at h ⊢
  split at h
  · exact vcOp_up hT h1 h2 hk h
  · rename_i j w hj
    have hj := h3 _ _ hj
    have hd : ∀ t, some j = some t → S.contains t = false := fun t ht => by cases ht; exact hj
    rw [up_off hj]
    split at h
    · refine ⟨fun ht => ?_, fun ht => ?_⟩
      · rw [up_set hd]; exact vcOp_up (hT.set hd _) h1 h2 hk (h.1 ht)
      · rw [up_set hd, up_set h2]; exact hk _ _ ((hT.set hd _).set h2 _) (h.2 ht)
    · rw [up_set h2]; exact hk _ _ (hT.set h2 _) h
    · exact h.elim
theorem vcOperD_up {W : List Nat} {o : AOper} {k k' : Env → Store → Prop} {e : Env} {σ : Store} (hT : Tops S e) (ho : o.offB S = true) (hk : ∀ e σ, Tops S e → k e σ → k' (up S g e) σ) (h : vcOperD P W o k e σ) : vcOperD P W o k' (up S g e) σ := by
  obtain ⟨h1, h2, h3⟩ := offB_inv ho
  unfold vcOperD at h ⊢
  split at h
  · exact vcOpD_up hT h1 h2 hk h
  · rename_i j w hj
    have hj := h3 _ _ hj
    have hd : ∀ t, some j = some t → S.contains t = false := fun t ht => by cases ht; exact hj
    rw [up_off hj]
    split at h
    · refine ⟨fun ht => ?_, fun ht => ?_⟩
      · rw [up_set hd]; exact vcOpD_up (hT.set hd _) h1 h2 hk (h.1 ht)
      · rw [up_set hd, up_set h2]; exact hk _ _ ((hT.set hd _).set h2 _) (h.2 ht)
    · rw [up_set h2]; exact hk _ _ (hT.set h2 _) h
    · exact h.elim

theorem vcOps_up {k k' : Env → Store → Prop} (hk : ∀ e σ, Tops S e → k e σ → k' (up S g e) σ) : ∀ {l : List AOper} {e : Env} {σ : Store}, Tops S e → (l.all fun o => o.offB S) = true → vcOps P l k e σ → vcOps P l k' (up S g e) σ
  | [], _, _, hT, _, h => hk _ _ hT h
  | o :: l, e, σ, hT, ho, h => by
    simp only [List.all_cons, Bool.and_eq_true] at ho
    exact vcOper_up (k := vcOps P l k) hT ho.1 (fun e σ hT h => vcOps_up hk hT ho.2 h) h

theorem vcD_up {W : List Nat} {k k' : Env → Store → Prop} (hk : ∀ e σ, Tops S e → k e σ → k' (up S g e) σ) : ∀ {l : List (Nat × AOper)} {e : Env} {σ : Store}, Tops S e → (l.all fun o => o.2.offB S) = true → vcD P W l k e σ → vcD P W l k' (up S g e) σ
  | [], _, _, hT, _, h => hk _ _ hT h
  | (κ, o) :: l, e, σ, hT, ho, h => by
    simp only [List.all_cons, Bool.and_eq_true] at ho
    have ih : ∀ e σ, Tops S e → vcD P W l k e σ → vcD P W l k' (up S g e) σ := fun e σ hT h => vcD_up hk hT ho.2 h
    obtain ⟨h1, h2, h3⟩ := offB_inv ho.1
    have hev : ∀ x ∈ o.op.opds, evalOpd (up S g e) x = evalOpd e x := fun x hx => up_opd (h1 x hx)
    have e1 : stOk W (up S g e) o.op = stOk W e o.op := by
      cases o with | mk d gd op => cases op <;> first | rfl | (rename_i m x v; simp only [stOk, hev x (by simp [AOp.opds])])
    have e2 : stBox (up S g e) o.op = stBox e o.op := by
      cases o with | mk d gd op => cases op <;> first | rfl | (rename_i m x v; simp only [stBox, hev x (by simp [AOp.opds])])
    have e3 : ldBox (up S g e) o.op = ldBox e o.op := by
      cases o with | mk d gd op => cases op <;> first | rfl | (rename_i m q x; simp only [ldBox, hev x (by simp [AOp.opds])])
    have e4 : ldBoxG (up S g e) o = ldBoxG e o := by
      unfold ldBoxG
      split
      · exact e3
      · rename_i j w hj
        rw [e3, up_off (h3 _ _ hj)]
    simp only [vcD, e1, e2, e4] at h ⊢
    by_cases h2 : κ = 2
    · rw [if_pos h2] at h ⊢; exact ⟨h.1, vcOper_up hT ho.1 ih h.2⟩
    rw [if_neg h2] at h ⊢
    by_cases h3 : κ = 3
    · rw [if_pos h3] at h ⊢; exact vcOper_up hT ho.1 ih h
    rw [if_neg h3] at h ⊢
    by_cases h4 : κ = 4
    · rw [if_pos h4] at h ⊢; exact ⟨h.1, h.2.1, vcOper_up hT ho.1 ih h.2.2⟩
    rw [if_neg h4] at h ⊢
    by_cases h5 : κ = 5
    · rw [if_pos h5] at h ⊢; exact ⟨h.1, vcOperD_up hT ho.1 ih h.2⟩
    rw [if_neg h5] at h ⊢
    exact vcOperD_up hT ho.1 ih h

theorem forget_up {e : Env} {ops : List (Nat × AOper)} (hT : Tops S e) : Tops S (e.forget ops) ∧ (up S g e).forget ops = up S g (e.forget ops) := by
  unfold Env.forget
  split
  · exact ⟨hT, rfl⟩
  · rename_i B _
    refine ⟨fun t ht => ?_, funext fun t => ?_⟩
    · unfold Env.killAll; rw [hT t ht]
    · by_cases hS : S.contains t = true
      · rw [up_on hS]; unfold Env.killAll; rw [up_on hS]
      · rw [Bool.not_eq_true] at hS
        rw [up_off hS]; unfold Env.killAll; rw [up_off hS]

/-! ### A run, some slots aside -/

def ACode.offB (S : List Nat) : ACode → Bool
  | .skip => true
  | .region ops => ops.all fun o => o.offB S
  | .drawn _ ops => ops.all fun o => o.2.offB S
  | .seq a b => a.offB S && b.offB S
  | .cond c a b => (match c with
    | .tmp t => !S.contains t
    | .const _ => true) && (a.offB S && b.offB S)
  | .block _ b => b.offB S
  | .loop b => b.offB S
  | .exit _ => true
  | .ret => true
def offK (S : List Nat) : List Fr → Bool
  | [] => true
  | .seq b :: K => b.offB S && offK S K
  | .loop b _ :: K => b.offB S && offK S K
  | .block _ :: K => offK S K
def Cf.offB (S : List Nat) : Cf → Bool
  | .go c K _ _ => c.offB S && offK S K
  | .back _ K _ _ => offK S K
  | .bad => true
/-- What it means, if those slots hold this. -/
def Cf.MeansF (P : Program) (Q : Ex → Env → Store → Prop) (S : List Nat) (g : Nat → AVal) : Cf → Prop
  | .go c K env V => ∀ ρ σ e, Rel Store.empty ρ V σ → EnvR ρ env e → Tops S e → vc P c (onK P Q K) (up S g e) σ
  | .back x K env V => ∀ ρ σ e, Rel Store.empty ρ V σ → EnvR ρ env e → Tops S e → onK P Q K x (up S g e) σ
  | .bad => True

def ACode.leaf : ACode → Bool
  | .skip | .region _ | .drawn _ _ | .exit _ | .ret => true
  | _ => false
theorem vc_up {K K' : Ex → Env → Store → Prop} {c : ACode} (hl : c.leaf = true) (ho : c.offB S = true) {e : Env} {σ : Store} (hT : Tops S e) (hk : ∀ x e σ, Tops S e → K x e σ → K' x (up S g e) σ) (h : vc P c K e σ) : vc P c K' (up S g e) σ := by
  cases c <;> cases hl
  · exact hk _ _ _ hT h
  · exact vcOps_up (fun e σ hT h => hk _ _ _ hT h) hT ho h
  · obtain ⟨h1, h2⟩ := forget_up (S := S) (g := g) (ops := by assumption) hT
    unfold vc at h ⊢
    rw [h2]
    exact vcD_up (fun e σ hT h => hk _ _ _ hT h) h1 ho h
  · exact hk _ _ _ hT h
  · exact hk _ _ _ hT h

theorem leaf_soundF (hc : ∀ f, CallOk P f (call f)) {c : ACode} (hl : c.leaf = true) (hp : c.plainB = true) (ho : c.offB S = true) {K : List Fr} {env : VE} {V : VS} (hb : leafR K (codeR c call n none env V) ≠ .bad) (h : (leafR K (codeR c call n none env V)).MeansF P Q S g) : (Cf.go c K env V).MeansF P Q S g := by
  intro ρ σ e hR hE hT
  cases hr : codeR c call n none env V with
  | bad => rw [hr] at hb; exact absurd rfl hb
  | done x env1 V1 =>
    rw [hr] at h
    refine vc_up hl ho hT ?_ ((code_ok hc n c hp).1 _ _ _ _ _ hr Store.empty ρ σ e hR hE)
    rintro y e2 σ2 hT2 ⟨rfl, ρ2, _, _, h3, h4⟩
    exact h ρ2 σ2 e2 h3 h4 hT2

theorem step_soundF (hc : ∀ f, CallOk P f (call f)) : ∀ {c : Cf}, c.plainB = true → c.offB S = true → stepM call n c ≠ .bad → (stepM call n c).MeansF P Q S g → c.MeansF P Q S g
  | .bad, _, _, hb, _ => absurd rfl hb
  | .go c K env V, hp, ho, hb, h => by
    simp only [Cf.plainB, Bool.and_eq_true] at hp
    simp only [Cf.offB, Bool.and_eq_true] at ho
    cases c with
    | seq a b => exact fun ρ σ e hR hE hT => h ρ σ e hR hE hT
    | block id b => exact fun ρ σ e hR hE hT => h ρ σ e hR hE hT
    | loop b =>
      intro ρ σ e hR hE hT
      exact vcL_loop (m := n + 1) (h ρ σ e hR hE hT)
    | cond c a b =>
      intro ρ σ e hR hE hT
      have hb : condM a b K env V (eo c env) ≠ .bad := hb
      have h : (condM a b K env V (eo c env)).MeansF P Q S g := h
      have hp1 := hp.1
      have ho1 := ho.1
      simp only [ACode.plainB, Bool.and_eq_true] at hp1
      simp only [ACode.offB, Bool.and_eq_true] at ho1
      have hev : evalOpd (up S g e) c = evalOpd e c := up_opd fun t ht => by
        subst ht; simpa using ho1.1
      have hx := eo_rep hE hp1.1
      cases he : eo c env with
      | box cs => rw [he] at hb; exact absurd rfl hb
      | lptr s o => rw [he] at hb; exact absurd rfl hb
      | val v =>
        rw [he] at h hb hx
        cases v <;> first | exact absurd rfl hb | skip
        rename_i t
        have h : (bif t then Cf.go a K env V else .go b K env V).MeansF P Q S g := h
        obtain ⟨v, k1, k2⟩ := hx.val_inv; simp only [VR] at k1; subst k1
        unfold vc
        simp only [hev, k2]
        cases t with
        | true => exact ⟨fun _ => h ρ σ e hR hE hT, fun hh => (by cases hh)⟩
        | false => exact ⟨fun hh => (by cases hh), fun _ => h ρ σ e hR hE hT⟩
    | skip => exact leaf_soundF (n := n) hc rfl hp.1 ho.1 hb h
    | region ops => exact leaf_soundF (n := n) hc rfl hp.1 ho.1 hb h
    | drawn W ops => exact leaf_soundF (n := n) hc rfl hp.1 ho.1 hb h
    | exit id => exact leaf_soundF (n := n) hc rfl hp.1 ho.1 hb h
    | ret => exact leaf_soundF (n := n) hc rfl hp.1 ho.1 hb h
  | .back x K env V, hp, ho, hb, h => by
    intro ρ σ e hR hE hT
    cases K with
    | nil => exact h ρ σ e hR hE hT
    | cons f K =>
      cases f with
      | seq b =>
        cases x with
        | normal => exact h ρ σ e hR hE hT
        | exit i => exact h ρ σ e hR hE hT
        | ret => exact h ρ σ e hR hE hT
      | block id =>
        cases x with
        | normal => exact h ρ σ e hR hE hT
        | exit i =>
          have h : (bif Nat.beq i id then Cf.back .normal K env V else .back (.exit i) K env V).MeansF P Q S g := h
          show (bif i == id then onK P Q K .normal else onK P Q K (.exit i)) (up S g e) σ
          rw [beq_eq] at h
          by_cases hi : i = id
          · rw [decide_eq_true hi] at h
            have : (i == id) = true := by simpa using hi
            rw [this]; exact h ρ σ e hR hE hT
          · rw [decide_eq_false hi] at h
            have : (i == id) = false := by simpa using hi
            rw [this]; exact h ρ σ e hR hE hT
        | ret => exact h ρ σ e hR hE hT
      | loop b m =>
        cases x with
        | normal =>
          cases m with
          | zero => exact absurd rfl hb
          | succ m => exact h ρ σ e hR hE hT
        | exit i => cases m <;> exact h ρ σ e hR hE hT
        | ret => cases m <;> exact h ρ σ e hR hE hT

theorem step_off {c : Cf} (h : c.offB S = true) : (stepM call n c).offB S = true := by
  cases c with
  | bad => rfl
  | go c K env V =>
    simp only [Cf.offB, Bool.and_eq_true] at h
    have leaf : ∀ r : ER, (leafR K r).offB S = true := by
      intro r
      cases r with
      | bad => rfl
      | done x e v => exact h.2
    cases c with
    | seq a b =>
      have h1 := h.1
      simp only [ACode.offB, Bool.and_eq_true] at h1
      show (Cf.go a (.seq b :: K) env V).offB S = true
      simp only [Cf.offB, offK, Bool.and_eq_true]
      exact ⟨h1.1, h1.2, h.2⟩
    | block id b =>
      show (Cf.go b (.block id :: K) env V).offB S = true
      simp only [Cf.offB, offK, Bool.and_eq_true]
      exact ⟨h.1, h.2⟩
    | loop b =>
      show (Cf.go b (.loop b n :: K) env V).offB S = true
      simp only [Cf.offB, offK, Bool.and_eq_true]
      exact ⟨h.1, h.1, h.2⟩
    | cond c a b =>
      have h1 := h.1
      simp only [ACode.offB, Bool.and_eq_true] at h1
      show (condM a b K env V (eo c env)).offB S = true
      unfold condM
      split
      · rename_i t _
        cases t
        · show (Cf.go b K env V).offB S = true
          simp only [Cf.offB, Bool.and_eq_true]; exact ⟨h1.2.2, h.2⟩
        · show (Cf.go a K env V).offB S = true
          simp only [Cf.offB, Bool.and_eq_true]; exact ⟨h1.2.1, h.2⟩
      · rfl
    | skip => exact leaf (codeR .skip call n none env V)
    | region ops => exact leaf (codeR (.region ops) call n none env V)
    | drawn W ops => exact leaf (codeR (.drawn W ops) call n none env V)
    | exit id => exact leaf (codeR (.exit id) call n none env V)
    | ret => exact leaf (codeR .ret call n none env V)
  | back x K env V =>
    cases K with
    | nil => exact h
    | cons f K =>
      cases f with
      | seq b =>
        simp only [Cf.offB, offK, Bool.and_eq_true] at h
        cases x with
        | normal =>
          show (Cf.go b K env V).offB S = true
          simp only [Cf.offB, Bool.and_eq_true]; exact h
        | exit i => exact h.2
        | ret => exact h.2
      | block id =>
        simp only [Cf.offB, offK] at h
        cases x with
        | normal => exact h
        | exit i =>
          show (bif Nat.beq i id then Cf.back .normal K env V else .back (.exit i) K env V).offB S = true
          cases Nat.beq i id
          · exact h
          · exact h
        | ret => exact h
      | loop b m =>
        simp only [Cf.offB, offK, Bool.and_eq_true] at h
        cases x with
        | normal =>
          cases m with
          | zero => rfl
          | succ m =>
            show (Cf.go b (.loop b m :: K) env V).offB S = true
            simp only [Cf.offB, offK, Bool.and_eq_true]; exact ⟨h.1, h.1, h.2⟩
        | exit i => cases m <;> exact h.2
        | ret => cases m <;> exact h.2

theorem steps_soundF (hc : ∀ f, CallOk P f (call f)) : ∀ (k : Nat) {c : Cf}, c.plainB = true → c.offB S = true → stepsM call n k c ≠ .bad → (stepsM call n k c).MeansF P Q S g → c.MeansF P Q S g
  | 0, c, _, _, _, h => h
  | k + 1, c, hp, ho, hb, h => by
    have hb : stepsM call n k (stepM call n c) ≠ .bad := hb
    have h : (stepsM call n k (stepM call n c)).MeansF P Q S g := h
    have h1 := steps_soundF hc k (step_plain hp) (step_off ho) hb h
    refine step_soundF hc hp ho (fun hh => ?_) h1
    rw [hh, steps_bad] at hb; exact hb rfl

theorem comes_soundF {E : List (Nat × Ent)} {N : Nat} {L : List (Nat × VObj)} {c : Cf} (h : comes E N L c = true) (k : (c.at E N L).MeansF P Q S g) : c.MeansF P Q S g := by
  cases c with
  | bad => cases h
  | go c K env V =>
    have h : (sameT (envL E) env && (Nat.ble V.n N && allO V L)) = true := h
    simp only [Bool.and_eq_true, ble_eq, decide_eq_true_eq] at h
    intro ρ σ e hR hE hT
    exact k ρ σ e (hR.less (V' := stL N L) (Nat.zero_le _) h.2.1 (allO_true h.2.2)) (env_same (fun t => sameT_true h.1 _) hE) hT
  | back x K env V =>
    have h : (sameT (envL E) env && (Nat.ble V.n N && allO V L)) = true := h
    simp only [Bool.and_eq_true, ble_eq, decide_eq_true_eq] at h
    intro ρ σ e hR hE hT
    exact k ρ σ e (hR.less (V' := stL N L) (Nat.zero_le _) h.2.1 (allO_true h.2.2)) (env_same (fun t => sameT_true h.1 _) hE) hT
/-- A part of a run, some slots aside: k steps, and the state is as told. -/
theorem cut_soundF (hc : ∀ f, CallOk P f (call f)) (k : Nat) {c c2 : Cf} (hp : c.plainB = true) (ho : c.offB S = true) {E : List (Nat × Ent)} {N : Nat} {L : List (Nat × VObj)} (h : comes E N L (stepsM call n k c) = true) (h2 : (stepsM call n k c).at E N L = c2) (k2 : c2.MeansF P Q S g) : c.MeansF P Q S g := by
  subst h2
  refine steps_soundF hc k hp ho (fun hh => ?_) (comes_soundF h k2)
  rw [hh] at h; cases h

/-! ### Slots told, and put aside -/

theorem up_up {e : Env} (h : ∀ t, S.contains t = true → e t = .val (g t)) : up S g (fun t => bif S.contains t then .val .top else e t) = e := by
  funext t
  by_cases hS : S.contains t = true
  · rw [up_on hS, h t hS]
  · rw [Bool.not_eq_true] at hS
    rw [up_off hS]; simp only [hS, cond_false]
/-- What is told of them is put aside. -/
theorem means_ofF {c : ACode} {K : List Fr} {env env2 : VE} {V : VS} (h1 : ∀ t, S.contains t = true → eat env t = .val .top ∧ ∃ a : AVal, eat env2 t = .val a ∧ a.plain = true ∧ a = g t) (h2 : ∀ t, S.contains t = false → eat env2 t = eat env t) (h : (Cf.go c K env V).MeansF P Q S g) : (Cf.go c K env2 V).Means P Q := by
  intro ρ σ e hR hE
  have := h ρ σ (fun t => bif S.contains t then .val .top else e t) hR (fun t => ?_) (fun t ht => by simp only [ht, cond_true])
  · rw [up_up] at this
    · exact this
    · intro t ht
      obtain ⟨_, a, h3, h4, h5⟩ := h1 t ht
      have hx := hE t
      rw [h3] at hx
      obtain ⟨v, k1, k2⟩ := hx.val_inv
      rw [k2, ← h5, k1.prim h4]
  · by_cases hS : S.contains t = true
    · simp only [hS, cond_true]
      rw [(h1 t hS).1]
      exact EntR.top
    · rw [Bool.not_eq_true] at hS
      simp only [hS, cond_false]
      rw [← h2 t hS]; exact hE t
/-- And told again. -/
theorem means_toF {c : ACode} {K : List Fr} {env env2 : VE} {V : VS} (h1 : ∀ t, S.contains t = true → eat env2 t = .val (g t) ∧ (g t).plain = true) (h2 : ∀ t, S.contains t = false → eat env2 t = eat env t) (h : (Cf.go c K env2 V).Means P Q) : (Cf.go c K env V).MeansF P Q S g := by
  intro ρ σ e hR hE hT
  refine h ρ σ (up S g e) hR fun t => ?_
  by_cases hS : S.contains t = true
  · rw [up_on hS, (h1 t hS).1]
    exact EntR.plain (h1 t hS).2
  · rw [Bool.not_eq_true] at hS
    rw [up_off hS, h2 t hS]; exact hE t
end
end Go.AL
