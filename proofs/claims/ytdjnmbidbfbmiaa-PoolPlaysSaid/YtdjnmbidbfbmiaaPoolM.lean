import Derived.Test.YtdjnmbidbfbmiaaPoolL
namespace Go.Proofs.Ytdjnmbidbfbmiaa
open Go.AL
set_option maxRecDepth 100000

theorem take_one_of {cs : List AVal} {i : Nat} {v : AVal} (h : cs[i]? = some v) : (cs.drop i).take 1 = [v] := by
  have hlt : i < cs.length := (List.getElem?_eq_some_iff.1 h).1
  rw [List.drop_eq_getElem_cons hlt]
  have : cs[i] = v := by rw [List.getElem?_eq_getElem hlt] at h; simpa using h
  simp [this]
theorem flat_ones : ∀ {ys : List AVal}, (∀ y ∈ ys, y.one = true) → ys.flatMap AVal.cells = ys
  | [], _ => rfl
  | y :: ys, h => by rw [List.flatMap_cons, AVal.one_cells (h y List.mem_cons_self), flat_ones fun z hz => h z (List.mem_cons_of_mem _ hz)]; rfl

theorem cell8 {cs : List AVal} {nb q : Nat} {z2 : Int} (hle : nb ≤ cs.length) (hq : q < nb) (h : ∀ i, i < nb → ∃ z : Int, cs[i]? = some (.int .u8 z)) : ∀ i, i < nb → ∃ z : Int, (splice cs q [.int .u8 z2])[i]? = some (.int .u8 z) := by
  intro i hi
  have hs : q + [AVal.int .u8 z2].length ≤ cs.length := by simp; omega

  have hg := splice_get cs q [.int .u8 z2] hs i
  by_cases hiq : q ≤ i ∧ i < q + [AVal.int .u8 z2].length
  · have : i = q := by simp at hiq; omega
    subst this
    refine ⟨z2, ?_⟩
    unfold splice
    rw [List.append_assoc, List.getElem?_append_right (by simp; omega)]
    simp [Nat.min_eq_left (Nat.le_of_lt (Nat.lt_of_lt_of_le hq hle))]
  · obtain ⟨z, hz⟩ := h i hi
    refine ⟨z, ?_⟩
    rw [hg, if_neg hiq]; exact hz

set_option maxHeartbeats 2000000 in
theorem plays_ (os : List OpV) (hos : ∀ o ∈ os, o.m.Ok) (xs : List AVal) (hx : xs = os.map OpV.A) (hl : xs.length ≤ 70368744177664) (nl : Bool) (σ : Store) : ACall Try.prog 3 [.slice xs nl none] σ fun a _ => a = .bool true := by
  refine acall_x mixed Try.func3 s3 (by simp [a3]) fun C ok ar cmp scmp cv len slen mm X => ?_
  generalize hQ : (fun (a : AVal) (_ : Store) => a = AVal.bool true) = Q
  have hend : ∀ τ, Post Q (.bool true) τ := fun τ => Post.of (by subst hQ; rfl)
  clear hQ
  have hxl : xs.length = os.length := by rw [hx]; simp
  conv => cbv
  refine X.call (head_ σ) ?_
  rintro _ σ1 ⟨rfl, rfl⟩
  conv => cbv
  refine X.call (pool_new _) ?_
  rintro _ σ2 ⟨p, rfl, h2⟩
  conv => cbv
  refine ⟨fun d hd σ3 hσ3 => ?_⟩
  have h3 : PoolIs σ2 d [] σ3 := by
    subst hσ3
    exact ⟨sub_setObj (.refl _) hd.1, hd, true, none, ⟨by simp [Store.setObj], .inl ⟨rfl, rfl, rfl⟩⟩, fun q hq => by cases hq⟩
  clear hσ3 hd
  conv => cbv
  refine X.call (great_ os xs hx hl nl σ3) ?_
  rintro _ σ4 ⟨⟨t, rfl⟩, rfl⟩
  cases t
  case true => conv => cbv
               exact hend _
  conv => cbv
  refine VLoop.of (S := Int × Nat) (fun s => os.length - s.2) (fun s τ => (s.2 : Int) = s.1 ∧ s.2 ≤ os.length ∧ ∃ (β : Store) (ms : List Mail), PoolIs σ1 p ms β ∧ PoolIs β d (ms.map Mail.full) τ ∧ ms.length ≤ 600 ∧ ∀ m ∈ ms, m.Ok)
    (fun s => [(0, .val (.slice xs nl none)), (3, .val (.bool true)), (4, .val (.ptr p 0)), (5, .val (.ptr d 0)), (6, .val (.int .i64 s.1))]) (0, 0) σ4 ⟨rfl, rfl, rfl, rfl, rfl, trivial⟩ (.refl _)
    ⟨rfl, by simp, σ2, [], h2, h3, by simp, fun m hm => by cases hm⟩ ?_
  clear h2 h3
  rintro ⟨n, k⟩ τ ⟨hn, hk, β, ms, hP, hD, hML, hMO⟩
  simp only at hn hk
  conv => cbv
  cases hc : cmp .lss n (len xs)
  case false =>
    conv => cbv
    exact hend _
  have hlt : k < os.length := by
    rw [X.lss, X.len_, hxl] at hc
    have := of_decide_eq_true hc
    omega
  clear hc
  obtain ⟨o, ho⟩ : ∃ o, os[k]? = some o := ⟨_, List.getElem?_eq_getElem hlt⟩
  have hget : xs[k]? = some o.A := by rw [hx]; simp [ho]
  have hmo := hos o (List.mem_of_getElem? ho)
  obtain ⟨w0, t0, m⟩ := o
  simp only at hmo
  have w : ar .add .i64 n 1 = (k + 1 : Nat) := X.add (by omega)
  have hMo1 : ∀ x ∈ ms ++ [m.full], x.Ok := fun x hx => (List.mem_append.1 hx).elim (hMO x) fun h => by rw [List.mem_singleton.1 h]; exact Mail.full_ok hmo
  -- what the calls want, told at any store
  have hA : (OpV.mk w0 t0 m).A = .agg [.int .i64 w0, .int .i64 t0, .int .i64 m.g, .int .i64 m.p, .bool m.o, .slice (bytesA m.b) m.nl none] := rfl
  have hT : m.T none = .agg [.int .i64 m.g, .int .i64 m.p, .bool m.o, .slice (bytesA m.b) m.nl none] := rfl
  have hpr := fun (n c b : Nat) (cs : List AVal) (β σ : Store) (M : List Mail) (h : PoolIs β p M σ) (hl : M.length < 600) (ho : σ.obj b = some cs) (hle : n ≤ cs.length) (hcs : cs.take n = bytesA m.b) => post_ref h hl m.g m.p m.o b n c cs m.b ho hle hcs hmo.1
  have hrp := fun (β σ : Store) (M : List Mail) (h : PoolIs β d M σ) (hl : M.length < 600) => rpost h hl m hmo none
  have hrf := fun (β σ : Store) (M : List Mail) (h : PoolIs β d M σ) (hl : M.length = 600) => rfull h hl m none
  rw [hT] at hrp hrf
  rw [hA] at hget
  have hel := elemsOk_bytes m.b
  have hone := bytesA_one m.b
  have hbl : (bytesA m.b).length ≤ 140737488351232 := by rw [bytesA_length]; exact hmo.1
  have hb8 : ∀ y ∈ bytesA m.b, ∃ z : Int, y = .int .u8 z := fun y hy => by obtain ⟨c, _, rfl⟩ := List.mem_map.1 hy; exact ⟨_, rfl⟩
  have hfl : (⟨m.g, m.p, m.o, m.b, false⟩ : Mail) = m.full := rfl
  simp only [hfl] at hpr
  clear hA hT hfl
  generalize bytesA m.b = ys at hget hpr hrp hrf hel hone hbl hb8
  generalize m.g = mg at hget hpr hrp hrf
  generalize m.p = mp at hget hpr hrp hrf
  generalize m.o = mo at hget hpr hrp hrf
  generalize m.nl = mnl at hget hpr hrp hrf
  have hff : m.full.full = m.full := rfl
  have hmfo := Mail.full_ok hmo
  generalize m.full = mf at hpr hrp hMo1 hff hmfo
  conv => cbv
  refine VIdx.of k hn.symm hget rfl ?_
  conv => cbv
  refine ⟨fun b0 hb0 τ1 hτ1 => ?_⟩
  have hs1 : τ.Sub τ1 := by rw [hτ1]; exact sub_setObj (.refl _) hb0.1
  have ho1 : τ1.obj b0 = some [] := by rw [hτ1]; simp [Store.setObj]
  clear hτ1
  conv => cbv
  refine VAppM.start hs1 hb0 ho1 hel (by simp only [maxLen]; omega) (by omega) fun b nb cb cs τ2 hnb hs2 hfb hob hle htk => ?_
  rw [Nat.mul_one] at hle htk
  rw [flat_ones hone] at htk
  have hrow : RowIs τ b cs τ2 := ⟨hs2, hfb, hob⟩
  clear hs1 ho1 hs2 hfb hob hb0
  have hcell : ∀ i, i < nb → ∃ z : Int, cs[i]? = some (.int .u8 z) := by
    intro i hi
    have h1 : (cs.take nb)[i]? = cs[i]? := by rw [List.getElem?_take, if_pos hi]
    rw [htk] at h1
    obtain ⟨z, hz⟩ := hb8 (ys[i]'(by omega)) (List.getElem_mem _)
    exact ⟨z, by rw [← h1, List.getElem?_eq_getElem (by omega), hz]⟩
  conv => cbv
  have hD0 := hD.mono hrow.sub
  by_cases hw0 : w0 = 0
  · rw [X.eql, decide_eq_true hw0]
    conv => cbv
    obtain ⟨γ, hR1, hD1⟩ := swap_pool_row hD hrow
    obtain ⟨γ0, hR2, hP2⟩ := swap_pool_row hP hR1
    obtain ⟨γ1, hD3, hP3⟩ := swap_pools hP2 hD1
    -- the posts, and what they answer
    have hobs := (hD3.sub.trans hP3.sub).obj _ _ hR2.is
    by_cases hfull : ms.length = 600
    · have h1 := post_ref_full hP3 hfull mg mp mo b nb cb
      refine X.call h1 ?_
      rintro _ τ3 ⟨rfl, rfl⟩
      conv => cbv
      obtain ⟨γ2, hP4, hD4⟩ := swap_pools hD3 hP3
      refine X.call (hrf _ _ _ hD4 (by simpa using hfull)) ?_
      rintro _ τ3 ⟨rfl, rfl⟩
      obtain ⟨δ, hP5, hR5⟩ := swap_row_pool hR2 hP4
      obtain ⟨δ2, hD6, hR6⟩ := swap_row_pool hR5 hD4
      conv => cbv
      refine VLoop.of (S := Int × Nat) (fun s => nb - s.2) (fun s τ => (s.2 : Int) = s.1 ∧ s.2 ≤ nb ∧ ∃ cs : List AVal, RowIs δ2 b cs τ ∧ nb ≤ cs.length ∧ ∀ i, i < nb → ∃ z : Int, cs[i]? = some (.int .u8 z))
        (fun s => [(0, .val (.slice xs nl none)), (3, .val (.bool true)), (4, .val (.ptr p 0)), (5, .val (.ptr d 0)), (6, .val (.int .i64 n)), (8, .box [.int .i64 mg, .int .i64 mp, .bool mo, .ref b 0 nb cb]), (9, .val (.bool false)), (10, .val (.bool false)), (11, .val (.int .i64 s.1))])
        (0, 0) _ ⟨rfl, rfl, rfl, rfl, rfl, rfl, rfl, rfl, rfl, trivial⟩ (.refl _) ⟨rfl, by simp, cs, hR6, hle, hcell⟩ ?_
      rintro ⟨n2, k2⟩ τ5 ⟨hn2, hk2, cs2, hR7, hle2, hcell2⟩
      simp only at hn2 hk2
      conv => cbv
      cases hc : cmp .lss n2 (Int.ofNat nb)
      case true =>
        have hlt2 : k2 < nb := by
          rw [X.lss] at hc
          have := of_decide_eq_true hc
          simp only [Int.ofNat_eq_natCast] at this
          omega
        obtain ⟨z, hz⟩ := hcell2 k2 hlt2
        have hlk : k2 < cs2.length := by omega
        conv => cbv
        refine VIdxR.of k2 hn2.symm hlt2 fun q hq => ?_
        obtain rfl : q = k2 := by omega
        conv => cbv
        refine VLoad.of hR7.is (take_one_of hz) (by omega) ?_
        conv => cbv
        refine VIdxR.of q hn2.symm hlt2 fun q' hq' => ?_
        obtain rfl : q' = q := by omega
        conv => cbv
        generalize ar .add .u8 z 1 = z2
        refine VStore.of hR7.is (by simp; omega) rfl fun τ6 hτ6 => ?_
        conv => cbv
        have w2 : ar .add .i64 n2 1 = (q' + 1 : Nat) := X.add (by omega)
        rw [w2]
        refine Next.of (((q' + 1 : Nat) : Int), q' + 1) τ6 (by simp; omega) ⟨rfl, rfl, rfl, rfl, rfl, rfl, rfl, rfl, rfl, trivial⟩ (.refl _) ⟨rfl, hlt2, splice cs2 q' [.int .u8 z2], ⟨?_, hR7.fr, ?_⟩, ?_, ?_⟩
        · rw [hτ6]; exact sub_setObj hR7.sub hR7.fr.1
        · rw [hτ6]; simp only [Store.setObj, beq_self_eq_true, cond_true]
        · rw [splice_length _ _ _ (by simp; omega)]; exact hle2
        · exact cell8 hle2 hlt2 hcell2
      conv => cbv
      replace hP := hP5
      replace hD := hD6.mono hR7.sub
      obtain ⟨nlD, tokD, haD, _⟩ := hD.is
      have hobjD := haD.1
      have hlenD : ((List.map Mail.full ms).map Mail.A).length = List.length ms := by simp
      generalize (List.map Mail.full ms).map Mail.A = xsD at hobjD hlenD
      refine X.callD (pool_many (hP.mono hD.sub)) ?_
      generalize hMn : ((List.length ms : Nat) : Int) = mn
      conv => cbv
      refine VLoad.of hobjD rfl (by simp) ?_
      conv => cbv
      rw [show cmp .neq mn (len xsD) = false from by rw [X.neq, X.len_, hlenD]; exact decide_eq_false (by rw [hMn]; simp)]
      conv => cbv
      rw [w]
      exact Next.of (((k + 1 : Nat) : Int), k + 1) _ (by simp; omega) ⟨rfl, rfl, rfl, rfl, rfl, trivial⟩ (.refl _) ⟨rfl, hlt, _, _, hP, hD, hML, hMO⟩
    · have h1 := hpr nb cb b cs _ _ _ hP3 (by omega) hobs hle htk
      refine X.call h1 ?_
      rintro _ τ3 ⟨rfl, hP3'⟩
      conv => cbv
      obtain ⟨γ2, hP4, hD4⟩ := swap_pools hD3 hP3'
      refine X.call (hrp _ _ _ hD4 (by simp; omega)) ?_
      rintro _ τ4 ⟨rfl, hD4'⟩
      obtain ⟨δ, hP5, hR5⟩ := swap_row_pool hR2 hP4
      obtain ⟨δ2, hD6, hR6⟩ := swap_row_pool hR5 hD4'
      have hmm : ms.map Mail.full ++ [mf] = (ms ++ [mf]).map Mail.full := by rw [List.map_append, List.map_cons, List.map_nil, hff]
      rw [hmm] at hD6
      conv => cbv
      refine VLoop.of (S := Int × Nat) (fun s => nb - s.2) (fun s τ => (s.2 : Int) = s.1 ∧ s.2 ≤ nb ∧ ∃ cs : List AVal, RowIs δ2 b cs τ ∧ nb ≤ cs.length ∧ ∀ i, i < nb → ∃ z : Int, cs[i]? = some (.int .u8 z))
        (fun s => [(0, .val (.slice xs nl none)), (3, .val (.bool true)), (4, .val (.ptr p 0)), (5, .val (.ptr d 0)), (6, .val (.int .i64 n)), (8, .box [.int .i64 mg, .int .i64 mp, .bool mo, .ref b 0 nb cb]), (9, .val (.bool true)), (10, .val (.bool true)), (11, .val (.int .i64 s.1))])
        (0, 0) _ ⟨rfl, rfl, rfl, rfl, rfl, rfl, rfl, rfl, rfl, trivial⟩ (.refl _) ⟨rfl, by simp, cs, hR6, hle, hcell⟩ ?_
      rintro ⟨n2, k2⟩ τ5 ⟨hn2, hk2, cs2, hR7, hle2, hcell2⟩
      simp only at hn2 hk2
      conv => cbv
      cases hc : cmp .lss n2 (Int.ofNat nb)
      case true =>
        have hlt2 : k2 < nb := by
          rw [X.lss] at hc
          have := of_decide_eq_true hc
          simp only [Int.ofNat_eq_natCast] at this
          omega
        obtain ⟨z, hz⟩ := hcell2 k2 hlt2
        have hlk : k2 < cs2.length := by omega
        conv => cbv
        refine VIdxR.of k2 hn2.symm hlt2 fun q hq => ?_
        obtain rfl : q = k2 := by omega
        conv => cbv
        refine VLoad.of hR7.is (take_one_of hz) (by omega) ?_
        conv => cbv
        refine VIdxR.of q hn2.symm hlt2 fun q' hq' => ?_
        obtain rfl : q' = q := by omega
        conv => cbv
        generalize ar .add .u8 z 1 = z2
        refine VStore.of hR7.is (by simp; omega) rfl fun τ6 hτ6 => ?_
        conv => cbv
        have w2 : ar .add .i64 n2 1 = (q' + 1 : Nat) := X.add (by omega)
        rw [w2]
        refine Next.of (((q' + 1 : Nat) : Int), q' + 1) τ6 (by simp; omega) ⟨rfl, rfl, rfl, rfl, rfl, rfl, rfl, rfl, rfl, trivial⟩ (.refl _) ⟨rfl, hlt2, splice cs2 q' [.int .u8 z2], ⟨?_, hR7.fr, ?_⟩, ?_, ?_⟩
        · rw [hτ6]; exact sub_setObj hR7.sub hR7.fr.1
        · rw [hτ6]; simp only [Store.setObj, beq_self_eq_true, cond_true]
        · rw [splice_length _ _ _ (by simp; omega)]; exact hle2
        · exact cell8 hle2 hlt2 hcell2
      conv => cbv
      replace hP := hP5
      replace hD := hD6.mono hR7.sub
      obtain ⟨nlD, tokD, haD, _⟩ := hD.is
      have hobjD := haD.1
      have hlenD : ((List.map Mail.full (ms ++ [mf])).map Mail.A).length = List.length (ms ++ [mf]) := by simp
      generalize (List.map Mail.full (ms ++ [mf])).map Mail.A = xsD at hobjD hlenD
      refine X.callD (pool_many (hP.mono hD.sub)) ?_
      generalize hMn : ((List.length (ms ++ [mf]) : Nat) : Int) = mn
      conv => cbv
      refine VLoad.of hobjD rfl (by simp) ?_
      conv => cbv
      rw [show cmp .neq mn (len xsD) = false from by rw [X.neq, X.len_, hlenD]; exact decide_eq_false (by rw [hMn]; simp)]
      conv => cbv
      rw [w]
      exact Next.of (((k + 1 : Nat) : Int), k + 1) _ (by simp; omega) ⟨rfl, rfl, rfl, rfl, rfl, trivial⟩ (.refl _) ⟨rfl, hlt, _, _, hP, hD, (by simp; omega), hMo1⟩
  rw [X.eql, decide_eq_false hw0]
  conv => cbv
  by_cases hw1 : w0 = 1
  · rw [X.eql, decide_eq_true hw1]
    conv => cbv
    obtain ⟨γ, hD1, hP1⟩ := swap_pools hP hD0
    by_cases hin : 0 ≤ t0 ∧ t0 < (ms.length : Int)
    · obtain ⟨j, hj⟩ := Int.eq_ofNat_of_zero_le hin.1
      have hjl : j < ms.length := by omega
      obtain ⟨x, hx1⟩ : ∃ x, ms[j]? = some x := ⟨_, List.getElem?_eq_getElem hjl⟩
      have hxo := hMO x (List.mem_of_getElem? hx1)
      have hx2 : (ms.map Mail.full)[j]? = some x.full := by simp [hx1]
      have c1 := pool_take hP1 hML t0 j hj.symm x hx1 hxo
      have c2 := fun (β' σ' : Store) (h : PoolIs β' d (ms.map Mail.full) σ') => rtake h (by simpa using hML) t0 j hj.symm x.full hx2 (Mail.full_ok hxo)
      have c3 := same_full x
      rw [Mail.full_full] at c2
      obtain ⟨bx, hbx, hAx⟩ := Mail.open x
      have hFx : x.full.A = .agg [.int .i64 x.g, .int .i64 x.p, .bool x.o, .slice bx false none] := by rw [hbx]; rfl
      rw [hAx] at c1 c3
      rw [hFx] at c2 c3
      clear hAx hFx hbx
      refine X.call c1 ?_
      rintro _ τ3 ⟨rfl, hP1⟩
      conv => cbv
      obtain ⟨γ2, hP4, hD4⟩ := swap_pools hD1 hP1
      refine X.call (c2 _ _ hD4) ?_
      rintro _ τ4 ⟨rfl, hD5⟩
      conv => cbv
      refine X.call (c3 _) ?_
      rintro _ τ4 ⟨rfl, rfl⟩
      conv => cbv
      have hme : (ms.map Mail.full).eraseIdx j = (ms.eraseIdx j).map Mail.full := by rw [List.eraseIdx_eq_take_drop_succ, List.eraseIdx_eq_take_drop_succ, List.map_append, List.map_take, List.map_drop]
      rw [hme] at hD5
      replace hP := hP4
      replace hD := hD5
      obtain ⟨nlD, tokD, haD, _⟩ := hD.is
      have hobjD := haD.1
      have hlenD : ((List.map Mail.full (ms.eraseIdx j)).map Mail.A).length = List.length (ms.eraseIdx j) := by simp
      generalize (List.map Mail.full (ms.eraseIdx j)).map Mail.A = xsD at hobjD hlenD
      refine X.callD (pool_many (hP.mono hD.sub)) ?_
      generalize hMn : ((List.length (ms.eraseIdx j) : Nat) : Int) = mn
      conv => cbv
      refine VLoad.of hobjD rfl (by simp) ?_
      conv => cbv
      rw [show cmp .neq mn (len xsD) = false from by rw [X.neq, X.len_, hlenD]; exact decide_eq_false (by rw [hMn]; simp)]
      conv => cbv
      rw [w]
      exact Next.of (((k + 1 : Nat) : Int), k + 1) _ (by simp; omega) ⟨rfl, rfl, rfl, rfl, rfl, trivial⟩ (.refl _) ⟨rfl, hlt, _, _, hP, hD, (by have := List.length_eraseIdx_le ms j; omega), (fun y hy => hMO y (List.mem_of_mem_eraseIdx hy))⟩

    · have hout : t0 < 0 ∨ (ms.length : Int) ≤ t0 := by omega
      refine X.call (pool_none hP1 t0 hout) ?_
      rintro _ τ3 ⟨rfl, rfl⟩
      conv => cbv
      obtain ⟨γ2, hP4, hD4⟩ := swap_pools hD1 hP1
      refine X.call (rtake_no hD4 t0 (by simpa using hout)) ?_
      rintro _ τ4 ⟨rfl, rfl⟩
      conv => cbv
      refine X.call (same_zero _) ?_
      rintro _ τ4 ⟨rfl, rfl⟩
      conv => cbv
      replace hP := hP4
      replace hD := hD4
      obtain ⟨nlD, tokD, haD, _⟩ := hD.is
      have hobjD := haD.1
      have hlenD : ((List.map Mail.full ms).map Mail.A).length = List.length ms := by simp
      generalize (List.map Mail.full ms).map Mail.A = xsD at hobjD hlenD
      refine X.callD (pool_many (hP.mono hD.sub)) ?_
      generalize hMn : ((List.length ms : Nat) : Int) = mn
      conv => cbv
      refine VLoad.of hobjD rfl (by simp) ?_
      conv => cbv
      rw [show cmp .neq mn (len xsD) = false from by rw [X.neq, X.len_, hlenD]; exact decide_eq_false (by rw [hMn]; simp)]
      conv => cbv
      rw [w]
      exact Next.of (((k + 1 : Nat) : Int), k + 1) _ (by simp; omega) ⟨rfl, rfl, rfl, rfl, rfl, trivial⟩ (.refl _) ⟨rfl, hlt, _, _, hP, hD, hML, hMO⟩

  rw [X.eql, decide_eq_false hw1]
  conv => cbv
  by_cases hw2 : w0 = 2
  · rw [X.eql, decide_eq_true hw2]
    conv => cbv
    obtain ⟨γ, hD1, hP1⟩ := swap_pools hP hD0
    by_cases hin : 0 ≤ t0 ∧ t0 < (ms.length : Int)
    · obtain ⟨j, hj⟩ := Int.eq_ofNat_of_zero_le hin.1
      have hjl : j < ms.length := by omega
      obtain ⟨x, hx1⟩ : ∃ x, ms[j]? = some x := ⟨_, List.getElem?_eq_getElem hjl⟩
      have hxo := hMO x (List.mem_of_getElem? hx1)
      have hx2 : (ms.map Mail.full)[j]? = some x.full := by simp [hx1]
      by_cases hfull : ms.length = 600
      · refine X.call (pool_double_full hP1 hfull t0 j hj.symm x hx1 hxo) ?_
        rintro _ τ3 ⟨rfl, rfl⟩
        conv => cbv
        obtain ⟨γ2, hP4, hD4⟩ := swap_pools hD1 hP1
        refine X.call (rdouble_full hD4 (by simpa using hfull) t0 j hj.symm x.full hx2 (Mail.full_ok hxo)) ?_
        rintro _ τ4 ⟨rfl, rfl⟩
        conv => cbv
        replace hP := hP4
        replace hD := hD4
        obtain ⟨nlD, tokD, haD, _⟩ := hD.is
        have hobjD := haD.1
        have hlenD : ((List.map Mail.full ms).map Mail.A).length = List.length ms := by simp
        generalize (List.map Mail.full ms).map Mail.A = xsD at hobjD hlenD
        refine X.callD (pool_many (hP.mono hD.sub)) ?_
        generalize hMn : ((List.length ms : Nat) : Int) = mn
        conv => cbv
        refine VLoad.of hobjD rfl (by simp) ?_
        conv => cbv
        rw [show cmp .neq mn (len xsD) = false from by rw [X.neq, X.len_, hlenD]; exact decide_eq_false (by rw [hMn]; simp)]
        conv => cbv
        rw [w]
        exact Next.of (((k + 1 : Nat) : Int), k + 1) _ (by simp; omega) ⟨rfl, rfl, rfl, rfl, rfl, trivial⟩ (.refl _) ⟨rfl, hlt, _, _, hP, hD, hML, hMO⟩
      · refine X.call (pool_double hP1 (by omega) t0 j hj.symm x hx1 hxo) ?_
        rintro _ τ3 ⟨rfl, hP1⟩
        conv => cbv
        obtain ⟨γ2, hP4, hD4⟩ := swap_pools hD1 hP1
        refine X.call (rdouble hD4 (by simp; omega) t0 j hj.symm x.full hx2 (Mail.full_ok hxo)) ?_
        rintro _ τ4 ⟨rfl, hD5⟩
        have hmm : ms.map Mail.full ++ [x.full.full] = (ms ++ [x]).map Mail.full := by rw [List.map_append, List.map_cons, List.map_nil]; rfl
        rw [hmm] at hD5
        conv => cbv
        replace hP := hP4
        replace hD := hD5
        obtain ⟨nlD, tokD, haD, _⟩ := hD.is
        have hobjD := haD.1
        have hlenD : ((List.map Mail.full (ms ++ [x])).map Mail.A).length = List.length (ms ++ [x]) := by simp
        generalize (List.map Mail.full (ms ++ [x])).map Mail.A = xsD at hobjD hlenD
        refine X.callD (pool_many (hP.mono hD.sub)) ?_
        generalize hMn : ((List.length (ms ++ [x]) : Nat) : Int) = mn
        conv => cbv
        refine VLoad.of hobjD rfl (by simp) ?_
        conv => cbv
        rw [show cmp .neq mn (len xsD) = false from by rw [X.neq, X.len_, hlenD]; exact decide_eq_false (by rw [hMn]; simp)]
        conv => cbv
        rw [w]
        exact Next.of (((k + 1 : Nat) : Int), k + 1) _ (by simp; omega) ⟨rfl, rfl, rfl, rfl, rfl, trivial⟩ (.refl _) ⟨rfl, hlt, _, _, hP, hD, (by simp; omega), (fun y hy => (List.mem_append.1 hy).elim (hMO y) fun h => by rw [List.mem_singleton.1 h]; exact hxo)⟩

    · have hout : t0 < 0 ∨ (ms.length : Int) ≤ t0 := by omega
      refine X.call (pool_double_no hP1 t0 hout) ?_
      rintro _ τ3 ⟨rfl, rfl⟩
      conv => cbv
      obtain ⟨γ2, hP4, hD4⟩ := swap_pools hD1 hP1
      refine X.call (rdouble_no hD4 t0 (by simpa using hout)) ?_
      rintro _ τ4 ⟨rfl, rfl⟩
      conv => cbv
      replace hP := hP4
      replace hD := hD4
      obtain ⟨nlD, tokD, haD, _⟩ := hD.is
      have hobjD := haD.1
      have hlenD : ((List.map Mail.full ms).map Mail.A).length = List.length ms := by simp
      generalize (List.map Mail.full ms).map Mail.A = xsD at hobjD hlenD
      refine X.callD (pool_many (hP.mono hD.sub)) ?_
      generalize hMn : ((List.length ms : Nat) : Int) = mn
      conv => cbv
      refine VLoad.of hobjD rfl (by simp) ?_
      conv => cbv
      rw [show cmp .neq mn (len xsD) = false from by rw [X.neq, X.len_, hlenD]; exact decide_eq_false (by rw [hMn]; simp)]
      conv => cbv
      rw [w]
      exact Next.of (((k + 1 : Nat) : Int), k + 1) _ (by simp; omega) ⟨rfl, rfl, rfl, rfl, rfl, trivial⟩ (.refl _) ⟨rfl, hlt, _, _, hP, hD, hML, hMO⟩

  rw [X.eql, decide_eq_false hw2]
  conv => cbv
  by_cases hw3 : w0 = 3
  · rw [X.eql, decide_eq_true hw3]
    conv => cbv
    obtain ⟨γ, hD1, hP1⟩ := swap_pools hP hD0
    by_cases hin : 0 ≤ t0 ∧ t0 < (ms.length : Int)
    · obtain ⟨j, hj⟩ := Int.eq_ofNat_of_zero_le hin.1
      have hjl : j < ms.length := by omega
      obtain ⟨x, hx1⟩ : ∃ x, ms[j]? = some x := ⟨_, List.getElem?_eq_getElem hjl⟩
      have hxo := hMO x (List.mem_of_getElem? hx1)
      have hx2 : (ms.map Mail.full)[j]? = some x.full := by simp [hx1]
      have c1 := pool_at hP1 t0 j hj.symm x hx1 hxo
      have c2 := fun (β' σ' : Store) (h : PoolIs β' d (ms.map Mail.full) σ') => rat h t0 j hj.symm x.full hx2 (Mail.full_ok hxo)
      have c3 := same_full x
      rw [Mail.full_full] at c2
      obtain ⟨bx, hbx, hAx⟩ := Mail.open x
      have hFx : x.full.A = .agg [.int .i64 x.g, .int .i64 x.p, .bool x.o, .slice bx false none] := by rw [hbx]; rfl
      rw [hAx] at c1 c3
      rw [hFx] at c2 c3
      clear hAx hFx hbx
      refine X.call c1 ?_
      rintro _ τ3 ⟨rfl, rfl⟩
      conv => cbv
      obtain ⟨γ2, hP4, hD4⟩ := swap_pools hD1 hP1
      refine X.call (c2 _ _ hD4) ?_
      rintro _ τ4 ⟨rfl, rfl⟩
      conv => cbv
      refine X.call (c3 _) ?_
      rintro _ τ4 ⟨rfl, rfl⟩
      conv => cbv
      replace hP := hP4
      replace hD := hD4
      obtain ⟨nlD, tokD, haD, _⟩ := hD.is
      have hobjD := haD.1
      have hlenD : ((List.map Mail.full ms).map Mail.A).length = List.length ms := by simp
      generalize (List.map Mail.full ms).map Mail.A = xsD at hobjD hlenD
      refine X.callD (pool_many (hP.mono hD.sub)) ?_
      generalize hMn : ((List.length ms : Nat) : Int) = mn
      conv => cbv
      refine VLoad.of hobjD rfl (by simp) ?_
      conv => cbv
      rw [show cmp .neq mn (len xsD) = false from by rw [X.neq, X.len_, hlenD]; exact decide_eq_false (by rw [hMn]; simp)]
      conv => cbv
      rw [w]
      exact Next.of (((k + 1 : Nat) : Int), k + 1) _ (by simp; omega) ⟨rfl, rfl, rfl, rfl, rfl, trivial⟩ (.refl _) ⟨rfl, hlt, _, _, hP, hD, hML, hMO⟩

    · have hout : t0 < 0 ∨ (ms.length : Int) ≤ t0 := by omega
      refine X.call (pool_at_no hP1 t0 hout) ?_
      rintro _ τ3 ⟨rfl, rfl⟩
      conv => cbv
      obtain ⟨γ2, hP4, hD4⟩ := swap_pools hD1 hP1
      refine X.call (rat_no hD4 t0 (by simpa using hout)) ?_
      rintro _ τ4 ⟨rfl, rfl⟩
      conv => cbv
      refine X.call (same_zero _) ?_
      rintro _ τ4 ⟨rfl, rfl⟩
      conv => cbv
      replace hP := hP4
      replace hD := hD4
      obtain ⟨nlD, tokD, haD, _⟩ := hD.is
      have hobjD := haD.1
      have hlenD : ((List.map Mail.full ms).map Mail.A).length = List.length ms := by simp
      generalize (List.map Mail.full ms).map Mail.A = xsD at hobjD hlenD
      refine X.callD (pool_many (hP.mono hD.sub)) ?_
      generalize hMn : ((List.length ms : Nat) : Int) = mn
      conv => cbv
      refine VLoad.of hobjD rfl (by simp) ?_
      conv => cbv
      rw [show cmp .neq mn (len xsD) = false from by rw [X.neq, X.len_, hlenD]; exact decide_eq_false (by rw [hMn]; simp)]
      conv => cbv
      rw [w]
      exact Next.of (((k + 1 : Nat) : Int), k + 1) _ (by simp; omega) ⟨rfl, rfl, rfl, rfl, rfl, trivial⟩ (.refl _) ⟨rfl, hlt, _, _, hP, hD, hML, hMO⟩

  rw [X.eql, decide_eq_false hw3]
  conv => cbv
  obtain ⟨γ, hR1, hD1⟩ := swap_pool_row hD hrow
  obtain ⟨γ0, hR2, hP2⟩ := swap_pool_row hP hR1
  obtain ⟨γ1, hD3, hP3⟩ := swap_pools hP2 hD1
  refine VLoop.of (S := Int × Nat) (fun s => 700 - s.2) (fun s τ => (s.2 : Int) = s.1 ∧ s.2 ≤ 700 ∧ ∃ (γ : Store) (M : List Mail), PoolIs γ0 d (M.map Mail.full) γ ∧ PoolIs γ p M τ ∧ M.length ≤ 600 ∧ ∀ m ∈ M, m.Ok)
    (fun s => [(0, .val (.slice xs nl none)), (3, .val (.bool true)), (4, .val (.ptr p 0)), (5, .val (.ptr d 0)), (6, .val (.int .i64 n)), (7, .box [.int .i64 w0, .int .i64 t0, .int .i64 mg, .int .i64 mp, .bool mo, .slice ys mnl none]), (8, .box [.int .i64 mg, .int .i64 mp, .bool mo, .ref b 0 nb cb]), (22, .val (.int .i64 s.1))])
    (0, 0) _ ⟨rfl, rfl, rfl, rfl, rfl, rfl, rfl, rfl, trivial⟩ (.refl _) ⟨rfl, by simp, γ1, ms, hD3, hP3, hML, hMO⟩ ?_
  clear hD3 hP3 hML hMO hMo1
  rintro ⟨n2, k2⟩ τ5 ⟨hn2, hk2, γ2, M, hD4, hP4, hML, hMO⟩
  simp only at hn2 hk2
  have hMo1 : ∀ x ∈ M ++ [mf], x.Ok := fun x hx => (List.mem_append.1 hx).elim (hMO x) fun h => by rw [List.mem_singleton.1 h]; exact hmfo
  have hout : ∃ δ, PoolIs σ1 p M δ ∧ PoolIs δ d (M.map Mail.full) τ5 := by
    obtain ⟨δ, h1, h2⟩ := swap_pools hD4 hP4
    exact ⟨δ, h1.base hR2.sub, h2⟩
  conv => cbv
  cases hc : cmp .lss n2 t0
  case false =>
    conv => cbv
    obtain ⟨δ, hP, hD⟩ := hout
    obtain ⟨nlD, tokD, haD, _⟩ := hD.is
    have hobjD := haD.1
    have hlenD : ((List.map Mail.full M).map Mail.A).length = List.length M := by simp
    generalize (List.map Mail.full M).map Mail.A = xsD at hobjD hlenD
    refine X.callD (pool_many (hP.mono hD.sub)) ?_
    generalize hMn : ((List.length M : Nat) : Int) = mn
    conv => cbv
    refine VLoad.of hobjD rfl (by simp) ?_
    conv => cbv
    rw [show cmp .neq mn (len xsD) = false from by rw [X.neq, X.len_, hlenD]; exact decide_eq_false (by rw [hMn]; simp)]
    conv => cbv
    rw [w]
    exact Next.of (((k + 1 : Nat) : Int), k + 1) _ (by simp; omega) ⟨rfl, rfl, rfl, rfl, rfl, trivial⟩ (.refl _) ⟨rfl, hlt, _, _, hP, hD, hML, hMO⟩
  conv => cbv
  cases hc2 : cmp .lss n2 700
  case false =>
    conv => cbv
    obtain ⟨δ, hP, hD⟩ := hout
    obtain ⟨nlD, tokD, haD, _⟩ := hD.is
    have hobjD := haD.1
    have hlenD : ((List.map Mail.full M).map Mail.A).length = List.length M := by simp
    generalize (List.map Mail.full M).map Mail.A = xsD at hobjD hlenD
    refine X.callD (pool_many (hP.mono hD.sub)) ?_
    generalize hMn : ((List.length M : Nat) : Int) = mn
    conv => cbv
    refine VLoad.of hobjD rfl (by simp) ?_
    conv => cbv
    rw [show cmp .neq mn (len xsD) = false from by rw [X.neq, X.len_, hlenD]; exact decide_eq_false (by rw [hMn]; simp)]
    conv => cbv
    rw [w]
    exact Next.of (((k + 1 : Nat) : Int), k + 1) _ (by simp; omega) ⟨rfl, rfl, rfl, rfl, rfl, trivial⟩ (.refl _) ⟨rfl, hlt, _, _, hP, hD, hML, hMO⟩
  have hlt2 : k2 < 700 := by
    rw [X.lss] at hc2
    have := of_decide_eq_true hc2
    omega
  have w2 : ar .add .i64 n2 1 = (k2 + 1 : Nat) := X.add (by omega)
  have hobs := (hD4.sub.trans hP4.sub).obj _ _ hR2.is
  conv => cbv
  by_cases hfull : M.length = 600
  · refine X.call (post_ref_full hP4 hfull mg mp mo b nb cb) ?_
    rintro _ τ3 ⟨rfl, rfl⟩
    conv => cbv
    obtain ⟨γ3, hP5, hD5⟩ := swap_pools hD4 hP4
    refine X.call (hrf _ _ _ hD5 (by simpa using hfull)) ?_
    rintro _ τ3 ⟨rfl, rfl⟩
    conv => cbv
    rw [w2]
    exact Next.of (((k2 + 1 : Nat) : Int), k2 + 1) _ (by simp; omega) ⟨rfl, rfl, rfl, rfl, rfl, rfl, rfl, rfl, trivial⟩ (.refl _) ⟨rfl, hlt2, _, _, hD4, hP4, hML, hMO⟩
  · refine X.call (hpr nb cb b cs _ _ _ hP4 (by omega) hobs hle htk) ?_
    rintro _ τ3 ⟨rfl, hP5⟩
    conv => cbv
    obtain ⟨γ3, hP6, hD6⟩ := swap_pools hD4 hP5
    refine X.call (hrp _ _ _ hD6 (by simp; omega)) ?_
    rintro _ τ4 ⟨rfl, hD7⟩
    have hmm : M.map Mail.full ++ [mf] = (M ++ [mf]).map Mail.full := by rw [List.map_append, List.map_cons, List.map_nil, hff]
    rw [hmm] at hD7
    obtain ⟨γ4, hD8, hP8⟩ := swap_pools hP6 hD7
    conv => cbv
    rw [w2]
    exact Next.of (((k2 + 1 : Nat) : Int), k2 + 1) _ (by simp; omega) ⟨rfl, rfl, rfl, rfl, rfl, rfl, rfl, rfl, trivial⟩ (.refl _) ⟨rfl, hlt2, _, _, hD8, hP8, by simp; omega, hMo1⟩

end Go.Proofs.Ytdjnmbidbfbmiaa
