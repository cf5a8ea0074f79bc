import Derived.Test.YtdjnmbidbfbmiaaPoolH
namespace Go.Proofs.Ytdjnmbidbfbmiaa
open Go.AL
set_option maxRecDepth 100000

theorem PoolIs.mono {σ0 σ σ' : Store} {p : Nat} {ms : List Mail} (h : PoolIs σ0 p ms σ) (hs : σ.Sub σ') : PoolIs σ0 p ms σ' := by
  obtain ⟨nl, tok, ⟨h1, h2⟩, ht⟩ := h.is
  refine ⟨h.sub.trans hs, h.fp, nl, tok, ⟨hs.obj _ _ h1, ?_⟩, ht⟩
  rcases h2 with h2 | ⟨g, hg, hg2⟩
  · exact .inl h2
  · exact .inr ⟨g, hg, hs.opn _ _ hg2⟩

theorem Mails.take {xs : List AVal} {ms : List Mail} (h : Mails xs ms) (n : Nat) : Mails (xs.take n) (ms.take n) := ⟨by rw [h.eq, List.map_take], fun m hm => h.ok m (List.mem_of_mem_take hm)⟩
theorem Mails.drop {xs : List AVal} {ms : List Mail} (h : Mails xs ms) (n : Nat) : Mails (xs.drop n) (ms.drop n) := ⟨by rw [h.eq, List.map_drop], fun m hm => h.ok m (List.mem_of_mem_drop hm)⟩
theorem Mails.append {xs ys : List AVal} {ms ns : List Mail} (h : Mails xs ms) (k : Mails ys ns) : Mails (xs ++ ys) (ms ++ ns) := ⟨by rw [h.eq, k.eq, List.map_append], fun m hm => (List.mem_append.1 hm).elim (h.ok m) (k.ok m)⟩
theorem Mails.elems {xs : List AVal} {ms : List Mail} (h : Mails xs ms) : ElemsOk 4 xs := by rw [h.eq]; exact elemsOk_mails ms
theorem Mails.cells {xs : List AVal} {ms : List Mail} (h : Mails xs ms) : ∀ x ∈ xs, x.cells.length = 4 := by rw [h.eq]; exact mails_cells ms

theorem keeps_ (xs : List AVal) (ms : List Mail) (hx : Mails xs ms) (nl : Bool) (ts : List AVal) (tl : List UInt8) (htl : ts = bytesA tl) (nl2 : Bool) (σ : Store) : ACall Try.prog 4 [.slice xs nl none, .slice ts nl2 none] σ fun a _ => a = .bool true := by
  refine acall_x mixed Try.func4 s4 (by simp [a4]) fun C ok ar cmp scmp cv len slen mm X => ?_
  generalize hQ : (fun (a : AVal) (_ : Store) => a = AVal.bool true) = Q
  have hend : ∀ τ, Post Q (.bool true) τ := fun τ => Post.of (by subst hQ; rfl)
  clear hQ
  have htlen : ts.length = tl.length := by rw [htl, bytesA_length]
  conv => cbv
  refine X.call (head_ σ) ?_
  rintro _ σ1 ⟨rfl, rfl⟩
  conv => cbv
  refine X.call (pool_new _) ?_
  rintro _ σ2 ⟨p, rfl, h2⟩
  conv => cbv
  cases hc : cmp .gtr (len xs) 60
  case true => conv => cbv
               exact hend _
  have hle : ms.length ≤ 60 := by
    rw [X.gtr, X.len_, hx.len] at hc
    have := of_decide_eq_false hc
    omega
  clear hc
  conv => cbv
  cases hc : cmp .gtr (len ts) 60
  case true => conv => cbv
               exact hend _
  have htle : tl.length ≤ 60 := by
    rw [X.gtr, X.len_, htlen] at hc
    have := of_decide_eq_false hc
    omega
  clear hc
  conv => cbv
  refine VLoop.of (S := Int × Nat) (fun s => ms.length - s.2) (fun s τ => (s.2 : Int) = s.1 ∧ s.2 ≤ ms.length ∧ PoolIs σ1 p (ms.take s.2) τ)
    (fun s => [(0, .val (.slice xs nl none)), (1, .val (.slice ts nl2 none)), (5, .val (.bool true)), (6, .val (.ptr p 0)), (7, .val (.int .i64 s.1))]) (0, 0) σ2 ⟨rfl, rfl, rfl, rfl, rfl, trivial⟩ (.refl _) ⟨rfl, by omega, by simpa using h2⟩ ?_
  rintro ⟨n, k⟩ τ ⟨hn, hk, hp⟩
  simp only at hn hk hp
  conv => cbv
  cases hc : cmp .lss n (len xs)
  case true =>
    have hlt : k < ms.length := by
      rw [X.lss, X.len_, hx.len] at hc
      have := of_decide_eq_true hc
      omega
    obtain ⟨m, hm⟩ : ∃ m, ms[k]? = some m := ⟨_, List.getElem?_eq_getElem hlt⟩
    have hok := hx.ok m (List.mem_of_getElem? hm)
    have hget := hx.get hm
    have hsnoc : ms.take (k + 1) = ms.take k ++ [m] := by rw [List.take_add_one, hm]; rfl
    have hcall := pool_post hp (by simp; omega) m hok none
    rw [show Mail.T m none = Mail.A m from rfl, ← hsnoc] at hcall
    obtain ⟨b, hb, hA⟩ := Mail.open m
    rw [hA] at hget hcall
    conv => cbv
    refine VIdx.of k hn.symm hget rfl ?_
    conv => cbv
    cases hc2 : cmp .gtr (len b) 1000
    case true =>
      conv => cbv
      refine VIdx.of k hn.symm hget rfl ?_
      conv => cbv
      rw [hc2]
      conv => cbv
      exact hend _
    conv => cbv
    refine VIdx.of k hn.symm hget rfl ?_
    conv => cbv
    refine X.call hcall ?_
    rintro _ τ' ⟨rfl, hp'⟩
    conv => cbv
    have w : ar .add .i64 n 1 = (k + 1 : Nat) := X.add (by omega)
    rw [w]
    exact Next.of (((k + 1 : Nat) : Int), k + 1) τ' (by simp; omega) ⟨rfl, rfl, rfl, rfl, rfl, trivial⟩ (.refl _) ⟨rfl, hlt, hp'⟩
  have hge : k = ms.length := by
    rw [X.lss, X.len_, hx.len] at hc
    have := of_decide_eq_false hc
    omega
  clear hc
  subst hge
  rw [List.take_length] at hp
  conv => cbv
  refine VNewTok.own fun t τ1 hs1 ht ho1 => ?_
  conv => cbv
  refine VApp.own hs1 ht ho1 hx.elems (by rw [hx.len]; simp only [maxLen, List.length_nil]; omega) (by rw [hx.len]; simp; omega) fun zs g τ2 hzs hs2 hg ho2 => ?_
  rw [List.nil_append] at hzs
  conv => cbv
  refine VLoop.of (S := Int × Nat × List AVal × Nat) (fun s => tl.length - s.2.1) (fun s τ => (s.2.1 : Int) = s.1 ∧ s.2.1 ≤ tl.length ∧ ∃ W, Mails s.2.2.1 W ∧ W.length ≤ 60 ∧ PoolIs σ1 p W τ)
    (fun s => [(1, .val (.slice ts nl2 none)), (5, .val (.bool true)), (6, .val (.ptr p 0)), (8, .val (.slice s.2.2.1 false (some s.2.2.2))), (9, .val (.int .i64 s.1))])
    (0, 0, zs, g) τ ⟨rfl, rfl, rfl, rfl, rfl, trivial⟩ hs2 ⟨rfl, by simp, ms, hzs ▸ hx, hle, hp⟩ ?_
  clear hle hp hs1 ht ho1 hs2 hg ho2 hzs hx h2
  rintro ⟨n, k, ws, g⟩ τ ⟨hn, hk, W, hW, hWl, hp⟩
  simp only at hn hk hW
  conv => cbv
  cases hc : cmp .lss n (len ts)
  case true =>
    have hlt : k < tl.length := by
      rw [X.lss, X.len_, htlen] at hc
      have := of_decide_eq_true hc
      omega
    obtain ⟨c, hcc⟩ : ∃ c, tl[k]? = some c := ⟨_, List.getElem?_eq_getElem hlt⟩
    have hcv : ((c.toNat : Nat) : Int) < 256 := by have := c.toNat_lt; omega
    have hget : ts[k]? = some (.int .u8 (c.toNat : Int)) := by rw [htl]; simp [bytesA, hcc]
    generalize hz : (c.toNat : Int) = z at *
    have hz0 : 0 ≤ z := by omega
    have hconv : cv .i64 z = z := X.conv (by omega)
    have w : ar .add .i64 n 1 = (k + 1 : Nat) := X.add (by omega)
    conv => cbv
    refine VIdx.of k hn.symm hget rfl ?_
    conv => cbv
    rw [hconv]
    by_cases hzl : z < W.length
    · obtain ⟨m, hm⟩ : ∃ m, W[c.toNat]? = some m := ⟨W[c.toNat]'(by omega), List.getElem?_eq_getElem (by omega)⟩
      have hok := hW.ok m (List.mem_of_getElem? hm)
      have hwget := hW.get hm
      have htake := pool_take hp (by omega) z c.toNat hz m hm hok
      have hsame := same_ m
      obtain ⟨b, hb, hA⟩ := Mail.open m
      rw [hA] at hwget htake hsame
      have hl : cmp .lss z (len ws) = true := by rw [X.lss, X.len_, hW.len]; exact decide_eq_true hzl
      have w2 : ar .add .i64 z 1 = (c.toNat + 1 : Nat) := X.add (by omega)
      refine X.call htake ?_
      rintro _ τ1 ⟨rfl, hp1⟩
      conv => cbv
      rw [hl]
      conv => cbv
      refine VIdx.of c.toNat hz.symm hwget rfl ?_
      conv => cbv
      refine X.call (hsame τ1) ?_
      rintro _ τ1 ⟨rfl, rfl⟩
      conv => cbv
      refine VCut.of0 0 c.toNat rfl hz.symm (by rw [hW.len]; omega) (by omega) hW.cells (.inr (.inr (by rw [hW.len]; omega))) fun ys hys => ?_
      conv => cbv
      rw [w2]
      refine VCut.of0 (c.toNat + 1) ws.length rfl rfl (by omega) (by rw [hW.len]; omega) hW.cells (.inr (.inl (by omega))) fun y2 hy2 => ?_
      have hY : Mails ys (W.take c.toNat) := by rw [hys, List.drop_zero]; exact hW.take _
      have hY2 : Mails y2 (W.drop (c.toNat + 1)) := by rw [hy2, List.take_length]; exact hW.drop _
      have hl1 := hY.len
      have hl2 := hY2.len
      simp only [List.length_take, List.length_drop] at hl1 hl2
      generalize hq : ((c.toNat + 1 : Nat) : Int) = q
      conv => cbv
      refine VNewTok.own fun t2 τ2 hs1 ht ho1 => ?_
      conv => cbv
      refine VApp.own hs1 ht ho1 hY.elems (by simp only [maxLen, List.length_nil]; omega) (by simp; omega) fun zs g2 τ3 hzs hs2 hg2 ho2 => ?_
      rw [List.nil_append] at hzs
      subst hzs
      conv => cbv
      refine VApp.own hs2 hg2 ho2 hY2.elems (by simp only [maxLen]; omega) (by omega) fun z2 g3 τ4 hz2 hs3 hg3 ho3 => ?_
      conv => cbv
      rw [w]
      refine Next.of (((k + 1 : Nat) : Int), k + 1, z2, g3) τ1 (by simp; omega) ⟨rfl, rfl, rfl, rfl, rfl, trivial⟩ hs3 ⟨rfl, hlt, W.eraseIdx c.toNat, ?_, ?_, hp1⟩
      · rw [List.eraseIdx_eq_take_drop_succ, hz2]; exact hY.append hY2
      · have := List.length_eraseIdx_le W c.toNat; omega
    · have hl : cmp .lss z (len ws) = false := by rw [X.lss, X.len_, hW.len]; exact decide_eq_false hzl
      refine X.call (pool_none hp z (.inr (by omega))) ?_
      rintro _ τ1 ⟨rfl, rfl⟩
      conv => cbv
      rw [hl]
      conv => cbv
      rw [w]
      exact Next.of (((k + 1 : Nat) : Int), k + 1, ws, g) τ1 (by simp; omega) ⟨rfl, rfl, rfl, rfl, rfl, trivial⟩ (.refl _) ⟨rfl, hlt, W, hW, hWl, hp⟩
  clear hc
  conv => cbv
  refine VLoop.of (S := Int × Nat) (fun s => W.length - s.2) (fun s τ => (s.2 : Int) = s.1 ∧ s.2 ≤ W.length ∧ PoolIs σ1 p W τ)
    (fun s => [(5, .val (.bool true)), (6, .val (.ptr p 0)), (8, .val (.slice ws false (some g))), (13, .val (.int .i64 s.1))]) (0, 0) τ ⟨rfl, rfl, rfl, rfl, trivial⟩ (.refl _) ⟨rfl, by omega, hp⟩ ?_
  clear hn hk
  rintro ⟨n, k⟩ τ ⟨hn, hk, hp⟩
  simp only at hn hk
  conv => cbv
  cases hc : cmp .lss n (len ws)
  case true =>
    have hlt : k < W.length := by
      rw [X.lss, X.len_, hW.len] at hc
      have := of_decide_eq_true hc
      omega
    obtain ⟨m, hm⟩ : ∃ m, W[k]? = some m := ⟨_, List.getElem?_eq_getElem hlt⟩
    have hok := hW.ok m (List.mem_of_getElem? hm)
    have hget := hW.get hm
    have hat := pool_at hp n k hn m hm hok
    have hsame := same_ m
    obtain ⟨b, hb, hA⟩ := Mail.open m
    rw [hA] at hget hat hsame
    conv => cbv
    refine X.call hat ?_
    rintro _ τ' ⟨rfl, rfl⟩
    conv => cbv
    refine VIdx.of k hn.symm hget rfl ?_
    conv => cbv
    refine X.call (hsame _) ?_
    rintro _ τ' ⟨rfl, rfl⟩
    conv => cbv
    have w : ar .add .i64 n 1 = (k + 1 : Nat) := X.add (by omega)
    rw [w]
    exact Next.of (((k + 1 : Nat) : Int), k + 1) _ (by simp; omega) ⟨rfl, rfl, rfl, rfl, trivial⟩ (.refl _) ⟨rfl, hlt, hp⟩
  conv => cbv
  refine X.call (pool_many hp) ?_
  rintro _ τ' ⟨rfl, rfl⟩
  generalize hn3 : ((W.length : Nat) : Int) = n3
  conv => cbv
  rw [show cmp .eql n3 (len ws) = true from by rw [X.eql, X.len_, hW.len]; exact decide_eq_true hn3.symm]
  conv => cbv
  exact hend _

end Go.Proofs.Ytdjnmbidbfbmiaa
