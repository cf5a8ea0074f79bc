import Derived.Test.YtdjnmbidbfbmiaaPoolG
namespace Go.Proofs.Ytdjnmbidbfbmiaa
open Go.AL
set_option maxRecDepth 100000

theorem full_ (m : Mail) (hm : m.Ok) (at_ : Int) (ha0 : 0 ≤ at_) (ha1 : at_ < 65536) (σ : Store) : ACall Try.prog 5 [m.A, .int .u16 at_] σ fun a _ => a = .bool true := by
  refine acall_x mixed Try.func5 s5 (by simp [a5]) fun C ok ar cmp scmp cv len slen mm X => ?_
  generalize hQ : (fun (a : AVal) (_ : Store) => a = AVal.bool true) = Q
  have hend : ∀ τ, Post Q (.bool true) τ := fun τ => Post.of (by subst hQ; rfl)
  clear hQ
  have hpost := fun (τ : Store) (p : Nat) (ms : List Mail) (h : PoolIs σ p ms τ) (hl : ms.length < 600) => pool_post h hl m hm none
  have hfull := fun (τ : Store) (p : Nat) (ms : List Mail) (h : PoolIs σ p ms τ) (hl : ms.length = 600) => pool_full h hl m
  have htake := fun (τ : Store) (p : Nat) (ms : List Mail) (h : PoolIs σ p ms τ) (hl : ms.length ≤ 600) (n : Int) (i : Nat) (hn : (i : Int) = n) (hi : ms[i]? = some m) => pool_take h hl n i hn m hi hm
  have hsame := same_ m
  have hT : m.T none = m.A := rfl
  rw [hT] at hpost
  obtain ⟨b, hb, hA⟩ := m.open
  rw [hA] at hpost hfull htake hsame ⊢
  clear hA hT
  conv => cbv
  refine X.call (head_ σ) ?_
  rintro _ σ1 ⟨rfl, rfl⟩
  conv => cbv
  refine X.call (pool_new _) ?_
  rintro _ σ2 ⟨p, rfl, h2⟩
  conv => cbv
  cases hc : cmp .gtr (len b) 100
  case true => conv => cbv
               exact hend _
  clear hc
  conv => cbv
  refine VLoop.of (S := Int × Nat) (fun s => 600 - s.2) (fun s τ => (s.2 : Int) = s.1 ∧ s.2 ≤ 600 ∧ PoolIs σ1 p (List.replicate s.2 m) τ)
    (fun s => [(1, .val (.int .u16 at_)), (2, .box [.int .i64 m.g, .int .i64 m.p, .bool m.o, .slice b m.nl none]), (5, .val (.bool true)), (6, .val (.ptr p 0)), (7, .val (.int .i64 s.1))]) (0, 0) σ2 ⟨rfl, rfl, rfl, rfl, rfl, trivial⟩ (.refl _) ⟨rfl, by omega, h2⟩ ?_
  rintro ⟨n, k⟩ τ ⟨hn, hk, hp⟩
  simp only at hn hk hp
  conv => cbv
  cases hc : cmp .lss n 600
  case true =>
    have hlt : k < 600 := by
      rw [X.lss] at hc
      have := of_decide_eq_true hc
      omega
    have hcall := hpost τ p _ hp (by simpa using hlt)
    rw [show List.replicate k m ++ [m] = List.replicate (k + 1) m from by rw [List.replicate_succ']] at hcall
    conv => cbv
    refine X.call hcall ?_
    rintro _ τ' ⟨rfl, hp'⟩
    conv => cbv
    have w : ar .add .i64 n 1 = (k + 1 : Nat) := X.add (by omega)
    rw [w]
    exact Next.of (((k + 1 : Nat) : Int), k + 1) τ' (by simp; omega) ⟨rfl, rfl, rfl, rfl, rfl, trivial⟩ (.refl _) ⟨rfl, hlt, hp'⟩
  obtain rfl : k = 600 := by
    rw [X.lss] at hc
    have := of_decide_eq_false hc
    omega
  clear hc
  have hlen : (List.replicate 600 m).length = 600 := by simp
  have hget : ∀ i, i < 600 → (List.replicate 600 m)[i]? = some m := fun i hi => by rw [List.getElem?_replicate]; simp [hi]
  have herase : ∀ i, i < 600 → (List.replicate 600 m).eraseIdx i = List.replicate 599 m := fun i hi => by rw [List.eraseIdx_replicate]; simp [hi]
  have hl9 : (List.replicate 599 m).length = 599 := by simp
  have hg9 : (List.replicate 599 m)[0]? = some m := by rw [List.getElem?_replicate]; simp
  have hs9 : List.replicate 599 m ++ [m] = List.replicate 600 m := by rw [← List.replicate_succ']
  generalize List.replicate 600 m = M at *
  generalize List.replicate 599 m = M9 at *
  have hw1 : cv .i64 at_ = at_ := X.conv (by omega)
  have hw2 : cmp .eql 600 0 = false := by rw [X.eql]; rfl
  obtain ⟨j, hj⟩ := Int.eq_ofNat_of_zero_le ha0
  have hw3 : ar .rem .i64 at_ 600 = ((j % 600 : Nat) : Int) := by rw [X.ar, hj]; show ((j : Int)).tmod 600 = _; rw [Int.ofNat_tmod]; rfl
  have hjl : j % 600 < 600 := Nat.mod_lt _ (by decide)
  generalize hz : ((j % 600 : Nat) : Int) = z at hw3
  conv => cbv
  refine X.call (hfull τ p M hp hlen) ?_
  rintro _ τ ⟨rfl, rfl⟩
  conv => cbv
  rw [hw1, hw2]
  conv => cbv
  rw [hw3]
  refine X.call (pool_double_full hp hlen z (j % 600) hz m (hget _ hjl) hm) ?_
  rintro _ τ ⟨rfl, rfl⟩
  conv => cbv
  refine X.call (pool_many hp) ?_
  rintro _ τ ⟨rfl, rfl⟩
  rw [hlen]
  conv => cbv
  rw [show cmp .neq (Int.ofNat 600) 600 = false from by rw [X.neq]; rfl]
  conv => cbv
  rw [hw1, hw2]
  conv => cbv
  rw [hw3]
  refine X.call (htake τ p M hp (by omega) z (j % 600) hz (hget _ hjl)) ?_
  rintro _ τ1 ⟨rfl, hp1⟩
  rw [herase _ hjl] at hp1
  have hdbl := pool_double hp1 (by omega) 0 0 rfl m hg9 hm
  rw [hs9] at hdbl
  conv => cbv
  refine X.call hdbl ?_
  rintro _ τ2 ⟨rfl, hp2⟩
  conv => cbv
  refine X.call (hsame τ2) ?_
  rintro _ τ2 ⟨rfl, rfl⟩
  conv => cbv
  refine X.call (pool_many hp2) ?_
  rintro _ τ2 ⟨rfl, rfl⟩
  rw [hlen]
  conv => cbv
  rw [show cmp .eql (Int.ofNat 600) 600 = true from by rw [X.eql]; rfl]
  conv => cbv
  refine X.call (hfull τ2 p M hp2 hlen) ?_
  rintro _ τ2 ⟨rfl, rfl⟩
  conv => cbv
  exact hend _

end Go.Proofs.Ytdjnmbidbfbmiaa
