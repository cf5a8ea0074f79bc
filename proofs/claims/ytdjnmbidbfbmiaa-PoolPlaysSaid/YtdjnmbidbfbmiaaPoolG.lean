import Derived.Test.YtdjnmbidbfbmiaaPoolF
namespace Go.Proofs.Ytdjnmbidbfbmiaa
open Go.AL
set_option maxRecDepth 100000

/-- A row of mails, told by its cells. -/
structure Mails (xs : List AVal) (ms : List Mail) : Prop where
  eq : xs = ms.map Mail.A
  ok : ∀ m ∈ ms, m.Ok
theorem Mails.len {xs : List AVal} {ms : List Mail} (h : Mails xs ms) : xs.length = ms.length := by rw [h.eq]; simp
theorem Mails.get {xs : List AVal} {ms : List Mail} (h : Mails xs ms) {i : Nat} {m : Mail} (hi : ms[i]? = some m) : xs[i]? = some m.A := by rw [h.eq]; simp [hi]

theorem order_ (xs : List AVal) (ms : List Mail) (hx : Mails xs ms) (nl : Bool) (σ : Store) (h0 : σ = Store.empty) : ACall Try.prog 6 [.slice xs nl none] σ fun a _ => a = .bool true := by
  refine acall_x mixed Try.func6 s6 (by simp [a6]) fun C ok ar cmp scmp cv len slen mm X => ?_
  generalize hQ : (fun (a : AVal) (_ : Store) => a = AVal.bool true) = Q
  have hend : ∀ τ, Post Q (.bool true) τ := fun τ => Post.of (by subst hQ; rfl)
  clear hQ
  conv => cbv
  refine X.call (head_ σ) ?_
  rintro _ σ1 ⟨rfl, rfl⟩
  conv => cbv
  refine X.call (pool_new _) ?_
  rintro _ σ2 ⟨p, rfl, h2⟩
  conv => cbv
  cases hc : cmp .gtr (len xs) 60
  case true => conv => cbv
               exact hend _
  have hle : ms.length ≤ 60 := by
    rw [X.gtr, X.len_, hx.len] at hc
    have := of_decide_eq_false hc
    omega
  clear hc
  conv => cbv
  refine VLoop.of (S := Int × Nat) (fun s => ms.length - s.2) (fun s τ => (s.2 : Int) = s.1 ∧ s.2 ≤ ms.length ∧ PoolIs σ1 p (ms.take s.2) τ)
    (fun s => [(0, .val (.slice xs nl none)), (3, .val (.bool true)), (4, .val (.ptr p 0)), (5, .val (.int .i64 s.1))]) (0, 0) σ2 ⟨rfl, rfl, rfl, rfl, trivial⟩ (.refl _) ⟨rfl, by omega, by simpa using h2⟩ ?_
  rintro ⟨n, k⟩ τ ⟨hn, hk, hp⟩
  simp only at hn hk hp
  conv => cbv
  cases hc : cmp .lss n (len xs)
  case true =>
    have hlt : k < ms.length := by
      rw [X.lss, X.len_, hx.len] at hc
      have := of_decide_eq_true hc
      omega
    obtain ⟨m, hm⟩ : ∃ m, ms[k]? = some m := ⟨_, List.getElem?_eq_getElem hlt⟩
    have hok := hx.ok m (List.mem_of_getElem? hm)
    have hget := hx.get hm
    have hsnoc : ms.take (k + 1) = ms.take k ++ [m] := by rw [List.take_add_one, hm]; rfl
    have hcall := pool_post hp (by simp; omega) m hok none
    rw [show Mail.T m none = Mail.A m from rfl, ← hsnoc] at hcall
    obtain ⟨b, hb, hA⟩ := Mail.open m
    rw [hA] at hget hcall
    conv => cbv
    refine VIdx.of k hn.symm hget rfl ?_
    conv => cbv
    cases hc2 : cmp .gtr (len b) 1000
    case true => conv => cbv
                 exact hend _
    conv => cbv
    refine VIdx.of k hn.symm hget rfl ?_
    conv => cbv
    refine X.call hcall ?_
    rintro _ τ' ⟨rfl, hp'⟩
    conv => cbv
    have w : ar .add .i64 n 1 = (k + 1 : Nat) := X.add (by omega)
    rw [w]
    exact Next.of (((k + 1 : Nat) : Int), k + 1) τ' (by simp; omega) ⟨rfl, rfl, rfl, rfl, trivial⟩ (.refl _) ⟨rfl, hlt, hp'⟩
  have hge : k = ms.length := by
    rw [X.lss, X.len_, hx.len] at hc
    have := of_decide_eq_false hc
    omega
  clear hc
  subst hge
  rw [List.take_length] at hp
  conv => cbv
  refine VLoop.of (S := Int × Nat) (fun s => ms.length - s.2) (fun s τ => (s.2 : Int) = s.1 ∧ s.2 ≤ ms.length ∧ PoolIs σ1 p (ms.drop s.2) τ)
    (fun s => [(0, .val (.slice xs nl none)), (3, .val (.bool true)), (4, .val (.ptr p 0)), (6, .val (.int .i64 s.1))]) (0, 0) τ ⟨rfl, rfl, rfl, rfl, trivial⟩ (.refl _) ⟨rfl, by omega, by simpa using hp⟩ ?_
  rintro ⟨n, k⟩ τ ⟨hn, hk, hp⟩
  simp only at hn hk hp
  conv => cbv
  cases hc : cmp .lss n (len xs)
  case true =>
    have hlt : k < ms.length := by
      rw [X.lss, X.len_, hx.len] at hc
      have := of_decide_eq_true hc
      omega
    obtain ⟨m, hm⟩ : ∃ m, ms[k]? = some m := ⟨_, List.getElem?_eq_getElem hlt⟩
    have hok := hx.ok m (List.mem_of_getElem? hm)
    have hget := hx.get hm
    have htake := pool_take hp (by simp; omega) 0 0 rfl m (by simp [hm]) hok
    have hdrop : (ms.drop k).eraseIdx 0 = ms.drop (k + 1) := by rw [List.eraseIdx_zero, List.tail_drop]
    rw [hdrop] at htake
    have hsame := same_ m
    obtain ⟨b, hb, hA⟩ := Mail.open m
    rw [hA] at hget htake hsame
    conv => cbv
    refine X.call htake ?_
    rintro _ τ' ⟨rfl, hp'⟩
    conv => cbv
    refine VIdx.of k hn.symm hget rfl ?_
    conv => cbv
    refine X.call (hsame _) ?_
    rintro _ τ' ⟨rfl, rfl⟩
    conv => cbv
    have w : ar .add .i64 n 1 = (k + 1 : Nat) := X.add (by omega)
    rw [w]
    exact Next.of (((k + 1 : Nat) : Int), k + 1) _ (by simp; omega) ⟨rfl, rfl, rfl, rfl, trivial⟩ (.refl _) ⟨rfl, hlt, hp'⟩
  have hge : k = ms.length := by
    rw [X.lss, X.len_, hx.len] at hc
    have := of_decide_eq_false hc
    omega
  clear hc
  subst hge
  rw [List.drop_length] at hp
  conv => cbv
  refine X.call (pool_none hp 0 (.inr (by simp))) ?_
  rintro _ τ' ⟨rfl, rfl⟩
  conv => cbv
  refine X.call (pool_many hp) ?_
  rintro _ τ' ⟨rfl, rfl⟩
  conv => cbv
  rw [show cmp .eql (Int.ofNat 0) 0 = true from by rw [X.eql]; rfl]
  conv => cbv
  exact hend _

end Go.Proofs.Ytdjnmbidbfbmiaa
