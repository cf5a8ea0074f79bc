import Derived.Test.YtdjnmbidbfbmiaaPoolI
namespace Go.Proofs.Ytdjnmbidbfbmiaa
open Go.AL
set_option maxRecDepth 100000

/-- The same, its bytes not nil. -/
def Mail.full (m : Mail) : Mail := ⟨m.g, m.p, m.o, m.b, false⟩
theorem Mail.full_ok {m : Mail} (h : m.Ok) : m.full.Ok := ⟨h.1, fun h => by cases h⟩
@[simp] theorem Mail.full_full (m : Mail) : m.full.full = m.full := rfl

theorem bytesA_one (l : List UInt8) : ∀ y ∈ bytesA l, y.one = true := by
  intro y hy
  obtain ⟨c, _, rfl⟩ := List.mem_map.1 hy
  rfl

theorem clone_ref (b n c : Nat) (cs : List AVal) (l : List UInt8) (σ : Store) (ho : σ.obj b = some cs) (hle : n ≤ cs.length) (hl : cs.take n = bytesA l) (hb : l.length ≤ 140737488351232) :
    ACall Try.prog 22 [.ref b 0 n c] σ fun a σ' => a = .slice (bytesA l) false none ∧ σ' = σ := by
  have h1 := bytesA_one l
  have hn : (bytesA l).length = l.length := bytesA_length l
  generalize bytesA l = ys at *
  have hyn : ys.length = n := by rw [← hl]; simp; omega
  refine acall_x mixed Try.func22 s22 (by simp [a22]) fun C ok ar cmp scmp cv len slen mm X => ?_
  conv => cbv
  refine VNewTok.own fun t τ hs ht hto => ?_
  conv => cbv
  refine VAppR.own (xs := []) hs ht hto (hs.obj _ _ ho) (by omega) (by rw [List.drop_zero]; exact hl) h1 (by simp only [maxLen, List.length_nil]; omega) (by simp; omega) fun zs g τ2 hz hs2 hg2 ho2 => ?_
  rw [List.nil_append] at hz
  subst hz
  conv => cbv
  exact Post.dim _ σ slice_le_tok hs2 ⟨rfl, rfl⟩

theorem copied_ref (g p : Int) (o : Bool) (b n c : Nat) (cs : List AVal) (l : List UInt8) (σ : Store) (ho : σ.obj b = some cs) (hle : n ≤ cs.length) (hl : cs.take n = bytesA l) (hb : l.length ≤ 140737488351232) :
    ACall Try.prog 20 [.agg [.int .i64 g, .int .i64 p, .bool o, .ref b 0 n c]] σ fun a σ' => a = (⟨g, p, o, l, false⟩ : Mail).A ∧ σ' = σ := by
  have hc := clone_ref b n c cs l σ ho hle hl hb
  have hA : (⟨g, p, o, l, false⟩ : Mail).A = .agg [.int .i64 g, .int .i64 p, .bool o, .slice (bytesA l) false none] := rfl
  rw [hA]
  clear hA
  generalize bytesA l = ys at hc
  refine acall_x mixed Try.func20 s20 (by simp [a20]) fun C ok ar cmp scmp cv len slen mm X => ?_
  conv => cbv
  refine X.call hc ?_
  rintro _ σ' ⟨rfl, rfl⟩
  conv => cbv
  exact Post.of ⟨rfl, rfl⟩

theorem post_ref_full {σ0 σ : Store} {p : Nat} {ms : List Mail} (h : PoolIs σ0 p ms σ) (hl : ms.length = 600) (g q : Int) (o : Bool) (b n c : Nat) :
    ACall Try.prog 10 [.ptr p 0, .agg [.int .i64 g, .int .i64 q, .bool o, .ref b 0 n c]] σ fun a σ' => a = .bool false ∧ σ' = σ := by
  obtain ⟨nl, tok, ha, _⟩ := h.is
  have ha1 := ha.1
  have hxl : (ms.map Mail.A).length = 600 := by simp [hl]
  generalize ms.map Mail.A = xs at ha1 hxl
  refine acall_x mixed Try.func10 s10 (by simp [a10]) fun C ok ar cmp scmp cv len slen mm X => ?_
  conv => cbv
  refine VLoad.of ha1 rfl (by simp) ?_
  conv => cbv
  rw [show cmp .eql (len xs) 600 = true from by rw [X.eql, X.len_, hxl]; rfl]
  conv => cbv
  exact Post.of ⟨rfl, rfl⟩

theorem post_ref {σ0 σ : Store} {p : Nat} {ms : List Mail} (h : PoolIs σ0 p ms σ) (hl : ms.length < 600) (g q : Int) (o : Bool) (b n c : Nat) (cs : List AVal) (l : List UInt8) (ho : σ.obj b = some cs) (hle : n ≤ cs.length) (hcs : cs.take n = bytesA l) (hb : l.length ≤ 140737488351232) :
    ACall Try.prog 10 [.ptr p 0, .agg [.int .i64 g, .int .i64 q, .bool o, .ref b 0 n c]] σ fun a σ' => a = .bool true ∧ PoolIs σ0 p (ms ++ [⟨g, q, o, l, false⟩]) σ' := by
  obtain ⟨nl, tok, ha, ht⟩ := h.is
  have hcop := copied_ref g q o b n c cs l σ ho hle hcs hb
  have hgrow : ∀ g', (tok = some g' ∨ σ.fresh g') → ∀ n', n' = ms.length + 1 → PoolIs σ0 p (ms ++ [(⟨g, q, o, l, false⟩ : Mail)]) (((σ.dropOpn tok).setOpn g' (n', 4, 33)).setObj p [.slice ((ms ++ [(⟨g, q, o, l, false⟩ : Mail)]).map Mail.A) false (some g')]) :=
    fun g' hg' n' hn' => h.grown ht hg' (by simp [hn'])
  have hA : (⟨g, q, o, l, false⟩ : Mail).A = .agg [.int .i64 g, .int .i64 q, .bool o, .slice (bytesA l) false none] := rfl
  rw [List.map_append, List.map_cons, List.map_nil, hA] at hgrow
  rw [hA] at hcop
  clear hA
  have ha1 := ha.1
  have ha2 := ha.2
  have hxl : (ms.map Mail.A).length = ms.length := by simp
  generalize ms.map Mail.A = xs at ha1 ha2 hxl hgrow
  generalize bytesA l = ys at hcop hgrow
  refine acall_x mixed Try.func10 s10 (by simp [a10]) fun C ok ar cmp scmp cv len slen mm X => ?_
  generalize hQ : (fun a σ' => a = AVal.bool true ∧ PoolIs σ0 p (ms ++ [⟨g, q, o, l, false⟩]) σ') = Q
  conv => cbv
  refine VLoad.of ha1 rfl (by simp) ?_
  conv => cbv
  rw [show cmp .eql (len xs) 600 = false from by rw [X.eql, X.len_, hxl]; exact decide_eq_false (by omega)]
  conv => cbv
  refine VLoad.of ha1 rfl (by simp) ?_
  conv => cbv
  refine X.callD hcop ?_
  conv => cbv
  refine VApp.of ha2 (fun y hy => by simp at hy; subst hy; exact ⟨rfl, rfl⟩) (by simp only [maxLen, List.length_cons, List.length_nil]; omega) (by simp; omega) (fun h0 => by cases h0) fun _ zs g' τ hz hg' hτ => ?_
  conv => cbv
  have hobj : τ.obj p = some [.slice xs nl tok] := by rw [hτ]; exact ha1
  refine VStore.of hobj (by simp) rfl fun τ' hτ' => ?_
  conv => cbv
  refine Post.of ?_
  subst hQ
  refine ⟨rfl, ?_⟩
  have := hgrow g' hg' _ rfl
  rw [hτ', hτ, hz, hxl]
  exact this

/-! ## The document's -/
theorem rfull {σ0 σ : Store} {p : Nat} {ms : List Mail} (h : PoolIs σ0 p ms σ) (hl : ms.length = 600) (m : Mail) (t : Option Nat) : ACall Try.prog 11 [.ptr p 0, m.T t] σ fun a σ' => a = .bool false ∧ σ' = σ := by
  obtain ⟨nl, tok, ha, _⟩ := h.is
  have ha1 := ha.1
  have hxl : (ms.map Mail.A).length = 600 := by simp [hl]
  generalize ms.map Mail.A = xs at ha1 hxl
  have hT : m.T t = .agg [.int .i64 m.g, .int .i64 m.p, .bool m.o, .slice (bytesA m.b) m.nl t] := rfl
  rw [hT]
  generalize bytesA m.b = ys
  refine acall_x mixed Try.func11 s11 (by simp [a11]) fun C ok ar cmp scmp cv len slen mm X => ?_
  conv => cbv
  refine VLoad.of ha1 rfl (by simp) ?_
  conv => cbv
  rw [show cmp .geq (len xs) 600 = true from by rw [X.geq, X.len_, hxl]; rfl]
  conv => cbv
  exact Post.of ⟨rfl, rfl⟩

theorem rpost {σ0 σ : Store} {p : Nat} {ms : List Mail} (h : PoolIs σ0 p ms σ) (hl : ms.length < 600) (m : Mail) (hm : m.Ok) (t : Option Nat) : ACall Try.prog 11 [.ptr p 0, m.T t] σ fun a σ' => a = .bool true ∧ PoolIs σ0 p (ms ++ [m.full]) σ' := by
  have hT : m.T t = .agg [.int .i64 m.g, .int .i64 m.p, .bool m.o, .slice (bytesA m.b) m.nl t] := rfl
  rw [hT]
  have hF : m.full.A = .agg [.int .i64 m.g, .int .i64 m.p, .bool m.o, .slice (bytesA m.b) false none] := rfl
  have hel := elemsOk_bytes m.b
  have hbl : (bytesA m.b).length ≤ 140737488351232 := by rw [bytesA_length]; exact hm.1
  refine acall_x mixed Try.func11 s11 (by simp [a11]) fun C ok ar cmp scmp cv len slen mm X => ?_
  generalize hQ : (fun a σ' => a = AVal.bool true ∧ PoolIs σ0 p (ms ++ [m.full]) σ') = Q
  generalize bytesA m.b = ys at hF hel hbl
  obtain ⟨nl, tok, ha, ht⟩ := h.is
  have ha1 := ha.1
  have hxl : (ms.map Mail.A).length = ms.length := by simp
  have hxs : (ms.map Mail.A ++ [.agg [.int .i64 m.g, .int .i64 m.p, .bool m.o, .slice ys false none]]) = (ms ++ [m.full]).map Mail.A := by rw [List.map_append, List.map_cons, List.map_nil, hF]
  generalize hxe : ms.map Mail.A = xs at ha1 hxl hxs
  conv => cbv
  refine VLoad.of ha1 rfl (by simp) ?_
  conv => cbv
  rw [show cmp .geq (len xs) 600 = false from by rw [X.geq, X.len_, hxl]; exact decide_eq_false (by omega)]
  conv => cbv
  refine VNewTok.ownO fun t1 τ hs1 hso ht1 hto => ?_
  conv => cbv
  refine VApp.shut hs1 hso ht1 hto hel (by simp only [maxLen, List.length_nil]; omega) (by simp; omega) fun zs hz => ?_
  rw [List.nil_append] at hz
  subst hz
  conv => cbv
  refine VLoad.of ha1 rfl (by simp) ?_
  conv => cbv
  refine VApp.of (hxe ▸ ha.2) (fun y hy => by simp at hy; subst hy; exact ⟨rfl, rfl⟩) (by simp only [maxLen, List.length_cons, List.length_nil]; omega) (by simp; omega) (fun h0 => by cases h0) fun _ zs2 g' τ hz hg' hτ => ?_
  conv => cbv
  have hobj : τ.obj p = some [.slice xs nl tok] := by rw [hτ]; exact ha1
  refine VStore.of hobj (by simp) rfl fun τ' hτ' => ?_
  conv => cbv
  refine Post.of ?_
  subst hQ
  refine ⟨rfl, ?_⟩
  rw [hτ', hτ, hz, hxs, hxl]
  exact h.grown ht hg' (by simp)

theorem rat_no {σ0 σ : Store} {p : Nat} {ms : List Mail} (h : PoolIs σ0 p ms σ) (i : Int) (hi : i < 0 ∨ (ms.length : Int) ≤ i) : ACall Try.prog 18 [.ptr p 0, .int .i64 i] σ fun a σ' => a = .tuple [zeroMail, .bool false] ∧ σ' = σ := by
  obtain ⟨nl, tok, ha, _⟩ := h.is
  have ha1 := ha.1
  have hxl : (ms.map Mail.A).length = ms.length := by simp
  generalize ms.map Mail.A = xs at ha1 hxl
  refine acall_x mixed Try.func18 s18 (by simp [a18]) fun C ok ar cmp scmp cv len slen mm X => ?_
  conv => cbv
  by_cases hn : i < 0
  · rw [X.lss, decide_eq_true hn]
    conv => cbv
    exact Post.of ⟨rfl, rfl⟩
  · rw [X.lss, decide_eq_false hn]
    conv => cbv
    refine VLoad.of ha1 rfl (by simp) ?_
    conv => cbv
    rw [show cmp .geq i (len xs) = true from by rw [X.geq, X.len_, hxl]; exact decide_eq_true (by omega)]
    conv => cbv
    exact Post.of ⟨rfl, rfl⟩

theorem rat {σ0 σ : Store} {p : Nat} {ms : List Mail} (h : PoolIs σ0 p ms σ) (n : Int) (i : Nat) (hn : (i : Int) = n) (m : Mail) (hi : ms[i]? = some m) (hm : m.Ok) : ACall Try.prog 18 [.ptr p 0, .int .i64 n] σ fun a σ' => a = .tuple [m.full.A, .bool true] ∧ σ' = σ := by
  obtain ⟨nl, tok, ha, _⟩ := h.is
  have ha1 := ha.1
  have hlt : i < ms.length := (List.getElem?_eq_some_iff.1 hi).1
  have hxl : (ms.map Mail.A).length = ms.length := by simp
  have hget : (ms.map Mail.A)[i]? = some m.A := by simp [hi]
  have hA : m.A = .agg [.int .i64 m.g, .int .i64 m.p, .bool m.o, .slice (bytesA m.b) m.nl none] := rfl
  have hF : m.full.A = .agg [.int .i64 m.g, .int .i64 m.p, .bool m.o, .slice (bytesA m.b) false none] := rfl
  have hel := elemsOk_bytes m.b
  have hbl : (bytesA m.b).length ≤ 140737488351232 := by rw [bytesA_length]; exact hm.1
  rw [hF]
  rw [hA] at hget
  generalize bytesA m.b = ys at hget hel hbl
  generalize ms.map Mail.A = xs at ha1 hxl hget
  refine acall_x mixed Try.func18 s18 (by simp [a18]) fun C ok ar cmp scmp cv len slen mm X => ?_
  conv => cbv
  rw [X.lss, decide_eq_false (by omega)]
  conv => cbv
  refine VLoad.of ha1 rfl (by simp) ?_
  conv => cbv
  rw [show cmp .geq n (len xs) = false from by rw [X.geq, X.len_, hxl]; exact decide_eq_false (by omega)]
  conv => cbv
  refine VLoad.of ha1 rfl (by simp) ?_
  conv => cbv
  refine VIdx.of i hn.symm hget rfl ?_
  conv => cbv
  refine VNewTok.ownO fun t1 τ hs1 hso ht1 hto => ?_
  conv => cbv
  refine VApp.shut hs1 hso ht1 hto hel (by simp only [maxLen, List.length_nil]; omega) (by simp; omega) fun zs hz => ?_
  rw [List.nil_append] at hz
  subst hz
  conv => cbv
  exact Post.of ⟨rfl, rfl⟩

theorem rtake_no {σ0 σ : Store} {p : Nat} {ms : List Mail} (h : PoolIs σ0 p ms σ) (i : Int) (hi : i < 0 ∨ (ms.length : Int) ≤ i) : ACall Try.prog 13 [.ptr p 0, .int .i64 i] σ fun a σ' => a = .tuple [zeroMail, .bool false] ∧ σ' = σ := by
  refine acall_x mixed Try.func13 s13 (by simp [a13]) fun C ok ar cmp scmp cv len slen mm X => ?_
  conv => cbv
  refine X.call (rat_no h i hi) ?_
  rintro _ σ' ⟨rfl, rfl⟩
  conv => cbv
  exact Post.of ⟨rfl, rfl⟩

theorem rtake {σ0 σ : Store} {p : Nat} {ms : List Mail} (h : PoolIs σ0 p ms σ) (hl : ms.length ≤ 600) (n : Int) (i : Nat) (hn : (i : Int) = n) (m : Mail) (hi : ms[i]? = some m) (hm : m.Ok) : ACall Try.prog 13 [.ptr p 0, .int .i64 n] σ fun a σ' => a = .tuple [m.full.A, .bool true] ∧ PoolIs σ0 p (ms.eraseIdx i) σ' := by
  obtain ⟨nl, tok, ha, _⟩ := h.is
  have ha1 := ha.1
  have hlt : i < ms.length := (List.getElem?_eq_some_iff.1 hi).1
  have hxl : (ms.map Mail.A).length = ms.length := by simp
  have hxs := mails_cells ms
  have hxe := elemsOk_mails ms
  have hF : m.full.A = .agg [.int .i64 m.g, .int .i64 m.p, .bool m.o, .slice (bytesA m.b) false none] := rfl
  have hat := rat h n i hn m hi hm
  have hfin : (ms.map Mail.A).take i ++ (ms.map Mail.A).drop (i + 1) = (ms.eraseIdx i).map Mail.A := by rw [List.eraseIdx_eq_take_drop_succ, List.map_append, List.map_take, List.map_drop]
  rw [hF] at hat ⊢
  generalize bytesA m.b = ys at hat
  generalize ms.map Mail.A = xs at ha1 hxl hxs hxe hfin
  refine acall_x mixed Try.func13 s13 (by simp [a13]) fun C ok ar cmp scmp cv len slen mm X => ?_
  generalize hQ : (fun a σ' => a = AVal.tuple [.agg [.int .i64 m.g, .int .i64 m.p, .bool m.o, .slice ys false none], .bool true] ∧ PoolIs σ0 p (ms.eraseIdx i) σ') = Q
  have w2 : ar .add .i64 n 1 = (i + 1 : Nat) := X.add (by omega)
  generalize hn2 : ((i + 1 : Nat) : Int) = n2 at w2
  conv => cbv
  refine X.call hat ?_
  rintro _ σ' ⟨rfl, rfl⟩
  conv => cbv
  rw [w2]
  refine VLoad.of ha1 rfl (by simp) ?_
  conv => cbv
  refine VCut.of0 0 i rfl hn.symm (by omega) (by omega) hxs (.inr (.inr (by omega))) fun y1 hy1 => ?_
  conv => cbv
  refine VLoad.of ha1 rfl (by simp) ?_
  conv => cbv
  refine VCut.of0 (i + 1) xs.length hn2.symm rfl (by omega) (by omega) hxs (.inr (.inl (by omega))) fun y2 hy2 => ?_
  rw [List.drop_zero] at hy1
  rw [List.take_length] at hy2
  have hl1 : y1.length = i := by rw [hy1]; simp; omega
  have hl2 : y2.length = xs.length - (i + 1) := by rw [hy2]; simp
  have he1 : ElemsOk 4 y1 := by rw [hy1]; exact elemsOk_take hxe
  have he2 : ElemsOk 4 y2 := by rw [hy2]; exact elemsOk_drop hxe
  conv => cbv
  refine VNewTok.own fun t1 τ hs1 ht1 hto => ?_
  conv => cbv
  refine VApp.own hs1 ht1 hto he1 (by simp only [maxLen, List.length_nil]; omega) (by simp; omega) fun z1 g1 τ2 hz1 hs2 hg1 ho1 => ?_
  rw [List.nil_append] at hz1
  subst hz1
  conv => cbv
  refine VApp.own hs2 hg1 ho1 he2 (by simp only [maxLen]; omega) (by omega) fun z2 g2 τ3 hz2 hs3 hg2 ho2 => ?_
  conv => cbv
  refine VStore.of (hs3.obj _ _ ha1) (by simp) rfl fun τ4 hτ4 => ?_
  conv => cbv
  refine Post.of ?_
  subst hQ
  have hfg := h.sub.fresh hg2
  refine ⟨rfl, ?_⟩
  have hze : z2 = (ms.eraseIdx i).map Mail.A := by rw [hz2, hy1, hy2]; exact hfin
  subst hτ4
  refine ⟨sub_setObj (h.sub.trans hs3) h.fp.1, h.fp, false, some g2, ⟨by simp [Store.setObj, hze], .inr ⟨g2, rfl, ?_⟩⟩, fun q hq => by cases hq; exact hfg⟩
  rw [← hze]; exact ho2

theorem rdouble_no {σ0 σ : Store} {p : Nat} {ms : List Mail} (h : PoolIs σ0 p ms σ) (i : Int) (hi : i < 0 ∨ (ms.length : Int) ≤ i) : ACall Try.prog 16 [.ptr p 0, .int .i64 i] σ fun a σ' => a = .bool false ∧ σ' = σ := by
  refine acall_x mixed Try.func16 s16 (by simp [a16]) fun C ok ar cmp scmp cv len slen mm X => ?_
  conv => cbv
  refine X.call (rat_no h i hi) ?_
  rintro _ σ' ⟨rfl, rfl⟩
  conv => cbv
  exact Post.of ⟨rfl, rfl⟩

theorem rdouble_full {σ0 σ : Store} {p : Nat} {ms : List Mail} (h : PoolIs σ0 p ms σ) (hl : ms.length = 600) (n : Int) (i : Nat) (hn : (i : Int) = n) (m : Mail) (hi : ms[i]? = some m) (hm : m.Ok) : ACall Try.prog 16 [.ptr p 0, .int .i64 n] σ fun a σ' => a = .bool false ∧ σ' = σ := by
  have hF : m.full.A = .agg [.int .i64 m.g, .int .i64 m.p, .bool m.o, .slice (bytesA m.b) false none] := rfl
  have hat := rat h n i hn m hi hm
  have hp := rfull h hl m.full none
  rw [show m.full.T none = m.full.A from rfl] at hp
  rw [hF] at hat hp
  generalize bytesA m.b = ys at hat hp
  refine acall_x mixed Try.func16 s16 (by simp [a16]) fun C ok ar cmp scmp cv len slen mm X => ?_
  conv => cbv
  refine X.call hat ?_
  rintro _ σ' ⟨rfl, rfl⟩
  conv => cbv
  refine X.call hp ?_
  rintro _ σ' ⟨rfl, rfl⟩
  conv => cbv
  exact Post.of ⟨rfl, rfl⟩

theorem rdouble {σ0 σ : Store} {p : Nat} {ms : List Mail} (h : PoolIs σ0 p ms σ) (hl : ms.length < 600) (n : Int) (i : Nat) (hn : (i : Int) = n) (m : Mail) (hi : ms[i]? = some m) (hm : m.Ok) : ACall Try.prog 16 [.ptr p 0, .int .i64 n] σ fun a σ' => a = .bool true ∧ PoolIs σ0 p (ms ++ [m.full]) σ' := by
  have hF : m.full.A = .agg [.int .i64 m.g, .int .i64 m.p, .bool m.o, .slice (bytesA m.b) false none] := rfl
  have hat := rat h n i hn m hi hm
  have hp := rpost h hl m.full (Mail.full_ok hm) none
  rw [show m.full.T none = m.full.A from rfl, Mail.full_full] at hp
  rw [hF] at hat hp
  generalize bytesA m.b = ys at hat hp
  refine acall_x mixed Try.func16 s16 (by simp [a16]) fun C ok ar cmp scmp cv len slen mm X => ?_
  generalize hQ : (fun a σ' => a = AVal.bool true ∧ PoolIs σ0 p (ms ++ [m.full]) σ') = Q at hp
  conv => cbv
  refine X.call hat ?_
  rintro _ σ' ⟨rfl, rfl⟩
  conv => cbv
  refine X.call hp ?_
  intro a τ hq
  conv => cbv
  exact Post.of hq

/-- Alike, but that one's bytes may be nil. -/
theorem same_full (m : Mail) (σ : Store) : ACall Try.prog 14 [m.A, m.full.A] σ fun a σ' => a = .bool true ∧ σ' = σ := by
  obtain ⟨b, hb, hA⟩ := m.open
  have hF : m.full.A = .agg [.int .i64 m.g, .int .i64 m.p, .bool m.o, .slice b false none] := by rw [hb]; rfl
  rw [hA, hF]
  obtain ⟨g, p, o, l, nl⟩ := m
  simp only at hb ⊢
  clear hA hF
  refine acall_x mixed Try.func14 s14 (by simp [a14]) fun C ok ar cmp scmp cv len slen mm X => ?_
  conv => cbv
  rw [X.eql, decide_eq_true rfl]
  conv => cbv
  rw [X.eql, decide_eq_true rfl]
  conv => cbv
  cases o
  all_goals
    conv => cbv
    refine VBstr.of l hb ?_
    conv => cbv
    refine VBstr.of l hb ?_
    conv => cbv
    rw [X.seql, beq_self_eq_true]
    conv => cbv
    exact Post.of ⟨rfl, rfl⟩

theorem same_zero (σ : Store) : ACall Try.prog 14 [zeroMail, zeroMail] σ fun a σ' => a = .bool true ∧ σ' = σ := same_ ⟨0, 0, false, [], true⟩ σ

end Go.Proofs.Ytdjnmbidbfbmiaa
