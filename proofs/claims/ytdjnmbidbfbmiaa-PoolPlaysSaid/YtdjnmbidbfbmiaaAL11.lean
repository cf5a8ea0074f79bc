/-
  AN ABSTRACT LOGIC OVER THE MODEL, part 11: what code asks, in a form that is reckoned by call-by-value evaluation: functions on numbers and lists stay closed (variables: 'Sg'), demands that want a word of the prover's are closed propositions ('V..').
-/
import Derived.Test.YtdjnmbidbfbmiaaAL8
namespace Go.AL
open Go.RowKit

abbrev CallP := Nat → List AVal → Store → (AVal → Store → Prop) → Prop

/-- What stays closed while code is reckoned. -/
structure Sg where
  C : CallP
  ok : Nat → Prop
  ar : BinOp → IntKind → Int → Int → Int
  cmp : BinOp → Int → Int → Bool
  scmp : BinOp → List UInt8 → List UInt8 → Bool
  cv : IntKind → Int → Int
  len : List AVal → Int
  slen : List UInt8 → Int
  mm : Bool → Int → Int → Int

def arStd (op : BinOp) (k : IntKind) (a b : Int) : Int :=
  match op with
  | .add => k.wrap (a + b)
  | .sub => k.wrap (a - b)
  | .mul => k.wrap (a * b)
  | .quo => k.wrap (a.tdiv b)
  | .rem => a.tmod b
  | .and => k.wrap (BitVec.ofInt k.bits a &&& BitVec.ofInt k.bits b).toNat
  | .or => k.wrap (BitVec.ofInt k.bits a ||| BitVec.ofInt k.bits b).toNat
  | .xor => k.wrap (BitVec.ofInt k.bits a ^^^ BitVec.ofInt k.bits b).toNat
  | .shl => k.wrap (a * 2 ^ min b.toNat k.bits)
  | .shr => a.fdiv (2 ^ min b.toNat k.bits)
  | _ => 0
def cmpStd (op : BinOp) (a b : Int) : Bool := (intCmpV op a b).getD false
def scmpStd (op : BinOp) (a b : List UInt8) : Bool :=
  match op with
  | .eql => a == b
  | .neq => !(a == b)
  | .lss => Op.bytesLess a b
  | .leq => Op.bytesLess a b || a == b
  | .gtr => !(Op.bytesLess a b || a == b)
  | .geq => !Op.bytesLess a b
  | _ => false

def Sg.std (P : Program) : Sg where
  C := ACall P
  ok f := ∃ fn, P.funcs[f]? = some fn ∧ (fn.body.isSome && fn.name != "runtime.NumGoroutine") = true
  ar := arStd
  cmp := cmpStd
  scmp := scmpStd
  cv := fun k n => k.wrap n
  len := fun xs => xs.length
  slen := fun xs => xs.length
  mm := fun t a b => if t then (if b < a then b else a) else (if b > a then b else a)

def notB (b : Bool) : Bool := match b with
  | true => false
  | false => true
def beqB (a b : Bool) : Bool := match a with
  | true => b
  | false => notB b
theorem notB_eq (b : Bool) : notB b = !b := by cases b <;> rfl
theorem beqB_eq (a b : Bool) : beqB a b = (a == b) := by cases a <;> cases b <;> rfl
def allOne : List AVal → Bool
  | [] => true
  | a :: r => match a.one with
    | true => allOne r
    | false => false
theorem allOne_eq (l : List AVal) : allOne l = l.all AVal.one := by
  induction l with
  | nil => rfl
  | cons a r ih => simp only [allOne, List.all_cons, ih]; cases a.one <;> rfl

/-! ## Demands -/
structure VNew (σ : Store) (cs : List AVal) (k : Nat → Store → Prop) : Prop where
  out : ∀ b, σ.fresh b → ∀ σ', σ' = σ.setObj b cs → k b σ'
structure VNewTok (σ : Store) (n sz e : Nat) (k : Nat → Store → Prop) : Prop where
  out : ∀ g, σ.fresh g → ∀ σ', σ' = σ.setOpn g (n, sz, e) → k g σ'
structure VLoad (σ : Store) (b o n : Nat) (k : List AVal → Prop) : Prop where
  out : ∃ cs, σ.obj b = some cs ∧ o + n ≤ cs.length ∧ k ((cs.drop o).take n)
structure VStore (σ : Store) (b o : Nat) (vs : List AVal) (k : Store → Prop) : Prop where
  out : ∃ cs, σ.obj b = some cs ∧ o + vs.length ≤ cs.length ∧ k (σ.setObj b (splice cs o vs))
structure VMark (σ : Store) (g : Nat) (k : Store → Prop) : Prop where
  out : (∃ r, σ.opn g = some r) ∧ ∀ σ', σ' = σ.dropOpn (some g) → k σ'
structure VBstr (xs : List AVal) (k : List UInt8 → Prop) : Prop where
  out : ∃ l, xs = bytesA l ∧ k l
structure VStrb (l : List UInt8) (k : List AVal → Prop) : Prop where
  out : l.length ≤ maxLen ∧ k (bytesA l)
def bndI (d : Nat) : Option Int → (Nat → Prop) → Prop
  | none, k => k d
  | some n, k => 0 ≤ n ∧ k n.toNat
structure VCut (sz : Nat) (xs : List AVal) (tok : Option Nat) (lo hi : Option Int) (k : List AVal → Option Nat → Prop) : Prop where
  out : (∀ x, xs[0]? = some x → x.cells.length = sz) ∧ bndI xs.length hi fun h => h ≤ xs.length ∧ bndI 0 lo fun l => l ≤ h ∧ k ((xs.take h).drop l) (bif l == 0 && h == xs.length then tok else none)
structure VCutRaw (lo hi : Option Int) (k : Prop) : Prop where
  out : bndI 1 hi fun h => h = 0 ∧ bndI 0 lo fun l => l = 0 ∧ k
structure VCut3 (sz : Nat) (xs : List AVal) (lo : Option Int) (hi mx : Int) (k : List AVal → Prop) : Prop where
  out : (∀ x, xs[0]? = some x → x.cells.length = sz) ∧ bndI 0 (some mx) fun m => m ≤ xs.length ∧ bndI 0 (some hi) fun h => h ≤ m ∧ bndI 0 lo fun l => l ≤ h ∧ k ((xs.take h).drop l)
structure VScut (s : List UInt8) (lo hi : Option Int) (k : List UInt8 → Prop) : Prop where
  out : bndI s.length hi fun h => h ≤ s.length ∧ bndI 0 lo fun l => l ≤ h ∧ k ((s.take h).drop l)
structure VIdx (sz : Nat) (xs : List AVal) (n : Int) (k : AVal → Prop) : Prop where
  out : 0 ≤ n ∧ ∃ a, xs[n.toNat]? = some a ∧ a.cells.length = sz ∧ k a
structure VSidx (s : List UInt8) (n : Int) (k : Int → Prop) : Prop where
  out : 0 ≤ n ∧ ∃ c, s[n.toNat]? = some c ∧ k c.toNat
structure VCallD (C : CallP) (f : Nat) (as : List AVal) (σ : Store) (k : AVal → Prop) : Prop where
  out : ∃ c, C f as σ (fun a σ' => a = c ∧ σ' = σ) ∧ k c
structure VApp (σ : Store) (xs : List AVal) (nl : Bool) (tok : Option Nat) (ys : List AVal) (sz e bytes : Nat) (k : AVal → Store → Prop) : Prop where
  out : grows σ xs nl tok sz e ∧ ElemsOk sz ys ∧ xs.length + ys.length ≤ maxLen ∧ (xs.length + ys.length) * bytes ≤ 140737488355328 ∧ ∀ a σ', AppRes σ xs nl tok ys sz e a σ' → DimA k a σ'
/-- An index into a row that is an object. -/
structure VIdxR (sz b o m : Nat) (n : Int) (k : Nat → Prop) : Prop where
  out : 0 ≤ n ∧ n < m ∧ k (o + n.toNat * sz)
structure VAppR (σ : Store) (xs : List AVal) (nl : Bool) (tok : Option Nat) (b o n sz e bytes : Nat) (k : AVal → Store → Prop) : Prop where
  out : sz = 1 ∧ ∃ cs, σ.obj b = some cs ∧ o + n ≤ cs.length ∧ grows σ xs nl tok sz e ∧ (∀ y ∈ (cs.drop o).take n, y.one = true) ∧
    xs.length + n ≤ maxLen ∧ (xs.length + n) * bytes ≤ 140737488355328 ∧ ∀ a σ', AppRes σ xs nl tok ((cs.drop o).take n) sz e a σ' → DimA k a σ'
structure VAppM (σ : Store) (b n c : Nat) (ys : List AVal) (sz bytes : Nat) (k : AVal → Store → Prop) : Prop where
  out : ∃ cs, σ.obj b = some cs ∧ cs.length = c * sz ∧ ElemsOk sz ys ∧ n + ys.length ≤ maxLen ∧ (n + ys.length) * bytes ≤ 140737488355328 ∧
        (ys = [] → k (.ref b 0 n c) σ) ∧
        (ys ≠ [] → c < n + ys.length ∧ ∀ g c', σ.fresh g → n + ys.length ≤ c' → c' ≤ maxLen →
          k (.ref g 0 (n + ys.length) c') (σ.setObj g (cs.take (n * sz) ++ ys.flatMap AVal.cells ++ List.replicate ((c' - (n + ys.length)) * sz) .top)))
structure VAppZ (σ : Store) (m : Int) (sz e bytes : Nat) (k : AVal → Store → Prop) : Prop where
  out : 0 ≤ m ∧ m ≤ 9223372036854775807 ∧ m * bytes ≤ 140737488355328 ∧ (m = 0 → k (.slice [] true none) σ) ∧ (0 < m → ∀ g, σ.fresh g → k (.raw g m.toNat) (σ.setOpn g (0, sz, e)))
structure VCap (xs : List AVal) (nl : Bool) (k : Int → Prop) : Prop where
  out : ∀ c : Nat, xs.length ≤ c → c ≤ maxLen → (nl = true → c = 0) → k c
/-- These slots hold just that. -/
def AllAt (env : Env) : List (Nat × Ent) → Prop
  | [] => True
  | p :: r => env p.1 = p.2 ∧ AllAt env r
theorem AllAt.mem {env : Env} : ∀ {l : List (Nat × Ent)}, AllAt env l → ∀ p ∈ l, env p.1 = p.2
  | _ :: _, h, p, hp => by
    rcases List.mem_cons.1 hp with rfl | hp
    · exact h.1
    · exact AllAt.mem h.2 p hp
def thenX (next : Env → Store → Prop) (K : Ex → Env → Store → Prop) (e : Ex) (env : Env) (σ : Store) : Prop :=
  match e with
  | .normal => next env σ
  | .exit i => K (.exit i) env σ
  | .ret => K .ret env σ
def inX (id : Nat) (K : Ex → Env → Store → Prop) (e : Ex) (env : Env) (σ : Store) : Prop :=
  match e with
  | .normal => K .normal env σ
  | .exit i => match Nat.beq i id with
    | true => K .normal env σ
    | false => K (.exit i) env σ
  | .ret => K .ret env σ
/-- A round's end: the head again, nearer to the end. -/
structure Next {S : Type} (μ : S → Nat) (J : S → Store → Prop) (L : S → List (Nat × Ent)) (s : S) (env : Env) (σ : Store) : Prop where
  out : ∃ s', μ s' < μ s ∧ AllAt env (L s') ∧ ∃ τ, τ.Sub σ ∧ J s' τ
structure VLoop (W : (Ex → Env → Store → Prop) → Env → Store → Prop) (K : Ex → Env → Store → Prop) (env : Env) (σ : Store) : Prop where
  out : ∃ (S : Type) (μ : S → Nat) (J : S → Store → Prop) (L : S → List (Nat × Ent)) (s0 : S) (τ0 : Store), AllAt env (L s0) ∧ τ0.Sub σ ∧ J s0 τ0 ∧
    ∀ s τ, J s τ → W (thenX (Next μ J L s) K) (Env.of (L s)) τ
structure Post (Q : AVal → Store → Prop) (a : AVal) (σ : Store) : Prop where
  out : DimQ Q a σ

/-! ## Reckoning -/
def intX (X : Sg) (op : BinOp) (k : IntKind) (a b : Int) : Option AVal :=
  match op with
  | .add => some (.int k (X.ar .add k a b))
  | .sub => some (.int k (X.ar .sub k a b))
  | .mul => some (.int k (X.ar .mul k a b))
  | .quo => match X.cmp .eql b 0 with
    | true => none
    | false => some (.int k (X.ar .quo k a b))
  | .rem => match X.cmp .eql b 0 with
    | true => none
    | false => some (.int k (X.ar .rem k a b))
  | .and => some (.int k (X.ar .and k a b))
  | .or => some (.int k (X.ar .or k a b))
  | .xor => some (.int k (X.ar .xor k a b))
  | .shl => match X.cmp .lss b 0 with
    | true => none
    | false => some (.int k (X.ar .shl k a b))
  | .shr => match X.cmp .lss b 0 with
    | true => none
    | false => some (.int k (X.ar .shr k a b))
  | .eql => some (.bool (X.cmp .eql a b))
  | .neq => some (.bool (X.cmp .neq a b))
  | .lss => some (.bool (X.cmp .lss a b))
  | .leq => some (.bool (X.cmp .leq a b))
  | .gtr => some (.bool (X.cmp .gtr a b))
  | .geq => some (.bool (X.cmp .geq a b))
  | _ => none
def strX (X : Sg) (op : BinOp) (a b : List UInt8) : Option AVal :=
  match op with
  | .eql => some (.bool (X.scmp .eql a b))
  | .neq => some (.bool (X.scmp .neq a b))
  | .lss => some (.bool (X.scmp .lss a b))
  | .leq => some (.bool (X.scmp .leq a b))
  | .gtr => some (.bool (X.scmp .gtr a b))
  | .geq => some (.bool (X.scmp .geq a b))
  | _ => none
def eqX (q : EqK) (a b : AVal) : Option Bool :=
  match q, a, b with
  | .bool, .bool a, .bool b => some (beqB a b)
  | q, a, b => eqV q a b
theorem eqX_eq : eqX = eqV := by
  funext q a b
  unfold eqX
  split
  · rw [beqB_eq]; rfl
  · rfl

def nilX : BinOp → EqK → Bool → Option AVal
  | .eql, .iface, true => some (.bool true)
  | .neq, .iface, true => some (.bool false)
  | _, _, _ => none
def binG (ic : BinOp → IntKind → Int → Int → Option AVal) (sc : BinOp → List UInt8 → List UInt8 → Option AVal) (nc : BinOp → EqK → Bool → Option AVal) (ec : EqK → AVal → AVal → Option Bool) (nb : Bool → Bool) (op : BinOp) (q : EqK) (lit : Bool) : Ent → Ent → Option AVal
  | .val (.int k a), .val (.int k' b) => if k = k' then ic op k a b else none
  | .val (.str a), .val (.str b) => sc op a b
  | .val .nilI, .val .nilI => nc op q lit
  | .val x, .val y => match op, ec q x y with
    | .eql, some t => some (.bool t)
    | .neq, some t => some (.bool (nb t))
    | _, _ => none
  | .lptr _ _, .val .nilP => match op, q with
    | .eql, .pointer => some (.bool false)
    | .neq, .pointer => some (.bool true)
    | _, _ => none
  | _, _ => none
def nilV (op : BinOp) (q : EqK) (lit : Bool) : Option AVal := if lit then (match op, q with
    | .eql, .iface => some (.bool true)
    | .neq, .iface => some (.bool false)
    | _, _ => none) else none
theorem binV_eq (op : BinOp) (q : EqK) (lit : Bool) (x y : Ent) : binV op q lit x y = binG intV strV nilV eqV (fun t => !t) op q lit x y := rfl
def binX (X : Sg) : BinOp → EqK → Bool → Ent → Ent → Option AVal := binG (intX X) (strX X) nilX eqX notB

def fillX (cells : List AVal) : List (Nat × Nat × AVal) → Option (List AVal)
  | [] => some cells
  | (off, n, v) :: r => match Nat.beq v.cells.length n, allOne v.cells, Nat.ble (off + n) cells.length with
    | true, true, true => fillX (splice cells off v.cells) r
    | _, _, _ => none
def setX (sz : Nat) (xs : List AVal) (ev : Opd → Ent) : List (Nat × Opd) → Option (List AVal)
  | [] => some xs
  | (i, x) :: r => match ev x with
    | .val a => match Nat.ble (i + 1) xs.length, Nat.beq a.cells.length sz, allOne a.cells with
      | true, true, true => setX sz (xs.set i a) ev r
      | _, _, _ => none
    | _ => none

def pureX (X : Sg) (env : Env) : AOp → Option Ent
  | .bin op q x y => match binX X op q (nilConst x || nilConst y) (evalOpd env x) (evalOpd env y) with
    | some a => some (.val a)
    | none => none
  | .not x => match evalOpd env x with
    | .val (.bool b) => some (.val (.bool (notB b)))
    | _ => none
  | .convInt k x => match evalOpd env x with
    | .val (.int _ n) => some (.val (.int k (X.cv k n)))
    | _ => none
  | .field off n agg x => match evalOpd env x with
    | .val (.agg cs) => match Nat.ble (off + n) cs.length with
      | true => some (.val (mkv agg ((cs.drop off).take n)))
      | false => none
    | _ => none
  | .build z ps => match partV (evalOpd env) ps with
    | some ps => match fillX z ps with
      | some cs => some (.val (.agg cs))
      | none => none
    | none => none
  | .len x => match evalOpd env x with
    | .val (.slice xs _ _) => some (.val (.int .i64 (X.len xs)))
    | .val (.ref _ _ n _) => some (.val (.int .i64 n))
    | _ => none
  | .lenStr x => match evalOpd env x with
    | .val (.str s) => some (.val (.int .i64 (X.slen s)))
    | _ => none
  | .min x y => match evalOpd env x, evalOpd env y with
    | .val (.int k a), .val (.int _ b) => some (.val (.int k (X.mm true a b)))
    | _, _ => none
  | .max x y => match evalOpd env x, evalOpd env y with
    | .val (.int k a), .val (.int _ b) => some (.val (.int k (X.mm false a b)))
    | _, _ => none
  | o => pureV env o

def bndX (env : Env) : Option Opd → (Option Int → Prop) → Prop
  | none, k => k none
  | some x, k => match evalOpd env x with
    | .val (.int _ n) => k (some n)
    | _ => False
def bndX1 (env : Env) (x : Opd) (k : Int → Prop) : Prop :=
  match evalOpd env x with
    | .val (.int _ n) => k n
    | _ => False

def vcPureX (d : Option Nat) (k : Env → Store → Prop) (env : Env) (σ : Store) : Option Ent → Prop
  | some e => k (env.set d e) σ
  | none => False

def vcOpX (X : Sg) (o : AOp) (d : Option Nat) (k : Env → Store → Prop) (env : Env) (σ : Store) : Prop :=
  match o with
  | .pick c a b => match evalOpd env c with
    | .val (.bool t) => match t with
      | true => k (env.set d (evalOpd env a)) σ
      | false => k (env.set d (evalOpd env b)) σ
    | _ => False
  | .box cs => match d with
    | some d => k (env.newBox d cs) σ
    | none => False
  | .boxv x => match d, evalOpd env x with
    | some d, .val a => match allOne a.cells with
      | true => k (env.newBox d a.cells) σ
      | false => False
    | _, _ => False
  | .obj cs => VNew σ cs fun b σ' => k (env.set d (.val (.ptr b 0))) σ'
  | .objv x => match evalOpd env x with
    | .val a => match allOne a.cells with
      | true => VNew σ a.cells fun b σ' => k (env.set d (.val (.ptr b 0))) σ'
      | false => False
    | _ => False
  | .bslice own sz e n z ps => match setX sz (List.replicate n z) (evalOpd env) ps with
    | some xs => match own with
      | true => VNewTok σ n sz e fun g σ' => k (env.set d (.val (.slice xs false (some g)))) σ'
      | false => k (env.set d (.val (.slice xs false none))) σ
    | none => False
  | .load agg n x => match evalOpd env x with
    | .val (.ptr b o) => VLoad σ b o n fun cs => k (env.set d (.val (mkv agg cs))) σ
    | .val (.sptr cs) => match Nat.ble n cs.length with
      | true => k (env.set d (.val (mkv agg (cs.take n)))) σ
      | false => False
    | .lptr s o => match env s with
      | .box cs => match Nat.ble (o + n) cs.length with
        | true => k (env.set d (.val (mkv agg ((cs.drop o).take n)))) σ
        | false => False
      | _ => False
    | _ => False
  | .store n x v => match evalOpd env v with
    | .val a => match Nat.beq a.cells.length n, allOne a.cells with
      | true, true => match evalOpd env x with
        | .val (.ptr b o) => VStore σ b o a.cells fun σ' => k (env.set d (.val .top)) σ'
        | .lptr s o => match env s with
          | .box cs => match Nat.ble (o + n) cs.length with
            | true => k ((env.setBox s (splice cs o a.cells)).set d (.val .top)) σ
            | false => False
          | _ => False
        | _ => False
      | _, _ => False
    | _ => False
  | .bytesStr x => match evalOpd env x with
    | .val (.slice xs _ _) => VBstr xs fun l => k (env.set d (.val (.str l))) σ
    | _ => False
  | .strBytes _ x => match evalOpd env x with
    | .val (.str l) => VStrb l fun xs => k (env.set d (.val (.slice xs false none))) σ
    | _ => False
  | .mark x => match evalOpd env x with
    | .val (.slice xs false (some g)) => VMark σ g fun σ' => k (env.set d (.val (.slice xs false none))) σ'
    | _ => False
  | .cut sz x lo hi => match evalOpd env x with
    | .val (.slice xs nl tok) => bndX env hi fun h => bndX env lo fun l => VCut sz xs tok l h fun ys t => k (env.set d (.val (.slice ys nl t))) σ
    | .val (.raw g _) => bndX env hi fun h => bndX env lo fun l => VCutRaw l h (k (env.set d (.val (.slice [] false (some g)))) σ)
    | _ => False
  | .cut3 sz x lo hi mx => match evalOpd env x with
    | .val (.slice xs nl _) => bndX1 env mx fun m => bndX1 env hi fun h => bndX env lo fun l => VCut3 sz xs l h m fun ys => k (env.set d (.val (.slice ys nl none))) σ
    | _ => False
  | .cutStr x lo hi => match evalOpd env x with
    | .val (.str s) => bndX env hi fun h => bndX env lo fun l => VScut s l h fun t => k (env.set d (.val (.str t))) σ
    | _ => False
  | .iaddr sz x i => match evalOpd env i with
    | .val (.int _ n) => match evalOpd env x with
      | .val (.slice xs _ _) => VIdx sz xs n fun a => k (env.set d (.val (.sptr a.cells))) σ
      | .val (.ref b o m _) => VIdxR sz b o m n fun q => k (env.set d (.val (.ptr b q))) σ
      | _ => False
    | _ => False
  | .istr x i => match evalOpd env x, evalOpd env i with
    | .val (.str s), .val (.int _ n) => VSidx s n fun c => k (env.set d (.val (.int .u8 c))) σ
    | _, _ => False
  | .call f args => match vals (args.map (evalOpd env)) with
    | some av => X.C f av σ fun a σ' => k (env.set d (.val a)) σ'
    | none => False
  | .callv f args => match evalOpd env f, vals (args.map (evalOpd env)) with
    | .val (.func (.func f) fs cs), some av => X.ok f ∧ X.C f (fs ++ av ++ cs) σ fun a σ' => k (env.set d (.val a)) σ'
    | _, _ => False
  | .append sz e bytes x y => match evalOpd env x with
    | .val (.slice xs nl tok) => match evalOpd env y with
      | .val (.slice ys _ _) => VApp σ xs nl tok ys sz e bytes fun a σ' => k (env.set d (.val a)) σ'
      | .val (.ref b o n _) => VAppR σ xs nl tok b o n sz e bytes fun a σ' => k (env.set d (.val a)) σ'
      | _ => False
    | _ => False
  | .appendM sz _ bytes x y => match evalOpd env x, evalOpd env y with
    | .val (.ref b 0 n c), .val (.slice ys _ _) => VAppM σ b n c ys sz bytes fun a σ' => k (env.set d (.val a)) σ'
    | _, _ => False
  | .mslice sz _ n z ps => match setX sz (List.replicate n z) (evalOpd env) ps with
    | some xs => VNew σ (xs.flatMap AVal.cells) fun b σ' => k (env.set d (.val (.ref b 0 n n))) σ'
    | none => False
  | .appendZ sz e bytes x y => match evalOpd env x, evalOpd env y with
    | .val (.slice [] true none), .val (.int .i64 m) => VAppZ σ m sz e bytes fun a σ' => k (env.set d (.val a)) σ'
    | _, _ => False
  | .cap x => match evalOpd env x with
    | .val (.slice xs nl _) => VCap xs nl fun c => k (env.set d (.val (.int .i64 c))) σ
    | _ => False
  | .dead => False
  | o => vcPureX d k env σ (pureX X env o)

def vcGuard (A : Env → Prop) (B : Env → Prop) (d : Option Nat) (env : Env) : Option (Nat × Bool) → Prop
  | none => A env
  | some (j, want) => match env j with
    | .val (.bool t) => match want with
      | true => match t with
        | true => A (env.set (some j) (.val (.bool true)))
        | false => B ((env.set (some j) (.val (.bool false))).set d (.val .top))
      | false => match t with
        | false => A (env.set (some j) (.val (.bool false)))
        | true => B ((env.set (some j) (.val (.bool true))).set d (.val .top))
    | _ => False

def vcOperX (X : Sg) (o : AOper) (k : Env → Store → Prop) (env : Env) (σ : Store) : Prop :=
  vcGuard (fun env => vcOpX X o.op o.dst k env σ) (fun env => k env σ) o.dst env o.guard

def vcOpsX (X : Sg) : List AOper → (Env → Store → Prop) → Env → Store → Prop
  | [], k, env, σ => k env σ
  | o :: os, k, env, σ => vcOperX X o (vcOpsX X os k) env σ

def hasB (W : List Nat) (s : Nat) : Bool := match W with
  | [] => false
  | x :: r => match Nat.beq x s with
    | true => true
    | false => hasB r s

def vcOpDX (X : Sg) (W : List Nat) (o : AOp) (d : Option Nat) (k : Env → Store → Prop) (env : Env) (σ : Store) : Prop :=
  match o with
  | .load agg n x => match evalOpd env x with
    | .val (.ptr b o) => VLoad σ b o n fun cs => k (env.set d (.val (mkv agg cs))) σ
    | .val (.sptr cs) => match Nat.ble n cs.length with
      | true => k (env.set d (.val (mkv agg (cs.take n)))) σ
      | false => False
    | .lptr s o => match hasB W s with
      | false => match env s with
        | .box cs => match Nat.ble (o + n) cs.length with
          | true => k (env.set d (.val (mkv agg ((cs.drop o).take n)))) σ
          | false => False
        | _ => False
      | true => False
    | _ => False
  | .call f args => match vals (args.map (evalOpd env)) with
    | some av => VCallD X.C f av σ fun c => k (env.set d (.val c)) σ
    | none => False
  | .cut sz x lo hi => match evalOpd env x with
    | .val (.slice xs nl tok) => bndX env hi fun h => bndX env lo fun l => VCut sz xs tok l h fun ys t => k (env.set d (.val (.slice ys nl t))) σ
    | _ => False
  | o => vcOpX X o d k env σ

def vcOperDX (X : Sg) (W : List Nat) (o : AOper) (k : Env → Store → Prop) (env : Env) (σ : Store) : Prop :=
  vcGuard (fun env => vcOpDX X W o.op o.dst k env σ) (fun env => k env σ) o.dst env o.guard

def vcDX (X : Sg) (W : List Nat) : List (Nat × AOper) → (Env → Store → Prop) → Env → Store → Prop
  | [], k, env, σ => k env σ
  | (κ, o) :: os, k, env, σ => match Nat.beq κ 2 with
    | true => vcOperX X o (vcDX X W os k) env σ
    | false => vcOperDX X W o (vcDX X W os k) env σ

theorem thenX_get {next : Env → Store → Prop} {K : Ex → Env → Store → Prop} {e : Ex} {env : Env} {σ : Store} (h : thenX next K e env σ) : Ex.then next K e env σ := by cases e <;> exact h
theorem inX_get {id : Nat} {K : Ex → Env → Store → Prop} {e : Ex} {env : Env} {σ : Store} (h : inX id K e env σ) : Ex.inBlock id K e env σ := by
  cases e with
  | normal => exact h
  | ret => exact h
  | exit i =>
    simp only [inX] at h
    simp only [Ex.inBlock]
    cases hb : Nat.beq i id with
    | true =>
      rw [hb] at h
      have : (i == id) = true := by simpa using Nat.beq_eq.mp hb
      rw [this]; exact h
    | false =>
      rw [hb] at h
      have : (i == id) = false := by
        cases hq : (i == id) with
        | false => rfl
        | true => have := eq_of_beq hq; subst this; rw [Nat.beq_refl] at hb; cases hb
      rw [this]; exact h

def vcX (X : Sg) : ACode → (Ex → Env → Store → Prop) → Env → Store → Prop
  | .skip, K, env, σ => K .normal env σ
  | .region ops, K, env, σ => vcOpsX X ops (K .normal) env σ
  | .drawn W ops, K, env, σ => vcDX X W ops (K .normal) env σ
  | .seq a b, K, env, σ => vcX X a (thenX (vcX X b K) K) env σ
  | .cond c a b, K, env, σ => match evalOpd env c with
    | .val (.bool t) => match t with
      | true => vcX X a K env σ
      | false => vcX X b K env σ
    | _ => False
  | .block id body, K, env, σ => vcX X body (inX id K) env σ
  | .loop body, K, env, σ => VLoop (vcX X body) K env σ
  | .exit id, K, env, σ => K (.exit id) env σ
  | .ret, K, env, σ => K .ret env σ

def resX (env : Env) (σ : Store) : ARes → (AVal → Prop) → Prop
  | .tmp t, k => match evalOpd env (.tmp t) with
    | .val a => k a
    | _ => False
  | .cell agg n t, k => match evalOpd env (.tmp t) with
    | .lptr s o => match env s with
      | .box cs => match Nat.ble (o + n) cs.length with
        | true => k (mkv agg ((cs.drop o).take n))
        | false => False
      | _ => False
    | .val (.ptr b o) => VLoad σ b o n fun cs => k (mkv agg cs)
    | _ => False
def resXs (env : Env) (σ : Store) : List ARes → (List AVal → Prop) → Prop
  | [], k => k []
  | r :: rs, k => resX env σ r fun a => resXs env σ rs fun av => k (a :: av)
def tupV : List AVal → AVal
  | [a] => a
  | av => .tuple av
def retX (rs : List ARes) (Q : AVal → Store → Prop) : Ex → Env → Store → Prop
  | .exit _, _, _ => False
  | .normal, env, σ => resXs env σ rs fun av => Post Q (tupV av) σ
  | .ret, env, σ => resXs env σ rs fun av => Post Q (tupV av) σ

/-! ## It asks as much -/
theorem intX_std (P : Program) (op : BinOp) (k : IntKind) (a b : Int) : intX (.std P) op k a b = intV op k a b := by
  have h1 : cmpStd .eql b 0 = decide (b = 0) := by by_cases h : b = 0 <;> simp [cmpStd, intCmpV, h]
  have h2 : cmpStd .lss b 0 = decide (b < 0) := rfl
  cases op <;> first | rfl | (simp only [intX, intV, Sg.std, h1]; by_cases h : b = 0 <;> simp [h, arStd] <;> done) | (simp only [intX, intV, Sg.std, h2]; by_cases h : b < 0 <;> simp [h, arStd])
theorem strX_std (P : Program) (op : BinOp) (a b : List UInt8) : strX (.std P) op a b = strV op a b := by cases op <;> rfl
theorem binX_std (P : Program) (op : BinOp) (q : EqK) (lit : Bool) (x y : Ent) : binX (.std P) op q lit x y = binV op q lit x y := by
  have e1 : intX (.std P) = intV := by funext op k a b; exact intX_std P op k a b
  have e2 : strX (.std P) = strV := by funext op a b; exact strX_std P op a b
  have e3 : nilX = nilV := by funext op q lit; cases lit <;> cases op <;> cases q <;> rfl
  have e4 : notB = fun t => !t := by funext t; exact notB_eq t
  rw [binV_eq, binX, e1, e2, e3, e4, eqX_eq]

theorem bool3 {α : Type} (a b c : Bool) (x y : α) : (match a, b, c with
    | true, true, true => x
    | _, _, _ => y) = if a = true ∧ b = true ∧ c = true then x else y := by
  cases a <;> cases b <;> cases c <;> rfl

theorem fillX_eq : ∀ (ps : List (Nat × Nat × AVal)) (cells : List AVal), fillX cells ps = fillV cells ps
  | [], _ => rfl
  | (off, n, v) :: r, cells => by
    simp only [fillX, fillV]
    rw [bool3, fillX_eq r, allOne_eq]
    simp only [Nat.beq_eq, Nat.ble_eq]
theorem setX_eq (sz : Nat) (ev : Opd → Ent) : ∀ (ps : List (Nat × Opd)) (xs : List AVal), setX sz xs ev ps = setAll sz xs ev ps
  | [], _ => rfl
  | (i, x) :: r, xs => by
    simp only [setX, setAll]
    cases ev x with
    | val a =>
      dsimp only
      rw [bool3, setX_eq sz ev r, allOne_eq]
      simp only [Nat.beq_eq, Nat.ble_eq, Nat.succ_le_iff]
    | box cs => rfl
    | lptr s o => rfl

theorem pureX_std (P : Program) (env : Env) (o : AOp) : pureX (.std P) env o = pureV env o := by
  cases o <;> simp only [pureX, pureV, binX_std, fillX_eq, notB_eq] <;> try rfl
  case field off n agg x =>
    generalize evalOpd env x = ex
    split
    · dsimp only
      cases h : Nat.ble (off + n) _ with
      | true => rw [if_pos (Nat.le_of_ble_eq_true h)]
      | false => rw [if_neg (fun hh => by rw [Nat.ble_eq_true_of_le hh] at h; cases h)]
    · rename_i hne
      split
      · exact absurd rfl (hne _)
      · rfl

theorem bndX_get {env : Env} {x : Option Opd} {T : Option Int → Prop} (h : bndX env x T) : ∃ b, T b ∧ ∀ (e : Nat) (q : Nat → Prop), bndI e b q → bound env e x q := by
  cases x with
  | none => exact ⟨none, h, fun _ _ hq => hq⟩
  | some x =>
    simp only [bndX] at h
    generalize hex : evalOpd env x = ex at h
    split at h
    · exact ⟨_, h, fun e q hq => by simp only [bound, hex]; exact hq⟩
    · exact h.elim
theorem bndX1_get {env : Env} {x : Opd} {T : Int → Prop} (h : bndX1 env x T) : ∃ b, T b ∧ ∀ (e : Nat) (q : Nat → Prop), bndI e (some b) q → bound env e (some x) q := by
  simp only [bndX1] at h
  generalize hex : evalOpd env x = ex at h
  split at h
  · exact ⟨_, h, fun e q hq => by simp only [bound, hex]; exact hq⟩
  · exact h.elim

theorem bndI_mono {d : Nat} {i : Option Int} {k k' : Nat → Prop} (h : bndI d i k) (hk : ∀ n, k n → k' n) : bndI d i k' := by
  cases i with
  | none => exact hk _ h
  | some n => exact ⟨h.1, hk _ h.2⟩
/-- Two bounds, asked in one order, told in the other. -/
theorem bndX_two {env : Env} {d : Nat} {x y : Option Opd} {R : Option Int → Option Int → Prop} {k' : Nat → Nat → Prop} {c : Nat → Prop} {c' : Nat → Nat → Prop}
    (h : bndX env x fun a => bndX env y fun b => R b a) (hR : ∀ a b, R b a → bndI d a fun m => c m ∧ bndI 0 b fun n => c' m n ∧ k' m n) :
    bound env d x fun m => c m ∧ bound env 0 y fun n => c' m n ∧ k' m n := by
  obtain ⟨a, ha, hx⟩ := bndX_get h
  obtain ⟨b, hb', hy⟩ := bndX_get ha
  exact hx _ _ (bndI_mono (hR a b hb') fun m h => ⟨h.1, hy _ _ h.2⟩)

theorem vcOpX_std (P : Program) {o : AOp} {d : Option Nat} {k : Env → Store → Prop} {env : Env} {σ : Store} (h : vcOpX (.std P) o d k env σ) : vcOp P o d k env σ := by
  cases o <;> simp only [vcOpX, vcOp, pureX_std] at h ⊢ <;> try exact h
  case pick c a b =>
    generalize evalOpd env c = ec at h ⊢
    split at h
    · rename_i t
      cases t
      · exact ⟨fun h => (by cases h), fun _ => h⟩
      · exact ⟨fun _ => h, fun h => (by cases h)⟩
    · exact h.elim
  case boxv x =>
    generalize evalOpd env x = ex at h ⊢
    split at h
    · rename_i d a hd ha
      split at h
      · rename_i hone; exact ⟨by rw [← allOne_eq]; exact hone, h⟩
      · exact h.elim
    · exact h.elim
  case obj cs => exact fun b hb => h.out b hb _ rfl
  case objv x =>
    generalize evalOpd env x = ex at h ⊢
    split at h
    · split at h
      · rename_i hone; exact ⟨by rw [← allOne_eq]; exact hone, fun b hb => h.out b hb _ rfl⟩
      · exact h.elim
    · exact h.elim
  case bslice own sz e n z ps =>
    rw [setX_eq] at h
    generalize setAll sz (List.replicate n z) (evalOpd env) ps = q at h ⊢
    split at h
    · dsimp only
      cases own
      · rw [if_neg (by decide)]; exact h
      · rw [if_pos rfl]; exact fun g hg => h.out g hg _ rfl
    · exact h.elim
  case load agg n x =>
    generalize evalOpd env x = ex at h ⊢
    split at h
    · exact h.out
    · split at h
      · rename_i hh; exact ⟨Nat.le_of_ble_eq_true hh, h⟩
      · exact h.elim
    · rename_i s o
      dsimp only at h ⊢
      generalize env s = es at h ⊢
      split at h
      · split at h
        · rename_i hh; exact ⟨Nat.le_of_ble_eq_true hh, h⟩
        · exact h.elim
      · exact h.elim
    · exact h.elim
  case store n x v =>
    generalize evalOpd env v = ev at h ⊢
    split at h
    · rename_i a
      dsimp only at h ⊢
      split at h
      · rename_i h1 h2
        have h1 := Nat.beq_eq.mp h1
        refine ⟨h1, by rw [← allOne_eq]; exact h2, ?_⟩
        generalize evalOpd env x = ex at h ⊢
        split at h
        · obtain ⟨cs, g1, g2, g3⟩ := h.out; exact ⟨cs, g1, by rw [← h1]; exact g2, g3⟩
        · rename_i s o
          dsimp only at h ⊢
          have hgo : ∀ (es : Ent), env s = es → (match es with
              | .box cs => match Nat.ble (o + n) cs.length with
                | true => k ((env.setBox s (splice cs o a.cells)).set d (.val .top)) σ
                | false => False
              | _ => False) → (match es with
              | .box cs => o + n ≤ cs.length ∧ k ((env.setBox s (splice cs o a.cells)).set d (.val .top)) σ
              | _ => False) := by
            intro es _ h
            split at h
            · split at h
              · rename_i hh; exact ⟨Nat.le_of_ble_eq_true hh, h⟩
              · exact h.elim
            · exact h.elim
          exact hgo _ rfl h
        · exact h.elim
      · exact h.elim
    · exact h.elim
  case bytesStr x =>
    generalize evalOpd env x = ex at h ⊢
    split at h <;> first | exact h.out | exact h.elim
  case strBytes e x =>
    generalize evalOpd env x = ex at h ⊢
    split at h <;> first | exact h.out | exact h.elim
  case mark x =>
    generalize evalOpd env x = ex at h ⊢
    split at h
    · exact ⟨h.out.1, h.out.2 _ rfl⟩
    · exact h.elim
  case cut sz x lo hi =>
    generalize evalOpd env x = ex at h ⊢
    split at h
    · dsimp only at h ⊢
      have hs := bndX_get h
      obtain ⟨_, hs, _⟩ := hs
      obtain ⟨_, hs, _⟩ := bndX_get hs
      exact ⟨hs.out.1, bndX_two h fun a b hc => hc.out.2⟩
    · exact bndX_two h fun a b hc => hc.out
    · exact h.elim
  case cut3 sz x lo hi mx =>
    generalize evalOpd env x = ex at h ⊢
    split at h
    · dsimp only at h ⊢
      obtain ⟨m, hm, em⟩ := bndX1_get h
      obtain ⟨hh, hhh, eh⟩ := bndX1_get hm
      obtain ⟨l, hl, el⟩ := bndX_get hhh
      have := hl.out
      exact ⟨this.1, em _ _ (bndI_mono this.2 fun m h => ⟨h.1, eh _ _ (bndI_mono h.2 fun q h => ⟨h.1, el _ _ h.2⟩)⟩)⟩
    · exact h.elim
  case cutStr x lo hi =>
    generalize evalOpd env x = ex at h ⊢
    split at h
    · exact bndX_two h fun a b hc => hc.out
    · exact h.elim
  case iaddr sz x i =>
    generalize evalOpd env x = ex at h ⊢
    generalize evalOpd env i = ei at h ⊢
    split at h
    · split at h <;> first | exact h.out | exact h.elim
    · exact h.elim
  case istr x i =>
    generalize evalOpd env x = ex at h ⊢
    generalize evalOpd env i = ei at h ⊢
    split at h <;> first | exact h.out | exact h.elim
  case append sz e bytes x y =>
    generalize evalOpd env x = ex at h ⊢
    generalize evalOpd env y = ey at h ⊢
    split at h
    · split at h <;> first | exact h.out | exact h.elim
    · exact h.elim
  case appendM sz e bytes x y =>
    generalize evalOpd env x = ex at h ⊢
    generalize evalOpd env y = ey at h ⊢
    split at h <;> first | exact h.out | exact h.elim
  case mslice sz e n z ps =>
    rw [setX_eq] at h
    generalize setAll sz (List.replicate n z) (evalOpd env) ps = q at h ⊢
    split at h
    · exact fun b hb => h.out b hb _ rfl
    · exact h.elim
  case appendZ sz e bytes x y =>
    generalize evalOpd env x = ex at h ⊢
    generalize evalOpd env y = ey at h ⊢
    split at h <;> first | exact h.out | exact h.elim
  case cap x =>
    generalize evalOpd env x = ex at h ⊢
    split at h <;> first | exact h.out | exact h.elim

def vcGuardV (A : Env → Prop) (B : Env → Prop) (d : Option Nat) (env : Env) (g : Option (Nat × Bool)) : Prop :=
    match g with
    | none => A env
    | some (j, want) => match env j with
      | .val (.bool t) => (t = want → A (env.set (some j) (.val (.bool want)))) ∧ (t = !want → B ((env.set (some j) (.val (.bool !want))).set d (.val .top)))
      | _ => False
theorem vcGuard_get {A A' B : Env → Prop} {d : Option Nat} {env : Env} {g : Option (Nat × Bool)} (h : vcGuard A B d env g) (hA : ∀ env, A env → A' env) : vcGuardV A' B d env g := by
  cases g with
  | none => exact hA _ h
  | some p =>
    obtain ⟨j, want⟩ := p
    simp only [vcGuard, vcGuardV] at h ⊢
    generalize env j = ej at h ⊢
    split at h
    · rename_i t
      cases want <;> cases t <;> dsimp only at h ⊢
      · exact ⟨fun _ => hA _ h, fun h => (by cases h)⟩
      · exact ⟨fun h => (by cases h), fun _ => h⟩
      · exact ⟨fun h => (by cases h), fun _ => h⟩
      · exact ⟨fun _ => hA _ h, fun h => (by cases h)⟩
    · exact h.elim

theorem vcOperX_std (P : Program) {o : AOper} {k : Env → Store → Prop} {env : Env} {σ : Store} (h : vcOperX (.std P) o k env σ) : vcOper P o k env σ := by
  have := vcGuard_get (A' := fun env => vcOp P o.op o.dst k env σ) h fun _ h => vcOpX_std P h
  exact this

theorem vcOpsX_std (P : Program) {k : Env → Store → Prop} : ∀ {l : List AOper} {env : Env} {σ : Store}, vcOpsX (.std P) l k env σ → vcOps P l k env σ
  | [], _, _, h => h
  | _ :: _, _, _, h => vcOper_mono (vcOperX_std P h) fun _ _ h => vcOpsX_std P h

theorem hasB_eq (W : List Nat) (s : Nat) : hasB W s = W.contains s := by
  induction W with
  | nil => rfl
  | cons x r ih =>
    simp only [hasB, List.contains_cons, ih]
    cases h : Nat.beq x s with
    | true => rw [Nat.beq_eq.mp h]; simp
    | false =>
      have : ¬ s = x := by rintro rfl; rw [Nat.beq_refl] at h; cases h
      simp [this]

theorem vcOpDX_std (P : Program) {W : List Nat} {o : AOp} {d : Option Nat} {k : Env → Store → Prop} {env : Env} {σ : Store} (h : vcOpDX (.std P) W o d k env σ) : vcOpD P W o d k env σ := by
  cases o
  case load agg n x =>
    simp only [vcOpDX, vcOpD, hasB_eq] at h ⊢
    generalize evalOpd env x = ex at h ⊢
    split at h
    · exact h.out
    · split at h
      · rename_i hh; exact ⟨Nat.le_of_ble_eq_true hh, h⟩
      · exact h.elim
    · rename_i s o
      dsimp only at h ⊢
      split at h
      · rename_i hW
        refine ⟨hW, ?_⟩
        generalize env s = es at h ⊢
        split at h
        · split at h
          · rename_i hh; exact ⟨Nat.le_of_ble_eq_true hh, h⟩
          · exact h.elim
        · exact h.elim
      · exact h.elim
    · exact h.elim
  case call f av =>
    simp only [vcOpDX, vcOpD] at h ⊢
    generalize vals (List.map (evalOpd env) av) = q at h ⊢
    split at h
    · exact h.out
    · exact h.elim
  case cut sz x lo hi =>
    simp only [vcOpDX, vcOpD] at h ⊢
    generalize evalOpd env x = ex at h ⊢
    split at h
    · dsimp only at h ⊢
      obtain ⟨_, hs, _⟩ := bndX_get h
      obtain ⟨_, hs, _⟩ := bndX_get hs
      exact ⟨hs.out.1, bndX_two h fun a b hc => hc.out.2⟩
    · exact h.elim
  all_goals (simp only [vcOpDX] at h; simp only [vcOpD]; exact vcOpX_std P h)

theorem vcOperDX_std (P : Program) {W : List Nat} {o : AOper} {k : Env → Store → Prop} {env : Env} {σ : Store} (h : vcOperDX (.std P) W o k env σ) : vcOperD P W o k env σ := by
  have := vcGuard_get (A' := fun env => vcOpD P W o.op o.dst k env σ) h fun _ h => vcOpDX_std P h
  exact this

theorem vcOperD_mono {P : Program} {W : List Nat} {o : AOper} {k k' : Env → Store → Prop} {env : Env} {σ : Store} (h : vcOperD P W o k env σ) (hk : ∀ env σ, k env σ → k' env σ) : vcOperD P W o k' env σ := by
  unfold vcOperD at h ⊢
  split at h
  · exact vcOpD_mono h hk
  · split at h
    · exact ⟨fun ht => vcOpD_mono (h.1 ht) hk, fun ht => hk _ _ (h.2 ht)⟩
    · exact h.elim

theorem vcDX_std (P : Program) {W : List Nat} {k : Env → Store → Prop} : ∀ {l : List (Nat × AOper)} {env : Env} {σ : Store}, vcDX (.std P) W l k env σ → vcD P W l k env σ
  | [], _, _, h => h
  | (κ, o) :: r, env, σ, h => by
    have ih : ∀ env σ, vcDX (.std P) W r k env σ → vcD P W r k env σ := fun env σ h => vcDX_std P h
    simp only [vcDX, vcD] at h ⊢
    split at h
    · rename_i hκ
      rw [if_pos (Nat.beq_eq.mp hκ)]; exact vcOper_mono (vcOperX_std P h) ih
    · rename_i hκ
      rw [if_neg (by rintro rfl; simp at hκ)]; exact vcOperD_mono (vcOperDX_std P h) ih

theorem vcX_std (P : Program) : ∀ {c : ACode} {K : Ex → Env → Store → Prop} {env : Env} {σ : Store}, vcX (.std P) c K env σ → vc P c K env σ
  | .skip, _, _, _, h => h
  | .region _, _, _, _, h => vcOpsX_std P h
  | .drawn _ _, _, _, _, h => vcDX_std P h
  | .seq a b, K, env, σ, h => by
    have h1 : vcX (.std P) a (thenX (vcX (.std P) b K) K) env σ := h
    show vc P a (Ex.then (vc P b K) K) env σ
    refine vc_mono (vcX_std P h1) fun e env σ h => ?_
    cases e with
    | normal => exact vcX_std P (c := b) h
    | exit id => exact h
    | ret => exact h
  | .cond c a b, K, env, σ, h => by
    simp only [vcX, vc] at h ⊢
    generalize evalOpd env c = ec at h ⊢
    split at h
    · rename_i t
      cases t
      · exact ⟨fun h => (by cases h), fun _ => vcX_std P h⟩
      · exact ⟨fun _ => vcX_std P h, fun h => (by cases h)⟩
    · exact h.elim
  | .block id b, K, env, σ, h => by
    have h1 : vcX (.std P) b (inX id K) env σ := h
    show vc P b (Ex.inBlock id K) env σ
    exact vc_mono (vcX_std P h1) fun e env σ h => inX_get h
  | .loop b, K, env, σ, h => by
    have h1 : VLoop (vcX (.std P) b) K env σ := h
    obtain ⟨S, μ, J, L, s0, τ0, h0, hs, hJ, hr⟩ := h1.out
    refine vc_loop μ J L s0 τ0 h0.mem hs hJ fun s τ hj => vc_mono (vcX_std P (c := b) (hr s τ hj)) fun e env σ h => ?_
    cases e with
    | normal =>
      obtain ⟨s', h1, h2, h3⟩ := Next.out h
      exact ⟨s', h1, h2.mem, h3⟩
    | exit id => exact h
    | ret => exact h
  | .exit _, _, _, _, h => h
  | .ret, _, _, _, h => h

theorem resX_resV {env : Env} {σ : Store} {r : ARes} {k k' : AVal → Prop} (h : resX env σ r k) (hk : ∀ a, k a → k' a) : resV env σ r k' := by
  cases r with
  | tmp t =>
    simp only [resX, resV] at h ⊢
    generalize evalOpd env (.tmp t) = ex at h ⊢
    split at h
    · exact hk _ h
    · exact h.elim
  | cell agg n t =>
    simp only [resX, resV] at h ⊢
    generalize evalOpd env (.tmp t) = ex at h ⊢
    split at h
    · rename_i s o
      dsimp only at h ⊢
      generalize env s = es at h ⊢
      split at h
      · split at h
        · rename_i hh; exact ⟨Nat.le_of_ble_eq_true hh, hk _ h⟩
        · exact h.elim
      · exact h.elim
    · obtain ⟨cs, h1, h2, h3⟩ := h.out; exact ⟨cs, h1, h2, hk _ h3⟩
    · exact h.elim
theorem resXs_resVs {env : Env} {σ : Store} : ∀ {rs : List ARes} {k k' : List AVal → Prop}, resXs env σ rs k → (∀ a, k a → k' a) → resVs env σ rs k'
  | [], _, _, h, hk => hk _ h
  | _ :: _, _, _, h, hk => resX_resV h fun _ h => resXs_resVs h fun _ h => hk _ h

theorem retX_ret {rs : List ARes} {Q : AVal → Store → Prop} {e : Ex} {env : Env} {σ : Store} (h : retX rs Q e env σ) : retPost rs (DimQ Q) e env σ := by
  have fin : (resXs env σ rs fun av => Post Q (tupV av) σ) → resAll env σ rs fun a => DimQ Q a σ := fun h => resXs_resVs h fun av h => by
    match av, h with
    | [], h => exact h.out
    | [a], h => exact h.out
    | a :: b :: r, h => exact h.out
  cases e with
  | exit id => exact h
  | normal => exact fin h
  | ret => exact fin h

/-- What is known of what stays closed. -/
structure Ax (P : Program) (C : CallP) (ok : Nat → Prop) (ar : BinOp → IntKind → Int → Int → Int) (cmp : BinOp → Int → Int → Bool) (scmp : BinOp → List UInt8 → List UInt8 → Bool) (cv : IntKind → Int → Int)
    (len : List AVal → Int) (slen : List UInt8 → Int) (mm : Bool → Int → Int → Int) : Prop where
  C : C = ACall P
  ok : ∀ f fn, P.funcs[f]? = some fn → (fn.body.isSome && fn.name != "runtime.NumGoroutine") = true → ok f
  ar : ar = arStd
  cmp : cmp = cmpStd
  scmp : scmp = scmpStd
  cv : cv = fun k n => k.wrap n
  len : len = fun xs => (xs.length : Int)
  slen : slen = fun xs => (xs.length : Int)
  mm : mm = fun t a b => if t then (if b < a then b else a) else (if b > a then b else a)

theorem acall_x {P : Program} (hm : P.follows .mixedOrders = true) {f : FuncId} {fn : Func} {esc : List Nat} {af : AFun} {as : List AVal} {σ : Store} {Q : AVal → Store → Prop} (hf : P.funcs[f]? = some fn) (ha : ofFunc P esc fn = some af) (hn : as.length ≤ af.n)
    (h : ∀ C ok ar cmp scmp cv len slen mm, Ax P C ok ar cmp scmp cv len slen mm → vcX ⟨C, ok, ar, cmp, scmp, cv, len, slen, mm⟩ af.body (retX af.res Q) (Env.args as) σ) : ACall P f as σ Q := by
  refine acall_dim hm hf ha hn (vc_mono (vcX_std P (h _ (Sg.std P).ok _ _ _ _ _ _ _ ⟨rfl, fun f fn h1 h2 => ⟨fn, h1, h2⟩, rfl, rfl, rfl, rfl, rfl, rfl, rfl⟩)) fun e env σ h => retX_ret h)

section
variable {P : Program} {C : CallP} {ok : Nat → Prop} {ar : BinOp → IntKind → Int → Int → Int} {cmp : BinOp → Int → Int → Bool} {scmp : BinOp → List UInt8 → List UInt8 → Bool} {cv : IntKind → Int → Int} {len : List AVal → Int} {slen : List UInt8 → Int} {mm : Bool → Int → Int → Int}
theorem Ax.call (X : Ax P C ok ar cmp scmp cv len slen mm) {f : Nat} {as : List AVal} {σ : Store} {Q Q' : AVal → Store → Prop} (h : ACall P f as σ Q) (hq : ∀ a σ', Q a σ' → Q' a σ') : C f as σ Q' := by
  rw [X.C]; exact h.mono hq
theorem Ax.callD (X : Ax P C ok ar cmp scmp cv len slen mm) {f : Nat} {as : List AVal} {σ : Store} {c : AVal} {k : AVal → Prop} (h : ACall P f as σ fun a σ' => a = c ∧ σ' = σ) (hk : k c) : VCallD C f as σ k := ⟨⟨c, by rw [X.C]; exact h, hk⟩⟩
theorem Ax.lss (X : Ax P C ok ar cmp scmp cv len slen mm) {a b : Int} : cmp .lss a b = decide (a < b) := by rw [X.cmp]; rfl
theorem Ax.leq (X : Ax P C ok ar cmp scmp cv len slen mm) {a b : Int} : cmp .leq a b = decide (a ≤ b) := by rw [X.cmp]; rfl
theorem Ax.gtr (X : Ax P C ok ar cmp scmp cv len slen mm) {a b : Int} : cmp .gtr a b = decide (b < a) := by rw [X.cmp]; rfl
theorem Ax.geq (X : Ax P C ok ar cmp scmp cv len slen mm) {a b : Int} : cmp .geq a b = decide (b ≤ a) := by rw [X.cmp]; rfl
theorem Ax.eql (X : Ax P C ok ar cmp scmp cv len slen mm) {a b : Int} : cmp .eql a b = decide (a = b) := by rw [X.cmp]; by_cases h : a = b <;> simp [cmpStd, intCmpV, h]
theorem Ax.neq (X : Ax P C ok ar cmp scmp cv len slen mm) {a b : Int} : cmp .neq a b = decide (a ≠ b) := by rw [X.cmp]; by_cases h : a = b <;> simp [cmpStd, intCmpV, h]
theorem Ax.add (X : Ax P C ok ar cmp scmp cv len slen mm) {a b c : Int} (h : -9223372036854775808 ≤ a + b ∧ a + b < 9223372036854775808 ∧ a + b = c) : ar .add .i64 a b = c := by
  rw [X.ar]; exact (IntWalk.i64_in (a + b) (by omega)).trans h.2.2
theorem Ax.sub (X : Ax P C ok ar cmp scmp cv len slen mm) {a b c : Int} (h : -9223372036854775808 ≤ a - b ∧ a - b < 9223372036854775808 ∧ a - b = c) : ar .sub .i64 a b = c := by
  rw [X.ar]; exact (IntWalk.i64_in (a - b) (by omega)).trans h.2.2
theorem Ax.conv (X : Ax P C ok ar cmp scmp cv len slen mm) {a : Int} (h : -9223372036854775808 ≤ a ∧ a < 9223372036854775808) : cv .i64 a = a := by
  rw [X.cv]; exact IntWalk.i64_in a (by omega)
theorem Ax.len_ (X : Ax P C ok ar cmp scmp cv len slen mm) (xs : List AVal) : len xs = (xs.length : Int) := by rw [X.len]
theorem Ax.slen_ (X : Ax P C ok ar cmp scmp cv len slen mm) (xs : List UInt8) : slen xs = (xs.length : Int) := by rw [X.slen]
theorem Ax.seql (X : Ax P C ok ar cmp scmp cv len slen mm) {a b : List UInt8} : scmp .eql a b = (a == b) := by rw [X.scmp]; rfl
end

theorem VLoad.of {σ : Store} {b o n : Nat} {k : List AVal → Prop} {cs vs : List AVal} (h : σ.obj b = some cs) (hv : (cs.drop o).take n = vs) (hl : o + n ≤ cs.length) (hk : k vs) : VLoad σ b o n k := ⟨⟨cs, h, hl, hv ▸ hk⟩⟩
theorem VStore.of {σ : Store} {b o : Nat} {vs : List AVal} {k : Store → Prop} {cs cs' : List AVal} (h : σ.obj b = some cs) (hl : o + vs.length ≤ cs.length) (hv : splice cs o vs = cs') (hk : ∀ σ', σ' = σ.setObj b cs' → k σ') : VStore σ b o vs k := ⟨⟨cs, h, hl, hk _ (by rw [hv])⟩⟩
theorem VIdx.of {sz : Nat} {xs : List AVal} {n : Int} {k : AVal → Prop} (i : Nat) {a : AVal} (hi : n = i) (h : xs[i]? = some a) (hs : a.cells.length = sz) (hk : k a) : VIdx sz xs n k := by
  subst hi; exact ⟨⟨by omega, a, by simpa using h, hs, hk⟩⟩
theorem VIdxR.of {sz b o m : Nat} {n : Int} {k : Nat → Prop} (i : Nat) (hi : n = i) (h : i < m) (hk : ∀ q, q = o + i * sz → k q) : VIdxR sz b o m n k := by
  subst hi; exact ⟨⟨by omega, by omega, hk _ (by simp)⟩⟩
theorem VSidx.of {s : List UInt8} {n : Int} {k : Int → Prop} (i : Nat) {c : UInt8} (hi : n = i) (h : s[i]? = some c) (hk : ∀ x : Int, x = c.toNat → k x) : VSidx s n k := by
  subst hi; exact ⟨⟨by omega, c, by simpa using h, hk _ rfl⟩⟩

def bndIs (d : Nat) : Option Int → Nat → Prop
  | none, n => n = d
  | some i, n => i = n
theorem bndI_of {d : Nat} {i : Option Int} {n : Nat} {k : Nat → Prop} (h : bndIs d i n) (hk : k n) : bndI d i k := by
  cases i with
  | none => obtain rfl : n = d := h; exact hk
  | some i => obtain rfl : i = n := h; exact ⟨by omega, by simpa using hk⟩
/-- A cut of a slice. -/
theorem VCut.of {sz : Nat} {xs : List AVal} {tok : Option Nat} {lo hi : Option Int} {k : List AVal → Option Nat → Prop} (l h : Nat) (hl : bndIs 0 lo l) (hh : bndIs xs.length hi h) (h1 : h ≤ xs.length) (h2 : l ≤ h)
    (hs : ∀ x ∈ xs, x.cells.length = sz) (hk : ∀ ys t, ys = (xs.take h).drop l → t = (bif l == 0 && h == xs.length then tok else none) → k ys t) : VCut sz xs tok lo hi k :=
  ⟨⟨fun x hx => hs x (List.mem_of_getElem? hx), bndI_of hh ⟨h1, bndI_of hl ⟨h2, hk _ _ rfl rfl⟩⟩⟩⟩
/-- A cut of a slice that nobody appends to. -/
theorem VCut.of0 {sz : Nat} {xs : List AVal} {tok : Option Nat} {lo hi : Option Int} {k : List AVal → Option Nat → Prop} (l h : Nat) (hl : bndIs 0 lo l) (hh : bndIs xs.length hi h) (h1 : h ≤ xs.length) (h2 : l ≤ h)
    (hs : ∀ x ∈ xs, x.cells.length = sz) (ht : tok = none ∨ l ≠ 0 ∨ h ≠ xs.length) (hk : ∀ ys, ys = (xs.take h).drop l → k ys none) : VCut sz xs tok lo hi k :=
  VCut.of l h hl hh h1 h2 hs fun ys t hy ht' => by
    have : t = none := by
      rw [ht']
      rcases ht with ht | ht | ht
      · rw [ht]; cases (l == 0 && h == xs.length) <;> rfl
      · have : (l == 0) = false := by simpa using ht
        rw [this]; rfl
      · have : (h == xs.length) = false := by simpa using ht
        rw [this, Bool.and_false]; rfl
    rw [this]; exact hk ys hy
theorem VCut3.of {sz : Nat} {xs : List AVal} {lo : Option Int} {hi mx : Int} {k : List AVal → Prop} (l h m : Nat) (hl : bndIs 0 lo l) (hh : hi = h) (hm : mx = m) (h1 : m ≤ xs.length) (h2 : h ≤ m) (h3 : l ≤ h)
    (hs : ∀ x ∈ xs, x.cells.length = sz) (hk : ∀ ys, ys = (xs.take h).drop l → k ys) : VCut3 sz xs lo hi mx k :=
  ⟨⟨fun x hx => hs x (List.mem_of_getElem? hx), bndI_of (i := some mx) hm ⟨h1, bndI_of (i := some hi) hh ⟨h2, bndI_of hl ⟨h3, hk _ rfl⟩⟩⟩⟩⟩
theorem VScut.of {s : List UInt8} {lo hi : Option Int} {k : List UInt8 → Prop} (l h : Nat) (hl : bndIs 0 lo l) (hh : bndIs s.length hi h) (h1 : h ≤ s.length) (h2 : l ≤ h) (hk : ∀ t, t = (s.take h).drop l → k t) : VScut s lo hi k :=
  ⟨bndI_of hh ⟨h1, bndI_of hl ⟨h2, hk _ rfl⟩⟩⟩
theorem VBstr.of {xs : List AVal} {k : List UInt8 → Prop} (l : List UInt8) (h : xs = bytesA l) (hk : k l) : VBstr xs k := ⟨⟨l, h, hk⟩⟩
theorem VStrb.of {l : List UInt8} {k : List AVal → Prop} (h : l.length ≤ maxLen) (hk : ∀ xs, xs = bytesA l → k xs) : VStrb l k := ⟨⟨h, hk _ rfl⟩⟩
/-- An append. -/
theorem VApp.of {σ : Store} {xs : List AVal} {nl : Bool} {tok : Option Nat} {ys : List AVal} {sz e bytes : Nat} {k : AVal → Store → Prop} (hg : grows σ xs nl tok sz e) (he : ElemsOk sz ys) (hb : xs.length + ys.length ≤ maxLen) (hB : (xs.length + ys.length) * bytes ≤ 140737488355328)
    (h0 : ys = [] → k (.slice xs nl tok) σ)
    (h1 : ys ≠ [] → ∀ zs g σ', zs = xs ++ ys → (tok = some g ∨ σ.fresh g) → σ' = (σ.dropOpn tok).setOpn g (xs.length + ys.length, sz, e) → k (.slice zs false (some g)) σ') : VApp σ xs nl tok ys sz e bytes k :=
  ⟨⟨hg, he, hb, hB, fun a σ' hr => by
    rcases hr with ⟨hy, rfl, rfl⟩ | ⟨hy, g, rfl, rfl, hg⟩
    · exact .of (h0 hy)
    · exact .of (h1 hy _ g _ rfl hg rfl)⟩⟩
/-- An append onto a row of one's own. 'base': a store that knows nothing of the row. -/
theorem VApp.own {σ base : Store} {xs : List AVal} {t : Nat} {ys : List AVal} {sz e bytes : Nat} {k : AVal → Store → Prop} (hb : base.Sub σ) (hf : base.fresh t) (ho : σ.opn t = some (xs.length, sz, e)) (he : ElemsOk sz ys)
    (h1 : xs.length + ys.length ≤ maxLen) (h2 : (xs.length + ys.length) * bytes ≤ 140737488355328)
    (hk : ∀ zs g σ', zs = xs ++ ys → base.Sub σ' → base.fresh g → σ'.opn g = some (zs.length, sz, e) → k (.slice zs false (some g)) σ') : VApp σ xs false (some t) ys sz e bytes k :=
  VApp.of (.inr ⟨t, rfl, ho⟩) he h1 h2 (fun h0 => hk _ _ _ (by rw [h0, List.append_nil]) hb hf ho) fun _ zs g σ' hz hg hs => by
    have hfg : base.fresh g := by
      rcases hg with hg | hg
      · cases hg; exact hf
      · exact hb.fresh hg
    refine hk zs g σ' hz ?_ hfg ?_
    · rw [hs]; exact sub_setOpn (sub_dropOpn hb fun q hq => by cases hq; exact hf.2.1) hfg.2.1
    · rw [hs, hz]; simp [Store.setOpn]
/-- An append onto a row of one's own, which one then forgets to be one's own. -/
theorem VApp.shut {σ base : Store} {xs : List AVal} {t : Nat} {ys : List AVal} {sz e bytes : Nat} {k : AVal → Store → Prop} (hb : base.Sub σ) (hbo : base.obj = σ.obj) (hf : base.fresh t) (ho : σ.opn t = some (xs.length, sz, e)) (he : ElemsOk sz ys)
    (h1 : xs.length + ys.length ≤ maxLen) (h2 : (xs.length + ys.length) * bytes ≤ 140737488355328)
    (hk : ∀ zs, zs = xs ++ ys → k (.slice zs false none) base) : VApp σ xs false (some t) ys sz e bytes k :=
  ⟨⟨.inr ⟨t, rfl, ho⟩, he, h1, h2, fun a σ' hr => by
    have h3 : base.obj = σ'.obj := by
      rw [hbo]
      rcases hr with ⟨_, _, rfl⟩ | ⟨_, g, _, rfl, _⟩ <;> rfl
    obtain ⟨g1, g2⟩ := appRes_dim hr hb (fun q hq => by cases hq; exact hf.2.1)
    exact ⟨_, base, g1, g2, h3, hk _ rfl⟩⟩⟩
/-- The same, out of a row that is an object: elements of one cell. -/
theorem VAppR.own {σ base : Store} {xs : List AVal} {t b o n e bytes : Nat} {cs ys : List AVal} {k : AVal → Store → Prop} (hb : base.Sub σ) (hf : base.fresh t) (ho : σ.opn t = some (xs.length, 1, e)) (hobj : σ.obj b = some cs) (hle : o + n ≤ cs.length) (hy : (cs.drop o).take n = ys)
    (he : ∀ y ∈ ys, y.one = true) (h1 : xs.length + n ≤ maxLen) (h2 : (xs.length + n) * bytes ≤ 140737488355328)
    (hk : ∀ zs g σ', zs = xs ++ ys → base.Sub σ' → base.fresh g → σ'.opn g = some (zs.length, 1, e) → k (.slice zs false (some g)) σ') : VAppR σ xs false (some t) b o n 1 e bytes k := by
  have hl : ys.length = n := by rw [← hy]; simp; omega
  have he' : ElemsOk 1 ys := fun y hy => by rw [AVal.one_cells (he y hy)]; exact ⟨rfl, by simp [he y hy]⟩
  have hv := (VApp.own (bytes := bytes) (k := k) hb hf ho he' (by rw [hl]; exact h1) (by rw [hl]; exact h2) hk).out
  exact ⟨⟨rfl, cs, hobj, hle, hv.1, by rw [hy]; exact he, h1, h2, fun a σ' hr => hv.2.2.2.2 a σ' (by rw [hy] at hr; exact hr)⟩⟩
/-- A new row of one's own. -/
theorem VNewTok.ownO {σ : Store} {n sz e : Nat} {k : Nat → Store → Prop} (hk : ∀ t σ', σ.Sub σ' → σ.obj = σ'.obj → σ.fresh t → σ'.opn t = some (n, sz, e) → k t σ') : VNewTok σ n sz e k :=
  ⟨fun g hg σ' hs => hk g σ' (by rw [hs]; exact sub_setOpn (.refl _) hg.2.1) (by rw [hs]; rfl) hg (by rw [hs]; simp [Store.setOpn])⟩
/-- A new row of one's own. -/
theorem VNewTok.own {σ : Store} {n sz e : Nat} {k : Nat → Store → Prop} (hk : ∀ t σ', σ.Sub σ' → σ.fresh t → σ'.opn t = some (n, sz, e) → k t σ') : VNewTok σ n sz e k :=
  ⟨fun g hg σ' hs => hk g σ' (by rw [hs]; exact sub_setOpn (.refl _) hg.2.1) hg (by rw [hs]; simp [Store.setOpn])⟩
/-- A first append onto an empty row that is an object. -/
theorem VAppM.start {σ base : Store} {b : Nat} {ys : List AVal} {sz bytes : Nat} {k : AVal → Store → Prop} (hb : base.Sub σ) (hf : base.fresh b) (ho : σ.obj b = some []) (he : ElemsOk sz ys) (h1 : ys.length ≤ maxLen) (h2 : ys.length * bytes ≤ 140737488355328)
    (hk : ∀ g n c cs σ', n = ys.length → base.Sub σ' → base.fresh g → σ'.obj g = some cs → n * sz ≤ cs.length → cs.take (n * sz) = ys.flatMap AVal.cells → k (.ref g 0 n c) σ') : VAppM σ b 0 0 ys sz bytes k := by
  obtain ⟨f1, _⟩ := flat_cells (sz := sz) (xs := ys) fun y hy => (he y hy).1
  refine ⟨⟨[], ho, by simp, he, by omega, by rw [Nat.zero_add]; exact h2, fun h0 => ?_, fun h0 => ⟨by have := List.length_pos_iff.2 h0; omega, fun g c' hg hc hm => ?_⟩⟩⟩
  · subst h0; exact hk b 0 0 [] σ rfl hb hf ho (by simp) (by simp)
  · have e1 : σ.setObj g (([] : List AVal).take (0 * sz) ++ ys.flatMap AVal.cells ++ List.replicate ((c' - (0 + ys.length)) * sz) .top) = σ.setObj g (ys.flatMap AVal.cells ++ List.replicate ((c' - (0 + ys.length)) * sz) .top) := by simp
    rw [e1, Nat.zero_add]
    refine hk g ys.length c' (ys.flatMap AVal.cells ++ List.replicate ((c' - ys.length) * sz) .top) _ rfl (sub_setObj hb (hb.fresh hg).1) (hb.fresh hg) (by simp only [Store.setObj, beq_self_eq_true, cond_true]) (by simp [f1]) ?_
    rw [← f1, List.take_left]
/-- The end. -/
theorem Post.of {Q : AVal → Store → Prop} {a : AVal} {σ : Store} (h : Q a σ) : Post Q a σ := ⟨.of h⟩
/-- The end, told dimly. -/
theorem Post.dim {Q : AVal → Store → Prop} {a : AVal} {σ : Store} (b : AVal) (τ : Store) (h1 : a.Le b) (h2 : τ.Sub σ) (h : Q b τ) : Post Q a σ := ⟨⟨b, τ, h1, h2, h⟩⟩

/-- A loop's head: S: what the slots at the head hang on (variables alone); μ: what falls; J: what is known at the head, of these and of the store; L: the slots. -/
theorem VLoop.of {W : (Ex → Env → Store → Prop) → Env → Store → Prop} {K : Ex → Env → Store → Prop} {env : Env} {σ : Store}
    {S : Type} (μ : S → Nat) (J : S → Store → Prop) (L : S → List (Nat × Ent)) (s0 : S) (τ0 : Store) (h0 : AllAt env (L s0)) (hs : τ0.Sub σ) (hJ : J s0 τ0)
    (hr : ∀ s τ, J s τ → W (thenX (Next μ J L s) K) (Env.of (L s)) τ) : VLoop W K env σ := ⟨⟨S, μ, J, L, s0, τ0, h0, hs, hJ, hr⟩⟩
theorem Next.of {S : Type} {μ : S → Nat} {J : S → Store → Prop} {L : S → List (Nat × Ent)} {s : S} {env : Env} {σ : Store} (s' : S) (τ : Store) (h1 : μ s' < μ s) (h2 : AllAt env (L s')) (h3 : τ.Sub σ) (h4 : J s' τ) : Next μ J L s env σ := ⟨⟨s', h1, h2, τ, h3, h4⟩⟩

end Go.AL
