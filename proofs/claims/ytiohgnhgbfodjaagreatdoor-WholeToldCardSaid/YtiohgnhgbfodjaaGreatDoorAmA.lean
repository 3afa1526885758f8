/- The abstract machine (values, a store, code, an evaluator), and what its operations say of the model: first part. -/
import GoSem.Dispatch
import Derived.RangeFuncLeaves
import Derived.OrdersIn
import Derived.Laws.World
import Derived.Laws.Sem
import Derived.IntWalk
import Derived.Laws.StructEq
import Derived.Laws.IdiomStrings
import Derived.Laws.BytesString
set_option linter.unusedVariables false
set_option linter.unusedSimpArgs false
set_option linter.deprecated false
/- The abstract machine: values without addresses, a store of numbered blocks, code with all sizes worked out, and an evaluator. -/
namespace Am
open Go

/-! ### A finite map keyed by numbers -/
inductive PT (α : Type) where
  | leaf
  | node (v : Option α) (l r : PT α)
  deriving Inhabited

namespace PT
variable {α : Type}
def get : PT α → Nat → Option α
  | .leaf, _ => none
  | .node v l r, k =>
    match Nat.beq k 0 with
    | true => v
    | false => match Nat.beq (k % 2) 1 with
      | true => l.get (k / 2)
      | false => r.get (k / 2 - 1)
def putF : Nat → PT α → Nat → Option α → PT α
  | 0, t, _, _ => t
  | f + 1, .leaf, k, x =>
    match Nat.beq k 0 with
    | true => .node x .leaf .leaf
    | false => match Nat.beq (k % 2) 1 with
      | true => .node none (putF f .leaf (k / 2) x) .leaf
      | false => .node none .leaf (putF f .leaf (k / 2 - 1) x)
  | f + 1, .node v l r, k, x =>
    match Nat.beq k 0 with
    | true => .node x l r
    | false => match Nat.beq (k % 2) 1 with
      | true => .node v (putF f l (k / 2) x) r
      | false => .node v l (putF f r (k / 2 - 1) x)
def put (t : PT α) (k : Nat) (x : Option α) : PT α := putF (k + 1) t k x
def ofListFrom (k : Nat) : List α → PT α → PT α
  | [], t => t
  | x :: xs, t => ofListFrom (k + 1) xs (t.put k (some x))
def ofList (l : List α) : PT α := ofListFrom 0 l .leaf

theorem get_putF : ∀ (f : Nat) (t : PT α) (k : Nat) (x : Option α) (j : Nat), k < f →
    (putF f t k x).get j = if j = k then x else t.get j := by
  intro f
  induction f with
  | zero => intro t k x j h; omega
  | succ f ih =>
    intro t k x j h
    have e0 : Nat.beq k 0 = decide (k = 0) := by cases k <;> simp [Nat.beq]
    have e1 : Nat.beq (k % 2) 1 = decide (k % 2 = 1) := by
      rcases Nat.mod_two_eq_zero_or_one k with h | h <;> rw [h] <;> rfl
    have e0' : Nat.beq j 0 = decide (j = 0) := by cases j <;> simp [Nat.beq]
    have e1' : Nat.beq (j % 2) 1 = decide (j % 2 = 1) := by
      rcases Nat.mod_two_eq_zero_or_one j with h | h <;> rw [h] <;> rfl
    cases t with
    | leaf =>
      unfold putF
      rw [e0, e1]
      by_cases hk : k = 0
      · subst hk
        simp only [decide_true]
        unfold get
        rw [e0', e1']
        by_cases hj : j = 0
        · simp [hj]
        · simp only [hj, decide_false]
          by_cases h1 : j % 2 = 1 <;> simp [h1, get]
      · simp only [hk, decide_false]
        by_cases h1 : k % 2 = 1
        · simp only [h1, decide_true]
          unfold get
          rw [e0', e1']
          by_cases hj : j = 0
          · subst hj; simp; omega
          · simp only [hj, decide_false]
            by_cases h2 : j % 2 = 1
            · simp only [h2, decide_true]
              rw [ih _ _ _ _ (by omega)]
              by_cases hjk : j = k
              · simp [hjk]
              · have : j / 2 ≠ k / 2 := by omega
                simp [hjk, this, get]
            · simp only [h2, decide_false]
              have : j ≠ k := by rintro rfl; exact h2 h1
              simp [this, get]
        · simp only [h1, decide_false]
          unfold get
          rw [e0', e1']
          by_cases hj : j = 0
          · subst hj; simp; omega
          · simp only [hj, decide_false]
            by_cases h2 : j % 2 = 1
            · simp only [h2, decide_true]
              have : j ≠ k := by rintro rfl; exact h1 h2
              simp [this, get]
            · simp only [h2, decide_false]
              rw [ih _ _ _ _ (by omega)]
              by_cases hjk : j = k
              · simp [hjk]
              · have : j / 2 - 1 ≠ k / 2 - 1 := by omega
                simp [hjk, this, get]
    | node v l r =>
      unfold putF
      rw [e0, e1]
      by_cases hk : k = 0
      · subst hk
        simp only [decide_true]
        unfold get
        rw [e0', e1']
        by_cases hj : j = 0
        · simp [hj]
        · simp only [hj, decide_false]
          by_cases h1 : j % 2 = 1 <;> simp [h1]
      · simp only [hk, decide_false]
        by_cases h1 : k % 2 = 1
        · simp only [h1, decide_true]
          unfold get
          rw [e0', e1']
          by_cases hj : j = 0
          · subst hj; simp; omega
          · simp only [hj, decide_false]
            by_cases h2 : j % 2 = 1
            · simp only [h2, decide_true]
              rw [ih _ _ _ _ (by omega)]
              by_cases hjk : j = k
              · simp [hjk]
              · have : j / 2 ≠ k / 2 := by omega
                simp [hjk, this]
            · simp only [h2, decide_false]
              have : j ≠ k := by rintro rfl; exact h2 h1
              simp [this]
        · simp only [h1, decide_false]
          unfold get
          rw [e0', e1']
          by_cases hj : j = 0
          · subst hj; simp; omega
          · simp only [hj, decide_false]
            by_cases h2 : j % 2 = 1
            · simp only [h2, decide_true]
              have : j ≠ k := by rintro rfl; exact h1 h2
              simp [this]
            · simp only [h2, decide_false]
              rw [ih _ _ _ _ (by omega)]
              by_cases hjk : j = k
              · simp [hjk]
              · have : j / 2 - 1 ≠ k / 2 - 1 := by omega
                simp [hjk, this]
theorem get_put (t : PT α) (k : Nat) (x : Option α) (j : Nat) : (t.put k x).get j = if j = k then x else t.get j :=
  get_putF _ _ _ _ _ (by omega)
@[simp] theorem get_put_self (t : PT α) (k : Nat) (x : Option α) : (t.put k x).get k = x := by simp [get_put]
theorem get_put_ne (t : PT α) {k j : Nat} (x : Option α) (h : j ≠ k) : (t.put k x).get j = t.get j := by simp [get_put, h]
@[simp] theorem get_leaf (k : Nat) : (PT.leaf : PT α).get k = none := rfl
end PT

/-! ### Values -/
/-- Floats: words that nobody looks into. -/
inductive Flt where
  | f (k : FloatKind) (n : Nat)
  | c (k : FloatKind) (a b : Nat)
  deriving DecidableEq
def Flt.val : Flt → Value
  | .f k n => .float k n
  | .c k a b => .complex k a b
inductive PV where
  | bool (b : Bool)
  | int (k : IntKind) (n : Int)
  | str (s : ByteArray)
  | nilp
  | ptr (b off : Nat)
  | iptr (cells : List PV) (off : Nat)
  | nils
  | slice (b off len esz : Nat) (cap : Option Nat)
  | islice (cells : List PV) (len esz : Nat) (cap : Option Nat)
  | nilm
  | map (b : Nat)
  | func (f : Nat) (first captured : List PV)
  | yld (b : Nat)
  | nilf
  | iface (t : Nat) (v : PV)
  | nili
  | agg (cs : List PV)
  | tup (vs : List PV)
  | raw (v : Flt)
  deriving Inhabited

def PV.cells : PV → List PV
  | .agg cs => cs
  | v => [v]
def PV.one : PV → Bool
  | .agg _ | .tup _ => false
  | _ => true

/-! ### Code -/
inductive Src where
  | t (n : Nat)
  | c (v : PV)
  deriving Inhabited
/-- What '==' looks at: cells by cells. -/
inductive EqT where
  | scalar (k : Nat)
  | cells (offs : List (Nat × Nat))
  deriving Inhabited
/-- Keys of maps: one cell of a kind, or cells of kinds. -/
inductive KeyK where
  | one (k : Nat)
  | cells (offs : List (Nat × Nat))
  deriving Inhabited
inductive SlK where
  | str
  | slice (esz : Nat)
  | arr (n esz : Nat)
  deriving Inhabited
inductive AOp where
  | mov (x : Src)
  | pick (c a b : Src)
  | box (x : Src)
  | build (zero : List PV) (parts : List (Nat × Nat × Src))
  | mkrow (zero : List PV) (esz len : Nat) (parts : List (Nat × Nat × Src))
  | load (n : Option Nat) (a : Src)
  | store (n : Nat) (a x : Src)
  | nilchk (x : Src)
  | bin (op : BinOp) (x y : Src)
  | eql (neg : Bool) (e : EqT) (x y : Src)
  | un (op : UnOp) (x : Src)
  | toInt (k : IntKind) (x : Src)
  | toStr (x : Src)
  | toBytes (x : Src)
  | same (x : Src)
  | mkiface (t : Nat) (x : Src)
  | mkfunc (f : Nat) (first captured : List Src)
  | mkmap
  | mkslice (zero : List PV) (esz bytes : Nat) (len cap : Src)
  | slic (k : SlK) (x : Src) (lo hi mx : Option Src)
  | faddr (off : Nat) (x : Src)
  | fld (off : Nat) (n : Option Nat) (x : Src)
  | iaddr (esz : Nat) (arr : Option Nat) (x i : Src)
  | idxS (x i : Src)
  | idxA (len esz : Nat) (n : Option Nat) (x i : Src)
  | lookup (kk : KeyK) (zero : PV) (ok : Bool) (x i : Src)
  | mapup (kk : KeyK) (m k v : Src)
  | range (isStr : Bool) (x : Src)
  | next (isStr : Bool) (it : Src)
  | entry (it : Src)
  | extract (x : Src) (i : Nat)
  | call (f : Src) (args : List Src)
  | lenS (isStr : Bool) (x : Src)
  | lenM (x : Src)
  | capS (x : Src)
  | append (zero : List PV) (esz bytes : Nat) (s x : Src)
  | appendN (zero : List PV) (esz bytes : Nat) (s n : Src)
  | copy (esz : Nat) (d s : Src)
  | clearS (zero : List PV) (esz : Nat) (s : Src)
  | clearM (m : Src)
  | delete (kk : KeyK) (m k : Src)
  | mmin (l : List Src)
  | mmax (l : List Src)
  | prim (g : List PV → Option PV) (l : List Src)
  | stuck
  deriving Inhabited
structure AOper where
  dst : Option Nat
  op : AOp
  guard : Option (Nat × Bool)
  deriving Inhabited
inductive ACode where
  | skip
  | region (ops : List AOper) (outs : List Nat)
  | drawn (ops : List AOper) (floats : List (Nat × Nat × Nat)) (outs : List Nat)
  | seq (a b : ACode)
  | cond (c : Src) (x y : ACode)
  | block (id : Nat) (c : ACode)
  | loop (c : ACode)
  | rangeFunc (f : Src) (params : List Nat) (assign body : ACode)
  | exit (id : Nat)
  | scope (whole c : ACode)
  | label (l : Nat)
  | goto (l : Nat)
  | ret
  | stuck
  deriving Inhabited
inductive ARes where
  | tmp (t : Nat)
  | cell (t : Nat) (n : Option Nat)
  deriving Inhabited
structure AFunc where
  ntmps : Nat
  results : List ARes
  body : ACode
  deriving Inhabited
inductive AExit where
  | normal
  | exit (id : Nat)
  | goto (l : Nat)
  | ret
  deriving Inhabited, DecidableEq

/-! ### States -/
/-- The temporaries: those of the region at hand in a row, the latest first; all others in a map. -/
structure Regs where
  n : Nat
  m : PT PV
  l : List (Nat × PV)
  deriving Inhabited
structure ALoop where
  state : Nat
  pending : Option AExit
  regs : Regs
  params : List Nat
  assign : ACode
  body : ACode
  deriving Inhabited
structure AEnt where
  key : PV
  val : PV
  born : Nat
  deriving Inhabited
inductive AObj where
  | cells (cs : List PV) (op : Bool)
  | map (es : List AEnt) (clock : Nat)
  | mit (m : Option Nat) (since : Nat) (seen : List Nat) (stepped : Nat)
  | loop (l : ALoop)
  deriving Inhabited
structure St where
  m : PT AObj
  next : Nat
  deriving Inhabited
namespace St
def get (σ : St) (b : Nat) : Option AObj := match σ with
  | ⟨m, _⟩ => m.get b
def set (σ : St) (b : Nat) (o : AObj) : St := match σ with
  | ⟨m, n⟩ => ⟨m.put b (some o), n⟩
def del (σ : St) (b : Nat) : St := match σ with
  | ⟨m, n⟩ => ⟨m.put b none, n⟩
def new (σ : St) (o : AObj) : St := match σ with
  | ⟨m, n⟩ => ⟨m.put n (some o), n + 1⟩
end St
namespace Regs
def look (k : Nat) : List (Nat × PV) → PT PV → Option PV
  | [], m => m.get k
  | (j, v) :: l, m => match Nat.beq j k with
    | true => some v
    | false => look k l m
def get (ρ : Regs) (t : Nat) : Option PV := match ρ with
  | ⟨_, m, l⟩ => look t l m
def src (ρ : Regs) (x : Src) : Option PV := match x with
  | .t n => ρ.get n
  | .c v => some v
def srcs (ρ : Regs) (l : List Src) : Option (List PV) := match l with
  | [] => some []
  | x :: xs => match ρ.src x with
    | some v => match ρ.srcs xs with
      | some vs => some (v :: vs)
      | none => none
    | none => none
def put (ρ : Regs) (dst : Option Nat) (v : PV) : Option Regs :=
  match dst with
  | none => some ρ
  | some d => match ρ with
    | ⟨n, m, l⟩ => match Nat.blt d n with
      | true => some ⟨n, m, (d, v) :: l⟩
      | false => none
/-- Of a region's temporaries those that are wanted later are kept. -/
def keepAll (l : List (Nat × PV)) : List Nat → PT PV → PT PV
  | [], m => m
  | t :: ts, m => match look t l .leaf with
    | some v => keepAll l ts (m.put t (some v))
    | none => keepAll l ts m
def elemN (k : Nat) : List Nat → Bool
  | [] => false
  | x :: xs => match Nat.beq x k with
    | true => true
    | false => elemN k xs
/-- What a region wrote and is not kept must not have stood in the map. -/
def freshIn (outs : List Nat) : List (Nat × PV) → PT PV → Bool
  | [], _ => true
  | (t, _) :: l, m => match m.get t with
    | none => freshIn outs l m
    | some _ => match elemN t outs with
      | true => freshIn outs l m
      | false => false
def keepOk (n : Nat) (outs : List Nat) (l : List (Nat × PV)) (m : PT PV) : Option Regs := match freshIn outs l m with
  | true => some ⟨n, m, []⟩
  | false => none
def keep (ρ : Regs) (outs : List Nat) : Option Regs := match ρ with
  | ⟨n, m, l⟩ => keepOk n outs l (keepAll l outs m)
def putM (ρ : Regs) (d : Nat) (v : PV) : Option Regs := match ρ with
  | ⟨n, m, []⟩ => match Nat.blt d n with
    | true => some ⟨n, m.put d (some v), []⟩
    | false => none
  | ⟨_, _, _ :: _⟩ => none
def entry (n : Nat) (args : List PV) : Regs := { n := max n args.length, m := PT.ofList args, l := [] }
end Regs
end Am
/- The abstract machine's evaluator. -/
namespace Am
open Go

/-! ### Cells -/
def cellsAt : List PV → Nat → Nat → Option (List PV)
  | _, 0, 0 => some []
  | [], 0, _ + 1 => none
  | [], _ + 1, _ => none
  | c :: cs, 0, n + 1 => match cellsAt cs 0 n with
    | some r => some (c :: r)
    | none => none
  | _ :: cs, o + 1, n => cellsAt cs o n
/-- The cells with some written over, from a place on; none: they do not lie there. -/
def writeAt : List PV → Nat → List PV → Option (List PV)
  | cs, 0, [] => some cs
  | [], 0, _ :: _ => none
  | [], _ + 1, _ => none
  | _ :: cs, 0, v :: vs => match writeAt cs 0 vs with
    | some r => some (v :: r)
    | none => none
  | c :: cs, o + 1, vs => match writeAt cs o vs with
    | some r => some (c :: r)
    | none => none
def readPtr (σ : St) : PV → Nat → Option (List PV)
  | .ptr b off, n => match σ.get b with
    | some (.cells cs _) => cellsAt cs off n
    | _ => none
  | .iptr cs off, n => cellsAt cs off n
  | _, _ => none
def writePtr (σ : St) : PV → List PV → Option St
  | .ptr b off, vs => match σ.get b with
    | some (.cells cs op) => match writeAt cs off vs with
      | some cs' => some (σ.set b (.cells cs' op))
      | none => none
    | _ => none
  | _, _ => none
def fill (cs : List PV) : List (Nat × Nat × PV) → Option (List PV)
  | [] => some cs
  | (off, size, v) :: rest =>
    match Nat.beq v.cells.length size with
    | true => match writeAt cs off v.cells with
      | some cs' => fill cs' rest
      | none => none
    | false => none
def parts (ρ : Regs) : List (Nat × Nat × Src) → Option (List (Nat × Nat × PV))
  | [] => some []
  | (o, s, x) :: xs => match ρ.src x with
    | some v => match parts ρ xs with
      | some r => some ((o, s, v) :: r)
      | none => none
    | none => none
def repl (cs : List PV) : Nat → List PV
  | 0 => []
  | n + 1 => cs ++ repl cs n
/-- The cells of a slice's elements, up to a count. -/
def sliceCells (σ : St) (n : Nat) : PV → Option (List PV)
  | .nils => match n with
    | 0 => some []
    | _ + 1 => none
  | .slice b off _ esz _ => match σ.get b with
    | some (.cells cs _) => cellsAt cs off (n * esz)
    | _ => none
  | .islice cs _ esz _ => cellsAt cs 0 (n * esz)
  | .str s => match Nat.ble n s.size with
    | true => some ((s.data.toList.take n).map fun b => .int .u8 b.toNat)
    | false => none
  | _ => none
def lenOf : PV → Option Nat
  | .nils => some 0
  | .slice _ _ n _ _ => some n
  | .islice _ n _ _ => some n
  | .str s => some s.size
  | _ => none

/-! ### Whole numbers, by cases alone (so that they are worked out fast) -/
def ltI : Int → Int → Bool
  | .ofNat a, .ofNat b => Nat.blt a b
  | .ofNat _, .negSucc _ => false
  | .negSucc _, .ofNat _ => true
  | .negSucc a, .negSucc b => Nat.blt b a
def eqI : Int → Int → Bool
  | .ofNat a, .ofNat b => Nat.beq a b
  | .negSucc a, .negSucc b => Nat.beq a b
  | _, _ => false
def wrapI (k : IntKind) (n : Int) : Int := match k with
  | .i64 => match n with
    | .ofNat m => match Nat.blt m 9223372036854775808 with
      | true => .ofNat m
      | false => IntKind.i64.wrap (.ofNat m)
    | .negSucc m => match Nat.blt m 9223372036854775808 with
      | true => .negSucc m
      | false => IntKind.i64.wrap (.negSucc m)
  | .u8 => match n with
    | .ofNat m => match Nat.blt m 256 with
      | true => .ofNat m
      | false => IntKind.u8.wrap (.ofNat m)
    | .negSucc m => IntKind.u8.wrap (.negSucc m)
  | .u64 => match n with
    | .ofNat m => match Nat.blt m 18446744073709551616 with
      | true => .ofNat m
      | false => IntKind.u64.wrap (.ofNat m)
    | .negSucc m => IntKind.u64.wrap (.negSucc m)
  | .i8 => IntKind.i8.wrap n
  | .i16 => IntKind.i16.wrap n
  | .i32 => IntKind.i32.wrap n
  | .u16 => IntKind.u16.wrap n
  | .u32 => IntKind.u32.wrap n
def kindNo : IntKind → Nat
  | .i8 => 0 | .i16 => 1 | .i32 => 2 | .i64 => 3 | .u8 => 4 | .u16 => 5 | .u32 => 6 | .u64 => 7
def eqK (a b : IntKind) : Bool := Nat.beq (kindNo a) (kindNo b)
def nth {α : Type} : List α → Nat → Option α
  | [], _ => none
  | x :: _, 0 => some x
  | _ :: xs, n + 1 => nth xs n
def eqBytes : List UInt8 → List UInt8 → Bool
  | [], [] => true
  | a :: x, b :: y => match Nat.beq a.toNat b.toNat with
    | true => eqBytes x y
    | false => false
  | _, _ => false
def ltBytes : List UInt8 → List UInt8 → Bool
  | _, [] => false
  | [], _ :: _ => true
  | a :: x, b :: y => match Nat.blt a.toNat b.toNat with
    | true => true
    | false => match Nat.beq a.toNat b.toNat with
      | true => ltBytes x y
      | false => false

/-! ### Plain operations -/
def binInt (op : BinOp) (k : IntKind) (a b : Int) : Option PV :=
  match op with
  | .add => some (.int k (wrapI k (Int.add a b)))
  | .sub => some (.int k (wrapI k (Int.sub a b)))
  | .mul => some (.int k (wrapI k (Int.mul a b)))
  | .quo => match eqI b 0 with
    | true => none
    | false => some (.int k (wrapI k (a.tdiv b)))
  | .rem => match eqI b 0 with
    | true => none
    | false => some (.int k (a.tmod b))
  | .eql => some (.bool (eqI a b))
  | .neq => some (.bool (!eqI a b))
  | .lss => some (.bool (ltI a b))
  | .leq => some (.bool (!ltI b a))
  | .gtr => some (.bool (ltI b a))
  | .geq => some (.bool (!ltI a b))
  | .and => some (.int k (k.wrap ((BitVec.ofInt k.bits a &&& BitVec.ofInt k.bits b).toNat)))
  | .or => some (.int k (k.wrap ((BitVec.ofInt k.bits a ||| BitVec.ofInt k.bits b).toNat)))
  | .xor => some (.int k (k.wrap ((BitVec.ofInt k.bits a ^^^ BitVec.ofInt k.bits b).toNat)))
  | .andNot => some (.int k (k.wrap ((BitVec.ofInt k.bits a &&& ~~~BitVec.ofInt k.bits b).toNat)))
  | _ => none
def binShift (op : BinOp) (k : IntKind) (a b : Int) : Option PV :=
  if b < 0 then none else
  match op with
  | .shl => some (.int k (k.wrap (a * 2 ^ (min b.toNat k.bits))))
  | .shr => some (.int k (a.fdiv (2 ^ (min b.toNat k.bits))))
  | _ => none
def binStr (op : BinOp) (x y : ByteArray) : Option PV :=
  match op with
  | .add => match Nat.ble (x.size + y.size) 9223372036854775807 with
    | true => some (.str ⟨(x.data.toList ++ y.data.toList).toArray⟩)
    | false => none
  | .eql => some (.bool (eqBytes x.data.toList y.data.toList))
  | .neq => some (.bool (!(eqBytes x.data.toList y.data.toList)))
  | .lss => some (.bool (ltBytes x.data.toList y.data.toList))
  | .leq => some (.bool (ltBytes x.data.toList y.data.toList || eqBytes x.data.toList y.data.toList))
  | .gtr => some (.bool (!(ltBytes x.data.toList y.data.toList || eqBytes x.data.toList y.data.toList)))
  | .geq => some (.bool (!(ltBytes x.data.toList y.data.toList)))
  | _ => none
def bin (op : BinOp) : PV → PV → Option PV
  | .int k a, .int k' b =>
    match op with
    | .shl | .shr => binShift op k a b
    | _ => match eqK k k' with
      | true => binInt op k a b
      | false => none
  | .str a, .str b => binStr op a b
  | _, _ => none
/-- '==' of two cells of a kind: 0 bool, 1 pointer, 2 slice, 3 map, 4 func, 5 interface, 6 whole number, 7 string. -/
def scalarEq (k : Nat) : PV → PV → Option Bool
  | .bool a, .bool b => match Nat.beq k 0 with
    | true => some (a == b)
    | false => none
  | .int ka a, .int kb b => match Nat.beq k 6 && eqK ka kb with
    | true => some (eqI a b)
    | false => none
  | .str a, .str b => match Nat.beq k 7 with
    | true => some (eqBytes a.data.toList b.data.toList)
    | false => none
  | .nilp, .nilp => match Nat.beq k 1 with
    | true => some true
    | false => none
  | .nilp, .ptr _ _ | .ptr _ _, .nilp | .nilp, .iptr _ _ | .iptr _ _, .nilp => match Nat.beq k 1 with
    | true => some false
    | false => none
  | .nils, .nils => match Nat.beq k 2 with
    | true => some true
    | false => none
  | .nils, .slice _ _ _ _ _ | .slice _ _ _ _ _, .nils | .nils, .islice _ _ _ _ | .islice _ _ _ _, .nils => match Nat.beq k 2 with
    | true => some false
    | false => none
  | .nilm, .nilm => match Nat.beq k 3 with
    | true => some true
    | false => none
  | .nilm, .map _ | .map _, .nilm => match Nat.beq k 3 with
    | true => some false
    | false => none
  | .nilf, .nilf => match Nat.beq k 4 with
    | true => some true
    | false => none
  | .nilf, .func _ _ _ | .func _ _ _, .nilf | .nilf, .yld _ | .yld _, .nilf => match Nat.beq k 4 with
    | true => some false
    | false => none
  | .nili, .iface _ _ | .iface _ _, .nili => match Nat.beq k 5 with
    | true => some false
    | false => none
  | _, _ => none
def cellsEq : List (Nat × Nat) → List PV → List PV → Option Bool
  | [], _, _ => some true
  | (o, k) :: rest, xs, ys => match cellsAt xs o 1, cellsAt ys o 1 with
    | some [x], some [y] => match scalarEq k x y with
      | some true => cellsEq rest xs ys
      | some false => some false
      | none => none
    | _, _ => none
def isNilConst : Src → Bool
  | .c .nili => true
  | _ => false
def eqlV (e : EqT) (sx sy : Src) (x y : PV) : Option Bool :=
  match e, x, y with
  | .cells offs, .agg xs, .agg ys => cellsEq offs xs ys
  | .scalar 5, .nili, .nili => match isNilConst sx || isNilConst sy with
    | true => some true
    | false => none
  | .scalar k, x, y => scalarEq k x y
  | _, _, _ => none
def un (op : UnOp) : PV → Option PV
  | .bool b => match op with
    | .not => some (.bool (!b))
    | _ => none
  | .int k n => match op with
    | .neg => some (.int k (wrapI k (Int.sub 0 n)))
    | _ => none
  | _ => none
def keyEq (kk : KeyK) : PV → PV → Option Bool := match kk with
  | .one k => fun x y => match Nat.beq k 0 || Nat.beq k 6 || Nat.beq k 7 with
    | true => scalarEq k x y
    | false => none
  | .cells offs => fun x y => match x, y with
    | .agg xs, .agg ys => cellsEq offs xs ys
    | _, _ => none
def plain1 : PV → Bool
  | .int _ _ | .str _ | .bool _ => true
  | _ => false
/-- A key that is one, and nothing but numbers, strings and bools. -/
def keyOk (kk : KeyK) (k : PV) : Bool :=
  match keyEq kk k k with
  | some true => match k with
    | .agg cs => cs.all plain1
    | k => plain1 k
  | _ => false
def findKey (kk : KeyK) (k : PV) : List AEnt → Nat → Option (Option (Nat × AEnt))
  | [], _ => some none
  | e :: es, i => match keyEq kk k e.key with
    | some true => some (some (i, e))
    | some false => findKey kk k es (i + 1)
    | none => none
def setEntry (k v : PV) : List AEnt → Nat → List AEnt
  | [], _ => []
  | e :: es, 0 => { e with key := k, val := v } :: es
  | e :: es, i + 1 => e :: setEntry k v es i
def dropEntry : List AEnt → Nat → List AEnt
  | [], _ => []
  | _ :: es, 0 => es
  | e :: es, i + 1 => e :: dropEntry es i
def asNat : PV → Option Nat
  | .int _ (.ofNat n) => some n
  | _ => none
def optNat (ρ : Regs) : Option Src → Nat → Option Nat
  | none, d => some d
  | some x, _ => match ρ.src x with
    | some v => asNat v
    | none => none
def allOne : List PV → Bool
  | [] => true
  | v :: vs => v.one && allOne vs
def best (less : PV → PV → Option Bool) : PV → List PV → Option PV
  | x, [] => some x
  | x, y :: ys => match less y x with
    | some true => best less y ys
    | some false => best less x ys
    | none => none
def ltV : PV → PV → Option Bool
  | .int k a, .int k' b => match eqK k k' with
    | true => some (ltI a b)
    | false => none
  | _, _ => none
def gtV : PV → PV → Option Bool
  | .int k a, .int k' b => match eqK k k' with
    | true => some (ltI b a)
    | false => none
  | _, _ => none
def bytesOf : List PV → Option (List UInt8)
  | [] => some []
  | .int .u8 n :: cs => match bytesOf cs with
    | some r => some (UInt8.ofNat n.toNat :: r)
    | none => none
  | _ => none
/-- What no memory bears is shut out. -/
def roomy (need bytes : Nat) : Bool := Nat.ble (need * bytes) 70368744177664 && Nat.ble need 70368744177664

/-- What a range over a map may tell next (none: it is over). -/
def candidates (es : List AEnt) (since : Nat) (seen : List Nat) : List (Option AEnt) :=
  let left := es.filter fun e => !seen.any (fun s => Nat.beq s e.born)
  let old := left.filter fun e => Nat.blt e.born since
  let new := left.filter fun e => !Nat.blt e.born since
  (match old with | [] => [none] | _ :: _ => []) ++ (old ++ new).map some

/-! ### Alike -/
mutual
def PV.beq : PV → PV → Bool
  | .bool a, .bool b => a == b
  | .int k a, .int k' b => eqK k k' && eqI a b
  | .str a, .str b => eqBytes a.data.toList b.data.toList
  | .nilp, .nilp => true
  | .ptr a b, .ptr c d => Nat.beq a c && Nat.beq b d
  | .iptr a b, .iptr c d => PV.beqs a c && Nat.beq b d
  | .nils, .nils => true
  | .slice a b c d e, .slice a' b' c' d' e' => Nat.beq a a' && Nat.beq b b' && Nat.beq c c' && Nat.beq d d' && decide (e = e')
  | .islice a c d e, .islice a' c' d' e' => PV.beqs a a' && Nat.beq c c' && Nat.beq d d' && decide (e = e')
  | .nilm, .nilm => true
  | .map a, .map b => Nat.beq a b
  | .func f a b, .func f' a' b' => Nat.beq f f' && PV.beqs a a' && PV.beqs b b'
  | .yld a, .yld b => Nat.beq a b
  | .nilf, .nilf => true
  | .iface t v, .iface t' v' => Nat.beq t t' && PV.beq v v'
  | .nili, .nili => true
  | .agg a, .agg b => PV.beqs a b
  | .tup a, .tup b => PV.beqs a b
  | .raw a, .raw b => decide (a = b)
  | _, _ => false
def PV.beqs : List PV → List PV → Bool
  | [], [] => true
  | x :: xs, y :: ys => PV.beq x y && PV.beqs xs ys
  | _, _ => false
end
/-! ### Operations -/
inductive ORes where
  | v (v : PV) (σ : St)
  | call (f : Nat) (args : List PV) (σ : St)
  | round (b : Nat) (args : List PV) (σ : St)
  deriving Inhabited

def sliceV (σ : St) (k : SlK) (x : PV) (lo : Nat) (hi mx : Option Nat) : Option PV :=
  match k, x with
  | .str, .str s =>
    match mx with
    | some _ => none
    | none =>
      match Nat.ble lo (hi.getD s.size) && Nat.ble (hi.getD s.size) s.size with
      | true => some (.str ⟨((s.data.toList.drop lo).take (hi.getD s.size - lo)).toArray⟩)
      | false => none
  | .slice _, .nils =>
    match lo, hi.getD 0, mx.getD 0 with
    | 0, 0, 0 => some .nils
    | _, _, _ => none
  | .slice esz, .slice b off len esz' cap =>
    match Nat.beq esz esz' && Nat.blt 0 esz with
    | false => none
    | true =>
      let h := hi.getD len
      match cap, mx with
      | some c, none => match Nat.ble lo h && Nat.ble h c with
        | true => some (.slice b (off + lo * esz) (h - lo) esz (some (c - lo)))
        | false => none
      | some c, some m => match Nat.ble lo h && Nat.ble h m && Nat.ble m c with
        | true => some (.slice b (off + lo * esz) (h - lo) esz (some (m - lo)))
        | false => none
      | none, none =>
        match Nat.ble lo h && (Nat.ble h len || (match σ.get b with | some (.cells cs _) => Nat.ble (off + h * esz) cs.length | _ => false)) with
        | true => some (.slice b (off + lo * esz) (h - lo) esz none)
        | false => none
      | none, some m =>
        match Nat.ble lo h && Nat.ble h m && (Nat.ble m len || (match σ.get b with | some (.cells cs _) => Nat.ble (off + m * esz) cs.length | _ => false)) with
        | true => some (.slice b (off + lo * esz) (h - lo) esz (some (m - lo)))
        | false => none
  | .slice esz, .islice cs len esz' cap =>
    match Nat.beq esz esz' && Nat.blt 0 esz with
    | false => none
    | true =>
      let h := hi.getD len
      match mx with
      | none => match Nat.ble lo h && Nat.ble h len with
        | true => some (.islice (cs.drop (lo * esz)) (h - lo) esz (cap.map (· - lo)))
        | false => none
      | some m => match Nat.ble lo h && Nat.ble h m && Nat.ble m len with
        | true => some (.islice (cs.drop (lo * esz)) (h - lo) esz (some (m - lo)))
        | false => none
  | .arr n esz, .ptr b off =>
    let h := hi.getD n
    let m := mx.getD n
    match Nat.ble lo h && Nat.ble h m && Nat.ble m n && Nat.blt 0 esz with
    | true => match σ.get b with
      | some (.cells cs _) => match Nat.ble (off + n * esz) cs.length with
        | true => some (.slice b (off + lo * esz) (h - lo) esz (some (m - lo)))
        | false => none
      | _ => none
    | false => none
  | _, _ => none

/-- append of cells (n elements of them). -/
def appendV (σ : St) (esz bytes : Nat) (s : PV) (n : Nat) (new : List PV) : Option (PV × St) :=
  match Nat.blt 0 esz && Nat.beq new.length (n * esz) && allOne new with
  | false => none
  | true =>
    match s with
    | .nils => match n with
      | 0 => some (.nils, σ)
      | n + 1 => match roomy (n + 1) bytes with
        | true => some (.slice σ.next 0 (n + 1) esz none, σ.new (.cells new true))
        | false => none
    | .islice cs len esz' (some c) =>
      match Nat.beq esz esz' && Nat.blt c (len + n) && roomy (len + n) bytes with
      | true => match cellsAt cs 0 (len * esz) with
        | some old => some (.slice σ.next 0 (len + n) esz none, σ.new (.cells (old ++ new) true))
        | none => none
      | false => none
    | .slice b off len esz' cap =>
      match Nat.beq esz esz' && roomy (len + n) bytes with
      | false => none
      | true =>
        match σ.get b with
        | some (.cells cs op) =>
          match cap with
          | some c => match Nat.ble (len + n) c with
            | true => match writeAt cs (off + len * esz) new with
              | some cs' => some (.slice b off (len + n) esz cap, σ.set b (.cells cs' op))
              | none => none
            | false => match cellsAt cs off (len * esz) with
              | some old => some (.slice σ.next 0 (len + n) esz none, σ.new (.cells (old ++ new) true))
              | none => none
          | none =>
            match writeAt cs (off + len * esz) new with
            | some cs' => some (.slice b off (len + n) esz none, σ.set b (.cells cs' op))
            | none => match off with
              | 0 => match cellsAt cs 0 (len * esz) with
                | some old => some (.slice σ.next 0 (len + n) esz none, (σ.del b).new (.cells (old ++ new) true))
                | none => none
              | _ + 1 => none
        | _ => none
    | _ => none

def evMov (x : Src) (ρ : Regs) (σ : St) : Option ORes := match ρ.src x with
  | some v => some (.v v σ)
  | none => none
def evPick (c : Src) (a : Src) (b : Src) (ρ : Regs) (σ : St) : Option ORes := match ρ.src c with
  | some (.bool true) => match ρ.src a with
    | some v => some (.v v σ)
    | none => none
  | some (.bool false) => match ρ.src b with
    | some v => some (.v v σ)
    | none => none
  | _ => none
def evBox (x : Src) (ρ : Regs) (σ : St) : Option ORes := match ρ.src x with
  | some v => some (.v (.ptr σ.next 0) (σ.new (.cells v.cells false)))
  | none => none
def evBuild (zero : List PV) (ps : List (Nat × Nat × Src)) (ρ : Regs) (σ : St) : Option ORes := match parts ρ ps with
  | some ps => match fill zero ps with
    | some cs => some (.v (.agg cs) σ)
    | none => none
  | none => none
def evMkrow (zero : List PV) (esz : Nat) (len : Nat) (ps : List (Nat × Nat × Src)) (ρ : Regs) (σ : St) : Option ORes := match parts ρ ps with
  | some ps => match fill (repl zero len) ps with
    | some cs => match Nat.blt 0 esz && Nat.beq zero.length esz && Nat.ble (len * esz) 16777216 with
      | true => some (.v (.slice σ.next 0 len esz (some len)) (σ.new (.cells cs false)))
      | false => none
    | none => none
  | none => none
def evLoad (n : Option Nat) (a : Src) (ρ : Regs) (σ : St) : Option ORes := match ρ.src a with
  | some p => match n with
    | none => match readPtr σ p 1 with
      | some [v] => some (.v v σ)
      | _ => none
    | some n => match readPtr σ p n with
      | some cs => some (.v (.agg cs) σ)
      | none => none
  | none => none
def evStore (n : Nat) (a : Src) (x : Src) (ρ : Regs) (σ : St) : Option ORes := match ρ.src a with
  | some p => match ρ.src x with
    | some v => match Nat.beq v.cells.length n && allOne v.cells with
      | true => match writePtr σ p v.cells with
        | some σ' => some (.v (.tup []) σ')
        | none => none
      | false => none
    | none => none
  | none => none
def evNilchk (x : Src) (ρ : Regs) (σ : St) : Option ORes := match ρ.src x with
  | some (.ptr b o) => some (.v (.ptr b o) σ)
  | some (.iptr c o) => some (.v (.iptr c o) σ)
  | some (.func f a b) => some (.v (.func f a b) σ)
  | some (.yld b) => some (.v (.yld b) σ)
  | some (.iface t v) => some (.v (.iface t v) σ)
  | _ => none
def evBin (op : BinOp) (x : Src) (y : Src) (ρ : Regs) (σ : St) : Option ORes := match ρ.src x with
  | some a => match ρ.src y with
    | some b => match bin op a b with
      | some v => some (.v v σ)
      | none => none
    | none => none
  | none => none
def evEql (neg : Bool) (e : EqT) (x : Src) (y : Src) (ρ : Regs) (σ : St) : Option ORes := match ρ.src x with
  | some a => match ρ.src y with
    | some b => match eqlV e x y a b with
      | some r => some (.v (.bool (xor neg r)) σ)
      | none => none
    | none => none
  | none => none
def evUn (op : UnOp) (x : Src) (ρ : Regs) (σ : St) : Option ORes := match ρ.src x with
  | some a => match un op a with
    | some v => some (.v v σ)
    | none => none
  | none => none
def evToInt (k : IntKind) (x : Src) (ρ : Regs) (σ : St) : Option ORes := match ρ.src x with
  | some (.int _ n) => some (.v (.int k (wrapI k n)) σ)
  | _ => none
def evToStr (x : Src) (ρ : Regs) (σ : St) : Option ORes := match ρ.src x with
  | some v => match v with
    | .nils => some (.v (.str ⟨#[]⟩) σ)
    | .slice b off len esz cap => match sliceCells σ len (.slice b off len esz cap) with
      | some cs => match bytesOf cs with
        | some l => match Nat.beq esz 1 with
          | true => some (.v (.str ⟨l.toArray⟩) σ)
          | false => none
        | none => none
      | none => none
    | _ => none
  | none => none
def evToBytes (x : Src) (ρ : Regs) (σ : St) : Option ORes := match ρ.src x with
  | some (.str s) => match Nat.ble s.size 70368744177664 with
    | true => some (.v (.slice σ.next 0 s.size 1 none) (σ.new (.cells (s.data.toList.map fun b => .int .u8 b.toNat) true)))
    | false => none
  | _ => none
def evSame (x : Src) (ρ : Regs) (σ : St) : Option ORes := match ρ.src x with
  | some (.str s) => some (.v (.str s) σ)
  | _ => none
def evMkiface (t : Nat) (x : Src) (ρ : Regs) (σ : St) : Option ORes := match ρ.src x with
  | some v => some (.v (.iface t v) σ)
  | none => none
def evMkfunc (f : Nat) (a : List Src) (b : List Src) (ρ : Regs) (σ : St) : Option ORes := match ρ.srcs a with
  | some a => match ρ.srcs b with
    | some b => some (.v (.func f a b) σ)
    | none => none
  | none => none
def evMkmap  (_ : Regs) (σ : St) : Option ORes := some (.v (.map σ.next) (σ.new (.map [] 0)))
def evMkslice (zero : List PV) (esz : Nat) (bytes : Nat) (l : Src) (c : Src) (ρ : Regs) (σ : St) : Option ORes := match ρ.src l with
  | some lv => match ρ.src c with
    | some cv => match asNat lv with
      | some l => match asNat cv with
        | some c => match Nat.ble l c && Nat.blt 0 esz && roomy c bytes && Nat.beq zero.length esz with
          | true => some (.v (.slice σ.next 0 l esz (some c)) (σ.new (.cells (repl zero c) false)))
          | false => none
        | none => none
      | none => none
    | none => none
  | none => none
def optS (ρ : Regs) (x : Option Src) : Option (Option Nat) := match x with
  | none => some none
  | some x => match ρ.src x with
    | some v => match asNat v with
      | some n => some (some n)
      | none => none
    | none => none
def evSlic (k : SlK) (x : Src) (lo : Option Src) (hi : Option Src) (mx : Option Src) (ρ : Regs) (σ : St) : Option ORes := match ρ.src x with
  | some v => match optS ρ lo with
    | some l => match optS ρ hi with
      | some h => match optS ρ mx with
        | some m => match m.isSome && !h.isSome with
          | true => none
          | false => match sliceV σ k v (l.getD 0) h m with
            | some r => some (.v r σ)
            | none => none
        | none => none
      | none => none
    | none => none
  | none => none
def evFaddr (off : Nat) (x : Src) (ρ : Regs) (σ : St) : Option ORes := match ρ.src x with
  | some (.ptr b o) => some (.v (.ptr b (o + off)) σ)
  | some (.iptr c o) => some (.v (.iptr c (o + off)) σ)
  | _ => none
def partV (cs : List PV) (off : Nat) (n : Option Nat) : Option PV := match n with
  | none => match cellsAt cs off 1 with
    | some [v] => some v
    | _ => none
  | some n => match cellsAt cs off n with
    | some r => some (.agg r)
    | none => none
def evFld (off : Nat) (n : Option Nat) (x : Src) (ρ : Regs) (σ : St) : Option ORes := match ρ.src x with
  | some (.agg cs) => match partV cs off n with
    | some v => some (.v v σ)
    | none => none
  | _ => none
def evIaddr (esz : Nat) (arr : Option Nat) (x : Src) (i : Src) (ρ : Regs) (σ : St) : Option ORes := match ρ.src x with
  | some v => match ρ.src i with
    | some iv => match asNat iv with
      | some i => match arr, v with
        | none, .slice b off len esz' _ => match Nat.beq esz esz' && Nat.blt i len with
          | true => some (.v (.ptr b (off + i * esz)) σ)
          | false => none
        | none, .islice cs len esz' _ => match Nat.beq esz esz' && Nat.blt i len with
          | true => some (.v (.iptr cs (i * esz)) σ)
          | false => none
        | some n, .ptr b off => match Nat.blt i n with
          | true => some (.v (.ptr b (off + i * esz)) σ)
          | false => none
        | some n, .iptr cs off => match Nat.blt i n with
          | true => some (.v (.iptr cs (off + i * esz)) σ)
          | false => none
        | _, _ => none
      | none => none
    | none => none
  | none => none
def evIdxS (x : Src) (i : Src) (ρ : Regs) (σ : St) : Option ORes := match ρ.src x with
  | some (.str s) => match ρ.src i with
    | some iv => match asNat iv with
      | some i => match nth s.data.toList i with
        | some b => some (.v (.int .u8 b.toNat) σ)
        | none => none
      | none => none
    | none => none
  | _ => none
def evIdxA (len : Nat) (esz : Nat) (n : Option Nat) (x : Src) (i : Src) (ρ : Regs) (σ : St) : Option ORes := match ρ.src x with
  | some (.agg cs) => match ρ.src i with
    | some iv => match asNat iv with
      | some i => match Nat.blt i len with
        | true => match partV cs (i * esz) n with
          | some v => some (.v v σ)
          | none => none
        | false => none
      | none => none
    | none => none
  | _ => none
def mapOf (σ : St) : PV → Option (List AEnt)
  | .nilm => some []
  | .map b => match σ.get b with
    | some (.map es _) => some es
    | _ => none
  | _ => none
def okV (ok : Bool) (v : PV) (b : Bool) : PV := match ok with
  | true => .tup [v, .bool b]
  | false => v
def evLookup (kk : KeyK) (zero : PV) (ok : Bool) (x : Src) (i : Src) (ρ : Regs) (σ : St) : Option ORes := match ρ.src x with
  | some m => match ρ.src i with
    | some k => match mapOf σ m with
      | some es => match keyOk kk k with
        | true => match findKey kk k es 0 with
          | some (some (_, e)) => some (.v (okV ok e.val true) σ)
          | some none => some (.v (okV ok zero false) σ)
          | none => none
        | false => none
      | none => none
    | none => none
  | none => none
def evMapup (kk : KeyK) (m : Src) (k : Src) (v : Src) (ρ : Regs) (σ : St) : Option ORes := match ρ.src m with
  | some (.map b) => match ρ.src k with
    | some k => match ρ.src v with
      | some v => match σ.get b with
        | some (.map es clock) => match keyOk kk k with
          | true => match findKey kk k es 0 with
            | some (some (i, e)) => match PV.beq e.key k with
              | true => some (.v (.tup []) (σ.set b (.map (setEntry k v es i) clock)))
              | false => none
            | some none => some (.v (.tup []) (σ.set b (.map (es ++ [{ key := k, val := v, born := clock }]) (clock + 1))))
            | none => none
          | false => none
        | _ => none
      | none => none
    | none => none
  | _ => none
def evRange (isStr : Bool) (x : Src) (ρ : Regs) (σ : St) : Option ORes := match isStr, ρ.src x with
  | false, some .nilm => some (.v (.ptr σ.next 0) (σ.new (.mit none 0 [] 0)))
  | false, some (.map b) => match σ.get b with
    | some (.map _ clock) => some (.v (.ptr σ.next 0) (σ.new (.mit (some b) clock [] clock)))
    | _ => none
  | _, _ => none
def evNext (isStr : Bool) (it : Src) (ρ : Regs) (σ : St) : Option ORes := match isStr, ρ.src it with
  | false, some (.ptr r 0) => match σ.get r with
    | some (.mit none _ _ _) => some (.v (.tup [.bool false]) σ)
    | some (.mit (some b) since seen last) => match σ.get b with
      | some (.map es clock) =>
        match !seen.isEmpty && !es.isEmpty && es.all (fun e => Nat.ble last e.born) with
        | true => none
        | false => match candidates es since seen with
          | [some e] => some (.v (.tup [.bool true, e.key, e.val]) (σ.set r (.mit (some b) since (seen ++ [e.born]) clock)))
          | [none] => some (.v (.tup [.bool false]) σ)
          | _ => none
      | _ => none
    | _ => none
  | _, _ => none
def evEntry (it : Src) (ρ : Regs) (σ : St) : Option ORes := match ρ.src it with
  | some (.ptr r 0) => match σ.get r with
    | some (.mit (some b) _ seen stepped) => match seen.getLast? with
      | some stamp => match σ.get b with
        | some (.map es clock) => match Nat.beq clock stepped with
          | true => match es.find? (fun e => Nat.beq e.born stamp) with
            | some e => some (.v (.tup [e.key, e.val]) σ)
            | none => none
          | false => none
        | _ => none
      | none => none
    | _ => none
  | _ => none
def evExtract (x : Src) (i : Nat) (ρ : Regs) (σ : St) : Option ORes := match ρ.src x with
  | some (.tup vs) => match cellsAt vs i 1 with
    | some [v] => some (.v v σ)
    | _ => none
  | _ => none
def evCall (f : Src) (args : List Src) (ρ : Regs) (σ : St) : Option ORes := match ρ.src f with
  | some (.func g first cap) => match ρ.srcs args with
    | some vs => some (.call g (first ++ vs ++ cap) σ)
    | none => none
  | some (.yld b) => match ρ.srcs args with
    | some vs => some (.round b vs σ)
    | none => none
  | _ => none
def evLenS (isStr : Bool) (x : Src) (ρ : Regs) (σ : St) : Option ORes := match ρ.src x with
  | some v => match v with
    | .str s => match isStr with
      | true => some (.v (.int .i64 s.size) σ)
      | false => none
    | .nils => match isStr with
      | true => none
      | false => some (.v (.int .i64 0) σ)
    | .slice _ _ n _ _ => match isStr with
      | true => none
      | false => some (.v (.int .i64 n) σ)
    | .islice _ n _ _ => match isStr with
      | true => none
      | false => some (.v (.int .i64 n) σ)
    | _ => none
  | none => none
def evLenM (x : Src) (ρ : Regs) (σ : St) : Option ORes := match ρ.src x with
  | some .nilm => some (.v (.int .i64 0) σ)
  | some (.map b) => match σ.get b with
    | some (.map es _) => some (.v (.int .i64 es.length) σ)
    | _ => none
  | _ => none
def evCapS (x : Src) (ρ : Regs) (σ : St) : Option ORes := match ρ.src x with
  | some .nils => some (.v (.int .i64 0) σ)
  | some (.slice _ _ _ _ (some c)) => some (.v (.int .i64 c) σ)
  | _ => none
def evAppend (zero : List PV) (esz : Nat) (bytes : Nat) (s : Src) (x : Src) (ρ : Regs) (σ : St) : Option ORes := match ρ.src s with
  | some sv => match ρ.src x with
    | some xv => match lenOf xv with
      | some n => match Nat.beq zero.length esz with
        | true => match sliceCells σ n xv with
          | some new => match appendV σ esz bytes sv n new with
            | some (r, σ') => some (.v r σ')
            | none => none
          | none => none
        | false => none
      | none => none
    | none => none
  | none => none
def evAppendN (zero : List PV) (esz : Nat) (bytes : Nat) (s : Src) (x : Src) (ρ : Regs) (σ : St) : Option ORes := match ρ.src s with
  | some sv => match ρ.src x with
    | some nv => match asNat nv with
      | some n => match Nat.beq zero.length esz && roomy n bytes with
        | true => match appendV σ esz bytes sv n (repl zero n) with
          | some (r, σ') => some (.v r σ')
          | none => none
        | false => none
      | none => none
    | none => none
  | none => none
def evCopy (esz : Nat) (d : Src) (s : Src) (ρ : Regs) (σ : St) : Option ORes := match ρ.src d with
  | some dv => match ρ.src s with
    | some sv => match lenOf dv with
      | some dn => match lenOf sv with
        | some sn =>
          match sliceCells σ (min sn dn) sv with
          | some new => match dv with
            | .nils => some (.v (.int .i64 0) σ)
            | .slice b off _ esz' _ => match Nat.beq esz esz' && allOne new && Nat.beq new.length (min sn dn * esz) with
              | true => match writePtr σ (.ptr b off) new with
                | some σ' => some (.v (.int .i64 (Int.ofNat (min sn dn))) σ')
                | none => none
              | false => none
            | _ => none
          | none => none
        | none => none
      | none => none
    | none => none
  | none => none
def evClearS (zero : List PV) (esz : Nat) (s : Src) (ρ : Regs) (σ : St) : Option ORes := match ρ.src s with
  | some .nils => some (.v (.tup []) σ)
  | some (.slice b off len esz' _) => match Nat.beq esz esz' && allOne zero && Nat.beq zero.length esz && Nat.blt 0 esz with
    | true => match len with
      | 0 => some (.v (.tup []) σ)
      | n + 1 => match writePtr σ (.ptr b off) (repl zero (n + 1)) with
        | some σ' => some (.v (.tup []) σ')
        | none => none
    | false => none
  | _ => none
def evClearM (m : Src) (ρ : Regs) (σ : St) : Option ORes := match ρ.src m with
  | some .nilm => some (.v (.tup []) σ)
  | some (.map b) => match σ.get b with
    | some (.map _ clock) => some (.v (.tup []) (σ.set b (.map [] clock)))
    | _ => none
  | _ => none
def evDelete (kk : KeyK) (m : Src) (k : Src) (ρ : Regs) (σ : St) : Option ORes := match ρ.src m with
  | some (.map b) => match ρ.src k with
    | some k => match σ.get b with
      | some (.map es clock) => match keyOk kk k with
        | true => match findKey kk k es 0 with
          | some (some (i, _)) => some (.v (.tup []) (σ.set b (.map (dropEntry es i) clock)))
          | some none => some (.v (.tup []) (σ.set b (.map es clock)))
          | none => none
        | false => none
      | _ => none
    | none => none
  | _ => none
def evMmin (l : List Src) (ρ : Regs) (σ : St) : Option ORes := match ρ.srcs l with
  | some (x :: xs) => match best ltV x xs with
    | some v => some (.v v σ)
    | none => none
  | _ => none
def evMmax (l : List Src) (ρ : Regs) (σ : St) : Option ORes := match ρ.srcs l with
  | some (x :: xs) => match best gtV x xs with
    | some v => some (.v v σ)
    | none => none
  | _ => none
def evPrim (g : List PV → Option PV) (l : List Src) (ρ : Regs) (σ : St) : Option ORes := match ρ.srcs l with
  | some vs => match g vs with
    | some v => some (.v v σ)
    | none => none
  | none => none
/-! ### Floats: words that nobody looks into -/
def prFlt (k : FloatKind) : List PV → Option PV
  | [.int _ n] => some (.raw (.f k (k.nearest n)))
  | _ => none
def prCpx : List PV → Option PV
  | [.raw (.f k a), .raw (.f k' b)] => if k = k' then some (.raw (.c k a b)) else none
  | _ => none
def prCeq (neg : Bool) : List PV → Option PV
  | [.raw (.c k a b), .raw (.c k' c d)] => if k = k' then some (.bool (xor neg ((k.format.order a c == some .eq) && (k.format.order b d == some .eq)))) else none
  | _ => none
def evStuck  (_ : Regs) (_ : St) : Option ORes := none
def opEval (op : AOp) : Regs → St → Option ORes := match op with
  | .mov x0 => evMov x0
  | .pick x0 x1 x2 => evPick x0 x1 x2
  | .box x0 => evBox x0
  | .build x0 x1 => evBuild x0 x1
  | .mkrow x0 x1 x2 x3 => evMkrow x0 x1 x2 x3
  | .load x0 x1 => evLoad x0 x1
  | .store x0 x1 x2 => evStore x0 x1 x2
  | .nilchk x0 => evNilchk x0
  | .bin x0 x1 x2 => evBin x0 x1 x2
  | .eql x0 x1 x2 x3 => evEql x0 x1 x2 x3
  | .un x0 x1 => evUn x0 x1
  | .toInt x0 x1 => evToInt x0 x1
  | .toStr x0 => evToStr x0
  | .toBytes x0 => evToBytes x0
  | .same x0 => evSame x0
  | .mkiface x0 x1 => evMkiface x0 x1
  | .mkfunc x0 x1 x2 => evMkfunc x0 x1 x2
  | .mkmap => evMkmap
  | .mkslice x0 x1 x2 x3 x4 => evMkslice x0 x1 x2 x3 x4
  | .slic x0 x1 x2 x3 x4 => evSlic x0 x1 x2 x3 x4
  | .faddr x0 x1 => evFaddr x0 x1
  | .fld x0 x1 x2 => evFld x0 x1 x2
  | .iaddr x0 x1 x2 x3 => evIaddr x0 x1 x2 x3
  | .idxS x0 x1 => evIdxS x0 x1
  | .idxA x0 x1 x2 x3 x4 => evIdxA x0 x1 x2 x3 x4
  | .lookup x0 x1 x2 x3 x4 => evLookup x0 x1 x2 x3 x4
  | .mapup x0 x1 x2 x3 => evMapup x0 x1 x2 x3
  | .range x0 x1 => evRange x0 x1
  | .next x0 x1 => evNext x0 x1
  | .entry x0 => evEntry x0
  | .extract x0 x1 => evExtract x0 x1
  | .call x0 x1 => evCall x0 x1
  | .lenS x0 x1 => evLenS x0 x1
  | .lenM x0 => evLenM x0
  | .capS x0 => evCapS x0
  | .append x0 x1 x2 x3 x4 => evAppend x0 x1 x2 x3 x4
  | .appendN x0 x1 x2 x3 x4 => evAppendN x0 x1 x2 x3 x4
  | .copy x0 x1 x2 => evCopy x0 x1 x2
  | .clearS x0 x1 x2 => evClearS x0 x1 x2
  | .clearM x0 => evClearM x0
  | .delete x0 x1 x2 => evDelete x0 x1 x2
  | .mmin x0 => evMmin x0
  | .mmax x0 => evMmax x0
  | .prim x0 x1 => evPrim x0 x1
  | .stuck => evStuck

/-! ### Code -/
abbrev R := Option (AExit × Regs × St)
structure Env where
  fn : Nat → Option AFunc
  hook : Nat → List PV → St → Option (PV × St)

/-- Where a label stands; none: that cannot be told. -/
def findLabel : ACode → Nat → Option (Option ACode)
  | .seq a b, l => match findLabel a l with
    | some (some rest) => some (some (.seq rest b))
    | some none => findLabel b l
    | none => none
  | .label l', l => match Nat.beq l' l with
    | true => some (some .skip)
    | false => some none
  | .stuck, _ => none
  | _, _ => some none
def resultOf (ρ : Regs) (σ : St) : ARes → Option PV
  | .tmp t => ρ.get t
  | .cell t n => match ρ.get t with
    | some p => match n with
      | none => match readPtr σ p 1 with
        | some [v] => some v
        | _ => none
      | some n => match readPtr σ p n with
        | some cs => some (.agg cs)
        | none => none
    | none => none
def resultsOf (ρ : Regs) (σ : St) : List ARes → Option (List PV)
  | [] => some []
  | r :: rs => match resultOf ρ σ r with
    | some v => match resultsOf ρ σ rs with
      | some vs => some (v :: vs)
      | none => none
    | none => none
def oneOrTup : List PV → PV
  | [v] => v
  | vs => .tup vs
/-- A call of a function of the program. -/
def callF (E : Env) (ih : ACode → Regs → St → R) (f : Nat) (args : List PV) (σ : St) : Option (PV × St) :=
  match E.hook f args σ with
  | some r => some r
  | none => match E.fn f with
    | some fn => match ih fn.body (Regs.entry fn.ntmps args) σ with
      | some (e, ρ', σ') => match e with
        | .normal | .ret => match resultsOf ρ' σ' fn.results with
          | some vs => some (oneOrTup vs, σ')
          | none => none
        | _ => none
      | none => none
    | none => none
def putAll (ρ : Regs) : List Nat → List PV → Option Regs
  | [], [] => some ρ
  | p :: ps, v :: vs => match ρ.putM p v with
    | some ρ' => putAll ρ' ps vs
    | none => none
  | _, _ => none
/-- A round of a range over a function. -/
def roundF (ih : ACode → Regs → St → R) (b : Nat) (args : List PV) (σ : St) : Option (PV × St) :=
  match σ.get b with
  | some (.loop l) => match putAll l.regs l.params args with
    | some ρ => match ih l.assign ρ σ with
      | some (.normal, ρ1, σ1) => match σ1.get b with
        | some (.loop l1) => match l1.state with
          | 0 => match ih l.body ρ1 (σ1.set b (.loop { l1 with state := 1 })) with
            | some (e, _, σ2) => match σ2.get b with
              | some (.loop l2) => match e with
                | .normal => some (.bool true, σ2.set b (.loop { l2 with state := 0, pending := none }))
                | e => some (.bool false, σ2.set b (.loop { l2 with state := 2, pending := some e }))
              | _ => none
            | none => none
          | _ + 1 => none
        | _ => none
      | _ => none
    | none => none
  | _ => none
def wantedV (ρ : Regs) : Option (Nat × Bool) → Option Bool
  | none => some true
  | some (t, w) => match ρ.get t with
    | some (.bool b) => some (b == w)
    | some _ => some false
    | none => none
def operEval (E : Env) (ih : ACode → Regs → St → R) (ρ : Regs) (σ : St) (o : AOper) : Option (Regs × St) :=
  match wantedV ρ o.guard with
  | some true => match opEval o.op ρ σ with
    | some (.v v σ') => match ρ.put o.dst v with
      | some ρ' => some (ρ', σ')
      | none => none
    | some (.call f args σ') => match callF E ih f args σ' with
      | some (v, σ'') => match ρ.put o.dst v with
        | some ρ' => some (ρ', σ'')
        | none => none
      | none => none
    | some (.round b args σ') => match roundF ih b args σ' with
      | some (v, σ'') => match ρ.put o.dst v with
        | some ρ' => some (ρ', σ'')
        | none => none
      | none => none
    | none => none
  | some false => match ρ.put o.dst (.tup []) with
    | some ρ' => some (ρ', σ)
    | none => none
  | none => none
def opsNil (outs : List Nat) (ρ : Regs) (σ : St) : R := match ρ.keep outs with
  | some ρ' => some (.normal, ρ', σ)
  | none => none
def opsCons (E : Env) (ih : ACode → Regs → St → R) (o : AOper) (k : Regs → St → R) (ρ : Regs) (σ : St) : R :=
  match operEval E ih ρ σ o with
  | some (ρ', σ') => k ρ' σ'
  | none => none
noncomputable def opsEval (E : Env) (ih : ACode → Regs → St → R) (outs : List Nat) (l : List AOper) : Regs → St → R :=
  List.rec (motive := fun _ => Regs → St → R) (opsNil outs) (fun o _ k => opsCons E ih o k) l
noncomputable def regionEval (E : Env) (ih : ACode → Regs → St → R) (ops : List AOper) (outs : List Nat) (ρ : Regs) (σ : St) : R := opsEval E ih outs ops ρ σ
/-! ### Drawn regions: one order is gone; a read that has no place among the writers reads the same at each place -/
/-- The states ahead of each operation, and the last one. -/
def opsTrace (E : Env) (ih : ACode → Regs → St → R) : List AOper → Regs → St → Option (List (Regs × St) × Regs × St)
  | [], ρ, σ => some ([], ρ, σ)
  | o :: os, ρ, σ => match operEval E ih ρ σ o with
    | some (ρ', σ') => match opsTrace E ih os ρ' σ' with
      | some (l, ρe, σe) => some ((ρ, σ) :: l, ρe, σe)
      | none => none
    | none => none
/-- Does an operation read the same in all these states? -/
def sameRead (ρ : Regs) (o : AOper) (v : PV) : List (Regs × St) → Bool
  | [] => true
  | (_, σ) :: l => match opEval o.op ρ σ with
    | some (.v v' _) => PV.beq v v' && sameRead ρ o v l
    | _ => false
def floatOk (ops : List AOper) (tr : List (Regs × St)) (last : Regs × St) (f : Nat × Nat × Nat) : Bool :=
  match f with
  | (x, lo, hi) =>
    match nth ops x, nth (tr ++ [last]) x with
    | some o, some (ρ, σ) => match wantedV ρ o.guard with
      | some false => true
      | some true => match opEval o.op ρ σ with
        | some (.v v _) => sameRead ρ o v (((tr ++ [last]).take (hi + 1)).drop lo)
        | _ => false
      | none => false
    | _, _ => false
noncomputable def drawnEval (E : Env) (ih : ACode → Regs → St → R) (ops : List AOper) (floats : List (Nat × Nat × Nat)) (outs : List Nat) (ρ : Regs) (σ : St) : R :=
  match floats with
  | [] => opsEval E ih outs ops ρ σ
  | _ :: _ => match opsTrace E ih ops ρ σ with
    | some (l, ρ', σ') => match floats.all (floatOk ops l (ρ', σ')) with
      | true => opsNil outs ρ' σ'
      | false => none
    | none => none

abbrev K := Regs → St → R
def cSkip : K := fun ρ σ => some (.normal, ρ, σ)
def cSeq (a b : K) : K := fun ρ σ => match a ρ σ with
  | some (e, ρ', σ') => match e with
    | .normal => b ρ' σ'
    | .exit id => some (.exit id, ρ', σ')
    | .goto l => some (.goto l, ρ', σ')
    | .ret => some (.ret, ρ', σ')
  | none => none
def cCond (c : Src) (x y : K) : K := fun ρ σ => match ρ.src c with
  | some (.bool b) => match b with
    | true => x ρ σ
    | false => y ρ σ
  | _ => none
def cBlock (id : Nat) (c : K) : K := fun ρ σ => match c ρ σ with
  | some (e, ρ', σ') => match e with
    | .normal => some (.normal, ρ', σ')
    | .exit id' => match Nat.beq id' id with
      | true => some (.normal, ρ', σ')
      | false => some (.exit id', ρ', σ')
    | .goto l => some (.goto l, ρ', σ')
    | .ret => some (.ret, ρ', σ')
  | none => none
def cLoop (again c : K) : K := fun ρ σ => match c ρ σ with
  | some (e, ρ', σ') => match e with
    | .normal => again ρ' σ'
    | .exit id => some (.exit id, ρ', σ')
    | .goto l => some (.goto l, ρ', σ')
    | .ret => some (.ret, ρ', σ')
  | none => none
def cRange (E : Env) (ih : ACode → K) (f : Src) (ps : List Nat) (as body : ACode) : K := fun ρ σ => match ρ.src f with
  | some (.func g first cap) =>
    match callF E ih g (first ++ [.yld σ.next] ++ cap) (σ.new (.loop { state := 0, pending := none, regs := ρ, params := ps, assign := as, body := body })) with
    | some (_, σ1) => match σ1.get σ.next with
      | some (.loop l) => match l.state with
        | 1 => none
        | _ => match l.pending with
          | none => some (.normal, ρ, σ1.set σ.next (.loop { l with state := 3 }))
          | some e => some (e, ρ, σ1.set σ.next (.loop { l with state := 3 }))
      | _ => none
    | none => none
  | _ => none
def cScope (ih : ACode → K) (whole : ACode) (c : K) : K := fun ρ σ => match c ρ σ with
  | some (e, ρ', σ') => match e with
    | .normal => some (.normal, ρ', σ')
    | .exit id => some (.exit id, ρ', σ')
    | .goto l => match findLabel whole l with
      | some (some rest) => ih (.scope whole rest) ρ' σ'
      | _ => none
    | .ret => some (.ret, ρ', σ')
  | none => none
def cEnd (e : AExit) : K := fun ρ σ => some (e, ρ, σ)
def cStuck : K := fun _ _ => none
/-- A piece of code's meaning, where rounds, calls and jumps back go by 'ih'. -/
noncomputable def evalCode (E : Env) (ih : ACode → K) (c : ACode) : K :=
  ACode.rec (motive := fun _ => K) cSkip (regionEval E ih) (drawnEval E ih) (fun _ _ a b => cSeq a b) (fun c _ _ x y => cCond c x y)
    (fun id _ c => cBlock id c) (fun c k => cLoop (ih (.loop c)) k) (fun f ps as body _ _ => cRange E ih f ps as body) (fun id => cEnd (.exit id))
    (fun whole _ _ k => cScope ih whole k) (fun _ => cSkip) (fun l => cEnd (.goto l)) (cEnd .ret) cStuck c
/-- The evaluator: so many rounds and calls deep. -/
noncomputable def hev (E : Env) (k : Nat) : ACode → K := Nat.rec (motive := fun _ => ACode → K) (fun _ _ _ => none) (fun _ ih => evalCode E ih) k
noncomputable def hcall (E : Env) (k : Nat) (f : Nat) (args : List PV) (σ : St) : Option (PV × St) := callF E (hev E k) f args σ
end Am
/- What the abstract machine's values and store mean in the model's memory. -/
namespace Am
open Go

/-- Where the abstract blocks lie: a block of the model's, and how many cells it has; all numbers are below N. -/
structure Mu where
  at_ : Nat → Option (Nat × Nat)
  N : Nat
/-- Cells that nobody writes: block, place. -/
abbrev Hc := Nat → Nat → Option Value

mutual
def VRel (H : Hc) (M : Mu) : PV → Value → Prop
  | .bool b, v => v = .bool b
  | .int k n, v => v = .int k n
  | .str s, v => v = .string s
  | .nilp, v => v = .pointer none
  | .ptr b off, v => b < M.N ∧ ∃ a, v = .pointer (some a) ∧ ∀ c n, M.at_ b = some (c, n) → a = ⟨c, off, none⟩
  | .iptr cs off, v => ∃ c o vs, v = .pointer (some ⟨c, o + off, none⟩) ∧ (∀ j x, vs[j]? = some x → H c (o + j) = some x) ∧ VRels H M cs vs
  | .nils, v => v = .slice none 0 0
  | .slice b off len esz cap, v => b < M.N ∧ ∃ a cp, v = .slice (some a) len cp ∧ len ≤ cp ∧ 0 < esz ∧ (∀ k, cap = some k → cp = k) ∧
      ∀ c n, M.at_ b = some (c, n) → (cp = 0 ∨ a = ⟨c, off, none⟩) ∧ off + cp * esz ≤ n ∧ (cap = none → off + cp * esz = n)
  | .islice cs len esz cap, v => ∃ a cp vs, v = .slice (some a) len cp ∧ len ≤ cp ∧ 0 < esz ∧ (∀ k, cap = some k → cp = k) ∧ len * esz ≤ cs.length ∧
      (cp = 0 ∨ (a.spot = none ∧ ∀ j x, vs[j]? = some x → H a.block (a.off + j) = some x)) ∧ VRels H M cs vs
  | .nilm, v => v = .map none
  | .map b, v => b < M.N ∧ ∃ r, v = .map (some r) ∧ ∀ c n, M.at_ b = some (c, n) → r = c
  | .func f fs cs, v => ∃ fs' cs' : List Value, v = .func (.func f) fs'.toArray cs'.toArray ∧ VRels H M fs fs' ∧ VRels H M cs cs'
  | .yld b, v => b < M.N ∧ ∃ r, v = .func (.yield r) #[] #[] ∧ ∀ c n, M.at_ b = some (c, n) → r = c
  | .nilf, v => v = .nilFunc
  | .iface t x, v => ∃ x', v = .iface t x' ∧ VRel H M x x'
  | .nili, v => v = .nilIface
  | .agg cs, v => ∃ vs : List Value, v = .agg vs.toArray ∧ VRels H M cs vs
  | .tup cs, v => ∃ vs : List Value, v = .tuple vs.toArray ∧ VRels H M cs vs
  | .raw x, v => v = x.val
def VRels (H : Hc) (M : Mu) : List PV → List Value → Prop
  | [], vs => vs = []
  | x :: xs, vs => ∃ y ys, vs = y :: ys ∧ VRel H M x y ∧ VRels H M xs ys
end

/-- What is known later says no more of what was there. -/
structure Mu.Le (M M' : Mu) : Prop where
  N : M.N ≤ M'.N
  at_ : ∀ b, b < M.N → ∀ x, M'.at_ b = some x → M.at_ b = some x
theorem Mu.Le.refl (M : Mu) : M.Le M := ⟨Nat.le_refl _, fun _ _ _ h => h⟩
theorem Mu.Le.trans {A B C : Mu} (h : A.Le B) (k : B.Le C) : A.Le C :=
  ⟨Nat.le_trans h.N k.N, fun b hb x hx => h.at_ b hb x (k.at_ b (Nat.lt_of_lt_of_le hb h.N) x hx)⟩

variable {H : Hc} {M M' : Mu}

theorem VRels.length : ∀ {xs : List PV} {vs : List Value}, VRels H M xs vs → vs.length = xs.length
  | [], vs, h => by simp only [VRels] at h; subst h; rfl
  | x :: xs, vs, h => by
    simp only [VRels] at h
    obtain ⟨y, ys, rfl, _, h⟩ := h
    simp [VRels.length h]
theorem VRels.nil_iff {vs : List Value} : VRels H M [] vs ↔ vs = [] := by simp [VRels]
theorem VRels.cons_iff {x : PV} {xs : List PV} {y : Value} {ys : List Value} : VRels H M (x :: xs) (y :: ys) ↔ VRel H M x y ∧ VRels H M xs ys := by
  simp only [VRels]
  constructor
  · rintro ⟨y', ys', he, h1, h2⟩; cases he; exact ⟨h1, h2⟩
  · rintro ⟨h1, h2⟩; exact ⟨y, ys, rfl, h1, h2⟩

mutual
theorem VRel.mono (hle : M.Le M') : ∀ {x : PV} {v : Value}, VRel H M x v → VRel H M' x v
  | .bool _, _, h | .int _ _, _, h | .str _, _, h | .nilp, _, h | .nils, _, h | .nilm, _, h | .nilf, _, h | .nili, _, h | .raw _, _, h => by simpa only [VRel] using h
  | .ptr b off, v, h => by
    simp only [VRel] at h ⊢
    obtain ⟨hb, a, rfl, h⟩ := h
    exact ⟨Nat.lt_of_lt_of_le hb hle.N, a, rfl, fun c n hc => h c n (hle.at_ b hb _ hc)⟩
  | .iptr cs off, v, h => by
    simp only [VRel] at h ⊢
    obtain ⟨c, o, vs, rfl, h1, h2⟩ := h
    exact ⟨c, o, vs, rfl, h1, VRels.mono hle h2⟩
  | .slice b off len esz cap, v, h => by
    simp only [VRel] at h ⊢
    obtain ⟨hb, a, cp, rfl, h1, h2, h3, h⟩ := h
    exact ⟨Nat.lt_of_lt_of_le hb hle.N, a, cp, rfl, h1, h2, h3, fun c n hc => h c n (hle.at_ b hb _ hc)⟩
  | .islice cs len esz cap, v, h => by
    simp only [VRel] at h ⊢
    obtain ⟨a, cp, vs, rfl, h1, h2, h3, h4, h5, h6⟩ := h
    exact ⟨a, cp, vs, rfl, h1, h2, h3, h4, h5, VRels.mono hle h6⟩
  | .map b, v, h => by
    simp only [VRel] at h ⊢
    obtain ⟨hb, r, rfl, h⟩ := h
    exact ⟨Nat.lt_of_lt_of_le hb hle.N, r, rfl, fun c n hc => h c n (hle.at_ b hb _ hc)⟩
  | .func f fs cs, v, h => by
    simp only [VRel] at h ⊢
    obtain ⟨fs', cs', rfl, h1, h2⟩ := h
    exact ⟨fs', cs', rfl, VRels.mono hle h1, VRels.mono hle h2⟩
  | .yld b, v, h => by
    simp only [VRel] at h ⊢
    obtain ⟨hb, r, rfl, h⟩ := h
    exact ⟨Nat.lt_of_lt_of_le hb hle.N, r, rfl, fun c n hc => h c n (hle.at_ b hb _ hc)⟩
  | .iface t x, v, h => by
    simp only [VRel] at h ⊢
    obtain ⟨x', rfl, h⟩ := h
    exact ⟨x', rfl, VRel.mono hle h⟩
  | .agg cs, v, h => by
    simp only [VRel] at h ⊢
    obtain ⟨vs, rfl, h⟩ := h
    exact ⟨vs, rfl, VRels.mono hle h⟩
  | .tup cs, v, h => by
    simp only [VRel] at h ⊢
    obtain ⟨vs, rfl, h⟩ := h
    exact ⟨vs, rfl, VRels.mono hle h⟩
theorem VRels.mono (hle : M.Le M') : ∀ {xs : List PV} {vs : List Value}, VRels H M xs vs → VRels H M' xs vs
  | [], _, h => by simpa only [VRels] using h
  | x :: xs, vs, h => by
    simp only [VRels] at h ⊢
    obtain ⟨y, ys, rfl, h1, h2⟩ := h
    exact ⟨y, ys, rfl, VRel.mono hle h1, VRels.mono hle h2⟩
end

theorem VRels.append : ∀ {xs ys : List PV} {us vs : List Value}, VRels H M xs us → VRels H M ys vs → VRels H M (xs ++ ys) (us ++ vs)
  | [], ys, us, vs, h1, h2 => by rw [VRels.nil_iff] at h1; subst h1; exact h2
  | x :: xs, ys, us, vs, h1, h2 => by
    simp only [VRels] at h1
    obtain ⟨y, us, rfl, ha, hb⟩ := h1
    exact (VRels.cons_iff).2 ⟨ha, VRels.append hb h2⟩
theorem VRels.get : ∀ {xs : List PV} {vs : List Value} {j : Nat} {x : PV}, VRels H M xs vs → xs[j]? = some x → ∃ v, vs[j]? = some v ∧ VRel H M x v
  | [], _, _, _, _, h => by simp at h
  | x :: xs, vs, j, y, h, hj => by
    simp only [VRels] at h
    obtain ⟨v, vs, rfl, ha, hb⟩ := h
    cases j with
    | zero => simp at hj; subst hj; exact ⟨v, rfl, ha⟩
    | succ j => simp at hj; simpa using VRels.get hb hj
theorem VRels.split : ∀ {xs ys : List PV} {vs : List Value}, VRels H M (xs ++ ys) vs → ∃ us ws, vs = us ++ ws ∧ VRels H M xs us ∧ VRels H M ys ws
  | [], ys, vs, h => ⟨[], vs, rfl, VRels.nil_iff.2 rfl, h⟩
  | x :: xs, ys, vs, h => by
    simp only [List.cons_append, VRels] at h
    obtain ⟨v, vs, rfl, ha, hb⟩ := h
    obtain ⟨us, ws, rfl, h1, h2⟩ := VRels.split hb
    exact ⟨v :: us, ws, rfl, VRels.cons_iff.2 ⟨ha, h1⟩, h2⟩

/-! ### cellsAt and writeAt, as rows -/
theorem cellsAt_eq : ∀ {cs : List PV} {o n : Nat} {r : List PV}, cellsAt cs o n = some r → ∃ a b, cs = a ++ r ++ b ∧ a.length = o ∧ r.length = n
  | cs, 0, 0, r, h => by unfold cellsAt at h; cases h; exact ⟨[], cs, by simp, rfl, rfl⟩
  | [], 0, n + 1, r, h => by simp [cellsAt] at h
  | [], o + 1, n, r, h => by simp [cellsAt] at h
  | c :: cs, 0, n + 1, r, h => by
    unfold cellsAt at h
    cases hr : cellsAt cs 0 n with
    | none => rw [hr] at h; simp at h
    | some r' =>
      rw [hr] at h; cases h
      obtain ⟨a, b, rfl, ha, hn⟩ := cellsAt_eq hr
      have : a = [] := List.eq_nil_of_length_eq_zero ha
      subst this
      exact ⟨[], b, by simp, rfl, by simp [hn]⟩
  | c :: cs, o + 1, n, r, h => by
    unfold cellsAt at h
    obtain ⟨a, b, rfl, ha, hn⟩ := cellsAt_eq h
    exact ⟨c :: a, b, by simp, by simp [ha], hn⟩
theorem cellsAt_of : ∀ {a r b : List PV}, cellsAt (a ++ r ++ b) a.length r.length = some r
  | [], [], b => by simp [cellsAt]
  | [], x :: r, b => by
    have := @cellsAt_of [] r b
    simp at this
    simp [cellsAt, this]
  | x :: a, r, b => by
    have := @cellsAt_of a r b
    simp at this
    cases r with
    | nil => simp [cellsAt]; simpa using this
    | cons y r => simp [cellsAt]; simpa using this
theorem writeAt_eq : ∀ {cs : List PV} {o : Nat} {vs r : List PV}, writeAt cs o vs = some r → ∃ a m b, cs = a ++ m ++ b ∧ r = a ++ vs ++ b ∧ a.length = o ∧ m.length = vs.length
  | cs, 0, [], r, h => by unfold writeAt at h; cases h; exact ⟨[], [], cs, by simp, by simp, rfl, rfl⟩
  | [], 0, v :: vs, r, h => by simp [writeAt] at h
  | [], o + 1, vs, r, h => by simp [writeAt] at h
  | c :: cs, 0, v :: vs, r, h => by
    unfold writeAt at h
    cases hr : writeAt cs 0 vs with
    | none => rw [hr] at h; simp at h
    | some r' =>
      rw [hr] at h; cases h
      obtain ⟨a, m, b, rfl, rfl, ha, hn⟩ := writeAt_eq hr
      have : a = [] := List.eq_nil_of_length_eq_zero ha
      subst this
      exact ⟨[], c :: m, b, by simp, by simp, rfl, by simp [hn]⟩
  | c :: cs, o + 1, vs, r, h => by
    unfold writeAt at h
    cases hr : writeAt cs o vs with
    | none => rw [hr] at h; simp at h
    | some r' =>
      rw [hr] at h; cases h
      obtain ⟨a, m, b, rfl, rfl, ha, hn⟩ := writeAt_eq hr
      exact ⟨c :: a, m, b, by simp, by simp, by simp [ha], hn⟩
theorem writeAt_length {cs : List PV} {o : Nat} {vs r : List PV} (h : writeAt cs o vs = some r) : r.length = cs.length := by
  obtain ⟨a, m, b, rfl, rfl, ha, hn⟩ := writeAt_eq h; simp [hn]
theorem VRels.cellsAt {cs : List PV} {vs : List Value} {o n : Nat} {r : List PV} (h : VRels H M cs vs) (hc : Am.cellsAt cs o n = some r) :
    ∃ us, us.length = n ∧ VRels H M r us ∧ ∀ (j : Nat), j < n → vs[o + j]? = us[j]? := by
  obtain ⟨a, b, rfl, ha, hn⟩ := cellsAt_eq hc
  obtain ⟨x, vb, rfl, hx, hb⟩ := VRels.split h
  obtain ⟨va, vr, rfl, hva, hvr⟩ := VRels.split hx
  have l1 := VRels.length hva
  have l2 := VRels.length hvr
  refine ⟨vr, by omega, hvr, fun j hj => ?_⟩
  rw [List.append_assoc, List.getElem?_append_right (by omega), List.getElem?_append_left (by omega)]
  congr 1; omega
end Am
/- The abstract store and the model's memory; reading and writing it. -/
namespace Am
open Go

def RRel (H : Hc) (M : Mu) (ρ : Regs) (tmps : Array Value) : Prop :=
  ρ.n ≤ tmps.size ∧ ∀ t v, ρ.get t = some v → ∃ cv, tmps[t]? = some cv ∧ VRel H M v cv
def stateNo : LoopState → Nat
  | .ready => 0
  | .busy => 1
  | .done => 2
  | .exhausted => 3
def exitCode : AExit → Code
  | .normal => .skip
  | .exit id => .exit id
  | .goto l => .goto l
  | .ret => .ret
def exitOf : AExit → Exit
  | .normal => .normal
  | .exit id => .exit id
  | .goto l => .goto l
  | .ret => .ret
structure LRel (CR : Code → ACode → Prop) (H : Hc) (M : Mu) (l : ALoop) (l' : Loop) : Prop where
  state : stateNo l'.state = l.state
  pending : l'.pending = l.pending.map exitCode
  regs : RRel H M l.regs l'.tmps
  params : l'.params.toList = l.params
  assign : CR l'.assign l.assign
  body : CR l'.body l.body
def ERel (H : Hc) (M : Mu) (e : AEnt) (e' : MapEntry) : Prop := VRel H M e.key e'.key ∧ VRel H M e.val e'.val ∧ e.born = e'.born
def ERels (H : Hc) (M : Mu) : List AEnt → List MapEntry → Prop
  | [], es => es = []
  | x :: xs, es => ∃ y ys, es = y :: ys ∧ ERel H M x y ∧ ERels H M xs ys
def ORel (CR : Code → ACode → Prop) (H : Hc) (M : Mu) (n : Nat) : AObj → Option Obj → Prop
  | .cells cs op, o => ∃ (c : List Value) (e : TypeId) (fr : Nat × Nat), o = some (.cells c.toArray e fr) ∧ c.length = n ∧ (op = false → cs.length = n) ∧
      (fr.2 ≤ fr.1 ∨ n ≤ fr.1) ∧ ∃ c1 c2, c = c1 ++ c2 ∧ VRels H M cs c1
  | .map es clock, o => ∃ es' : List MapEntry, o = some (.map es'.toArray clock) ∧ ERels H M es es'
  | .mit m since seen stepped, o => ∃ m', o = some (.mapIter m' since seen.toArray stepped) ∧
      match m, m' with
      | none, none => True
      | some b, some r => b < M.N ∧ ∀ c n, M.at_ b = some (c, n) → r = c
      | _, _ => False
  | .loop l, o => ∃ l', o = some (.loop l') ∧ LRel CR H M l l'
structure WRel (CR : Code → ACode → Prop) (H : Hc) (M : Mu) (σ : St) (w : World) : Prop where
  next : M.N = σ.next
  obj : ∀ b o, σ.get b = some o → ∃ c n, M.at_ b = some (c, n) ∧ ORel CR H M n o w.heap[c]?
  lt : ∀ b x, M.at_ b = some x → b < M.N
  bnd : ∀ b c n, M.at_ b = some (c, n) → c < w.heap.size
  inj : ∀ b b' c n n', M.at_ b = some (c, n) → M.at_ b' = some (c, n') → b = b'
  imm : ∀ c off v, H c off = some v → w.cell? ⟨c, off, none⟩ = some v
  apart : ∀ b c n off, M.at_ b = some (c, n) → H c off = none
structure Keeps (M M' : Mu) (w w' : World) : Prop where
  le : M.Le M'
  size : w.heap.size ≤ w'.heap.size
  frame : ∀ c, c < w.heap.size → (∀ b n, M.at_ b ≠ some (c, n)) → w'.heap[c]? = w.heap[c]?
  fresh : ∀ b c n, M'.at_ b = some (c, n) → w.heap.size ≤ c ∨ ∃ b' n', M.at_ b' = some (c, n')
  out : w'.output = w.output
  os : w'.os = w.os
  loops : ∀ (c : Nat) (lp : Loop), w.heap[c]? = some (Obj.loop lp) → ∃ lp', w'.heap[c]? = some (Obj.loop lp')
theorem Keeps.refl (M : Mu) (w : World) : Keeps M M w w := ⟨Mu.Le.refl M, Nat.le_refl _, fun _ _ _ => rfl, fun b _ n h => .inr ⟨b, n, h⟩, rfl, rfl, fun _ lp h => ⟨lp, h⟩⟩
theorem Keeps.trans {A B C : Mu} {u v w : World} (h : Keeps A B u v) (k : Keeps B C v w) : Keeps A C u w := {
  le := h.le.trans k.le
  size := Nat.le_trans h.size k.size
  frame c hc ho := by
    rw [← h.frame c hc ho]
    refine k.frame c (Nat.lt_of_lt_of_le hc h.size) fun b n hb => ?_
    rcases h.fresh b c n hb with h1 | ⟨b', n', h1⟩
    · omega
    · exact ho b' n' h1
  fresh b c n hb := by
    rcases k.fresh b c n hb with h1 | ⟨b', n', h1⟩
    · exact .inl (Nat.le_trans h.size h1)
    · exact h.fresh b' c n' h1
  out := k.out.trans h.out
  os := k.os.trans h.os
  loops c lp hl := let ⟨lp', h1⟩ := h.loops c lp hl; k.loops c lp' h1 }

variable {CR : Code → ACode → Prop} {H : Hc} {M M' : Mu} {σ : St} {w : World} {P : Program}

theorem RRel.mono {ρ : Regs} {tmps : Array Value} (hle : M.Le M') (h : RRel H M ρ tmps) : RRel H M' ρ tmps :=
  ⟨h.1, fun t v ht => let ⟨cv, h1, h2⟩ := h.2 t v ht; ⟨cv, h1, h2.mono hle⟩⟩
theorem ERel.mono {e : AEnt} {e' : MapEntry} (hle : M.Le M') (h : ERel H M e e') : ERel H M' e e' := ⟨h.1.mono hle, h.2.1.mono hle, h.2.2⟩
theorem ERels.mono (hle : M.Le M') : ∀ {es : List AEnt} {es' : List MapEntry}, ERels H M es es' → ERels H M' es es'
  | [], _, h => h
  | e :: es, es', h => by
    obtain ⟨y, ys, rfl, h1, h2⟩ := h
    exact ⟨y, ys, rfl, h1.mono hle, ERels.mono hle h2⟩
theorem LRel.mono {l : ALoop} {l' : Loop} (hle : M.Le M') (h : LRel CR H M l l') : LRel CR H M' l l' := { h with regs := h.regs.mono hle }
theorem ORel.mono {n : Nat} {o : AObj} {o' : Option Obj} (hle : M.Le M') (h : ORel CR H M n o o') : ORel CR H M' n o o' := by
  cases o with
  | cells cs op =>
    obtain ⟨c, e, fr, h1, h2, h3, h4, c1, c2, h5, h6⟩ := h
    exact ⟨c, e, fr, h1, h2, h3, h4, c1, c2, h5, h6.mono hle⟩
  | map es clock => obtain ⟨es', h1, h2⟩ := h; exact ⟨es', h1, h2.mono hle⟩
  | mit m since seen stepped =>
    obtain ⟨m', h1, h2⟩ := h
    refine ⟨m', h1, ?_⟩
    cases m with
    | none => cases m' <;> exact h2
    | some b =>
      cases m' with
      | none => exact h2
      | some r => exact ⟨Nat.lt_of_lt_of_le h2.1 hle.N, fun c n hc => h2.2 c n (hle.at_ b h2.1 _ hc)⟩
  | loop l => obtain ⟨l', h1, h2⟩ := h; exact ⟨l', h1, h2.mono hle⟩

/-! ### The store's own laws -/
@[simp] theorem St.get_set (σ : St) (b : Nat) (o : AObj) (b' : Nat) : (σ.set b o).get b' = if b' = b then some o else σ.get b' := by
  cases σ; simp [St.set, St.get, PT.get_put]
@[simp] theorem St.next_set (σ : St) (b : Nat) (o : AObj) : (σ.set b o).next = σ.next := by cases σ; rfl
@[simp] theorem St.get_del (σ : St) (b : Nat) (b' : Nat) : (σ.del b).get b' = if b' = b then none else σ.get b' := by
  cases σ; simp [St.del, St.get, PT.get_put]
@[simp] theorem St.next_del (σ : St) (b : Nat) : (σ.del b).next = σ.next := by cases σ; rfl
@[simp] theorem St.get_new (σ : St) (o : AObj) (b' : Nat) : (σ.new o).get b' = if b' = σ.next then some o else σ.get b' := by
  cases σ; simp [St.new, St.get, PT.get_put]
@[simp] theorem St.next_new (σ : St) (o : AObj) : (σ.new o).next = σ.next + 1 := by cases σ; rfl

/-! ### An object of the store is turned where it lies -/
def put (w : World) (c : Nat) (o : Obj) : World := { w with heap := w.heap.setIfInBounds c o }
@[simp] theorem put_size (w : World) (c : Nat) (o : Obj) : (put w c o).heap.size = w.heap.size := by simp [put]
theorem put_get (w : World) (c : Nat) (o : Obj) (c' : Nat) : (put w c o).heap[c']? = if c' = c then (if c < w.heap.size then some o else none) else w.heap[c']? := by
  simp only [put, Array.getElem?_setIfInBounds]
  by_cases h : c = c'
  · subst h; simp
  · simp [h, Ne.symm h]
theorem put_self {w : World} {c : Nat} (h : c < w.heap.size) (o : Obj) : (put w c o).heap[c]? = some o := by rw [put_get]; simp [h]
theorem put_put (w : World) (c : Nat) (o o' : Obj) : put (put w c o) c o' = put w c o' := by simp [put]
theorem WRel.set {b c n : Nat} {o : AObj} {o' : Obj} (h : WRel CR H M σ w) (hb : M.at_ b = some (c, n)) (ho : ORel CR H M n o (some o')) (hk : ∀ lp : Loop, w.heap[c]? = some (Obj.loop lp) → ∃ lp', o' = .loop lp') :
    WRel CR H M (σ.set b o) (put w c o') ∧ Keeps M M w (put w c o') := by
  have hc := h.bnd b c n hb
  refine ⟨⟨by simpa using h.next, ?_, h.lt, by simpa using h.bnd, h.inj, ?_, h.apart⟩, ⟨Mu.Le.refl M, by simp, ?_, fun b _ n h => .inr ⟨b, n, h⟩, rfl, rfl, ?_⟩⟩
  · intro b' o1 hb'
    rw [St.get_set] at hb'
    by_cases e : b' = b
    · subst e; simp at hb'; subst hb'
      exact ⟨c, n, hb, by rw [put_self hc]; exact ho⟩
    · simp [e] at hb'
      obtain ⟨c', n', h1, h2⟩ := h.obj b' o1 hb'
      refine ⟨c', n', h1, ?_⟩
      have : c' ≠ c := by rintro rfl; exact e (h.inj _ _ _ _ _ h1 hb)
      rw [put_get]; simpa [this] using h2
  · intro c' off v hv
    have hne : c' ≠ c := by rintro rfl; have := h.apart b c' n off hb; rw [hv] at this; simp at this
    have := h.imm c' off v hv
    simp only [World.cell?] at this ⊢
    rw [put_get]; simpa [hne] using this
  · intro c' hc' hno
    rw [put_get]
    have : c' ≠ c := by rintro rfl; exact hno _ _ hb
    simp [this]
  · intro c' lp hl
    rw [put_get]
    by_cases e : c' = c
    · subst e; obtain ⟨lp', h1⟩ := hk lp hl; exact ⟨lp', by simp [hc, h1]⟩
    · exact ⟨lp, by simp [e, hl]⟩

/-! ### A new object -/
def Mu.add (M : Mu) (c n : Nat) : Mu := { at_ := fun b => if b = M.N then some (c, n) else M.at_ b, N := M.N + 1 }
theorem Mu.le_add (M : Mu) (c n : Nat) : M.Le (M.add c n) :=
  ⟨by simp [Mu.add], fun b hb x hx => by simp only [Mu.add] at hx; rw [if_neg (by omega)] at hx; exact hx⟩
theorem WRel.new {n : Nat} {o : AObj} {o' : Obj} (h : WRel CR H M σ w) (ho : ORel CR H (M.add w.heap.size n) n o (some o')) :
    WRel CR H (M.add w.heap.size n) (σ.new o) { w with heap := w.heap.push o' } ∧ Keeps M (M.add w.heap.size n) w { w with heap := w.heap.push o' } := by
  have hle := M.le_add w.heap.size n
  have at_N : (M.add w.heap.size n).at_ M.N = some (w.heap.size, n) := by simp [Mu.add]
  have at_ne : ∀ b, b ≠ M.N → (M.add w.heap.size n).at_ b = M.at_ b := fun b hb => by simp [Mu.add, hb]
  have hold : ∀ c, c < w.heap.size → ({ w with heap := w.heap.push o' } : World).heap[c]? = w.heap[c]? := by
    intro c hc; simp [Array.getElem?_push]; omega
  refine ⟨⟨by simp [Mu.add, h.next], ?_, ?_, ?_, ?_, ?_, ?_⟩, ⟨hle, by simp, fun c hc _ => hold c hc, ?_, rfl, rfl, fun c lp hl => ⟨lp, by rw [hold c (Array.getElem?_eq_some_iff.1 hl).1]; exact hl⟩⟩⟩
  · intro b o1 hb
    rw [St.get_new, ← h.next] at hb
    by_cases e : b = M.N
    · subst e; simp at hb; subst hb
      exact ⟨_, _, at_N, by simpa using ho⟩
    · simp [e] at hb
      obtain ⟨c, n', h1, h2⟩ := h.obj b o1 hb
      exact ⟨c, n', by rw [at_ne b e]; exact h1, by rw [hold c (h.bnd _ _ _ h1)]; exact h2.mono hle⟩
  · intro b x hx
    by_cases e : b = M.N
    · subst e; simp [Mu.add]
    · rw [at_ne b e] at hx; exact Nat.lt_of_lt_of_le (h.lt b x hx) hle.N
  · intro b c n' hb
    by_cases e : b = M.N
    · subst e; rw [at_N] at hb; cases hb; simp
    · rw [at_ne b e] at hb; have := h.bnd b c n' hb; simp; omega
  · intro b b' c n1 n2 h1 h2
    by_cases e : b = M.N
    · subst e; rw [at_N] at h1; cases h1
      by_cases e' : b' = M.N
      · exact e'.symm
      · rw [at_ne b' e'] at h2; have := h.bnd _ _ _ h2; omega
    · rw [at_ne b e] at h1
      by_cases e' : b' = M.N
      · subst e'; rw [at_N] at h2; cases h2; have := h.bnd _ _ _ h1; omega
      · rw [at_ne b' e'] at h2; exact h.inj _ _ _ _ _ h1 h2
  · intro c off v hv
    have := h.imm c off v hv
    have hlt : c < w.heap.size := World.block_lt_of_cell? _ _ this
    simp only [World.cell?] at this ⊢
    rw [hold c hlt]; exact this
  · intro b c n' off hb
    by_cases e : b = M.N
    · subst e; rw [at_N] at hb; cases hb
      cases hH : H w.heap.size off with
      | none => rfl
      | some v => have := World.block_lt_of_cell? _ _ (h.imm _ _ _ hH); simp at this
    · rw [at_ne b e] at hb; exact h.apart _ _ _ _ hb
  · intro b c n' hb
    by_cases e : b = M.N
    · subst e; rw [at_N] at hb; cases hb; exact .inl (Nat.le_refl _)
    · rw [at_ne b e] at hb; exact .inr ⟨b, n', hb⟩

/-! ### A block is forgotten -/
def Mu.drop (M : Mu) (b : Nat) : Mu := { at_ := fun b' => if b' = b then none else M.at_ b', N := M.N }
theorem Mu.le_drop (M : Mu) (b : Nat) : M.Le (M.drop b) :=
  ⟨Nat.le_refl _, fun b' _ x hx => by simp only [Mu.drop] at hx; split at hx <;> simp_all⟩
theorem WRel.del (h : WRel CR H M σ w) (b : Nat) : WRel CR H (M.drop b) (σ.del b) w ∧ Keeps M (M.drop b) w w := by
  have hle := M.le_drop b
  have at_of : ∀ b' x, (M.drop b).at_ b' = some x → M.at_ b' = some x ∧ b' ≠ b := by
    intro b' x hx; simp only [Mu.drop] at hx; split at hx <;> simp_all
  refine ⟨⟨by simpa [Mu.drop] using h.next, ?_, fun b' x hx => h.lt b' x (at_of _ _ hx).1, fun b' c n hb => h.bnd b' c n (at_of _ _ hb).1,
    fun b1 b2 c n n' h1 h2 => h.inj _ _ _ _ _ (at_of _ _ h1).1 (at_of _ _ h2).1, h.imm, fun b' c n off hb => h.apart _ _ _ _ (at_of _ _ hb).1⟩,
    ⟨hle, Nat.le_refl _, fun _ _ _ => rfl, fun b' c n hb => .inr ⟨b', n, (at_of _ _ hb).1⟩, rfl, rfl, fun _ lp h => ⟨lp, h⟩⟩⟩
  intro b' o hb
  rw [St.get_del] at hb
  by_cases e : b' = b
  · simp [e] at hb
  · simp [e] at hb
    obtain ⟨c, n, h1, h2⟩ := h.obj b' o hb
    exact ⟨c, n, by simpa [Mu.drop, e] using h1, h2.mono hle⟩
/-- A draw of the tape is nobody's business. -/
theorem WRel.drew (h : WRel CR H M σ w) : WRel CR H M σ { w with drawn := w.drawn + 1 } ∧ Keeps M M w { w with drawn := w.drawn + 1 } :=
  ⟨⟨h.next, h.obj, h.lt, h.bnd, h.inj, h.imm, h.apart⟩, ⟨Mu.Le.refl M, Nat.le_refl _, fun _ _ _ => rfl, fun b _ n h => .inr ⟨b, n, h⟩, rfl, rfl, fun _ lp h => ⟨lp, h⟩⟩⟩
end Am
/- Loads and stores of the model, told of the abstract store. -/
namespace Am
open Go
variable {CR : Code → ACode → Prop} {H : Hc} {M M' : Mu} {σ : St} {w : World} {P : Program}

/-! ### What the program's types say -/
def aggOf : TypeDesc → Bool
  | .struct _ | .array _ _ => true
  | _ => false
def agg? (P : Program) (t : TypeId) : Option Bool := (P.underlying t).map aggOf
def sz? (P : Program) (t : TypeId) : Option Nat := (P.info? t).map (·.size)
def bytes? (P : Program) (t : TypeId) : Option Nat := (P.info? t).map (·.bytes)
def zero? (P : Program) (t : TypeId) : Option Value := (P.info? t).bind (·.zero)
theorem runUnderlying {t : TypeId} {d : TypeDesc} (h : P.underlying t = some d) (w : World) : (underlying t).run P w = .ok d w := by
  simp [underlying, h]
theorem runTypeInfo {t : TypeId} {i : TypeInfo} (h : P.info? t = some i) (w : World) : (typeInfo t).run P w = .ok i w := by
  simp [typeInfo, h]
theorem runIsAgg {t : TypeId} {b : Bool} (h : agg? P t = some b) (w : World) : (isAgg t).run P w = .ok b w := by
  simp only [agg?, Option.map_eq_some_iff] at h
  obtain ⟨d, hd, rfl⟩ := h
  simp only [isAgg, Sem.run_bind, runUnderlying hd, Result.andThen_ok]
  cases d <;> rfl
theorem runSizeOf {t : TypeId} {n : Nat} (h : sz? P t = some n) (w : World) : (Go.sizeOf t).run P w = .ok n w := by
  simp only [sz?, Option.map_eq_some_iff] at h
  obtain ⟨i, hi, rfl⟩ := h
  simp [Go.sizeOf, runTypeInfo hi]
theorem runZeroValue {t : TypeId} {v : Value} (h : zero? P t = some v) (w : World) : (zeroValue t).run P w = .ok v w := by
  simp only [zero?, Option.bind_eq_some_iff] at h
  obtain ⟨i, hi, hz⟩ := h
  simp [zeroValue, runTypeInfo hi, hz]

/-! ### Loads -/
theorem add_none {a : Addr} (h : a.spot = none) (n : Nat) : a.add n = ⟨a.block, a.off + n, none⟩ := by
  cases a; simp at h; subst h
  unfold Addr.add; split <;> simp_all
theorem run_loadCellsFrom {a : Addr} (ha : a.spot = none) : ∀ (n i : Nat) (acc : Array Value) (vs : List Value),
    vs.length = n → (∀ j v, vs[j]? = some v → w.cell? ⟨a.block, a.off + (i + j), none⟩ = some v) →
    (loadCellsFrom a i n acc).run P w = .ok (acc ++ vs.toArray) w
  | 0, i, acc, vs, hn, _ => by
    have : vs = [] := List.eq_nil_of_length_eq_zero hn
    subst this; simp [loadCellsFrom]
  | n + 1, i, acc, vs, hn, h => by
    cases vs with
    | nil => simp at hn
    | cons v vs =>
      have h0 := h 0 v rfl
      simp only [loadCellsFrom, Sem.run_bind, run_load, add_none ha]
      rw [show i + 0 = i from rfl] at h0
      rw [h0]
      simp only [Result.andThen_ok]
      rw [run_loadCellsFrom ha n (i + 1) (acc.push v) vs (by simpa using hn) (fun j u hj => by
        have := h (j + 1) u (by simpa using hj)
        rw [show i + 1 + j = i + (j + 1) by omega]; exact this)]
      congr 1
      apply Array.ext'
      simp
theorem runLoadCells {a : Addr} (ha : a.spot = none) {n : Nat} {vs : List Value} (hn : vs.length = n)
    (h : ∀ j v, vs[j]? = some v → w.cell? ⟨a.block, a.off + j, none⟩ = some v) : (loadCells a n).run P w = .ok vs.toArray w := by
  unfold loadCells
  rw [run_loadCellsFrom ha n 0 #[] vs hn (fun j v hj => by simpa using h j v hj)]
  simp
theorem readPtr_sound {p : PV} {pv : Value} {n : Nat} {cs : List PV} (hw : WRel CR H M σ w) (hp : VRel H M p pv) (h : readPtr σ p n = some cs) :
    ∃ a vs, pv = .pointer (some a) ∧ a.spot = none ∧ vs.length = n ∧ VRels H M cs vs ∧ ∀ j v, vs[j]? = some v → w.cell? ⟨a.block, a.off + j, none⟩ = some v := by
  cases p with
  | ptr b off =>
    simp only [readPtr] at h
    simp only [VRel] at hp
    obtain ⟨_, a, rfl, ha⟩ := hp
    cases hb : σ.get b with
    | none => simp [hb] at h
    | some o =>
      cases o with
      | cells cs0 op =>
        simp only [hb] at h
        obtain ⟨c, sz, hM, hO⟩ := hw.obj b _ hb
        obtain ⟨cl, e, fr, ho, hlen, -, -, c1, c2, rfl, hrel⟩ := hO
        obtain ⟨us, hus, hr, hget⟩ := hrel.cellsAt h
        have := ha c sz hM
        subst this
        refine ⟨_, us, rfl, rfl, hus, hr, fun j v hj => ?_⟩
        have hjn : j < n := by rw [← hus]; exact (List.getElem?_eq_some_iff.1 hj).1
        have hg := hget j hjn
        simp only [World.cell?, ho]
        simp only [Option.isSome_none, Bool.false_eq_true, if_false, List.getElem?_toArray]
        have hlt : off + j < c1.length := by
          have : c1[off + j]? = some v := by rw [hg]; exact hj
          exact (List.getElem?_eq_some_iff.1 this).1
        rw [List.getElem?_append_left hlt, hg, hj]
      | _ => simp [hb] at h
  | iptr cs0 off =>
    simp only [readPtr] at h
    simp only [VRel] at hp
    obtain ⟨c, o, vs, rfl, himm, hrel⟩ := hp
    obtain ⟨us, hus, hr, hget⟩ := hrel.cellsAt h
    refine ⟨_, us, rfl, rfl, hus, hr, fun j v hj => ?_⟩
    have hjn : j < n := by rw [← hus]; exact (List.getElem?_eq_some_iff.1 hj).1
    have hg := hget j hjn
    rw [hj] at hg
    have := hw.imm _ _ _ (himm _ _ hg)
    rw [show o + off + j = o + (off + j) by omega]; exact this
  | _ => simp [readPtr] at h

/-! ### Stores -/
theorem oneCell_of {x : PV} {v : Value} (h : VRel H M x v) (hx : x.one = true) : v.oneCell' = true := by
  cases x <;> simp only [PV.one, Bool.false_eq_true] at hx <;> simp only [VRel] at h <;>
    first
    | (subst h; rfl)
    | (subst h; cases ‹Flt› <;> rfl)
    | (obtain ⟨_, _, rfl, _⟩ := h; rfl)
    | (obtain ⟨_, rfl, _⟩ := h; rfl)
    | (obtain ⟨_, _, _, rfl, _⟩ := h; rfl)
theorem allOne_cons {x : PV} {xs : List PV} (h : allOne (x :: xs) = true) : x.one = true ∧ allOne xs = true := by
  simpa [allOne] using h
theorem store_one {c off : Nat} {arr : List Value} {e : TypeId} {fr : Nat × Nat} {v old : Value} (hc : w.heap[c]? = some (.cells arr.toArray e fr))
    (ho : arr[off]? = some old) (hfr : fr.2 ≤ fr.1 ∨ arr.length ≤ fr.1) (hv : v.oneCell' = true) :
    (store ⟨c, off, none⟩ v).run P w = .ok () (put w c (.cells (arr.set off v).toArray e fr)) := by
  have hcell : w.cell? ⟨c, off, none⟩ = some old := by simp [World.cell?, hc, ho]
  have hlt : off < arr.length := (List.getElem?_eq_some_iff.1 ho).1
  have hfz : w.frozen? ⟨c, off, none⟩ = false := by
    simp only [World.frozen?, hc]
    obtain ⟨lo, hi⟩ := fr
    simp at hfr ⊢
    omega
  rw [run_store P w _ _ _ hv, hcell]
  simp only [hfz, Bool.false_eq_true, if_false]
  congr 1
  have hclt : c < w.heap.size := (Array.getElem?_eq_some_iff.1 hc).1
  simp only [World.setCell, put]
  congr 1
  apply Array.ext_getElem?
  intro i
  rw [Array.getElem?_modify, Array.getElem?_setIfInBounds]
  by_cases hi : c = i
  · subst hi
    rw [hc]; simp [hclt]
  · simp [hi]
theorem storeCells_run {c : Nat} {e : TypeId} {fr : Nat × Nat} : ∀ (vs : List Value) (a : Addr) (i : Nat) (w : World) (pre mid post : List Value),
    a.spot = none → a.block = c → w.heap[c]? = some (.cells (pre ++ mid ++ post).toArray e fr) → pre.length = a.off + i → mid.length = vs.length →
    (fr.2 ≤ fr.1 ∨ (pre ++ mid ++ post).length ≤ fr.1) → (∀ v ∈ vs, v.oneCell' = true) →
    (storeCells a vs i).run P w = .ok () (put w c (.cells (pre ++ vs ++ post).toArray e fr))
  | [], a, i, w, pre, mid, post, _, _, hc, _, hm, _, _ => by
    have : mid = [] := List.eq_nil_of_length_eq_zero hm
    subst this
    simp only [storeCells, Sem.run_pure]
    congr 1
    have hclt : c < w.heap.size := (Array.getElem?_eq_some_iff.1 hc).1
    simp only [put]
    have : w.heap.setIfInBounds c (.cells (pre ++ [] ++ post).toArray e fr) = w.heap := by
      apply Array.ext_getElem?
      intro k
      rw [Array.getElem?_setIfInBounds]
      by_cases hk : c = k
      · subst hk; rw [hc]; simp [hclt]
      · simp [hk]
    rw [this]
  | v :: vs, a, i, w, pre, mid, post, hs, hb, hc, hp, hm, hfr, hone => by
    cases mid with
    | nil => simp at hm
    | cons m mid =>
      simp only [storeCells, Sem.run_bind, add_none hs, hb]
      rw [store_one (v := v) (old := m) hc (by rw [← hp]; simp) hfr (hone v (by simp))]
      simp only [Result.andThen_ok]
      have hclt : c < w.heap.size := (Array.getElem?_eq_some_iff.1 hc).1
      have hset : (pre ++ m :: mid ++ post).set (a.off + i) v = (pre ++ [v]) ++ mid ++ post := by
        rw [← hp]; simp
      rw [hset]
      have hnew : (put w c (.cells ((pre ++ [v]) ++ mid ++ post).toArray e fr)).heap[c]? = some (.cells ((pre ++ [v]) ++ mid ++ post).toArray e fr) := put_self hclt _
      rw [storeCells_run vs a (i + 1) _ (pre ++ [v]) mid post hs hb hnew (by simp; omega) (by simpa using hm) (by simpa using hfr) (fun u hu => hone u (by simp [hu]))]
      rw [put_put]
      simp
theorem writePtr_sound {p : PV} {pv : Value} {xs : List PV} {vs : List Value} {σ' : St} (hw : WRel CR H M σ w) (hp : VRel H M p pv)
    (h : writePtr σ p xs = some σ') (hx : VRels H M xs vs) (hone : allOne xs = true) :
    ∃ a w', pv = .pointer (some a) ∧ a.spot = none ∧ (storeCells a vs).run P w = .ok () w' ∧ WRel CR H M σ' w' ∧ Keeps M M w w' := by
  cases p with
  | ptr b off =>
    simp only [writePtr] at h
    simp only [VRel] at hp
    obtain ⟨_, a, rfl, ha⟩ := hp
    cases hb : σ.get b with
    | none => simp [hb] at h
    | some o =>
      cases o with
      | cells cs0 op =>
        simp only [hb] at h
        cases hwr : writeAt cs0 off xs with
        | none => simp [hwr] at h
        | some cs' =>
          simp only [hwr] at h
          cases h
          obtain ⟨c, sz, hM, hO⟩ := hw.obj b _ hb
          obtain ⟨cl, e, fr, ho, hlen, hop, hfr, c1, c2, rfl, hrel⟩ := hO
          obtain ⟨x1, xm, x2, rfl, rfl, hl1, hlm⟩ := writeAt_eq hwr
          obtain ⟨u12, u3, rfl, hu12, hu3⟩ := hrel.split
          obtain ⟨u1, u2, rfl, hu1, hu2⟩ := hu12.split
          have := ha c sz hM
          subst this
          have e1 := hu1.length
          have e2 := hu2.length
          have e3 := hx.length
          have honev : ∀ v ∈ vs, v.oneCell' = true := by
            clear hwr hlm e2 e3
            induction vs generalizing xs with
            | nil => simp
            | cons v vs ih =>
              cases xs with
              | nil => simp [VRels] at hx
              | cons x xs =>
                obtain ⟨hv, hvs⟩ := VRels.cons_iff.1 hx
                obtain ⟨h1, h2⟩ := allOne_cons hone
                intro u hu
                rcases List.mem_cons.1 hu with rfl | hu
                · exact oneCell_of hv h1
                · exact ih hvs h2 u hu
          have hrun := storeCells_run (P := P) (e := e) (fr := fr) vs ⟨c, off, none⟩ 0 w u1 u2 (u3 ++ c2) rfl rfl (by rw [ho]; simp) (by simp; omega) (by omega)
            (by simp at hlen hfr ⊢; omega) honev
          refine ⟨_, _, rfl, rfl, hrun, ?_⟩
          refine hw.set hM ⟨u1 ++ vs ++ (u3 ++ c2), e, fr, rfl, ?_, ?_, hfr, u1 ++ vs ++ u3, c2, by simp, (hu1.append hx).append hu3⟩ (fun lp hl => by rw [ho] at hl; simp at hl)
          · simp at hlen ⊢; omega
          · intro hf; have := hop hf; simp at this ⊢; omega
      | _ => simp [hb] at h
  | _ => simp [writePtr] at h
end Am
/- From the loaded program to the abstract machine's code: a function that checks as it goes. -/
namespace Am
open Go

def mapO {α β : Type} (f : α → Option β) : List α → Option (List β)
  | [] => some []
  | x :: xs => match f x with
    | some y => match mapO f xs with
      | some ys => some (y :: ys)
      | none => none
    | none => none
def trV : Nat → Value → Option PV
  | 0, _ => none
  | k + 1, v => match v with
    | .bool b => some (.bool b)
    | .int k n => some (.int k n)
    | .string s => some (.str s)
    | .pointer none => some .nilp
    | .slice none 0 0 => some .nils
    | .map none => some .nilm
    | .nilFunc => some .nilf
    | .nilIface => some .nili
    | .complex k a b => some (.raw (.c k a b))
    | .agg cs => (mapO (trV k) cs.toList).map .agg
    | .tuple cs => (mapO (trV k) cs.toList).map .tup
    | _ => none
def trS : Operand → Option Src
  | .tmp t => some (.t t)
  | .const v => (trV 3 v).map .c
  | .func f => some (.c (.func f [] []))
  | .global _ => none
def trSs (l : List Operand) : Option (List Src) := mapO trS l
def trO : Option Operand → Option (Option Src)
  | none => some none
  | some x => (trS x).map some
/-- A value's size, if it lies in several cells. -/
def many? (P : Program) (t : TypeId) : Option (Option Nat) :=
  match agg? P t with
  | some true => (sz? P t).map some
  | some false => some none
  | none => none
def zcells? (P : Program) (t : TypeId) : Option (List PV) :=
  match zero? P t with
  | some z => match trV 3 z with
    | some v => some v.cells
    | none => none
  | none => none
def eqk : TypeDesc → Option Nat
  | .bool => some 0
  | .pointer _ => some 1
  | .slice _ => some 2
  | .map _ _ => some 3
  | .func _ _ _ => some 4
  | .interface _ => some 5
  | .int _ => some 6
  | .string => some 7
  | _ => none
def eqField (P : Program) (f : Field) : Option (Nat × Nat) :=
  if f.name = "_" then none else
  match agg? P f.type with
  | some false => match P.underlying f.type with
    | some d => (eqk d).map fun k => (f.offset, k)
    | none => none
  | _ => none
def trEq (P : Program) (t : TypeId) : Option EqT :=
  match P.underlying t with
  | some (.struct fs) => if P.stoodInHeld t || P.eqGuardType P.depth t then none else (mapO (eqField P) fs.toList).map .cells
  | some d => (eqk d).map .scalar
  | none => none
def trParts (place : Nat → Option (Nat × Nat)) : List (Nat × Operand) → Option (List (Nat × Nat × Src))
  | [] => some []
  | (i, x) :: l => match place i with
    | some (off, size) => match trS x with
      | some s => match trParts place l with
        | some r => some ((off, size, s) :: r)
        | none => none
      | none => none
    | none => none
def places (P : Program) (fs : List Field) : Option (List (Nat × Nat)) := mapO (fun f => (sz? P f.type).map fun n => (f.offset, n)) fs
def isByte (P : Program) (e : TypeId) : Bool :=
  match P.underlying e with
  | some (.int .u8) => true
  | _ => false
def arrOf (P : Program) (t : TypeId) : Option (Nat × TypeId) :=
  match P.underlying t with
  | some (.array n e) => some (n, e)
  | _ => none
def trSl (P : Program) (t : TypeId) : Option SlK :=
  match P.underlying t with
  | some .string => some .str
  | some (.slice e) => (sz? P e).map .slice
  | some (.array n e) => (sz? P e).map (.arr n)
  | some (.pointer a) => match arrOf P a with
    | some (n, e) => (sz? P e).map (.arr n)
    | none => none
  | _ => none
def elemOf (P : Program) (t : TypeId) : Option TypeId :=
  match P.underlying t with
  | some (.slice e) => some e
  | _ => none
def keyKind : Nat → Bool
  | 0 | 6 | 7 => true
  | _ => false
def keyK (P : Program) (k : TypeId) : Option KeyK :=
  match P.underlying k with
  | some (.struct fs) => if P.stoodInHeld k then none else
    match mapO (eqField P) fs.toList with
    | some l => if l.all (fun p => keyKind p.2) then some (.cells l) else none
    | none => none
  | some d => match eqk d with
    | some k => if keyKind k then some (.one k) else none
    | none => none
  | none => none
def trBuiltin (P : Program) (b : Builtin) (ts : List TypeId) (args : List Operand) : Option AOp :=
  match b, ts, args with
  | .len, [t], [x] => match P.underlying t, trS x with
    | some .string, some s => some (.lenS true s)
    | some (.slice _), some s => some (.lenS false s)
    | some (.map _ _), some s => some (.lenM s)
    | _, _ => none
  | .cap, [t], [x] => match P.underlying t, trS x with
    | some (.slice _), some s => some (.capS s)
    | _, _ => none
  | .append, [t, u], [x, y] => match elemOf P t, trS x, trS y with
    | some e, some s, some z => match zcells? P e, sz? P e, bytes? P e, P.underlying u with
      | some zc, some n, some b, some (.int _) => some (.appendN zc n b s z)
      | some zc, some n, some b, some _ => some (.append zc n b s z)
      | _, _, _, _ => none
    | _, _, _ => none
  | .copy, [t, _], [x, y] => match elemOf P t, trS x, trS y with
    | some e, some s, some z => (sz? P e).map fun n => .copy n s z
    | _, _, _ => none
  | .clear, [t], [x] => match P.underlying t, trS x with
    | some (.map _ _), some s => some (.clearM s)
    | some (.slice e), some s => match zcells? P e, sz? P e with
      | some zc, some n => some (.clearS zc n s)
      | _, _ => none
    | _, _ => none
  | .delete, [t, _], [m, k] => match P.underlying t, trS m, trS k with
    | some (.map kt _), some m, some k => (keyK P kt).map fun kk => .delete kk m k
    | _, _, _ => none
  | .min, _, l => (trSs l).map .mmin
  | .max, _, l => (trSs l).map .mmax
  | .complex, _, l => (trSs l).map (.prim prCpx)
  | _, _, _ => none
def trOp (P : Program) (o : Op) : Option AOp :=
  match o with
  | .move x | .assign x => (trS x).map .mov
  | .pick c a b => match trS c, trS a, trS b with
    | some c, some a, some b => some (.pick c a b)
    | _, _, _ => none
  | .alloc e => match zero? P e with
    | some z => (trV 3 z).map fun v => .box (.c v)
    | none => none
  | .box _ x => (trS x).map .box
  | .build t ps => match P.underlying t, zcells? P t with
    | some (.struct fs), some zc => match places P fs.toList with
      | some pl => (trParts (fun i => pl[i]?) ps.toList).map (.build zc)
      | none => none
    | some (.array _ e), some zc => match sz? P e with
      | some n => (trParts (fun i => some (i * n, n)) ps.toList).map (.build zc)
      | none => none
    | _, _ => none
  | .buildSlice t len ps => match elemOf P t with
    | some e => match sz? P e, zcells? P e with
      | some n, some zc => (trParts (fun i => some (i * n, n)) ps.toList).map (.mkrow zc n len)
      | _, _ => none
    | none => none
  | .load t a => match many? P t, trS a with
    | some n, some s => some (.load n s)
    | _, _ => none
  | .store t a x => match sz? P t, trS a, trS x with
    | some n, some s, some v => some (.store n s v)
    | _, _, _ => none
  | .nilCheck x => (trS x).map .nilchk
  | .binOp op t x y _ => match P.underlying t, trS x, trS y with
    | some (.int _), some a, some b | some .string, some a, some b => some (.bin op a b)
    | some (.complex _), some a, some b => match op with
      | .eql => some (.prim (prCeq false) [a, b])
      | .neq => some (.prim (prCeq true) [a, b])
      | _ => none
    | some _, some a, some b => match op with
      | .eql => (trEq P t).map fun e => .eql false e a b
      | .neq => (trEq P t).map fun e => .eql true e a b
      | _ => none
    | _, _, _ => none
  | .unOp op _ x => (trS x).map (.un op)
  | .convert src dst x => match P.underlying src, P.underlying dst, trS x with
    | some (.int _), some (.int k), some s => some (.toInt k s)
    | some (.int _), some (.float k), some s => some (.prim (prFlt k) [s])
    | some .string, some .string, some s => some (.same s)
    | some .string, some (.slice e), some s => if isByte P e then some (.toBytes s) else none
    | some (.slice e), some .string, some s => if isByte P e && (sz? P e == some 1) then some (.toStr s) else none
    | _, _, _ => none
  | .makeInterface t x => match P.underlying t, trS x with
    | some (.interface _), _ => none
    | some _, some s => some (.mkiface t s)
    | _, _ => none
  | .makeFunc (.func f) first captured => match trSs first.toList, trSs captured.toList with
    | some a, some b => some (.mkfunc f a b)
    | _, _ => none
  | .makeMap _ none => some .mkmap
  | .makeSlice t l c => match elemOf P t with
    | some e => match zcells? P e, sz? P e, bytes? P e, trS l, trS c with
      | some zc, some n, some b, some l, some c => some (.mkslice zc n b l c)
      | _, _, _, _, _ => none
    | none => none
  | .slice t x lo hi mx => match trSl P t, trS x, trO lo, trO hi, trO mx with
    | some k, some x, some lo, some hi, some mx => some (.slic k x lo hi mx)
    | _, _, _, _, _ => none
  | .fieldAddr t x i => match P.underlying t, trS x with
    | some (.struct fs), some s => match fs.toList[i]? with
      | some f => match sz? P f.type with
        | some (_ + 1) => some (.faddr f.offset s)
        | _ => none
      | none => none
    | _, _ => none
  | .field t x i => match P.underlying t, trS x with
    | some (.struct fs), some s => match fs.toList[i]? with
      | some f => (many? P f.type).map fun n => .fld f.offset n s
      | none => none
    | _, _ => none
  | .indexAddr t x i => match P.underlying t, trS x, trS i with
    | some (.slice e), some x, some i => (sz? P e).map fun n => .iaddr n none x i
    | some (.array l e), some x, some i => (sz? P e).map fun n => .iaddr n (some l) x i
    | _, _, _ => none
  | .index t x i => match P.underlying t, trS x, trS i with
    | some .string, some x, some i => some (.idxS x i)
    | some (.array l e), some x, some i => match sz? P e, many? P e with
      | some n, some m => some (.idxA l n m x i)
      | _, _ => none
    | _, _, _ => none
  | .lookup t x i ok => match P.underlying t, trS x, trS i with
    | some (.map kt e), some x, some i => match zero? P e with
      | some z => match keyK P kt, trV 3 z with
        | some kk, some v => some (.lookup kk v ok x i)
        | _, _ => none
      | none => none
    | _, _, _ => none
  | .mapUpdate t m k v => match P.underlying t, trS m, trS k, trS v with
    | some (.map kt _), some m, some k, some v => (keyK P kt).map fun kk => .mapup kk m k v
    | _, _, _, _ => none
  | .range t x => match P.underlying t, trS x with
    | some (.map _ _), some s => some (.range false s)
    | _, _ => none
  | .next it false => (trS it).map (.next false)
  | .entry it => (trS it).map .entry
  | .extract t i => (trS t).map fun s => .extract s i
  | .call c => match c.callee with
    | .value f => match trS f, trSs c.args.toList with
      | some f, some l => some (.call f l)
      | _, _ => none
    | .builtin b => trBuiltin P b c.argTypes.toList c.args.toList
    | .invoke _ _ => none
  | _ => none
end Am
/- What an operation of the abstract machine says of the model's: values, memory cells. -/
namespace Am
open Go
variable {CR : Code → ACode → Prop} {H : Hc} {M M' : Mu} {σ σ' : St} {w : World} {P : Program} {ρ : Regs} {a : Act}

theorem mapO_cons {α β : Type} {f : α → Option β} {x : α} {xs : List α} {r : List β} (h : mapO f (x :: xs) = some r) :
    ∃ y ys, f x = some y ∧ mapO f xs = some ys ∧ r = y :: ys := by
  unfold mapO at h
  cases hx : f x with
  | none => simp [hx] at h
  | some y =>
    cases hxs : mapO f xs with
    | none => simp [hx, hxs] at h
    | some ys => simp [hx, hxs] at h; exact ⟨y, ys, rfl, rfl, h.symm⟩
theorem mapO_trV {k : Nat} (ih : ∀ v p, trV k v = some p → VRel H M p v) : ∀ (l : List Value) (r : List PV), mapO (trV k) l = some r → VRels H M r l
  | [], r, h => by simp [mapO] at h; subst h; exact VRels.nil_iff.2 rfl
  | v :: l, r, h => by
    obtain ⟨y, ys, h1, h2, rfl⟩ := mapO_cons h
    exact VRels.cons_iff.2 ⟨ih v y h1, mapO_trV ih l ys h2⟩
theorem trV_sound : ∀ (k : Nat) (v : Value) (p : PV), trV k v = some p → VRel H M p v
  | 0, v, p, h => by simp [trV] at h
  | k + 1, v, p, h => by
    unfold trV at h
    split at h <;> (try simp only [Option.some.injEq] at h) <;> (try subst h) <;> (try (simp only [VRel]; done)) <;> (try (simp [VRel, Flt.val]; done))
    · simp only [Option.map_eq_some_iff] at h
      obtain ⟨r, hr, rfl⟩ := h
      simp only [VRel]
      exact ⟨_, by simp, mapO_trV (trV_sound k) _ _ hr⟩
    · simp only [Option.map_eq_some_iff] at h
      obtain ⟨r, hr, rfl⟩ := h
      simp only [VRel]
      exact ⟨_, by simp, mapO_trV (trV_sound k) _ _ hr⟩
    · simp at h
theorem trS_sound {x : Operand} {s : Src} {p : PV} (h : trS x = some s) (hr : RRel H M ρ a.tmps) (hs : ρ.src s = some p) : VRel H M p (a.eval x) := by
  cases x with
  | tmp t =>
    simp only [trS, Option.some.injEq] at h; subst h
    simp only [Regs.src] at hs
    obtain ⟨cv, h1, h2⟩ := hr.2 t p hs
    have : a.eval (.tmp t) = cv := by simp [Act.eval, Array.getD_eq_getD_getElem?, h1]
    rw [this]; exact h2
  | const v =>
    simp only [trS, Option.map_eq_some_iff] at h
    obtain ⟨q, hq, rfl⟩ := h
    simp only [Regs.src, Option.some.injEq] at hs; subst hs
    exact trV_sound _ _ _ hq
  | func f =>
    simp only [trS, Option.some.injEq] at h; subst h
    simp only [Regs.src, Option.some.injEq] at hs; subst hs
    simp only [VRel]
    exact ⟨[], [], rfl, VRels.nil_iff.2 rfl, VRels.nil_iff.2 rfl⟩
  | global g => simp [trS] at h
theorem srcs_cons {s : Src} {ss : List Src} {ps : List PV} (h : ρ.srcs (s :: ss) = some ps) :
    ∃ p qs, ρ.src s = some p ∧ ρ.srcs ss = some qs ∧ ps = p :: qs := by
  unfold Regs.srcs at h
  cases hs : ρ.src s with
  | none => simp [hs] at h
  | some p =>
    cases hq : ρ.srcs ss with
    | none => simp [hs, hq] at h
    | some qs => simp [hs, hq] at h; exact ⟨p, qs, rfl, rfl, h.symm⟩
theorem trSs_sound (hr : RRel H M ρ a.tmps) : ∀ (l : List Operand) (ss : List Src) (ps : List PV), trSs l = some ss → ρ.srcs ss = some ps → VRels H M ps (l.map a.eval)
  | [], ss, ps, h, hs => by
    simp [trSs, mapO] at h; subst h
    simp [Regs.srcs] at hs; subst hs; exact VRels.nil_iff.2 rfl
  | x :: l, ss, ps, h, hs => by
    obtain ⟨y, ys, h1, h2, rfl⟩ := mapO_cons h
    obtain ⟨p, qs, h3, h4, rfl⟩ := srcs_cons hs
    exact VRels.cons_iff.2 ⟨trS_sound h1 hr h3, trSs_sound hr l ys qs h2 h4⟩

/-- What an operation's answer says of the model's run of it. -/
def Sound (P : Program) (CR : Code → ACode → Prop) (H : Hc) (M : Mu) (w : World) (sem : Sem Next) : ORes → Prop
  | .v v σ' => ∃ nx w' M', sem.run P w = .ok nx w' ∧ WRel CR H M' σ' w' ∧ Keeps M M' w w' ∧ ∃ cv, VRel H M' v cv ∧ (nx = .value cv ∨ (nx = .skip ∧ cv = undef))
  | .call f args σ' => ∃ vs : List Value, sem.run P w = (callFunc f vs.toArray).run P w ∧ VRels H M args vs ∧ WRel CR H M σ' w
  | .round b args σ' => ∃ (r : Nat) (vs : List Value), sem.run P w = (Instr.yield r vs.toArray).run P w ∧ VRels H M args vs ∧ WRel CR H M σ' w ∧ b < M.N ∧ ∀ c n, M.at_ b = some (c, n) → r = c
theorem Sound.pure {sem : Sem Next} {v : PV} {cv : Value} (hw : WRel CR H M σ w) (hrun : sem.run P w = .ok (.value cv) w) (hv : VRel H M v cv) :
    Sound P CR H M w sem (.v v σ) := ⟨_, w, M, hrun, hw, Keeps.refl M w, cv, hv, .inl rfl⟩

/-! ### Operations that make a value out of values -/
theorem movS {x : Src} {r : ORes} {X : Operand} (hx : trS X = some x) (hr : RRel H M ρ a.tmps) (hw : WRel CR H M σ w) (h : evMov x ρ σ = some r) :
    Sound P CR H M w (pure (.value (a.eval X))) r := by
  unfold evMov at h
  cases hs : ρ.src x with
  | none => simp [hs] at h
  | some v => simp [hs] at h; subst h; exact Sound.pure hw rfl (trS_sound hx hr hs)
theorem pickS {c x y : Src} {r : ORes} {C X Y : Operand} (hc : trS C = some c) (hx : trS X = some x) (hy : trS Y = some y) (hr : RRel H M ρ a.tmps) (hw : WRel CR H M σ w)
    (h : evPick c x y ρ σ = some r) : Sound P CR H M w (do pure (.value (if ← asBool (a.eval C) then a.eval X else a.eval Y))) r := by
  unfold evPick at h
  cases hs : ρ.src c with
  | none => simp [hs] at h
  | some v =>
    have hcv := trS_sound hc hr hs
    cases v with
    | bool b =>
      simp only [VRel] at hcv
      cases b with
      | true =>
        simp only [hs] at h
        cases hs2 : ρ.src x with
        | none => simp [hs2] at h
        | some v => simp [hs2] at h; subst h; exact Sound.pure hw (by simp [hcv, asBool]) (trS_sound hx hr hs2)
      | false =>
        simp only [hs] at h
        cases hs2 : ρ.src y with
        | none => simp [hs2] at h
        | some v => simp [hs2] at h; subst h; exact Sound.pure hw (by simp [hcv, asBool]) (trS_sound hy hr hs2)
    | _ => simp [hs] at h
theorem vcells {x : PV} {v : Value} (h : VRel H M x v) : VRels H M x.cells v.cells.toList := by
  cases x <;> simp only [VRel] at h <;> simp only [PV.cells] <;>
    first
    | (obtain ⟨vs, rfl, h⟩ := h; simpa [Value.cells] using h)
    | (subst h; exact VRels.cons_iff.2 ⟨by simp only [VRel], VRels.nil_iff.2 rfl⟩)
    | skip
  case raw x =>
    subst h
    have : x.val.cells.toList = [x.val] := by cases x <;> rfl
    rw [this]; exact VRels.cons_iff.2 ⟨by simp only [VRel], VRels.nil_iff.2 rfl⟩
  case ptr b off => obtain ⟨h1, a, rfl, h2⟩ := h; exact VRels.cons_iff.2 ⟨by simp only [VRel]; exact ⟨h1, a, rfl, h2⟩, VRels.nil_iff.2 rfl⟩
  case iptr cs off => obtain ⟨c, o, vs, rfl, h2⟩ := h; exact VRels.cons_iff.2 ⟨by simp only [VRel]; exact ⟨c, o, vs, rfl, h2⟩, VRels.nil_iff.2 rfl⟩
  case slice b off len esz cap => obtain ⟨h1, a, cp, rfl, h2⟩ := h; exact VRels.cons_iff.2 ⟨by simp only [VRel]; exact ⟨h1, a, cp, rfl, h2⟩, VRels.nil_iff.2 rfl⟩
  case islice cs len esz cap => obtain ⟨a, cp, vs, rfl, h2⟩ := h; exact VRels.cons_iff.2 ⟨by simp only [VRel]; exact ⟨a, cp, vs, rfl, h2⟩, VRels.nil_iff.2 rfl⟩
  case map b => obtain ⟨h1, a, rfl, h2⟩ := h; exact VRels.cons_iff.2 ⟨by simp only [VRel]; exact ⟨h1, a, rfl, h2⟩, VRels.nil_iff.2 rfl⟩
  case func f fs cs => obtain ⟨a, b, rfl, h2⟩ := h; exact VRels.cons_iff.2 ⟨by simp only [VRel]; exact ⟨a, b, rfl, h2⟩, VRels.nil_iff.2 rfl⟩
  case yld b => obtain ⟨h1, a, rfl, h2⟩ := h; exact VRels.cons_iff.2 ⟨by simp only [VRel]; exact ⟨h1, a, rfl, h2⟩, VRels.nil_iff.2 rfl⟩
  case iface t x => obtain ⟨a, rfl, h2⟩ := h; exact VRels.cons_iff.2 ⟨by simp only [VRel]; exact ⟨a, rfl, h2⟩, VRels.nil_iff.2 rfl⟩
  case tup vs =>
    obtain ⟨us, rfl, h⟩ := h
    exact VRels.cons_iff.2 ⟨by simp only [VRel]; exact ⟨us, rfl, h⟩, VRels.nil_iff.2 rfl⟩
theorem newRow_run (e : TypeId) (cells : Array Value) : (newRow e cells).run P w = .ok ⟨w.heap.size, 0, none⟩ { w with heap := w.heap.push (.cells cells e) } := by
  simp [newRow]
/-- A new block of cells, all of them known (or more behind them). -/
theorem newCells {cs : List PV} {c1 c2 : List Value} {e : TypeId} {fr : Nat × Nat} {op : Bool} (hw : WRel CR H M σ w) (hc : VRels H M cs c1) (hop : op = false → c2 = [])
    (hfr : fr.2 ≤ fr.1 ∨ (c1 ++ c2).length ≤ fr.1) :
    WRel CR H (M.add w.heap.size (c1 ++ c2).length) (σ.new (.cells cs op)) { w with heap := w.heap.push (.cells (c1 ++ c2).toArray e fr) } ∧
      Keeps M (M.add w.heap.size (c1 ++ c2).length) w { w with heap := w.heap.push (.cells (c1 ++ c2).toArray e fr) } := by
  refine hw.new (o' := .cells (c1 ++ c2).toArray e fr) ⟨c1 ++ c2, e, fr, rfl, rfl, ?_, hfr, c1, c2, rfl, hc.mono (M.le_add _ _)⟩
  intro h; rw [hop h]; simp [hc.length]
theorem add_at (M : Mu) (c n : Nat) : (M.add c n).at_ M.N = some (c, n) := by simp [Mu.add]
theorem newPtr (M : Mu) (c n : Nat) : VRel H (M.add c n) (.ptr M.N 0) (.pointer (some ⟨c, 0, none⟩)) := by
  simp only [VRel]
  refine ⟨by simp [Mu.add], _, rfl, fun c' n' h => ?_⟩
  rw [add_at] at h; cases h; rfl
theorem boxS {x : Src} {r : ORes} {X : Operand} {e : TypeId} (hx : trS X = some x) (hr : RRel H M ρ a.tmps) (hw : WRel CR H M σ w) (h : evBox x ρ σ = some r) :
    Sound P CR H M w (do pure (.value (← Instr.box e (a.eval X)))) r := by
  unfold evBox at h
  cases hs : ρ.src x with
  | none => simp [hs] at h
  | some v =>
    simp [hs] at h; subst h
    have hv := vcells (trS_sound hx hr hs)
    obtain ⟨h1, h2⟩ := newCells (e := e) (fr := (0, 0)) (op := false) (c2 := []) hw hv (fun _ => rfl) (by simp)
    refine ⟨_, _, _, by simp [Instr.box, newVar, newRow_run]; exact ⟨rfl, rfl⟩, by simpa using h1, by simpa using h2, _, ?_, .inl rfl⟩
    rw [← hw.next]; exact newPtr M _ _
theorem allocS {z : Value} {v : PV} {r : ORes} {e : TypeId} (hz : zero? P e = some z) (hv : trV 3 z = some v) (hw : WRel CR H M σ w) (h : evBox (.c v) ρ σ = some r) :
    Sound P CR H M w (do pure (.value (← Instr.alloc e true (.tuple #[])))) r := by
  unfold evBox at h
  simp [Regs.src] at h; subst h
  have hv := vcells (trV_sound (H := H) (M := M) _ _ _ hv)
  obtain ⟨h1, h2⟩ := newCells (e := e) (fr := (0, 0)) (op := false) (c2 := []) hw hv (fun _ => rfl) (by simp)
  refine ⟨_, _, _, by simp [Instr.alloc, newVar, newRow_run, runZeroValue hz]; exact ⟨rfl, rfl⟩, by simpa using h1, by simpa using h2, _, ?_, .inl rfl⟩
  rw [← hw.next]; exact newPtr M _ _
theorem one_list {r : List PV} {o : Option (List PV)} {v : PV} (h : (match o with | some [v] => some v | _ => none) = some v) : o = some [v] := by
  cases o with
  | none => simp at h
  | some l =>
    cases l with
    | nil => simp at h
    | cons x l => cases l <;> simp at h; subst h; rfl
theorem many_none {t : TypeId} (h : many? P t = some none) : agg? P t = some false := by
  unfold many? at h
  split at h
  · simp at h
  · assumption
  · simp at h
theorem many_some {t : TypeId} {n : Nat} (h : many? P t = some (some n)) : agg? P t = some true ∧ sz? P t = some n := by
  unfold many? at h
  split at h
  · rename_i h1; simp at h; exact ⟨h1, h⟩
  · simp at h
  · simp at h
theorem loadVar_none {t : TypeId} {a : Addr} {v : Value} (h : many? P t = some none) (hc : w.cell? a = some v) : (loadVar t a).run P w = .ok v w := by
  simp [loadVar, runIsAgg (many_none h), hc]
theorem loadVar_some {t : TypeId} {a : Addr} {n : Nat} {vs : List Value} (h : many? P t = some (some n)) (ha : a.spot = none) (hn : vs.length = n)
    (hc : ∀ j v, vs[j]? = some v → w.cell? ⟨a.block, a.off + j, none⟩ = some v) : (loadVar t a).run P w = .ok (.agg vs.toArray) w := by
  obtain ⟨h1, h2⟩ := many_some h
  simp [loadVar, runIsAgg h1, runSizeOf h2, runLoadCells ha hn hc]
theorem loadS {x : Src} {n : Option Nat} {r : ORes} {X : Operand} {t : TypeId} (hn : many? P t = some n) (hx : trS X = some x) (hr : RRel H M ρ a.tmps) (hw : WRel CR H M σ w)
    (h : evLoad n x ρ σ = some r) : Sound P CR H M w (do pure (.value (← Instr.loadAt t (a.eval X)))) r := by
  unfold evLoad at h
  cases hs : ρ.src x with
  | none => simp [hs] at h
  | some p =>
    simp only [hs] at h
    have hp := trS_sound hx hr hs
    cases n with
    | none =>
      simp only at h
      cases hrd : readPtr σ p 1 with
      | none => simp [hrd] at h
      | some l =>
        cases l with
        | nil => simp [hrd] at h
        | cons v l =>
          cases l with
          | cons _ _ => simp [hrd] at h
          | nil =>
            simp only [hrd, Option.some.injEq] at h; subst h
            obtain ⟨a', vs, he, hsp, hl, hv, hc⟩ := readPtr_sound hw hp hrd
            cases vs with
            | nil => simp at hl
            | cons u vs =>
              obtain ⟨hv, -⟩ := VRels.cons_iff.1 hv
              have hc0 := hc 0 u rfl
              have : (⟨a'.block, a'.off + 0, none⟩ : Addr) = a' := by cases a'; simp at hsp; simp [hsp]
              rw [this] at hc0
              exact Sound.pure hw (by simp [Instr.loadAt, he, Instr.sureAddr, loadVar_none hn hc0]) hv
    | some n =>
      simp only at h
      cases hrd : readPtr σ p n with
      | none => simp [hrd] at h
      | some cs =>
        simp only [hrd, Option.some.injEq] at h; subst h
        obtain ⟨a', vs, he, hsp, hl, hv, hc⟩ := readPtr_sound hw hp hrd
        exact Sound.pure (cv := .agg vs.toArray) hw (by simp [Instr.loadAt, he, Instr.sureAddr, loadVar_some hn hsp hl hc]) (by simp only [VRel]; exact ⟨vs, rfl, hv⟩)
theorem undefS : VRel H M (.tup []) undef := by
  simp only [VRel, undef]; exact ⟨[], rfl, VRels.nil_iff.2 rfl⟩
theorem storeS {n : Nat} {x y : Src} {r : ORes} {X Y : Operand} {t : TypeId} (hn : sz? P t = some n) (hx : trS X = some x) (hy : trS Y = some y) (hr : RRel H M ρ a.tmps)
    (hw : WRel CR H M σ w) (h : evStore n x y ρ σ = some r) : Sound P CR H M w (do (Instr.storeAt t (a.eval X) (a.eval Y)); pure .skip) r := by
  unfold evStore at h
  cases hs : ρ.src x with
  | none => simp [hs] at h
  | some p =>
    cases hs2 : ρ.src y with
    | none => simp [hs, hs2] at h
    | some v =>
      simp only [hs, hs2] at h
      cases hb : Nat.beq v.cells.length n && allOne v.cells with
      | false => simp [hb] at h
      | true =>
        simp only [hb] at h
        cases hwp : writePtr σ p v.cells with
        | none => simp [hwp] at h
        | some σ' =>
          simp only [hwp, Option.some.injEq] at h; subst h
          rw [Bool.and_eq_true] at hb
          have hbn := Nat.eq_of_beq_eq_true hb.1
          have hp := trS_sound hx hr hs
          have hv := vcells (trS_sound hy hr hs2)
          obtain ⟨a', w', he, hsp, hrun, hw', hk⟩ := writePtr_sound (P := P) hw hp hwp hv hb.2
          refine ⟨.skip, w', M, ?_, hw', hk, undef, undefS, .inr ⟨rfl, rfl⟩⟩
          have hsz : (a.eval Y).cells.size = n := by have := hv.length; simp at this; omega
          simp [Instr.storeAt, he, Instr.sureAddr, storeVar, runSizeOf hn, hsz, hrun]
end Am
/- What an operation of the abstract machine says of the model's: numbers, strings, comparisons. -/
namespace Am
open Go
variable {CR : Code → ACode → Prop} {H : Hc} {M M' : Mu} {σ σ' : St} {w : World} {P : Program} {ρ : Regs} {a : Act}

theorem ltI_eq (a b : Int) : ltI a b = decide (a < b) := by
  cases a <;> cases b <;> simp only [ltI]
  · rw [Bool.eq_iff_iff]; simp only [Nat.blt_eq, decide_eq_true_eq]; simp
  · simp; omega
  · simp; omega
  · rw [Bool.eq_iff_iff]; simp only [Nat.blt_eq, decide_eq_true_eq]; omega
theorem eqI_eq (a b : Int) : eqI a b = (a == b) := by
  cases a <;> cases b <;> simp only [eqI]
  · rw [Bool.eq_iff_iff, Nat.beq_eq, beq_iff_eq]; constructor <;> intro h <;> (first | (rw [h]) | (exact Int.ofNat.inj h))
  · rw [Bool.eq_iff_iff]; simp
  · rw [Bool.eq_iff_iff]; simp
  · rw [Bool.eq_iff_iff, Nat.beq_eq]; simp
theorem eqK_eq (a b : IntKind) : eqK a b = decide (a = b) := by cases a <;> cases b <;> rfl
theorem wrapI_eq (k : IntKind) (n : Int) : wrapI k n = k.wrap n := by
  cases k with
  | i64 =>
    cases n with
    | ofNat m =>
      simp only [wrapI]
      cases h : Nat.blt m 9223372036854775808 with
      | true => rw [IntWalk.i64_in]; simp at h ⊢; omega
      | false => rfl
    | negSucc m =>
      simp only [wrapI]
      cases h : Nat.blt m 9223372036854775808 with
      | true => rw [IntWalk.i64_in]; simp at h ⊢; omega
      | false => rfl
  | u8 =>
    cases n with
    | ofNat m =>
      simp only [wrapI]
      cases h : Nat.blt m 256 with
      | true => rw [IntWalk.u8_in]; simp at h ⊢; omega
      | false => rfl
    | negSucc m => rfl
  | u64 =>
    cases n with
    | ofNat m =>
      simp only [wrapI]
      cases h : Nat.blt m 18446744073709551616 with
      | true => rw [IntWalk.u64_in]; simp at h ⊢; omega
      | false => rfl
    | negSucc m => rfl
  | _ => rfl
theorem beqU8 (a b : UInt8) : Nat.beq a.toNat b.toNat = (a == b) := by
  rw [Bool.eq_iff_iff, Nat.beq_eq, beq_iff_eq]; exact UInt8.toNat_inj
theorem eqBytes_eq : ∀ (x y : List UInt8), eqBytes x y = (x == y)
  | [], [] => rfl
  | [], _ :: _ => rfl
  | _ :: _, [] => rfl
  | a :: x, b :: y => by
    simp only [eqBytes, beqU8, List.cons_beq_cons]
    cases h : a == b <;> simp [eqBytes_eq x y]
theorem ltBytes_eq : ∀ (x y : List UInt8), ltBytes x y = Op.bytesLess x y
  | [], [] => rfl
  | [], _ :: _ => rfl
  | _ :: _, [] => rfl
  | a :: x, b :: y => by
    simp only [ltBytes, Op.bytesLess, beqU8]
    have : Nat.blt a.toNat b.toNat = decide (a < b) := by rw [Bool.eq_iff_iff, Nat.blt_eq]; simp [UInt8.lt_iff_toNat_lt]
    rw [this]
    cases h : decide (a < b) <;> cases h2 : a == b <;> simp [ltBytes_eq x y]

theorem eqGuard_plain (op : BinOp) (t : TypeId) (X Y : Operand) {v : Value} (u : Value) (h3 : ∀ xs, v ≠ .agg xs) (h4 : v ≠ .nilIface) :
    (eqGuard op t X Y v u).run P w = .ok () w := by
  cases op <;> first
    | rfl
    | (cases v <;> first
       | rfl
       | exact absurd rfl h4
       | exact absurd rfl (h3 _))
/-- A binary operation of whole numbers, or of strings. -/
theorem bin_sound {op : BinOp} {t : TypeId} {x y v : PV} {X Y : Value} (h : bin op x y = some v) (hx : VRel H M x X) (hy : VRel H M y Y) :
    ∃ cv, (binOp op t X Y).run P w = .ok cv w ∧ VRel H M v cv ∧ (∀ xs, X ≠ .agg xs) ∧ X ≠ .nilIface := by
  unfold bin at h
  split at h
  · rename_i k a k' b
    simp only [VRel] at hx hy
    subst hx hy
    have key : ∀ r, (binOp op t (.int k a) (.int k' b)).run P w = r → (∃ cv, r = .ok cv w ∧ VRel H M v cv) → ∃ cv, (binOp op t (.int k a) (.int k' b)).run P w = .ok cv w ∧ VRel H M v cv ∧ (∀ xs, Value.int k a ≠ .agg xs) ∧ Value.int k a ≠ .nilIface :=
      fun r hr ⟨cv, h1, h2⟩ => ⟨cv, hr.trans h1, h2, by simp, by simp⟩
    refine key _ rfl ?_
    split at h
    · simp only [binShift] at h
      split at h
      · simp at h
      · rename_i hb
        simp only [Option.some.injEq] at h; subst h
        exact ⟨.int k (k.wrap (a * 2 ^ (min b.toNat k.bits))), by simp [binOp, Op.shift, hb], by simp only [VRel]⟩
    · simp only [binShift] at h
      split at h
      · simp at h
      · rename_i hb
        simp only [Option.some.injEq] at h; subst h
        exact ⟨.int k (a.fdiv (2 ^ (min b.toNat k.bits))), by simp [binOp, Op.shift, hb], by simp only [VRel]⟩
    · rw [eqK_eq] at h
      by_cases hk : k = k'
      · subst hk
        simp only [decide_true] at h
        have fin : ∀ (pv : PV) (cv : Value), some pv = some v → (binOp op t (.int k a) (.int k b)).run P w = .ok cv w → VRel H M pv cv → ∃ cv, (binOp op t (.int k a) (.int k b)).run P w = .ok cv w ∧ VRel H M v cv :=
          fun pv cv he h1 h2 => by cases he; exact ⟨cv, h1, h2⟩
        cases op <;> simp only [binInt, wrapI_eq, eqI_eq, ltI_eq] at h <;> (try (simp at h; done))
        case add => exact fin _ (.int k (k.wrap (a + b))) h (by simp [binOp, Op.intArith]) (by simp only [VRel]; rfl)
        case sub => exact fin _ (.int k (k.wrap (a - b))) h (by simp [binOp, Op.intArith]) (by simp only [VRel]; rfl)
        case mul => exact fin _ (.int k (k.wrap (a * b))) h (by simp [binOp, Op.intArith]) (by simp only [VRel]; rfl)
        case quo =>
          by_cases hb : b = 0
          · subst hb; simp at h
          · have : (b == 0) = false := by simpa using hb
            simp only [this] at h
            exact fin _ (.int k (k.wrap (a.tdiv b))) h (by simp [binOp, Op.intDiv, hb]) (by simp only [VRel])
        case rem =>
          by_cases hb : b = 0
          · subst hb; simp at h
          · have : (b == 0) = false := by simpa using hb
            simp only [this] at h
            exact fin _ (.int k (a.tmod b)) h (by simp [binOp, Op.intDiv, hb]) (by simp only [VRel])
        case and => exact fin _ _ h (by simp only [binOp]; rw [if_neg (by simp)]; rfl) (by simp only [VRel])
        case or => exact fin _ _ h (by simp only [binOp]; rw [if_neg (by simp)]; rfl) (by simp only [VRel])
        case xor => exact fin _ _ h (by simp only [binOp]; rw [if_neg (by simp)]; rfl) (by simp only [VRel])
        case andNot => exact fin _ _ h (by simp only [binOp]; rw [if_neg (by simp)]; rfl) (by simp only [VRel])
        case eql => exact fin _ (.bool (a == b)) h (by simp [binOp, Op.intCmp]) (by simp only [VRel])
        case neq => exact fin _ (.bool (a != b)) h (by simp [binOp, Op.intCmp]) (by simp only [VRel]; rfl)
        case lss => exact fin _ (.bool (decide (a < b))) h (by simp [binOp, Op.intCmp]) (by simp only [VRel])
        case gtr => exact fin _ (.bool (decide (a > b))) h (by simp [binOp, Op.intCmp]) (by simp only [VRel])
        case leq => exact fin _ (.bool (decide (a ≤ b))) h (by simp [binOp, Op.intCmp]) (by simp only [VRel]; congr 1; rw [Bool.eq_iff_iff]; simp)
        case geq => exact fin _ (.bool (decide (a ≥ b))) h (by simp [binOp, Op.intCmp]) (by simp only [VRel]; congr 1; rw [Bool.eq_iff_iff]; simp)
      · simp [hk] at h
  · rename_i a b
    simp only [VRel] at hx hy
    subst hx hy
    have key : ∀ r, (binOp op t (.string a) (.string b)).run P w = r → (∃ cv, r = .ok cv w ∧ VRel H M v cv) → ∃ cv, (binOp op t (.string a) (.string b)).run P w = .ok cv w ∧ VRel H M v cv ∧ (∀ xs, Value.string a ≠ .agg xs) ∧ Value.string a ≠ .nilIface :=
      fun r hr ⟨cv, h1, h2⟩ => ⟨cv, hr.trans h1, h2, by simp, by simp⟩
    refine key _ rfl ?_
    cases op <;> simp only [binStr, eqBytes_eq, ltBytes_eq] at h <;> (try (simp at h; done))
    · cases hb : Nat.ble (a.size + b.size) 9223372036854775807 with
      | false => simp [hb] at h
      | true =>
        simp only [hb, Option.some.injEq] at h; subst h
        have hle := Nat.le_of_ble_eq_true hb
        have hng : ¬ ((a.size + b.size : Nat) : Int) > IntKind.i64.max := by
          simp [IntKind.max, IntKind.signed, IntKind.bits]; omega
        refine ⟨.string (a ++ b), by simp only [binOp, Op.stringOp]; rw [if_neg hng]; rfl, ?_⟩
        simp only [VRel]
        congr 1
    all_goals
      simp only [Option.some.injEq] at h; subst h
      refine ⟨_, by simp only [binOp, Op.stringOp, ByteArray.toList_eq, Sem.run_pure]; rfl, by simp only [VRel]⟩
  · simp at h
theorem binS {op : BinOp} {x y : Src} {r : ORes} {X Y : Operand} {t : TypeId} (hx : trS X = some x) (hy : trS Y = some y) (hr : RRel H M ρ a.tmps)
    (hw : WRel CR H M σ w) (h : evBin op x y ρ σ = some r) : Sound P CR H M w (do pure (.value (← do eqGuard op t X Y (a.eval X) (a.eval Y); binOp op t (a.eval X) (a.eval Y)))) r := by
  unfold evBin at h
  cases hs : ρ.src x with
  | none => simp [hs] at h
  | some p =>
    cases hs2 : ρ.src y with
    | none => simp [hs, hs2] at h
    | some q =>
      simp only [hs, hs2] at h
      cases hb : bin op p q with
      | none => simp [hb] at h
      | some v =>
        simp only [hb, Option.some.injEq] at h; subst h
        obtain ⟨cv, h1, h2, h3, h4⟩ := bin_sound (P := P) (w := w) (t := t) hb (trS_sound hx hr hs) (trS_sound hy hr hs2)
        refine Sound.pure (cv := cv) hw ?_ h2
        have hg := eqGuard_plain (P := P) (w := w) op t X Y (a.eval Y) h3 h4
        simp [hg, h1]
theorem unS {op : UnOp} {x : Src} {r : ORes} {X : Operand} (hx : trS X = some x) (hr : RRel H M ρ a.tmps)
    (hw : WRel CR H M σ w) (h : evUn op x ρ σ = some r) : Sound P CR H M w (do pure (.value (← Op.unary op (a.eval X)))) r := by
  unfold evUn at h
  cases hs : ρ.src x with
  | none => simp [hs] at h
  | some p =>
    have hp := trS_sound hx hr hs
    simp only [hs] at h
    cases p with
    | bool b =>
      simp only [VRel] at hp
      cases op <;> simp [un] at h
      subst h
      exact Sound.pure (cv := .bool (!b)) hw (by simp [hp, Op.unary]) (by simp only [VRel])
    | int k n =>
      simp only [VRel] at hp
      cases op <;> simp [un, wrapI_eq] at h
      subst h
      exact Sound.pure (cv := .int k (k.wrap (0 - n))) hw (by simp [hp, Op.unary, Op.intArith]) (by simp only [VRel]; rfl)
    | _ => simp [un] at h
theorem toIntS {k : IntKind} {x : Src} {r : ORes} {X : Operand} {s d : TypeId} {ks : IntKind} (hd : P.underlying d = some (.int k)) (hsd : P.underlying s = some (.int ks)) (hx : trS X = some x) (hr : RRel H M ρ a.tmps)
    (hw : WRel CR H M σ w) (h : evToInt k x ρ σ = some r) : Sound P CR H M w (do pure (.value (← convert s d (a.eval X)))) r := by
  unfold evToInt at h
  cases hs : ρ.src x with
  | none => simp [hs] at h
  | some p =>
    have hp := trS_sound hx hr hs
    cases p with
    | int k' n =>
      simp only [VRel] at hp
      simp only [hs, wrapI_eq, Option.some.injEq] at h; subst h
      exact Sound.pure (cv := .int k (k.wrap n)) hw (by simp [convert, runUnderlying hd, runUnderlying hsd, hp, Conv.intToInt]) (by simp only [VRel])
    | _ => simp [hs] at h
theorem sameS {x : Src} {r : ORes} {X : Operand} {s d : TypeId} (hd : P.underlying d = some .string) (hsd : P.underlying s = some .string) (hx : trS X = some x) (hr : RRel H M ρ a.tmps)
    (hw : WRel CR H M σ w) (h : evSame x ρ σ = some r) : Sound P CR H M w (do pure (.value (← convert s d (a.eval X)))) r := by
  unfold evSame at h
  cases hs : ρ.src x with
  | none => simp [hs] at h
  | some p =>
    have hp := trS_sound hx hr hs
    cases p with
    | str b =>
      simp only [VRel] at hp
      simp only [hs, Option.some.injEq] at h; subst h
      exact Sound.pure (cv := .string b) hw (by simp [convert, runUnderlying hd, runUnderlying hsd, hp]) (by simp only [VRel])
    | _ => simp [hs] at h
theorem mkifaceS {x : Src} {r : ORes} {X : Operand} {t : TypeId} {d : TypeDesc} (hd : P.underlying t = some d) (hni : ∀ ms, d ≠ .interface ms) (hx : trS X = some x) (hr : RRel H M ρ a.tmps)
    (hw : WRel CR H M σ w) (h : evMkiface t x ρ σ = some r) : Sound P CR H M w (do pure (.value (← Instr.makeInterface t (a.eval X)))) r := by
  unfold evMkiface at h
  cases hs : ρ.src x with
  | none => simp [hs] at h
  | some p =>
    have hp := trS_sound hx hr hs
    simp only [hs, Option.some.injEq] at h; subst h
    refine Sound.pure (cv := .iface t (a.eval X)) hw ?_ (by simp only [VRel]; exact ⟨_, rfl, hp⟩)
    simp only [Instr.makeInterface, Sem.run_bind, runUnderlying hd, Result.andThen_ok]
    cases d <;> first | rfl | exact absurd rfl (hni _)
theorem map_arr {α β : Type} (f : α → β) (X : Array α) : X.map f = (X.toList.map f).toArray := by apply Array.ext'; simp
theorem mkfuncS {f : Nat} {xs ys : List Src} {r : ORes} {X Y : Array Operand} (hx : trSs X.toList = some xs) (hy : trSs Y.toList = some ys) (hr : RRel H M ρ a.tmps)
    (hw : WRel CR H M σ w) (h : evMkfunc f xs ys ρ σ = some r) : Sound P CR H M w (do pure (.value (← Instr.makeFunc (.func f) (X.map a.eval) (Y.map a.eval)))) r := by
  unfold evMkfunc at h
  cases hs : ρ.srcs xs with
  | none => simp [hs] at h
  | some p =>
    cases hs2 : ρ.srcs ys with
    | none => simp [hs, hs2] at h
    | some q =>
      simp only [hs, hs2, Option.some.injEq] at h; subst h
      refine Sound.pure (cv := .func (.func f) (X.map a.eval) (Y.map a.eval)) hw rfl ?_
      simp only [VRel]
      exact ⟨X.toList.map a.eval, Y.toList.map a.eval, by rw [map_arr, map_arr], trSs_sound hr _ _ _ hx hs, trSs_sound hr _ _ _ hy hs2⟩
theorem nilchkS {x : Src} {r : ORes} {X : Operand} {o : Oper} (ho : o.op = .nilCheck X) (hx : trS X = some x) (hr : RRel H M ρ a.tmps)
    (hw : WRel CR H M σ w) (h : evNilchk x ρ σ = some r) : Sound P CR H M w (execOp a.eval o) r := by
  unfold evNilchk at h
  cases hs : ρ.src x with
  | none => simp [hs] at h
  | some p =>
    have hp := trS_sound hx hr hs
    have hp' := hp
    cases p <;> simp only [hs, Option.some.injEq, reduceCtorEq] at h <;> subst h <;> simp only [VRel] at hp'
    · obtain ⟨_, b, e, _⟩ := hp'
      exact Sound.pure hw (by simp [execOp, ho, e]) (e ▸ hp)
    · obtain ⟨c, o', vs, e, _⟩ := hp'
      exact Sound.pure hw (by simp [execOp, ho, e]) (e ▸ hp)
    · obtain ⟨fs, cs, e, _⟩ := hp'
      exact Sound.pure hw (by simp [execOp, ho, e]) (e ▸ hp)
    · obtain ⟨_, b, e, _⟩ := hp'
      exact Sound.pure hw (by simp [execOp, ho, e]) (e ▸ hp)
    · obtain ⟨b, e, _⟩ := hp'
      exact Sound.pure hw (by simp [execOp, ho, e]) (e ▸ hp)
end Am
/- What an operation of the abstract machine says of the model's: rows made, parts, indexes, lengths. -/
namespace Am
open Go
variable {CR : Code → ACode → Prop} {H : Hc} {M M' : Mu} {σ σ' : St} {w : World} {P : Program} {ρ : Regs} {a : Act}

theorem foldl_set : ∀ (us : List Value) (pre mid post : List Value) (off k : Nat), pre.length = off + k → mid.length = us.length →
    (us.zipIdx k).foldl (fun (cs : Array Value) (c : Value × Nat) => cs.setIfInBounds (off + c.2) c.1) (pre ++ mid ++ post).toArray = (pre ++ us ++ post).toArray
  | [], pre, mid, post, off, k, _, hm => by
    have : mid = [] := List.eq_nil_of_length_eq_zero hm
    subst this; simp
  | u :: us, pre, mid, post, off, k, hp, hm => by
    cases mid with
    | nil => simp at hm
    | cons m mid =>
      simp only [List.zipIdx_cons, List.foldl_cons]
      have : (pre ++ m :: mid ++ post).toArray.setIfInBounds (off + k) u = ((pre ++ [u]) ++ mid ++ post).toArray := by
        rw [← hp]
        apply Array.ext'
        simp
      rw [this, foldl_set us (pre ++ [u]) mid post off (k + 1) (by simp; omega) (by simpa using hm)]
      simp
theorem parts_cons {o s : Nat} {x : Src} {l : List (Nat × Nat × Src)} {r : List (Nat × Nat × PV)} (h : parts ρ ((o, s, x) :: l) = some r) :
    ∃ v r', ρ.src x = some v ∧ parts ρ l = some r' ∧ r = (o, s, v) :: r' := by
  unfold parts at h
  cases hx : ρ.src x with
  | none => simp [hx] at h
  | some v =>
    cases hl : parts ρ l with
    | none => simp [hx, hl] at h
    | some r' => simp [hx, hl] at h; exact ⟨v, r', rfl, rfl, h.symm⟩
theorem fill_sound {place : Nat → Option (Nat × Nat)} (hr : RRel H M ρ a.tmps) : ∀ (l : List (Nat × Operand)) (ps' : List (Nat × Nat × Src)) (ps : List (Nat × Nat × PV)) (cs cs' : List PV) (vs : List Value),
    trParts place l = some ps' → parts ρ ps' = some ps → fill cs ps = some cs' → VRels H M cs vs →
    ∃ vs', Instr.fill place vs.toArray (l.map fun p => (p.1, a.eval p.2)) = some vs'.toArray ∧ VRels H M cs' vs'
  | [], ps', ps, cs, cs', vs, h1, h2, h3, h4 => by
    simp [trParts] at h1; subst h1
    simp [parts] at h2; subst h2
    simp [fill] at h3; subst h3
    exact ⟨vs, rfl, h4⟩
  | (i, x) :: l, ps', ps, cs, cs', vs, h1, h2, h3, h4 => by
    unfold trParts at h1
    cases hp : place i with
    | none => simp [hp] at h1
    | some os =>
      obtain ⟨off, size⟩ := os
      cases hx : trS x with
      | none => simp [hp, hx] at h1
      | some s =>
        cases hl : trParts place l with
        | none => simp [hp, hx, hl] at h1
        | some r =>
          simp only [hp, hx, hl, Option.some.injEq] at h1; subst h1
          obtain ⟨v, r', h5, h6, rfl⟩ := parts_cons h2
          unfold fill at h3
          cases hb : Nat.beq v.cells.length size with
          | false => simp [hb] at h3
          | true =>
            cases hwr : writeAt cs off v.cells with
            | none => simp [hb, hwr] at h3
            | some cs1 =>
              simp only [hb, hwr] at h3
              have hv := vcells (trS_sound hx hr h5)
              have hlen := hv.length
              have hbn := Nat.eq_of_beq_eq_true hb
              obtain ⟨x1, xm, x2, rfl, rfl, hl1, hlm⟩ := writeAt_eq hwr
              obtain ⟨u12, u3, rfl, hu12, hu3⟩ := h4.split
              obtain ⟨u1, u2, rfl, hu1, hu2⟩ := hu12.split
              have e1 := hu1.length
              have e2 := hu2.length
              obtain ⟨vs', h7, h8⟩ := fill_sound hr l r r' _ cs' _ hl h6 h3 ((hu1.append hv).append hu3)
              refine ⟨vs', ?_, h8⟩
              simp only [List.map_cons, Instr.fill, hp]
              simp at hlen
              rw [if_neg (by simp; omega)]
              rw [← h7]
              congr 1
              have := foldl_set (a.eval x).cells.toList u1 u2 u3 off 0 (by omega) (by simp; omega)
              rw [← this]
              rw [← Array.foldl_toList]
              simp
theorem places_run : ∀ (fs : List Field) (pl : List (Nat × Nat)) (w : World), places P fs = some pl → (fs.mapM fun f => do pure (f.offset, ← Go.sizeOf f.type) : Sem (List (Nat × Nat))).run P w = .ok pl w
  | [], pl, w, h => by simp [places, mapO] at h; subst h; simp
  | f :: fs, pl, w, h => by
    obtain ⟨y, ys, h1, h2, rfl⟩ := mapO_cons h
    simp only [Option.map_eq_some_iff] at h1
    obtain ⟨n, hn, rfl⟩ := h1
    have := places_run fs ys w h2
    simp only [List.mapM_cons, Sem.run_bind, runSizeOf hn, Result.andThen_ok, Sem.run_pure, this]
theorem zcells_sound {t : TypeId} {zc : List PV} (h : zcells? P t = some zc) : ∃ z, zero? P t = some z ∧ VRels H M zc z.cells.toList := by
  unfold zcells? at h
  cases hz : zero? P t with
  | none => simp [hz] at h
  | some z =>
    cases hv : trV 3 z with
    | none => simp [hz, hv] at h
    | some v => simp [hz, hv] at h; subst h; exact ⟨z, rfl, vcells (trV_sound _ _ _ hv)⟩
theorem map_pair (l : Array (Nat × Operand)) : (l.map fun (p : Nat × Operand) => match p with | (i, x) => (i, a.eval x)).toList = l.toList.map fun p => (p.1, a.eval p.2) := by
  simp
theorem buildS {zc : List PV} {ps : List (Nat × Nat × Src)} {r : ORes} {t : TypeId} {L : Array (Nat × Operand)} {d : TypeDesc} {place : Nat → Option (Nat × Nat)}
    (hd : P.underlying t = some d) (hz : zcells? P t = some zc)
    (hpl : (∃ fs pl, d = .struct fs ∧ places P fs.toList = some pl ∧ place = fun i => pl[i]?) ∨ (∃ n e s, d = .array n e ∧ sz? P e = some s ∧ place = fun i => some (i * s, s)))
    (hps : trParts place L.toList = some ps) (hr : RRel H M ρ a.tmps) (hw : WRel CR H M σ w) (h : evBuild zc ps ρ σ = some r) :
    Sound P CR H M w (do pure (.value (← Instr.build t (L.map fun (i, x) => (i, a.eval x))))) r := by
  unfold evBuild at h
  cases hpp : parts ρ ps with
  | none => simp [hpp] at h
  | some pp =>
    cases hf : fill zc pp with
    | none => simp [hpp, hf] at h
    | some cs =>
      simp only [hpp, hf, Option.some.injEq] at h; subst h
      obtain ⟨z, hz1, hz2⟩ := zcells_sound (H := H) (M := M) hz
      obtain ⟨vs', h7, h8⟩ := fill_sound hr _ _ _ _ _ _ hps hpp hf hz2
      refine Sound.pure (cv := .agg vs'.toArray) hw ?_ (by simp only [VRel]; exact ⟨vs', rfl, h8⟩)
      rcases hpl with ⟨fs, pl, rfl, hpl, rfl⟩ | ⟨n, e, s, rfl, hs, rfl⟩
      · have hrun := places_run (P := P) fs.toList pl w hpl
        simp only [Instr.build, Sem.run_bind, runZeroValue hz1, Result.andThen_ok, runUnderlying hd, Array.mapM_eq_mapM_toList, Sem.run_map, hrun, map_pair]
        have h7' : Instr.fill (fun i => pl[i]?) z.cells (L.toList.map fun p => (p.1, a.eval p.2)) = some vs'.toArray := by simpa using h7
        simp only [List.getElem?_toArray, h7']
        simp
      · have h7' : Instr.fill (fun i => some (i * s, s)) z.cells (L.toList.map fun p => (p.1, a.eval p.2)) = some vs'.toArray := by simpa using h7
        simp only [Instr.build, Sem.run_bind, runZeroValue hz1, Result.andThen_ok, runUnderlying hd, runSizeOf hs, map_pair]
        simp [h7']
def replV (z : List Value) : Nat → List Value
  | 0 => []
  | n + 1 => z ++ replV z n
theorem repl_sound {zc : List PV} {z : List Value} (h : VRels H M zc z) : ∀ n, VRels H M (repl zc n) (replV z n)
  | 0 => VRels.nil_iff.2 rfl
  | n + 1 => h.append (repl_sound h n)
theorem replV_length (z : List Value) : ∀ n, (replV z n).length = n * z.length
  | 0 => by simp [replV]
  | n + 1 => by simp [replV, replV_length z n, Nat.succ_mul]; omega
theorem replV_get (z : List Value) (hz : 0 < z.length) : ∀ (n i : Nat), i < n * z.length → (replV z n)[i]? = z[i % z.length]?
  | 0, i, h => by simp at h
  | n + 1, i, h => by
    simp only [replV]
    by_cases hi : i < z.length
    · rw [List.getElem?_append_left hi, Nat.mod_eq_of_lt hi]
    · rw [List.getElem?_append_right (by omega), replV_get z hz n (i - z.length) (by rw [Nat.succ_mul] at h; omega)]
      rw [← Nat.mod_eq_sub_mod (by omega)]
theorem zeros_eq (z : Array Value) (hz : 0 < z.size) (n : Nat) : (Array.range (n * z.size)).map (fun i => z[i % z.size]!) = (replV z.toList n).toArray := by
  apply Array.ext_getElem?
  intro i
  simp only [Array.getElem?_map, List.getElem?_toArray]
  by_cases hi : i < n * z.size
  · have h1 : (Array.range (n * z.size))[i]? = some i := by simp [Array.getElem?_range, hi]
    have hm : i % z.size < z.size := Nat.mod_lt _ hz
    rw [h1, replV_get z.toList (by simpa using hz) n i (by simpa using hi)]
    simp [hm]
  · have h1 : (Array.range (n * z.size))[i]? = none := by simp; omega
    rw [h1]
    have : (replV z.toList n)[i]? = none := by rw [List.getElem?_eq_none]; rw [replV_length]; simpa using hi
    rw [this]; rfl
theorem newSlice (M : Mu) (c n len cp esz : Nat) (cap : Option Nat) (h1 : len ≤ cp) (h2 : 0 < esz) (h3 : ∀ k, cap = some k → cp = k) (h4 : cp * esz ≤ n) (h5 : cap = none → cp * esz = n) :
    VRel H (M.add c n) (.slice M.N 0 len esz cap) (.slice (some ⟨c, 0, none⟩) len cp) := by
  simp only [VRel]
  refine ⟨by simp [Mu.add], _, cp, rfl, h1, h2, h3, fun c' n' h => ?_⟩
  rw [add_at] at h; cases h
  exact ⟨.inr rfl, by omega, fun hn => by have := h5 hn; omega⟩
theorem newCells0 {cs : List PV} {c1 : List Value} {e : TypeId} (hw : WRel CR H M σ w) (hc : VRels H M cs c1) :
    WRel CR H (M.add w.heap.size c1.length) (σ.new (.cells cs false)) { w with heap := w.heap.push (.cells c1.toArray e) } ∧
      Keeps M (M.add w.heap.size c1.length) w { w with heap := w.heap.push (.cells c1.toArray e) } := by
  have := newCells (e := e) (fr := (0, 0)) (op := false) (c2 := []) hw hc (fun _ => rfl) (by simp)
  rw [List.append_nil] at this; exact this
theorem mkrowS {zc : List PV} {esz len : Nat} {ps : List (Nat × Nat × Src)} {r : ORes} {t e : TypeId} {L : Array (Nat × Operand)}
    (hd : P.underlying t = some (.slice e)) (hz : zcells? P e = some zc) (hs : sz? P e = some esz)
    (hps : trParts (fun i => some (i * esz, esz)) L.toList = some ps) (hr : RRel H M ρ a.tmps) (hw : WRel CR H M σ w) (h : evMkrow zc esz len ps ρ σ = some r) :
    Sound P CR H M w (do pure (.value (← Instr.buildSlice t len (L.map fun (i, x) => (i, a.eval x))))) r := by
  unfold evMkrow at h
  cases hpp : parts ρ ps with
  | none => simp [hpp] at h
  | some pp =>
    cases hf : fill (repl zc len) pp with
    | none => simp [hpp, hf] at h
    | some cs =>
      simp only [hpp, hf] at h
      cases hb : Nat.blt 0 esz && Nat.beq zc.length esz && Nat.ble (len * esz) 16777216 with
      | false => simp [hb] at h
      | true =>
        simp only [hb, Option.some.injEq] at h; subst h
        simp only [Bool.and_eq_true] at hb
        obtain ⟨⟨hb1, hb2⟩, hb3⟩ := hb
        have hpos : 0 < esz := by simpa using hb1
        have hzl := Nat.eq_of_beq_eq_true hb2
        have hle := Nat.le_of_ble_eq_true hb3
        obtain ⟨z, hz1, hz2⟩ := zcells_sound (H := H) (M := M) hz
        have hzs : z.cells.size = esz := by have := hz2.length; simp at this; omega
        obtain ⟨vs', h7, h8⟩ := fill_sound hr _ _ _ _ _ _ hps hpp hf (repl_sound hz2 len)
        obtain ⟨h1, h2⟩ := newCells0 (e := e) hw h8
        have hlen : vs'.length = len * esz := by
          have e1 := h8.length
          have e2 : cs.length = (repl zc len).length := by
            clear h7 h8 hps h1 h2 e1
            revert hf
            generalize repl zc len = c0
            clear hpp
            intro hf
            induction pp generalizing c0 with
            | nil => simp [fill] at hf; rw [hf]
            | cons p pp ih =>
              obtain ⟨o, s, v⟩ := p
              unfold fill at hf
              cases hb : Nat.beq v.cells.length s with
              | false => simp [hb] at hf
              | true =>
                cases hwr : writeAt c0 o v.cells with
                | none => simp [hb, hwr] at hf
                | some c1 => simp only [hb, hwr] at hf; rw [ih _ hf, writeAt_length hwr]
          have e3 := (repl_sound hz2 len).length
          rw [replV_length] at e3
          simp at e3
          rw [hzs] at e3
          omega
        refine ⟨_, _, _, ?_, h1, h2, .slice (some ⟨w.heap.size, 0, none⟩) len len, ?_, .inl rfl⟩
        · simp only [Instr.buildSlice, Sem.run_bind, runUnderlying hd, Result.andThen_ok, runSizeOf hs]
          rw [if_neg (by omega)]
          by_cases h0 : len * esz = 0
          · have hl0 : len = 0 := by rcases Nat.mul_eq_zero.1 h0 with h | h <;> omega
            subst hl0
            simp only [h0, if_true, map_pair, Sem.run_bind, Sem.run_pure, Result.andThen_ok]
            have harr0 : ∀ f : Nat → Value, (Array.range 0).map f = #[] := by simp
            rw [harr0]
            have h7' : Instr.fill (fun i => some (i * esz, esz)) #[] (L.toList.map fun p => (p.1, a.eval p.2)) = some vs'.toArray := h7
            simp only [h7', Sem.run_bind, newRow_run, Result.andThen_ok, Sem.run_pure]
          · have harr := zeros_eq z.cells (by omega) len
            rw [hzs] at harr
            simp only [if_neg h0, map_pair, Sem.run_bind, runZeroValue hz1, Result.andThen_ok, Sem.run_pure, hzs, harr, h7, newRow_run]
        · rw [← hw.next]
          exact newSlice (H := H) M w.heap.size vs'.length len len esz (some len) (Nat.le_refl _) hpos (fun k hk => by simpa using hk) (by omega) (by simp)
end Am
/- What an operation of the abstract machine says of the model's: addresses, indexes, lengths. -/
namespace Am
open Go
variable {CR : Code → ACode → Prop} {H : Hc} {M M' : Mu} {σ σ' : St} {w : World} {P : Program} {ρ : Regs} {a : Act}

theorem asNat_sound {v : PV} {n : Nat} {cv : Value} (h : asNat v = some n) (hv : VRel H M v cv) : ∃ k, cv = .int k n := by
  unfold asNat at h
  split at h
  · simp only [VRel] at hv; simp at h; subst h; exact ⟨_, hv⟩
  · simp at h
theorem mkmapS {r : ORes} {t : TypeId} (hw : WRel CR H M σ w) (h : evMkmap ρ σ = some r) :
    Sound P CR H M w (do pure (.value (← Instr.makeMap t none))) r := by
  simp only [evMkmap, Option.some.injEq] at h; subst h
  obtain ⟨h1, h2⟩ := hw.new (n := 0) (o := .map [] 0) (o' := .map #[] 0) ⟨[], rfl, rfl⟩
  refine ⟨.value (.map (some w.heap.size)), _, _, ?_, h1, h2, _, ?_, .inl rfl⟩
  · simp only [Instr.makeMap, Sem.run_bind, Sem.run_pure, Result.andThen_ok, run_newObj]
  · rw [← hw.next]
    simp only [VRel]
    refine ⟨by simp [Mu.add], _, rfl, fun c' n' h => ?_⟩
    rw [add_at] at h; cases h; rfl
theorem faddrS {x : Src} {r : ORes} {X : Operand} {t : TypeId} {fs : Array Field} {f : Field} {i n : Nat} (hd : P.underlying t = some (.struct fs)) (hf : fs.toList[i]? = some f)
    (hn : sz? P f.type = some (n + 1)) (hx : trS X = some x) (hr : RRel H M ρ a.tmps) (hw : WRel CR H M σ w) (h : evFaddr f.offset x ρ σ = some r) :
    Sound P CR H M w (do pure (.value (← Instr.fieldAt t (a.eval X) i))) r := by
  unfold evFaddr at h
  cases hs : ρ.src x with
  | none => simp [hs] at h
  | some p =>
    have hp := trS_sound hx hr hs
    have hf' : fs[i]? = some f := by rw [← hf]; simp
    have run : ∀ ad : Addr, a.eval X = .pointer (some ad) → (do pure (Next.value (← Instr.fieldAt t (a.eval X) i)) : Sem Next).run P w = .ok (.value (.pointer (some (ad.add f.offset)))) w := by
      intro ad he
      simp [Instr.fieldAt, runUnderlying hd, hf', he, Instr.sureAddr, fieldPlace, runSizeOf hn]
    cases p with
    | ptr b off =>
      simp only [hs, Option.some.injEq] at h; subst h
      simp only [VRel] at hp
      obtain ⟨h1, ad, he, h2⟩ := hp
      refine Sound.pure hw (run ad he) ?_
      simp only [VRel]
      refine ⟨h1, _, rfl, fun c n hc => ?_⟩
      rw [h2 c n hc, add_none rfl]
    | iptr cs off =>
      simp only [hs, Option.some.injEq] at h; subst h
      simp only [VRel] at hp
      obtain ⟨c, o, vs, he, h2⟩ := hp
      refine Sound.pure hw (run _ he) ?_
      simp only [VRel]
      exact ⟨c, o, vs, by rw [add_none rfl]; simp [Nat.add_assoc], h2⟩
    | _ => simp [hs] at h
theorem asIntOf_int (k : IntKind) (n : Int) : (asIntOf (.int k n)).run P w = .ok (k, n) w := rfl
theorem iaddr_some {k : IntKind} {i n esz : Nat} {t : TypeId} {xv : Value} {ad : Addr} {e : TypeId} (hs : sz? P e = some esz) (hi : i < n)
    (hx : (P.underlying t = some (.slice e) ∧ ∃ cp, xv = .slice (some ad) n cp) ∨ (P.underlying t = some (.array n e) ∧ xv = .pointer (some ad))) :
    (Instr.indexAt t xv (.int k i)).run P w = .ok (.pointer (some (ad.add (i * esz)))) w := by
  have hi' : (0 : Int) ≤ (i : Int) ∧ (i : Int) < n := by omega
  rcases hx with ⟨hd, cp, rfl⟩ | ⟨hd, rfl⟩
  · simp only [Instr.indexAt, Sem.run_bind, asIntOf_int, Result.andThen_ok, runUnderlying hd, Sem.run_pure]
    simp [hi', runSizeOf hs, hi]
  · simp only [Instr.indexAt, Sem.run_bind, asIntOf_int, Result.andThen_ok, runUnderlying hd, Sem.run_pure, Instr.sureAddr]
    simp [hi', runSizeOf hs, hi]
theorem iaddrS {esz : Nat} {arr : Option Nat} {x y : Src} {r : ORes} {X Y : Operand} {t e : TypeId} (hs : sz? P e = some esz)
    (hd : match arr with | none => P.underlying t = some (.slice e) | some n => P.underlying t = some (.array n e))
    (hx : trS X = some x) (hy : trS Y = some y) (hr : RRel H M ρ a.tmps) (hw : WRel CR H M σ w) (h : evIaddr esz arr x y ρ σ = some r) :
    Sound P CR H M w (do pure (.value (← Instr.indexAt t (a.eval X) (a.eval Y)))) r := by
  unfold evIaddr at h
  cases hsx : ρ.src x with
  | none => simp [hsx] at h
  | some p =>
    cases hsy : ρ.src y with
    | none => simp [hsx, hsy] at h
    | some q =>
      simp only [hsx, hsy] at h
      cases hn : asNat q with
      | none => simp [hn] at h
      | some i =>
        simp only [hn] at h
        have hp := trS_sound hx hr hsx
        obtain ⟨k, hq⟩ := asNat_sound hn (trS_sound hy hr hsy)
        cases arr with
        | none =>
          cases p with
          | slice b off len esz' cap =>
            simp only at h
            cases hb : Nat.beq esz esz' && Nat.blt i len with
            | false => simp [hb] at h
            | true =>
              simp only [hb, Option.some.injEq] at h; subst h
              rw [Bool.and_eq_true] at hb
              have he := Nat.eq_of_beq_eq_true hb.1
              have hi : i < len := by simpa using hb.2
              subst he
              simp only [VRel] at hp
              obtain ⟨h1, ad, cp, hX, h2, h3, h4, h5⟩ := hp
              refine Sound.pure hw (by rw [hX, hq]; simp [iaddr_some (k := k) hs hi (.inl ⟨hd, cp, rfl⟩)]; rfl) ?_
              simp only [VRel]
              refine ⟨h1, _, rfl, fun c n hc => ?_⟩
              obtain ⟨h6, -, -⟩ := h5 c n hc
              rcases h6 with h6 | h6
              · omega
              · rw [h6, add_none rfl]
          | islice cs len esz' cap =>
            simp only at h
            cases hb : Nat.beq esz esz' && Nat.blt i len with
            | false => simp [hb] at h
            | true =>
              simp only [hb, Option.some.injEq] at h; subst h
              rw [Bool.and_eq_true] at hb
              have he := Nat.eq_of_beq_eq_true hb.1
              have hi : i < len := by simpa using hb.2
              subst he
              simp only [VRel] at hp
              obtain ⟨ad, cp, vs, hX, h2, h3, h4, h5, h6, h7⟩ := hp
              refine Sound.pure hw (by rw [hX, hq]; simp [iaddr_some (k := k) hs hi (.inl ⟨hd, cp, rfl⟩)]; rfl) ?_
              simp only [VRel]
              rcases h6 with h6 | ⟨h6, h8⟩
              · omega
              · exact ⟨ad.block, ad.off, vs, by rw [add_none h6], h8, h7⟩
          | _ => simp at h
        | some n =>
          cases p with
          | ptr b off =>
            simp only at h
            cases hb : Nat.blt i n with
            | false => simp [hb] at h
            | true =>
              simp only [hb, Option.some.injEq] at h; subst h
              have hi : i < n := by simpa using hb
              simp only [VRel] at hp
              obtain ⟨h1, ad, hX, h5⟩ := hp
              refine Sound.pure hw (by rw [hX, hq]; simp [iaddr_some (k := k) hs hi (.inr ⟨hd, rfl⟩)]; rfl) ?_
              simp only [VRel]
              refine ⟨h1, _, rfl, fun c n hc => ?_⟩
              rw [h5 c n hc, add_none rfl]
          | iptr cs off =>
            simp only at h
            cases hb : Nat.blt i n with
            | false => simp [hb] at h
            | true =>
              simp only [hb, Option.some.injEq] at h; subst h
              have hi : i < n := by simpa using hb
              simp only [VRel] at hp
              obtain ⟨c, o, vs, hX, h5⟩ := hp
              refine Sound.pure hw (by rw [hX, hq]; simp [iaddr_some (k := k) hs hi (.inr ⟨hd, rfl⟩)]; rfl) ?_
              simp only [VRel]
              exact ⟨c, o, vs, by rw [add_none rfl]; simp [Nat.add_assoc], h5⟩
          | _ => simp at h
theorem lenOf_sound {v : PV} {n : Nat} {cv : Value} (h : lenOf v = some n) (hv : VRel H M v cv) : (Builtin.lenOf cv).run P w = .ok n w ∧ ((∃ s, v = .str s ∧ cv = .string s ∧ n = s.size) ∨ ∃ ad cp, cv = .slice ad n cp) := by
  cases v <;> simp only [lenOf, reduceCtorEq, Option.some.injEq] at h <;> subst h <;> simp only [VRel] at hv
  · subst hv; exact ⟨rfl, .inl ⟨_, rfl, rfl, rfl⟩⟩
  · subst hv; exact ⟨rfl, .inr ⟨_, _, rfl⟩⟩
  · obtain ⟨_, ad, cp, rfl, _⟩ := hv; exact ⟨rfl, .inr ⟨_, _, rfl⟩⟩
  · obtain ⟨ad, cp, vs, rfl, _⟩ := hv; exact ⟨rfl, .inr ⟨_, _, rfl⟩⟩
theorem lenSS {s : Bool} {x : Src} {r : ORes} {X : Operand} {t : TypeId} {ty : TypeId} (hd : match s with | true => P.underlying t = some .string | false => ∃ e, P.underlying t = some (.slice e)) (hx : trS X = some x) (hr : RRel H M ρ a.tmps) (hw : WRel CR H M σ w)
    (h : evLenS s x ρ σ = some r) : Sound P CR H M w (do pure (.value (← Builtin.len_ #[t] ty #[a.eval X]))) r := by
  unfold evLenS at h
  cases hs : ρ.src x with
  | none => simp [hs] at h
  | some v =>
    have hv := trS_sound hx hr hs
    cases s with
    | true =>
      cases v <;> simp [hs] at h
      subst h
      simp only [VRel] at hv
      exact Sound.pure (cv := .int .i64 _) hw (by simp [Builtin.len_, runUnderlying hd, hv, goInt]; rfl) (by simp only [VRel])
    | false =>
      obtain ⟨e, hd⟩ := hd
      have fin : ∀ (n : Nat) (ad : Option Addr) (cp : Nat), a.eval X = .slice ad n cp → r = .v (.int .i64 n) σ → Sound P CR H M w (do pure (.value (← Builtin.len_ #[t] ty #[a.eval X]))) r := by
        intro n ad cp h1 h2
        subst h2
        exact Sound.pure (cv := .int .i64 n) hw (by simp [Builtin.len_, runUnderlying hd, h1, goInt]) (by simp only [VRel])
      cases v <;> simp [hs] at h <;> simp only [VRel] at hv
      · exact fin 0 _ _ hv h.symm
      · obtain ⟨_, ad, cp, h1, _⟩ := hv; exact fin _ _ _ h1 h.symm
      · obtain ⟨ad, cp, vs, h1, _⟩ := hv; exact fin _ _ _ h1 h.symm
theorem capSS {x : Src} {r : ORes} {X : Operand} {t e : TypeId} {ty : TypeId} (hd : P.underlying t = some (.slice e)) (hx : trS X = some x) (hr : RRel H M ρ a.tmps) (hw : WRel CR H M σ w)
    (h : evCapS x ρ σ = some r) : Sound P CR H M w (do pure (.value (← Builtin.cap_ #[t] ty #[a.eval X]))) r := by
  unfold evCapS at h
  cases hs : ρ.src x with
  | none => simp [hs] at h
  | some v =>
    have hv := trS_sound hx hr hs
    have fin : ∀ (n : Nat) (ad : Option Addr) (l : Nat), a.eval X = .slice ad l n → r = .v (.int .i64 n) σ → Sound P CR H M w (do pure (.value (← Builtin.cap_ #[t] ty #[a.eval X]))) r := by
      intro n ad l h1 h2
      subst h2
      exact Sound.pure (cv := .int .i64 n) hw (by simp [Builtin.cap_, runUnderlying hd, h1, goInt]) (by simp only [VRel])
    cases v with
    | nils => simp [hs] at h; simp only [VRel] at hv; exact fin 0 _ _ hv h.symm
    | slice b off len esz cap =>
      cases cap with
      | none => simp [hs] at h
      | some c =>
        simp [hs] at h
        simp only [VRel] at hv
        obtain ⟨_, ad, cp, h1, _, _, h2, _⟩ := hv
        rw [h2 c rfl] at h1
        exact fin c _ _ h1 h.symm
    | _ => simp [hs] at h
theorem nth_eq {α : Type} : ∀ (l : List α) (n : Nat), nth l n = l[n]?
  | [], n => by simp [nth]
  | x :: l, 0 => by simp [nth]
  | x :: l, n + 1 => by simp [nth, nth_eq l n]
theorem idxSS {x y : Src} {r : ORes} {X Y : Operand} {t : TypeId} (hd : P.underlying t = some .string) (hx : trS X = some x) (hy : trS Y = some y) (hr : RRel H M ρ a.tmps) (hw : WRel CR H M σ w)
    (h : evIdxS x y ρ σ = some r) : Sound P CR H M w (do pure (.value (← Instr.index t (a.eval X) (a.eval Y)))) r := by
  unfold evIdxS at h
  cases hs : ρ.src x with
  | none => simp [hs] at h
  | some v =>
    cases v with
    | str s =>
      simp only [hs] at h
      cases hsy : ρ.src y with
      | none => simp [hsy] at h
      | some q =>
        simp only [hsy] at h
        cases hn : asNat q with
        | none => simp [hn] at h
        | some i =>
          simp only [hn, nth_eq] at h
          cases hb : s.data.toList[i]? with
          | none => simp [hb] at h
          | some b =>
            simp only [hb, Option.some.injEq] at h; subst h
            have hp := trS_sound hx hr hs
            obtain ⟨k, hq⟩ := asNat_sound hn (trS_sound hy hr hsy)
            simp only [VRel] at hp
            have hb' : s[i]? = some b := by
              have h1 : i < s.data.toList.length := (List.getElem?_eq_some_iff.1 hb).1
              have h2 := (List.getElem?_eq_some_iff.1 hb).2
              have h3 : i < s.size := by simpa using h1
              rw [getElem?_pos s i h3]
              exact congrArg some h2
            refine Sound.pure (cv := .int .u8 b.toNat) hw ?_ (by simp only [VRel])
            rw [hp, hq]
            simp only [Instr.index, Sem.run_bind, asIntOf_int, Result.andThen_ok, runUnderlying hd]
            simp [hb']
    | _ => simp [hs] at h
theorem part_none {t : TypeId} {cs : Array Value} {off : Nat} {v : Value} (h : many? P t = some none) (hc : cs[off]? = some v) : (part t cs off).run P w = .ok v w := by
  simp [part, runIsAgg (many_none h), hc]
theorem part_some {t : TypeId} {cs : Array Value} {off n : Nat} (h : many? P t = some (some n)) : (part t cs off).run P w = .ok (.agg (cs.extract off (off + n))) w := by
  obtain ⟨h1, h2⟩ := many_some h
  simp [part, runIsAgg h1, runSizeOf h2]
theorem part_sound {t : TypeId} {cs : List PV} {vs : List Value} {off : Nat} {n : Option Nat} {v : PV} (hc : VRels H M cs vs) (hn : many? P t = some n)
    (h : partV cs off n = some v) : ∃ cv, (part t vs.toArray off).run P w = .ok cv w ∧ VRel H M v cv := by
  cases n with
  | none =>
    simp only [partV] at h
    have h := one_list (r := []) h
    obtain ⟨us, hl, hv, hg⟩ := hc.cellsAt h
    cases us with
    | nil => simp at hl
    | cons u us =>
      obtain ⟨hv, -⟩ := VRels.cons_iff.1 hv
      have := hg 0 (by omega)
      simp at this
      exact ⟨u, part_none hn (by simpa using this), hv⟩
  | some n =>
    simp only [partV] at h
    cases hc' : cellsAt cs off n with
    | none => simp [hc'] at h
    | some r =>
      simp only [hc', Option.some.injEq] at h; subst h
      obtain ⟨us, hl, hv, hg⟩ := hc.cellsAt hc'
      refine ⟨_, part_some hn, ?_⟩
      simp only [VRel]
      refine ⟨us, ?_, hv⟩
      congr 1
      apply Array.ext_getElem?
      intro j
      obtain ⟨x1, x2, rfl, hl1, hl2⟩ := cellsAt_eq hc'
      have hlen := hc.length
      simp at hlen
      by_cases hj : j < n
      · rw [Array.getElem?_extract]
        simp only [List.getElem?_toArray, List.size_toArray]
        rw [if_pos (by omega), hg j hj]
      · rw [Array.getElem?_extract]
        simp only [List.getElem?_toArray, List.size_toArray]
        rw [if_neg (by omega)]
        rw [List.getElem?_eq_none (by omega)]
theorem fldS {x : Src} {r : ORes} {X : Operand} {t : TypeId} {fs : Array Field} {f : Field} {i : Nat} {n : Option Nat} (hd : P.underlying t = some (.struct fs)) (hf : fs.toList[i]? = some f)
    (hn : many? P f.type = some n) (hx : trS X = some x) (hr : RRel H M ρ a.tmps) (hw : WRel CR H M σ w) (h : evFld f.offset n x ρ σ = some r) :
    Sound P CR H M w (do pure (.value (← Instr.field t (a.eval X) i))) r := by
  unfold evFld at h
  cases hs : ρ.src x with
  | none => simp [hs] at h
  | some p =>
    cases p with
    | agg cs =>
      simp only [hs] at h
      have hp := trS_sound hx hr hs
      simp only [VRel] at hp
      obtain ⟨vs, he, hv⟩ := hp
      have hf' : fs[i]? = some f := by rw [← hf]; simp
      cases hk : partV cs f.offset n with
      | none => simp [hk] at h
      | some v =>
        simp only [hk, Option.some.injEq] at h; subst h
        obtain ⟨cv, h1, h2⟩ := part_sound (P := P) (w := w) hv hn hk
        exact Sound.pure (cv := cv) hw (by simp [Instr.field, runUnderlying hd, hf', he, asAgg, h1]) h2
    | _ => simp [hs] at h
theorem idxAS {len esz : Nat} {n : Option Nat} {x y : Src} {r : ORes} {X Y : Operand} {t e : TypeId} (hd : P.underlying t = some (.array len e)) (hs' : sz? P e = some esz) (hn : many? P e = some n)
    (hx : trS X = some x) (hy : trS Y = some y) (hr : RRel H M ρ a.tmps) (hw : WRel CR H M σ w) (h : evIdxA len esz n x y ρ σ = some r) :
    Sound P CR H M w (do pure (.value (← Instr.index t (a.eval X) (a.eval Y)))) r := by
  unfold evIdxA at h
  cases hs : ρ.src x with
  | none => simp [hs] at h
  | some p =>
    cases p with
    | agg cs =>
      simp only [hs] at h
      cases hsy : ρ.src y with
      | none => simp [hsy] at h
      | some q =>
        simp only [hsy] at h
        cases hnn : asNat q with
        | none => simp [hnn] at h
        | some i =>
          simp only [hnn] at h
          cases hb : Nat.blt i len with
          | false => simp [hb] at h
          | true =>
            simp only [hb] at h
            have hi : i < len := by simpa using hb
            have hp := trS_sound hx hr hs
            obtain ⟨k, hq⟩ := asNat_sound hnn (trS_sound hy hr hsy)
            simp only [VRel] at hp
            obtain ⟨vs, he, hv⟩ := hp
            cases hk : partV cs (i * esz) n with
            | none => simp [hk] at h
            | some v =>
              simp only [hk, Option.some.injEq] at h; subst h
              obtain ⟨cv, h1, h2⟩ := part_sound (P := P) (w := w) hv hn hk
              refine Sound.pure (cv := cv) hw ?_ h2
              have hi' : (0 : Int) ≤ (i : Int) ∧ (i : Int) < len := by omega
              rw [he, hq]
              simp only [Instr.index, Sem.run_bind, asIntOf_int, Result.andThen_ok, runUnderlying hd]
              simp [runSizeOf hs', h1, hi]
    | _ => simp [hs] at h
theorem extractS {x : Src} {r : ORes} {X : Operand} {i : Nat} (hx : trS X = some x) (hr : RRel H M ρ a.tmps) (hw : WRel CR H M σ w) (h : evExtract x i ρ σ = some r) :
    Sound P CR H M w (do pure (.value (← Instr.extract (a.eval X) i))) r := by
  unfold evExtract at h
  cases hs : ρ.src x with
  | none => simp [hs] at h
  | some p =>
    cases p with
    | tup cs =>
      simp only [hs] at h
      have hp := trS_sound hx hr hs
      simp only [VRel] at hp
      obtain ⟨vs, he, hv⟩ := hp
      split at h
      · rename_i v hc
        simp only [Option.some.injEq] at h; subst h
        obtain ⟨us, hl, hv', hg⟩ := hv.cellsAt hc
        cases us with
        | nil => simp at hl
        | cons u us =>
          obtain ⟨hv', -⟩ := VRels.cons_iff.1 hv'
          have := hg 0 (by omega)
          simp at this
          exact Sound.pure (cv := u) hw (by simp [Instr.extract, he, this]) hv'
      · simp at h
    | _ => simp [hs] at h
end Am
/- What an operation of the abstract machine says of the model's: slices of slices, of strings and of arrays. -/
namespace Am
open Go
variable {CR : Code → ACode → Prop} {H : Hc} {M M' : Mu} {σ σ' : St} {w : World} {P : Program} {ρ : Regs} {a : Act}

def ORelN (v : Option Value) (n : Option Nat) : Prop :=
  match n with
  | none => v = none
  | some n => ∃ k, v = some (.int k n)
theorem optS_sound {x : Option Src} {X : Option Operand} {n : Option Nat} (hx : trO X = some x) (hr : RRel H M ρ a.tmps) (h : optS ρ x = some n) : ORelN (X.map a.eval) n := by
  cases X with
  | none => simp [trO] at hx; subst hx; simp [optS] at h; subst h; rfl
  | some X =>
    simp only [trO, Option.map_eq_some_iff] at hx
    obtain ⟨s, hs, rfl⟩ := hx
    unfold optS at h
    cases hv : ρ.src s with
    | none => simp [hv] at h
    | some v =>
      cases hn : asNat v with
      | none => simp [hv, hn] at h
      | some k =>
        simp only [hv, hn, Option.some.injEq] at h; subst h
        obtain ⟨kk, hq⟩ := asNat_sound hn (trS_sound hs hr hv)
        exact ⟨kk, by simp [hq]⟩
theorem bound_run {k : IntKind} {n y : Nat} {c : BoundsCode} (h : n ≤ y) : (Instr.sliceBound (.int k n) y c).run P w = .ok n w := by
  simp only [Instr.sliceBound, Sem.run_bind, asIntOf_int, Result.andThen_ok]
  rw [if_pos (by omega)]; simp
theorem bounds_run {isSlice : Bool} {len cap : Nat} {lo hi mx : Option Value} {l h m : Option Nat} (hl : ORelN lo l) (hh : ORelN hi h) (hm : ORelN mx m)
    (h1 : l.getD 0 ≤ h.getD len) (h2 : h.getD len ≤ m.getD cap) (h3 : m.getD cap ≤ cap) (h4 : (m.isSome && !h.isSome) = false) :
    (Instr.sliceBounds isSlice len cap lo hi mx).run P w = .ok (l.getD 0, h.getD len, m.getD cap) w := by
  cases m with
  | none =>
    simp only [ORelN] at hm; subst hm
    cases h with
    | none =>
      simp only [ORelN] at hh; subst hh
      cases l with
      | none => simp only [ORelN] at hl; subst hl; simp [Instr.sliceBounds]
      | some l =>
        simp only [ORelN] at hl; obtain ⟨k, rfl⟩ := hl
        simp at h1 h2
        simp [Instr.sliceBounds, bound_run h1]
    | some h =>
      simp only [ORelN] at hh; obtain ⟨kh, rfl⟩ := hh
      simp at h1 h2
      cases l with
      | none => simp only [ORelN] at hl; subst hl; simp [Instr.sliceBounds, bound_run h2]
      | some l =>
        simp only [ORelN] at hl; obtain ⟨k, rfl⟩ := hl
        simp at h1
        simp [Instr.sliceBounds, bound_run h2, bound_run h1]
  | some m =>
    simp only [ORelN] at hm; obtain ⟨km, rfl⟩ := hm
    cases h with
    | none => simp at h4
    | some h =>
      simp only [ORelN] at hh; obtain ⟨kh, rfl⟩ := hh
      simp at h1 h2 h3
      cases l with
      | none => simp only [ORelN] at hl; subst hl; simp [Instr.sliceBounds, bound_run h2, bound_run h3]
      | some l =>
        simp only [ORelN] at hl; obtain ⟨k, rfl⟩ := hl
        simp at h1
        simp [Instr.sliceBounds, bound_run h2, bound_run h1, bound_run h3]
/-- A slice of a slice, in the model. -/
theorem slice_run {t e : TypeId} {esz : Nat} {ad : Option Addr} {len cp : Nat} {lo hi mx : Option Value} {l h m : Option Nat} (hd : P.underlying t = some (.slice e)) (hs : sz? P e = some esz)
    (hl : ORelN lo l) (hh : ORelN hi h) (hm : ORelN mx m) (h1 : l.getD 0 ≤ h.getD len) (h2 : h.getD len ≤ m.getD cp) (h3 : m.getD cp ≤ cp) (h4 : (m.isSome && !h.isSome) = false) :
    (Instr.sliceAt t (.slice ad len cp) lo hi mx).run P w =
      .ok (.slice (if m.getD cp = l.getD 0 then ad else ad.map (·.add (l.getD 0 * esz))) (h.getD len - l.getD 0) (m.getD cp - l.getD 0)) w := by
  simp only [Instr.sliceAt, Instr.slice, Sem.run_bind, runUnderlying hd, Result.andThen_ok, bounds_run hl hh hm h1 h2 h3 h4, runSizeOf hs, Sem.run_pure]
theorem trSl_str {t : TypeId} (h : trSl P t = some .str) : P.underlying t = some .string := by
  unfold trSl at h
  split at h
  · assumption
  · rename_i e he; cases hs : sz? P e <;> simp [hs] at h
  · rename_i n e he; cases hs : sz? P e <;> simp [hs] at h
  · rename_i b hb; cases ha : arrOf P b with
    | none => simp [ha] at h
    | some p => obtain ⟨n, e⟩ := p; cases hs : sz? P e <;> simp [ha, hs] at h
  · simp at h
theorem trSl_slice {t : TypeId} {esz : Nat} (h : trSl P t = some (.slice esz)) : ∃ e, P.underlying t = some (.slice e) ∧ sz? P e = some esz := by
  unfold trSl at h
  split at h
  · simp at h
  · rename_i e he; cases hs : sz? P e <;> simp [hs] at h; subst h; exact ⟨e, he, hs⟩
  · rename_i n e he; cases hs : sz? P e <;> simp [hs] at h
  · rename_i b hb; cases ha : arrOf P b with
    | none => simp [ha] at h
    | some p => obtain ⟨n, e⟩ := p; cases hs : sz? P e <;> simp [ha, hs] at h
  · simp at h
theorem trSl_arr {t : TypeId} {n esz : Nat} (h : trSl P t = some (.arr n esz)) :
    ∃ e, sz? P e = some esz ∧ (P.underlying t = some (.array n e) ∨ ∃ b, P.underlying t = some (.pointer b) ∧ P.underlying b = some (.array n e)) := by
  unfold trSl at h
  split at h
  · simp at h
  · rename_i e he; cases hs : sz? P e <;> simp [hs] at h
  · rename_i n e he; cases hs : sz? P e <;> simp [hs] at h; obtain ⟨rfl, rfl⟩ := h; exact ⟨e, hs, .inl he⟩
  · rename_i b hb; cases ha : arrOf P b with
    | none => simp [ha] at h
    | some p =>
      obtain ⟨n, e⟩ := p
      cases hs : sz? P e <;> simp [ha, hs] at h
      obtain ⟨rfl, rfl⟩ := h
      refine ⟨e, hs, .inr ⟨b, hb, ?_⟩⟩
      unfold arrOf at ha
      split at ha
      · simp at ha; obtain ⟨rfl, rfl⟩ := ha; assumption
      · simp at ha
  · simp at h
theorem sliceV_sound {k : SlK} {t : TypeId} {x : PV} {X : Value} {r : PV} {lo hi mx : Option Value} {l h m : Option Nat} (hw : WRel CR H M σ w) (hk : trSl P t = some k)
    (hx : VRel H M x X) (hl : ORelN lo l) (hh : ORelN hi h) (hm : ORelN mx m) (h4 : (m.isSome && !h.isSome) = false) (hv : sliceV σ k x (l.getD 0) h m = some r) :
    ∃ cv, (Instr.sliceAt t X lo hi mx).run P w = .ok cv w ∧ VRel H M r cv := by
  unfold sliceV at hv
  split at hv
  · -- a string
    rename_i s
    have ht := trSl_str hk
    cases m with
    | some m => simp at hv
    | none =>
      simp only at hv
      split at hv
      · rename_i hb
        rw [Bool.and_eq_true] at hb
        have b1 := Nat.le_of_ble_eq_true hb.1
        have b2 := Nat.le_of_ble_eq_true hb.2
        simp only [Option.some.injEq] at hv; subst hv
        simp only [VRel] at hx; subst hx
        simp only [ORelN] at hm; subst hm
        refine ⟨.string (s.extract (l.getD 0) (h.getD s.size)), ?_, ?_⟩
        · have hb := bounds_run (P := P) (w := w) (isSlice := false) (len := s.size) (cap := s.size) hl hh (m := none) rfl b1 (by simpa using b2) (by simp) (by simp)
          simp only [Instr.sliceAt, Instr.slice, Sem.run_bind, runUnderlying ht, Result.andThen_ok]
          simp [hb]
        · simp only [VRel]
          congr 1
          apply ByteArray.ext
          apply Array.ext'
          simp [ByteArray.data_extract, List.extract_eq_drop_take]
      · simp at hv
  · -- a nil slice
    rename_i esz
    obtain ⟨e, ht, hs⟩ := trSl_slice hk
    simp only [VRel] at hx; subst hx
    split at hv
    · rename_i e1 e2 e3
      simp only [Option.some.injEq] at hv; subst hv
      refine ⟨_, slice_run (ad := none) (len := 0) (cp := 0) ht hs hl hh hm (by omega) (by omega) (by omega) h4, ?_⟩
      simp only [VRel]
      rw [e1, e2, e3]; rfl
    · simp at hv
  · -- a slice of the store
    rename_i esz b off len esz' cap
    obtain ⟨e, ht, hs⟩ := trSl_slice hk
    simp only [VRel] at hx
    obtain ⟨hb, ad, cp, rfl, x1, x2, x3, x4⟩ := hx
    split at hv
    · simp at hv
    · rename_i hbb
      rw [Bool.and_eq_true] at hbb
      have he := Nat.eq_of_beq_eq_true hbb.1
      subst he
      -- the end, by the model's own measure
      have fin : ∀ (cap' : Option Nat), l.getD 0 ≤ h.getD len → h.getD len ≤ m.getD cp → m.getD cp ≤ cp → (∀ k, cap' = some k → m.getD cp - l.getD 0 = k) → (cap' = none → m = none ∧ cap = none) →
          r = .slice b (off + l.getD 0 * esz) (h.getD len - l.getD 0) esz cap' → ∃ cv, (Instr.sliceAt t (.slice (some ad) len cp) lo hi mx).run P w = .ok cv w ∧ VRel H M r cv := by
        intro cap' g1 g2 g3 g4 g5 g6
        refine ⟨_, slice_run ht hs hl hh hm g1 g2 g3 h4, ?_⟩
        subst g6
        simp only [VRel]
        refine ⟨hb, if m.getD cp = l.getD 0 then ad else ad.add (l.getD 0 * esz), m.getD cp - l.getD 0, ?_, by omega, x2, g4, ?_⟩
        · split <;> rfl
        · intro c n hc
          obtain ⟨y1, y2, y3⟩ := x4 c n hc
          have hmul : l.getD 0 * esz + (m.getD cp - l.getD 0) * esz = m.getD cp * esz := by
            rw [← Nat.add_mul]; congr 1; omega
          have hle : m.getD cp * esz ≤ cp * esz := Nat.mul_le_mul_right _ g3
          refine ⟨?_, by omega, ?_⟩
          · by_cases hz : m.getD cp = l.getD 0
            · left; omega
            · right
              rw [if_neg hz]
              rcases y1 with y1 | y1
              · omega
              · rw [y1, add_none rfl]
          · intro hn
            obtain ⟨q1, q2⟩ := g5 hn
            subst q1
            have := y3 q2
            simp at hmul ⊢
            omega
      have known : ∀ (cs : List PV) (op : Bool) (k : Nat), σ.get b = some (.cells cs op) → cap = none → off + k * esz ≤ cs.length → k ≤ cp := by
        intro cs op k hg hc hk'
        obtain ⟨c, n, hM, hO⟩ := hw.obj b _ hg
        obtain ⟨cl, e', fr, ho, hlen, hop, hfr, c1, c2, rfl, hrel⟩ := hO
        obtain ⟨y1, y2, y3⟩ := x4 c n hM
        have y3 := y3 hc
        have := hrel.length
        simp at hlen
        have hkc : k * esz ≤ cp * esz := by omega
        exact Nat.le_of_mul_le_mul_right hkc x2
      cases cap with
      | some c =>
        have hcp := x3 c rfl
        subst hcp
        cases m with
        | none =>
          simp only at hv
          split at hv
          · rename_i hq
            rw [Bool.and_eq_true] at hq
            simp only [Option.some.injEq] at hv
            exact fin _ (Nat.le_of_ble_eq_true hq.1) (by simpa using Nat.le_of_ble_eq_true hq.2) (by simp) (fun k hk => by simp at hk ⊢; omega) (by simp) hv.symm
          · simp at hv
        | some m =>
          simp only at hv
          split at hv
          · rename_i hq
            simp only [Bool.and_eq_true] at hq
            simp only [Option.some.injEq] at hv
            exact fin _ (Nat.le_of_ble_eq_true hq.1.1) (by simpa using Nat.le_of_ble_eq_true hq.1.2) (by simpa using Nat.le_of_ble_eq_true hq.2) (fun k hk => by simp at hk ⊢; omega) (by simp) hv.symm
          · simp at hv
      | none =>
        cases m with
        | none =>
          simp only at hv
          split at hv
          · rename_i hq
            rw [Bool.and_eq_true, Bool.or_eq_true] at hq
            simp only [Option.some.injEq] at hv
            have : h.getD len ≤ cp := by
              rcases hq.2 with hq2 | hq2
              · have := Nat.le_of_ble_eq_true hq2; omega
              · split at hq2
                · rename_i cs op hg; exact known cs op _ hg rfl (Nat.le_of_ble_eq_true hq2)
                · simp at hq2
            exact fin none (Nat.le_of_ble_eq_true hq.1) (by simpa using this) (by simp) (by simp) (by simp) hv.symm
          · simp at hv
        | some m =>
          simp only at hv
          split at hv
          · rename_i hq
            simp only [Bool.and_eq_true, Bool.or_eq_true] at hq
            simp only [Option.some.injEq] at hv
            have : m ≤ cp := by
              rcases hq.2 with hq2 | hq2
              · have := Nat.le_of_ble_eq_true hq2; omega
              · split at hq2
                · rename_i cs op hg; exact known cs op _ hg rfl (Nat.le_of_ble_eq_true hq2)
                · simp at hq2
            exact fin _ (Nat.le_of_ble_eq_true hq.1.1) (by simpa using Nat.le_of_ble_eq_true hq.1.2) (by simpa using this) (fun k hk => by simp at hk ⊢; omega) (by simp) hv.symm
          · simp at hv
  · -- an immutable slice
    rename_i esz cs len esz' cap
    obtain ⟨e, ht, hs⟩ := trSl_slice hk
    simp only [VRel] at hx
    obtain ⟨ad, cp, vs, rfl, x1, x2, x3, x4, x5, x6⟩ := hx
    split at hv
    · simp at hv
    · rename_i hbb
      rw [Bool.and_eq_true] at hbb
      have he := Nat.eq_of_beq_eq_true hbb.1
      subst he
      have fin : ∀ (cap' : Option Nat), l.getD 0 ≤ h.getD len → h.getD len ≤ len → h.getD len ≤ m.getD cp → m.getD cp ≤ cp → (∀ k, cap' = some k → m.getD cp - l.getD 0 = k) →
          r = .islice (cs.drop (l.getD 0 * esz)) (h.getD len - l.getD 0) esz cap' → ∃ cv, (Instr.sliceAt t (.slice (some ad) len cp) lo hi mx).run P w = .ok cv w ∧ VRel H M r cv := by
        intro cap' g1 g0 g2 g3 g4 g6
        refine ⟨_, slice_run ht hs hl hh hm g1 g2 g3 h4, ?_⟩
        subst g6
        simp only [VRel]
        have hmul : l.getD 0 * esz + (h.getD len - l.getD 0) * esz = h.getD len * esz := by
          rw [← Nat.add_mul]; congr 1; omega
        have hle : h.getD len * esz ≤ len * esz := Nat.mul_le_mul_right _ g0
        obtain ⟨u1, u2, hu, hu1, hu2⟩ := VRels.split (xs := cs.take (l.getD 0 * esz)) (ys := cs.drop (l.getD 0 * esz)) (by rw [List.take_append_drop]; exact x6)
        refine ⟨if m.getD cp = l.getD 0 then ad else ad.add (l.getD 0 * esz), m.getD cp - l.getD 0, u2, ?_, by omega, x2, g4, by rw [List.length_drop]; omega, ?_, hu2⟩
        · split <;> rfl
        · by_cases hz : m.getD cp = l.getD 0
          · left; omega
          · right
            rw [if_neg hz]
            rcases x5 with x5 | ⟨x5, x7⟩
            · omega
            · rw [add_none x5]
              refine ⟨rfl, fun j x hj => ?_⟩
              have e1 := hu1.length
              rw [List.length_take] at e1
              have := x7 (u1.length + j) x (by rw [hu, List.getElem?_append_right (by omega)]; simpa using hj)
              rw [e1] at this
              rw [Nat.min_eq_left (by omega)] at this
              simpa [Nat.add_assoc] using this
      cases m with
      | none =>
        simp only at hv
        split at hv
        · rename_i hq
          rw [Bool.and_eq_true] at hq
          simp only [Option.some.injEq] at hv
          have q2 := Nat.le_of_ble_eq_true hq.2
          refine fin (cap.map (· - l.getD 0)) (Nat.le_of_ble_eq_true hq.1) q2 (by simp; omega) (by simp) ?_ hv.symm
          intro k hk
          cases cap with
          | none => simp at hk
          | some c => simp at hk; have := x3 c rfl; simp; omega
        · simp at hv
      | some m =>
        simp only at hv
        split at hv
        · rename_i hq
          simp only [Bool.and_eq_true] at hq
          simp only [Option.some.injEq] at hv
          have q1 := Nat.le_of_ble_eq_true hq.1.1
          have q2 := Nat.le_of_ble_eq_true hq.1.2
          have q3 := Nat.le_of_ble_eq_true hq.2
          exact fin _ q1 (by omega) (by simpa using q2) (by simp; omega) (fun k hk => by simp at hk ⊢; omega) hv.symm
        · simp at hv
  · -- an array behind a pointer
    rename_i n esz b off
    simp only [VRel] at hx
    obtain ⟨hb, ad, rfl, x4⟩ := hx
    simp only at hv
    split at hv
    · rename_i hq
      simp only [Bool.and_eq_true] at hq
      split at hv
      · rename_i cs op hg
        split at hv
        · rename_i hcs
          simp only [Option.some.injEq] at hv; subst hv
          have q1 := Nat.le_of_ble_eq_true hq.1.1.1
          have q2 := Nat.le_of_ble_eq_true hq.1.1.2
          have q3 := Nat.le_of_ble_eq_true hq.1.2
          have q4 : 0 < esz := by simpa using hq.2
          have q5 := Nat.le_of_ble_eq_true hcs
          have hbr := bounds_run (P := P) (w := w) (isSlice := false) (len := n) (cap := n) hl hh hm q1 q2 q3 h4
          obtain ⟨e, hs, hty⟩ := trSl_arr hk
          have hrun : (Instr.sliceAt t (.pointer (some ad)) lo hi mx).run P w = .ok (.slice (some (if m.getD n = l.getD 0 then ad else ad.add (l.getD 0 * esz))) (h.getD n - l.getD 0) (m.getD n - l.getD 0)) w := by
            rcases hty with he | ⟨arr, he, he2⟩
            · simp only [Instr.sliceAt, Sem.run_bind, runUnderlying he, Result.andThen_ok, Instr.sureAddr, Sem.run_pure, hbr, runSizeOf hs]
            · simp only [Instr.sliceAt, Instr.slice, Sem.run_bind, runUnderlying he, runUnderlying he2, Result.andThen_ok, asAddr, Sem.run_pure, hbr, runSizeOf hs]
          refine ⟨_, hrun, ?_⟩
          simp only [VRel]
          refine ⟨hb, _, _, rfl, by omega, q4, fun k hk => by simpa using hk, ?_⟩
          intro c n' hc
          obtain ⟨c2, n2, hM, hO⟩ := hw.obj b _ hg
          rw [hc] at hM; cases hM
          obtain ⟨cl, e', fr, ho, hlen, hop, hfr, c1, c2, rfl, hrel⟩ := hO
          have := hrel.length
          simp at hlen
          have hmul : l.getD 0 * esz + (m.getD n - l.getD 0) * esz = m.getD n * esz := by
            rw [← Nat.add_mul]; congr 1; omega
          have hle : m.getD n * esz ≤ n * esz := Nat.mul_le_mul_right _ q3
          refine ⟨?_, by omega, by simp⟩
          by_cases hz : m.getD n = l.getD 0
          · left; omega
          · right
            rw [if_neg hz, x4 c n' hc, add_none rfl]
        · simp at hv
      · simp at hv
    · simp at hv
  · simp at hv
end Am
/- What an operation of the abstract machine says of the model's: append. -/
namespace Am
open Go
variable {CR : Code → ACode → Prop} {H : Hc} {M M' : Mu} {σ σ' : St} {w : World} {P : Program} {ρ : Regs} {a : Act}

theorem slicS {k : SlK} {x : Src} {lo hi mx : Option Src} {r : ORes} {X : Operand} {LO HI MX : Option Operand} {t : TypeId} (hk : trSl P t = some k) (hx : trS X = some x)
    (hlo : trO LO = some lo) (hhi : trO HI = some hi) (hmx : trO MX = some mx) (hr : RRel H M ρ a.tmps) (hw : WRel CR H M σ w) (h : evSlic k x lo hi mx ρ σ = some r) :
    Sound P CR H M w (do pure (.value (← Instr.sliceAt t (a.eval X) (LO.map a.eval) (HI.map a.eval) (MX.map a.eval)))) r := by
  unfold evSlic at h
  cases hs : ρ.src x with
  | none => simp [hs] at h
  | some v =>
    cases h1 : optS ρ lo with
    | none => simp [hs, h1] at h
    | some l =>
      cases h2 : optS ρ hi with
      | none => simp [hs, h1, h2] at h
      | some hh =>
        cases h3 : optS ρ mx with
        | none => simp [hs, h1, h2, h3] at h
        | some m =>
          simp only [hs, h1, h2, h3] at h
          cases h4 : m.isSome && !hh.isSome with
          | true => simp only [h4, reduceCtorEq] at h
          | false =>
            simp only [h4] at h
            cases h5 : sliceV σ k v (l.getD 0) hh m with
            | none => simp [h5] at h
            | some r' =>
              simp only [h5, Option.some.injEq] at h; subst h
              obtain ⟨cv, h6, h7⟩ := sliceV_sound hw hk (trS_sound hx hr hs) (optS_sound hlo hr h1) (optS_sound hhi hr h2) (optS_sound hmx hr h3) h4 h5
              exact Sound.pure (cv := cv) hw (by simp [h6]) h7
/-- The cells of a slice's first elements, or of a string's first bytes. -/
theorem sliceCells_sound {v : PV} {cv : Value} {n m size : Nat} {cs : List PV} (hw : WRel CR H M σ w) (hv : VRel H M v cv) (hl : lenOf v = some m) (hn : n ≤ m) (h : sliceCells σ n v = some cs)
    (hsz : cs.length = n * size) : ∃ vs, (Builtin.firstCells size n cv).run P w = .ok vs.toArray w ∧ VRels H M cs vs ∧ ∀ w', (∀ b, w'.cell? b = w.cell? b) → (Builtin.firstCells size n cv).run P w' = .ok vs.toArray w' := by
  cases v <;> simp only [lenOf, reduceCtorEq, Option.some.injEq] at hl
  case str s =>
    subst hl
    simp only [VRel] at hv; subst hv
    simp only [sliceCells] at h
    have : Nat.ble n s.size = true := Nat.ble_eq_true_of_le hn
    rw [this] at h
    simp only [Option.some.injEq] at h; subst h
    have key : ∀ w, (Builtin.firstCells size n (.string s)).run P w = .ok ((s.data.toList.take n).map fun b => Value.int .u8 b.toNat).toArray w := by
      intro w
      simp only [Builtin.firstCells, Sem.run_pure]
      congr 1
      apply Array.ext'
      simp [ByteArray.data_extract, List.extract_eq_drop_take]
    refine ⟨(s.data.toList.take n).map fun b => .int .u8 b.toNat, key w, ?_, fun w' _ => key w'⟩
    clear hsz hn this key
    induction s.data.toList.take n with
    | nil => exact VRels.nil_iff.2 rfl
    | cons b l ih => exact VRels.cons_iff.2 ⟨by simp only [VRel], ih⟩
  case nils =>
    subst hl
    simp only [VRel] at hv; subst hv
    have hn0 : n = 0 := by omega
    subst hn0
    simp only [sliceCells, Option.some.injEq] at h; subst h
    exact ⟨[], rfl, VRels.nil_iff.2 rfl, fun _ _ => rfl⟩
  case slice b off len esz cap =>
    subst hl
    simp only [sliceCells] at h
    cases hg : σ.get b with
    | none => simp [hg] at h
    | some o =>
      cases o with
      | cells c0 op =>
        simp only [hg] at h
        have hrd : readPtr σ (.ptr b off) (n * esz) = some cs := by simp only [readPtr, hg]; exact h
        simp only [VRel] at hv
        obtain ⟨hb, ad, cp, rfl, x1, x2, x3, x4⟩ := hv
        have hp : VRel H M (.ptr b off) (.pointer (some ⟨ad.block, ad.off, ad.spot⟩)) ∨ cp = 0 := by
          by_cases hz : cp = 0
          · exact .inr hz
          · left
            simp only [VRel]
            refine ⟨hb, _, rfl, fun c n hc => ?_⟩
            obtain ⟨y1, -, -⟩ := x4 c n hc
            rcases y1 with y1 | y1
            · exact absurd y1 hz
            · rw [y1]
        obtain ⟨x1', x2', rfl', hl1, hl2⟩ := cellsAt_eq h
        have hcs : n * esz = n * size := by omega
        rcases hp with hp | hz
        · obtain ⟨a', vs, he, hsp, hlen, hrel, hc⟩ := readPtr_sound hw hp hrd
          cases he
          have key : ∀ w', (∀ b, w'.cell? b = w.cell? b) → (Builtin.firstCells size n (.slice (some ad) len cp)).run P w' = .ok vs.toArray w' := by
            intro w' hw'
            simp only [Builtin.firstCells]
            rw [← hcs]
            exact runLoadCells hsp hlen fun j v hj => by rw [hw']; exact hc j v hj
          exact ⟨vs, key w fun _ => rfl, hrel, key⟩
        · have hn0 : n = 0 := by omega
          subst hn0
          simp at hsz
          subst hsz
          exact ⟨[], by simp [Builtin.firstCells, loadCells, loadCellsFrom], VRels.nil_iff.2 rfl, fun _ _ => by simp [Builtin.firstCells, loadCells, loadCellsFrom]⟩
      | _ => simp [hg] at h
  case islice c0 len esz cap =>
    subst hl
    simp only [sliceCells] at h
    simp only [VRel] at hv
    obtain ⟨ad, cp, vs0, rfl, x1, x2, x3, x4, x5, x6⟩ := hv
    obtain ⟨x1', x2', rfl', hl1, hl2⟩ := cellsAt_eq h
    have hcs : n * esz = n * size := by omega
    rcases x5 with hz | ⟨hsp, himm⟩
    · have hn0 : n = 0 := by omega
      subst hn0
      simp at hsz
      subst hsz
      exact ⟨[], by simp [Builtin.firstCells, loadCells, loadCellsFrom], VRels.nil_iff.2 rfl, fun _ _ => by simp [Builtin.firstCells, loadCells, loadCellsFrom]⟩
    · have hrd : readPtr σ (.iptr c0 0) (n * esz) = some cs := by simp only [readPtr]; exact h
      have hp : VRel H M (.iptr c0 0) (.pointer (some ⟨ad.block, ad.off + 0, none⟩)) := by
        simp only [VRel]; exact ⟨ad.block, ad.off, vs0, rfl, himm, x6⟩
      obtain ⟨a', vs, he, hsp', hlen, hrel, hc⟩ := readPtr_sound hw hp hrd
      cases he
      have key : ∀ w', (∀ b, w'.cell? b = w.cell? b) → (Builtin.firstCells size n (.slice (some ad) len cp)).run P w' = .ok vs.toArray w' := by
        intro w' hw'
        simp only [Builtin.firstCells]
        rw [← hcs]
        refine runLoadCells hsp hlen fun j v hj => ?_
        rw [hw']
        have := hc j v hj
        simpa using this
      exact ⟨vs, key w fun _ => rfl, hrel, key⟩
theorem growBy_le (need : Nat) : ∀ (r c : Nat), c ≤ need + (need + 768) / 4 → Builtin.growBy need r c ≤ need + (need + 768) / 4
  | 0, c, h => h
  | r + 1, c, h => by
    unfold Builtin.growBy
    split
    · exact h
    · exact growBy_le need r _ (by omega)
theorem next_room {need cap bytes : Nat} (h : roomy need bytes = true) (hc : cap < need) : ¬ Builtin.nextslicecap need cap * bytes > 2 ^ 48 := by
  unfold roomy at h
  rw [Bool.and_eq_true] at h
  have h1 := Nat.le_of_ble_eq_true h.1
  have h2 := Nat.le_of_ble_eq_true h.2
  have key : Builtin.nextslicecap need cap ≤ 2 * need ∨ (256 ≤ need ∧ Builtin.nextslicecap need cap ≤ need + (need + 768) / 4) := by
    unfold Builtin.nextslicecap
    split
    · left; omega
    · split
      · left; omega
      · right; exact ⟨by omega, growBy_le need 4 cap (by omega)⟩
  rcases key with k | ⟨k1, k2⟩
  · have := Nat.mul_le_mul_right bytes k
    rw [Nat.mul_assoc] at this
    omega
  · have e1 := Nat.mul_le_mul_right bytes k2
    have e2 : 256 * bytes ≤ need * bytes := Nat.mul_le_mul_right bytes k1
    have e3 : (need + (need + 768) / 4) * bytes ≤ (3 * need) * bytes := Nat.mul_le_mul_right bytes (by omega)
    rw [Nat.mul_assoc] at e3
    omega
theorem zeroCells_eq (z : Array Value) (n : Nat) : ∃ l : List Value, Builtin.zeroCells z n = l.toArray ∧ l.length = n * z.size := by
  refine ⟨(Builtin.zeroCells z n).toList, by simp, ?_⟩
  simp [Builtin.zeroCells]
/-- The cells are stored behind a slice's own; a nil slice takes none. -/
def StRoom (P : Program) (ad : Option Addr) (k : Nat) (new : List Value) (w w' : World) : Prop :=
  match ad with
  | some b => (storeCells (b.add k) new).run P w = .ok () w'
  | none => w' = w
/-- append's run: there is room. -/
theorem append_room {t u e : TypeId} {esz n : Nat} {ty : TypeId} {ad : Option Addr} {sLen sCap : Nat} {xv : Value} {new : List Value} {w' : World}
    (hd : P.underlying t = some (.slice e)) (hs : sz? P e = some esz) (hu : ∃ d, P.underlying u = some d ∧ ∀ k, d ≠ .int k) (hl : (Builtin.lenOf xv).run P w = .ok n w)
    (hf : (Builtin.firstCells esz n xv).run P w = .ok new.toArray w) (hroom : sLen + n ≤ sCap)
    (hst : StRoom P ad (sLen * esz) new w w') :
    (Builtin.append_ #[t, u] ty #[.slice ad sLen sCap, xv]).run P w = .ok (.slice ad (sLen + n) sCap) w' := by
  obtain ⟨d, hu, hui⟩ := hu
  have hz : (match d with | .int _ => true | _ => false) = false := by cases d <;> first | rfl | exact absurd rfl (hui _)
  simp only [Builtin.append_, List.getElem?_toArray, List.getElem?_cons_zero, List.getElem?_cons_succ, Sem.run_bind, runUnderlying hd, Result.andThen_ok, runSizeOf hs, runUnderlying hu, Sem.run_pure]
  simp only [Bool.false_eq_true, if_false, Sem.run_bind, hl, Result.andThen_ok]
  rw [if_pos hroom]
  simp only [Bool.not_false, if_true, Sem.run_bind, hf, Result.andThen_ok]
  cases ad with
  | none => simp only [StRoom] at hst; subst hst; rfl
  | some b => simp only [StRoom] at hst; simp only [Sem.run_bind, hst, Result.andThen_ok, Sem.run_pure]
/-- append's run: new memory is made. -/
theorem append_grows {t u e : TypeId} {esz n bts : Nat} {ty : TypeId} {ad : Option Addr} {sLen sCap : Nat} {xv z : Value} {old new : List Value}
    (hd : P.underlying t = some (.slice e)) (hs : sz? P e = some esz) (hb : bytes? P e = some bts) (hz : zero? P e = some z) (hu : ∃ d, P.underlying u = some d ∧ ∀ k, d ≠ .int k)
    (hl : (Builtin.lenOf xv).run P w = .ok n w)
    (hf : (Builtin.firstCells esz n xv).run P { w with drawn := w.drawn + 1 } = .ok new.toArray { w with drawn := w.drawn + 1 })
    (ho : (Builtin.firstCells esz sLen (.slice ad sLen sCap)).run P { w with drawn := w.drawn + 1 } = .ok old.toArray { w with drawn := w.drawn + 1 })
    (hroom : sCap < sLen + n) (hr : roomy (sLen + n) bts = true) :
    ∃ cp rest, sLen + n ≤ cp ∧ rest.length = (cp - (sLen + n)) * z.cells.size ∧
      (Builtin.append_ #[t, u] ty #[.slice ad sLen sCap, xv]).run P w = .ok (.slice (some ⟨w.heap.size, 0, none⟩) (sLen + n) cp) { w with drawn := w.drawn + 1, heap := w.heap.push (.cells (old ++ new ++ rest).toArray e) } := by
  obtain ⟨d, hu, hui⟩ := hu
  have hz' : (match d with | .int _ => true | _ => false) = false := by cases d <;> first | rfl | exact absurd rfl (hui _)
  have hb' : ∃ i, P.info? e = some i ∧ i.bytes = bts := by simpa [bytes?] using hb
  obtain ⟨i, hi, hib⟩ := hb'
  have hmax : ¬ (((sLen + n : Nat) : Int) > IntKind.i64.max ∧ (False ∨ bts = 0)) := by
    rintro ⟨h1, -⟩
    unfold roomy at hr
    rw [Bool.and_eq_true] at hr
    have := Nat.le_of_ble_eq_true hr.2
    simp [IntKind.max, IntKind.signed, IntKind.bits] at h1
    omega
  have hnext := next_room hr hroom
  let q : Question := .appendCap (sLen + n) sCap e
  let cp := q.cut (w.tape w.drawn q)
  have hcp : sLen + n ≤ cp := by simp only [cp, q, Question.cut]; omega
  obtain ⟨rest, hrest, hrl⟩ := zeroCells_eq z.cells (cp - (sLen + n))
  refine ⟨cp, rest, hcp, hrl, ?_⟩
  simp only [Builtin.append_, List.getElem?_toArray, List.getElem?_cons_zero, List.getElem?_cons_succ, Sem.run_bind, runUnderlying hd, Result.andThen_ok, runSizeOf hs, runUnderlying hu, Sem.run_pure, hz']
  simp only [Bool.false_eq_true, if_false, Sem.run_bind, hl, Result.andThen_ok]
  rw [if_neg (by omega)]
  simp only [Sem.run_bind, runTypeInfo hi, Result.andThen_ok, hib]
  rw [if_neg hmax]
  simp only [Sem.run_bind, runTypeInfo hi, Result.andThen_ok, hib]
  rw [if_neg hnext]
  have hch : (choose (.appendCap (sLen + n) sCap e)).run P w = .ok cp { w with drawn := w.drawn + 1 } := by
    simp only [run_choose, Question.forced, Bool.false_eq_true, if_false]; rfl
  simp only [Sem.run_bind, hch, Result.andThen_ok, runTypeInfo hi, run_askRoom, ho, Bool.not_false, if_true, hf, runZeroValue hz, hrest, newRow_run, Sem.run_pure]
  simp
/-- append(s, make([]T, n)...): there is room. -/
theorem appendN_room {t u e : TypeId} {esz n : Nat} {ty : TypeId} {ad : Option Addr} {sLen sCap : Nat} {k : IntKind} {z : Value} {bts : Nat} {new : List Value} {w' : World}
    (hd : P.underlying t = some (.slice e)) (hs : sz? P e = some esz) (hb : bytes? P e = some bts) (hz : zero? P e = some z) (hu : ∃ k, P.underlying u = some (.int k)) (hr : roomy n bts = true)
    (hnew : new.toArray = Builtin.zeroCells z.cells n) (hz0 : z.cells.size = esz) (hroom : sLen + n ≤ sCap)
    (hst : StRoom P ad (sLen * esz) new w w') :
    (Builtin.append_ #[t, u] ty #[.slice ad sLen sCap, .int k n]).run P w = .ok (.slice ad (sLen + n) sCap) w' := by
  obtain ⟨ku, hu⟩ := hu
  have hb' : ∃ i, P.info? e = some i ∧ i.bytes = bts := by simpa [bytes?] using hb
  obtain ⟨i, hi, hib⟩ := hb'
  unfold roomy at hr
  rw [Bool.and_eq_true] at hr
  have r1 := Nat.le_of_ble_eq_true hr.1
  have r2 := Nat.le_of_ble_eq_true hr.2
  have hwrap : IntKind.i64.wrap (n : Int) = n := IntWalk.i64_in _ (by omega)
  have hbig : ¬ ((n : Int) * (bts : Int) > 2 ^ 48) := by
    have : ((n * bts : Nat) : Int) = (n : Int) * (bts : Int) := by simp
    omega
  simp only [Builtin.append_, List.getElem?_toArray, List.getElem?_cons_zero, List.getElem?_cons_succ, Sem.run_bind, runUnderlying hd, Result.andThen_ok, runSizeOf hs, runUnderlying hu, Sem.run_pure]
  simp only [if_true, Sem.run_bind, asInt, asIntOf_int, Result.andThen_ok, Sem.run_pure, hwrap]
  rw [if_neg (by omega)]
  simp only [Sem.run_bind, runTypeInfo hi, Result.andThen_ok, hib]
  rw [if_neg hbig]
  simp only [Sem.run_bind, Sem.run_pure, Result.andThen_ok, Int.toNat_natCast]
  rw [if_pos hroom]
  simp only [Bool.not_true, Bool.false_eq_true, if_false]
  have hnew2 : (if n * esz = 0 then pure #[] else do pure (Builtin.zeroCells (← zeroValue e).cells n) : Sem (Array Value)).run P w = .ok new.toArray w := by
    split
    · rename_i h0
      rw [hnew]
      have : Builtin.zeroCells z.cells n = #[] := by unfold Builtin.zeroCells; rw [hz0, h0]; simp
      rw [this]; rfl
    · simp [runZeroValue hz, hnew]
  simp only [Sem.run_bind, hnew2, Result.andThen_ok]
  cases ad with
  | none => simp only [StRoom] at hst; subst hst; rfl
  | some b => simp only [StRoom] at hst; simp only [Sem.run_bind, hst, Result.andThen_ok, Sem.run_pure]
theorem appendN_grows {t u e : TypeId} {esz n bts : Nat} {ty : TypeId} {ad : Option Addr} {sLen sCap : Nat} {k : IntKind} {z : Value} {old new : List Value}
    (hd : P.underlying t = some (.slice e)) (hs : sz? P e = some esz) (hb : bytes? P e = some bts) (hz : zero? P e = some z) (hu : ∃ k, P.underlying u = some (.int k)) (hr0 : roomy n bts = true)
    (hnew : new.toArray = Builtin.zeroCells z.cells n) (hz0 : z.cells.size = esz)
    (ho : (Builtin.firstCells esz sLen (.slice ad sLen sCap)).run P { w with drawn := w.drawn + 1 } = .ok old.toArray { w with drawn := w.drawn + 1 })
    (hroom : sCap < sLen + n) (hr : roomy (sLen + n) bts = true) :
    ∃ cp rest, sLen + n ≤ cp ∧ rest.length = (cp - (sLen + n)) * z.cells.size ∧
      (Builtin.append_ #[t, u] ty #[.slice ad sLen sCap, .int k n]).run P w = .ok (.slice (some ⟨w.heap.size, 0, none⟩) (sLen + n) cp) { w with drawn := w.drawn + 1, heap := w.heap.push (.cells (old ++ new ++ rest).toArray e) } := by
  obtain ⟨ku, hu⟩ := hu
  have hb' : ∃ i, P.info? e = some i ∧ i.bytes = bts := by simpa [bytes?] using hb
  obtain ⟨i, hi, hib⟩ := hb'
  have hr0' := hr0
  unfold roomy at hr0
  rw [Bool.and_eq_true] at hr0
  have r1 := Nat.le_of_ble_eq_true hr0.1
  have r2 := Nat.le_of_ble_eq_true hr0.2
  have hwrap : IntKind.i64.wrap (n : Int) = n := IntWalk.i64_in _ (by omega)
  have hbig : ¬ ((n : Int) * (bts : Int) > 2 ^ 48) := by
    have : ((n * bts : Nat) : Int) = (n : Int) * (bts : Int) := by simp
    omega
  have hmax : ¬ (((sLen + n : Nat) : Int) > IntKind.i64.max ∧ (True ∨ bts = 0)) := by
    rintro ⟨h1, -⟩
    unfold roomy at hr
    rw [Bool.and_eq_true] at hr
    have := Nat.le_of_ble_eq_true hr.2
    simp [IntKind.max, IntKind.signed, IntKind.bits] at h1
    omega
  have hnext := next_room hr hroom
  let q : Question := .appendCap (sLen + n) sCap e
  let cp := q.cut (w.tape w.drawn q)
  have hcp : sLen + n ≤ cp := by simp only [cp, q, Question.cut]; omega
  obtain ⟨rest, hrest, hrl⟩ := zeroCells_eq z.cells (cp - (sLen + n))
  refine ⟨cp, rest, hcp, hrl, ?_⟩
  simp only [Builtin.append_, List.getElem?_toArray, List.getElem?_cons_zero, List.getElem?_cons_succ, Sem.run_bind, runUnderlying hd, Result.andThen_ok, runSizeOf hs, runUnderlying hu, Sem.run_pure]
  simp only [if_true, Sem.run_bind, asInt, asIntOf_int, Result.andThen_ok, Sem.run_pure, hwrap]
  rw [if_neg (by omega)]
  simp only [Sem.run_bind, runTypeInfo hi, Result.andThen_ok, hib]
  rw [if_neg hbig]
  simp only [Sem.run_bind, Sem.run_pure, Result.andThen_ok, Int.toNat_natCast]
  rw [if_neg (by omega)]
  simp only [Sem.run_bind, runTypeInfo hi, Result.andThen_ok, hib]
  rw [if_neg hmax]
  simp only [Sem.run_bind, runTypeInfo hi, Result.andThen_ok, hib]
  rw [if_neg hnext]
  have hch : (choose (.appendCap (sLen + n) sCap e)).run P w = .ok cp { w with drawn := w.drawn + 1 } := by
    simp only [run_choose, Question.forced, Bool.false_eq_true, if_false]; rfl
  have hnew2 : ∀ w : World, (if n * esz = 0 then pure #[] else do pure (Builtin.zeroCells (← zeroValue e).cells n) : Sem (Array Value)).run P w = .ok new.toArray w := by
    intro w
    split
    · rename_i h0
      rw [hnew]
      have : Builtin.zeroCells z.cells n = #[] := by unfold Builtin.zeroCells; rw [hz0, h0]; simp
      rw [this]; rfl
    · simp [runZeroValue hz, hnew]
  simp only [Bool.not_true, Bool.false_eq_true, if_false, Sem.run_bind, hch, Result.andThen_ok, runTypeInfo hi, run_askRoom, ho, hnew2, runZeroValue hz, hrest, newRow_run, Sem.run_pure]
  simp
end Am
/- What an operation of the abstract machine says of the model's: append, told of the store. -/
namespace Am
open Go
variable {CR : Code → ACode → Prop} {H : Hc} {M M' : Mu} {σ σ' : St} {w : World} {P : Program} {ρ : Regs} {a : Act}

abbrev drawn1 (w : World) : World := { w with drawn := w.drawn + 1 }
/-- What is known of a run of append. -/
structure AppFacts (P : Program) (w : World) (e : TypeId) (esz n bts : Nat) (run : Sem Value) (ad : Option Addr) (sLen sCap : Nat) (new : List Value) : Prop where
  room : ∀ w', sLen + n ≤ sCap → StRoom P ad (sLen * esz) new w w' → run.run P w = .ok (.slice ad (sLen + n) sCap) w'
  grows : ∀ old : List Value, (Builtin.firstCells esz sLen (.slice ad sLen sCap)).run P (drawn1 w) = .ok old.toArray (drawn1 w) → sCap < sLen + n → roomy (sLen + n) bts = true →
    ∃ cp rest, sLen + n ≤ cp ∧ rest.length = (cp - (sLen + n)) * esz ∧
      run.run P w = .ok (.slice (some ⟨w.heap.size, 0, none⟩) (sLen + n) cp) { w with drawn := w.drawn + 1, heap := w.heap.push (.cells (old ++ new ++ rest).toArray e) }

theorem WRel.reset {b : Nat} {o : AObj} (h : WRel CR H M σ w) (hg : σ.get b = some o) : WRel CR H M (σ.set b o) w :=
  ⟨by simpa using h.next, fun b' o' hb => by
    rw [St.get_set] at hb
    by_cases e : b' = b
    · subst e; simp at hb; subst hb; exact h.obj _ _ hg
    · simp [e] at hb; exact h.obj _ _ hb, h.lt, h.bnd, h.inj, h.imm, h.apart⟩
/-- A block goes on under a new number. -/
def Mu.move (M : Mu) (b c n : Nat) : Mu := { at_ := fun b' => if b' = M.N then some (c, n) else if b' = b then none else M.at_ b', N := M.N + 1 }
theorem Mu.le_move (M : Mu) (b c n : Nat) : M.Le (M.move b c n) :=
  ⟨by simp [Mu.move], fun b' hb x hx => by
    simp only [Mu.move] at hx
    rw [if_neg (by omega)] at hx
    split at hx
    · simp at hx
    · exact hx⟩
theorem WRel.moved {b c n : Nat} {cs : List PV} {op : Bool} {o' : Obj} (h : WRel CR H M σ w) (hb : M.at_ b = some (c, n)) (ho : ORel CR H (M.move b c n) n (.cells cs op) (some o')) (hk : ∀ lp, w.heap[c]? = some (Obj.loop lp) → ∃ lp', o' = .loop lp') :
    WRel CR H (M.move b c n) ((σ.del b).new (.cells cs op)) (put w c o') ∧ Keeps M (M.move b c n) w (put w c o') := by
  have hc := h.bnd b c n hb
  have hbN := h.lt b _ hb
  have hle := M.le_move b c n
  have at_N : (M.move b c n).at_ M.N = some (c, n) := by simp [Mu.move]
  have at_old : ∀ b' x, b' ≠ M.N → (M.move b c n).at_ b' = some x → M.at_ b' = some x ∧ b' ≠ b := by
    intro b' x hn hx
    simp only [Mu.move] at hx
    rw [if_neg hn] at hx
    split at hx
    · simp at hx
    · rename_i hne; exact ⟨hx, hne⟩
  refine ⟨⟨by simp [Mu.move, h.next], ?_, ?_, ?_, ?_, ?_, ?_⟩, ⟨hle, by simp, ?_, ?_, rfl, rfl, ?_⟩⟩
  · intro b' o1 hg
    rw [St.get_new, St.next_del, ← h.next] at hg
    by_cases e : b' = M.N
    · subst e; simp at hg; subst hg
      exact ⟨c, n, at_N, by rw [put_self hc]; exact ho⟩
    · simp only [e, if_false, St.get_del] at hg
      by_cases e2 : b' = b
      · simp [e2] at hg
      · simp only [e2, if_false] at hg
        obtain ⟨c', n', h1, h2⟩ := h.obj b' o1 hg
        refine ⟨c', n', by simp [Mu.move, e, e2, h1], ?_⟩
        have : c' ≠ c := by rintro rfl; exact e2 (h.inj _ _ _ _ _ h1 hb)
        rw [put_get]; simp only [this, if_false]; exact h2.mono hle
  · intro b' x hx
    by_cases e : b' = M.N
    · subst e; simp [Mu.move]
    · exact Nat.lt_of_lt_of_le (h.lt b' x (at_old b' x e hx).1) hle.N
  · intro b' c' n' hx
    by_cases e : b' = M.N
    · subst e; rw [at_N] at hx; cases hx; simpa using hc
    · simpa using h.bnd b' c' n' (at_old _ _ e hx).1
  · intro b1 b2 c' n1 n2 h1 h2
    by_cases e1 : b1 = M.N
    · by_cases e2 : b2 = M.N
      · rw [e1, e2]
      · subst e1; rw [at_N] at h1; cases h1
        obtain ⟨k1, k2⟩ := at_old _ _ e2 h2
        exact absurd (h.inj _ _ _ _ _ k1 hb) k2
    · obtain ⟨k1, k2⟩ := at_old _ _ e1 h1
      by_cases e2 : b2 = M.N
      · subst e2; rw [at_N] at h2; cases h2
        exact absurd (h.inj _ _ _ _ _ k1 hb) k2
      · exact h.inj _ _ _ _ _ k1 (at_old _ _ e2 h2).1
  · intro c' off v hv
    have hne : c' ≠ c := by rintro rfl; have := h.apart b c' n off hb; rw [hv] at this; simp at this
    have := h.imm c' off v hv
    simp only [World.cell?] at this ⊢
    rw [put_get]; simpa [hne] using this
  · intro b' c' n' off hx
    by_cases e : b' = M.N
    · subst e; rw [at_N] at hx; cases hx; exact h.apart _ _ _ _ hb
    · exact h.apart _ _ _ _ (at_old _ _ e hx).1
  · intro c' hc' hno
    rw [put_get]
    have : c' ≠ c := by rintro rfl; exact hno _ _ hb
    simp [this]
  · intro b' c' n' hx
    by_cases e : b' = M.N
    · subst e; rw [at_N] at hx; cases hx; exact .inr ⟨b, _, hb⟩
    · exact .inr ⟨b', n', (at_old _ _ e hx).1⟩
  · intro c' lp hl
    rw [put_get]
    by_cases e : c' = c
    · subst e; obtain ⟨lp', h1⟩ := hk lp hl; exact ⟨lp', by simp [hc, h1]⟩
    · exact ⟨lp, by simp [e, hl]⟩
theorem ones_of {xs : List PV} : ∀ {vs : List Value}, VRels H M xs vs → allOne xs = true → ∀ v ∈ vs, v.oneCell' = true := by
  induction xs with
  | nil => intro vs h _; rw [VRels.nil_iff] at h; subst h; simp
  | cons x xs ih =>
    intro vs h h1
    simp only [VRels] at h
    obtain ⟨y, ys, rfl, hy, hys⟩ := h
    obtain ⟨k1, k2⟩ := allOne_cons h1
    intro v hv
    rcases List.mem_cons.1 hv with rfl | hv
    · exact oneCell_of hy k1
    · exact ih hys k2 v hv
/-- The way where new memory is made. -/
theorem append_new {e : TypeId} {esz n bts : Nat} {run : Sem Value} {ad : Option Addr} {len cp0 : Nat} {oldc new : List PV} {newV old : List Value} (hw : WRel CR H M σ w)
    (hnew : VRels H M new newV) (hold : VRels H M oldc old) (hol : oldc.length = len * esz) (hnl : new.length = n * esz) (hesz : 0 < esz)
    (hf : AppFacts P w e esz n bts run ad len cp0 newV) (ho : (Builtin.firstCells esz len (.slice ad len cp0)).run P (drawn1 w) = .ok old.toArray (drawn1 w))
    (hc : cp0 < len + n) (hr : roomy (len + n) bts = true) :
    ∃ cv w' M', run.run P w = .ok cv w' ∧ WRel CR H M' (σ.new (.cells (oldc ++ new) true)) w' ∧ Keeps M M' w w' ∧ VRel H M' (.slice σ.next 0 (len + n) esz none) cv := by
  obtain ⟨cp, rest, h1, h2, h3⟩ := hf.grows old ho hc hr
  obtain ⟨hw1, hk1⟩ := hw.drew
  obtain ⟨hw2, hk2⟩ := newCells (e := e) (fr := (0, 0)) (op := true) (c2 := rest) hw1 (hold.append hnew) (by simp) (by simp)
  have e1 := hold.length
  have e2 := hnew.length
  refine ⟨_, _, _, h3, hw2, hk1.trans hk2, ?_⟩
  rw [← hw.next]
  refine newSlice M w.heap.size _ (len + n) cp esz none h1 hesz (by simp) ?_ ?_
  · simp only [List.length_append]
    have : cp * esz = (len + n) * esz + (cp - (len + n)) * esz := by rw [← Nat.add_mul]; congr 1; omega
    rw [this, Nat.add_mul]; omega
  · intro _
    simp only [List.length_append]
    have : cp * esz = (len + n) * esz + (cp - (len + n)) * esz := by rw [← Nat.add_mul]; congr 1; omega
    rw [this, Nat.add_mul]; omega
theorem appendV_sound {e : TypeId} {esz n bts : Nat} {run : Sem Value} {s : PV} {ad : Option Addr} {len cp : Nat} {new : List PV} {newV : List Value} {r : PV} (hw : WRel CR H M σ w)
    (hs : VRel H M s (.slice ad len cp)) (hnew : VRels H M new newV) (hf : AppFacts P w e esz n bts run ad len cp newV) (h : appendV σ esz bts s n new = some (r, σ')) :
    ∃ cv w' M', run.run P w = .ok cv w' ∧ WRel CR H M' σ' w' ∧ Keeps M M' w w' ∧ VRel H M' r cv := by
  unfold appendV at h
  cases hb : Nat.blt 0 esz && Nat.beq new.length (n * esz) && allOne new with
  | false => simp [hb] at h
  | true =>
    simp only [hb] at h
    simp only [Bool.and_eq_true] at hb
    obtain ⟨⟨hb1, hb2⟩, hb3⟩ := hb
    have hesz : 0 < esz := by simpa using hb1
    have hnl := Nat.eq_of_beq_eq_true hb2
    have hnv := hnew.length
    cases s with
    | nils =>
      simp only [VRel, Value.slice.injEq] at hs
      obtain ⟨rfl, rfl, rfl⟩ := hs
      cases n with
      | zero =>
        simp only [Option.some.injEq, Prod.mk.injEq] at h
        obtain ⟨rfl, rfl⟩ := h
        exact ⟨_, w, M, hf.room w (by omega) rfl, hw, Keeps.refl M w, by simp only [VRel]⟩
      | succ n =>
        simp only at h
        cases hr : roomy (n + 1) bts with
        | false => simp [hr] at h
        | true =>
          simp only [hr, Option.some.injEq, Prod.mk.injEq] at h
          obtain ⟨rfl, rfl⟩ := h
          have := append_new (oldc := []) (old := []) hw hnew (VRels.nil_iff.2 rfl) (by simp) hnl hesz hf (by rfl) (by omega) (by simpa using hr)
          simpa using this
    | islice cs len' esz' cap =>
      cases cap with
      | none => simp at h
      | some c =>
        simp only at h
        cases hr : Nat.beq esz esz' && Nat.blt c (len' + n) && roomy (len' + n) bts with
        | false => simp [hr] at h
        | true =>
          simp only [hr] at h
          cases hc : cellsAt cs 0 (len' * esz) with
          | none => simp [hc] at h
          | some old =>
            simp only [hc, Option.some.injEq, Prod.mk.injEq] at h
            obtain ⟨rfl, rfl⟩ := h
            simp only [Bool.and_eq_true] at hr
            obtain ⟨⟨hr1, hr2⟩, hr3⟩ := hr
            have he := Nat.eq_of_beq_eq_true hr1
            subst he
            have hlt : c < len' + n := by simpa using hr2
            have hs' := hs
            simp only [VRel] at hs'
            obtain ⟨a', cp', vs', he, -, -, h3, -⟩ := hs'
            cases he
            have := h3 c rfl
            subst this
            obtain ⟨q1, q2, q3, q4, q5⟩ := cellsAt_eq hc
            obtain ⟨vs, h7, h8, -⟩ := sliceCells_sound (P := P) (w := drawn1 w) (size := esz) hw.drew.1 hs (m := len) rfl (Nat.le_refl _) (by simp only [sliceCells]; exact hc) (by omega)
            exact append_new hw hnew h8 (by omega) hnl hesz hf h7 hlt hr3
    | slice b off len' esz' cap =>
      simp only at h
      cases hr : Nat.beq esz esz' && roomy (len' + n) bts with
      | false => simp [hr] at h
      | true =>
        simp only [hr] at h
        rw [Bool.and_eq_true] at hr
        have he := Nat.eq_of_beq_eq_true hr.1
        subst he
        have hroomy := hr.2
        cases hg : σ.get b with
        | none => simp [hg] at h
        | some o =>
          cases o with
          | cells cs op =>
            simp only [hg] at h
            have hs' := hs
            simp only [VRel] at hs'
            obtain ⟨hbN, a', cp', he, x1, x2, x3, x4⟩ := hs'
            cases he
            obtain ⟨c, sz, hM, hO⟩ := hw.obj b _ hg
            obtain ⟨cl, e', fr, hobj, hlen, hop, hfr, c1, c2, rfl, hrel⟩ := hO
            obtain ⟨y1, y2, y3⟩ := x4 c sz hM
            have hcl := hrel.length
            have hlenc : c1.length + c2.length = sz := by simpa using hlen
            -- in place, within what is known
            have inplace : ∀ cs', writeAt cs (off + len * esz) new = some cs' → len + n ≤ cp → ∃ cv w' M', run.run P w = .ok cv w' ∧ WRel CR H M' (σ.set b (.cells cs' op)) w' ∧ Keeps M M' w w' ∧ VRel H M' (.slice b off (len + n) esz cap) cv := by
              intro cs' hwr hle
              have hv : VRel H M (.slice b off (len + n) esz cap) (.slice (some a') (len + n) cp) := by
                simp only [VRel]; exact ⟨hbN, a', cp, rfl, hle, x2, x3, x4⟩
              by_cases hz : cp = 0
              · have hn0 : n = 0 := by omega
                subst hn0
                have : new = [] := List.eq_nil_of_length_eq_zero (by omega)
                subst this
                rw [VRels.nil_iff] at hnew; subst hnew
                obtain ⟨z1, z2, z3, z4, z5, z6, z7⟩ := writeAt_eq hwr
                have : z2 = [] := List.eq_nil_of_length_eq_zero (by simpa using z7)
                subst this
                have : cs' = cs := by rw [z4, z5]
                subst this
                exact ⟨_, w, M, hf.room w hle rfl, hw.reset hg, Keeps.refl M w, hv⟩
              · have hp : VRel H M (.ptr b (off + len * esz)) (.pointer (some (a'.add (len * esz)))) := by
                  simp only [VRel]
                  refine ⟨hbN, _, rfl, fun c n hc => ?_⟩
                  obtain ⟨k1, -, -⟩ := x4 c n hc
                  rcases k1 with k1 | k1
                  · exact absurd k1 hz
                  · rw [k1, add_none rfl]
                have hwp : writePtr σ (.ptr b (off + len * esz)) new = some (σ.set b (.cells cs' op)) := by simp only [writePtr, hg, hwr]
                obtain ⟨ad', w', hpe, hsp, hrun, hw', hk⟩ := writePtr_sound (P := P) hw hp hwp hnew hb3
                cases hpe
                exact ⟨_, w', M, hf.room w' hle hrun, hw', hk, hv⟩
            cases cap with
            | some c0 =>
              have := x3 c0 rfl
              subst this
              simp only at h
              cases hle : Nat.ble (len + n) cp with
              | true =>
                simp only [hle] at h
                cases hwr : writeAt cs (off + len * esz) new with
                | none => simp [hwr] at h
                | some cs' =>
                  simp only [hwr, Option.some.injEq, Prod.mk.injEq] at h
                  obtain ⟨rfl, rfl⟩ := h
                  exact inplace cs' hwr (Nat.le_of_ble_eq_true hle)
              | false =>
                simp only [hle] at h
                cases hc : cellsAt cs off (len * esz) with
                | none => simp [hc] at h
                | some old =>
                  simp only [hc, Option.some.injEq, Prod.mk.injEq] at h
                  obtain ⟨rfl, rfl⟩ := h
                  obtain ⟨q1, q2, q3, q4, q5⟩ := cellsAt_eq hc
                  obtain ⟨vs, h7, h8, -⟩ := sliceCells_sound (P := P) (w := drawn1 w) (size := esz) hw.drew.1 hs (m := len) rfl (Nat.le_refl _) (by simp only [sliceCells, hg]; exact hc) (by omega)
                  have hlt : cp < len + n := by
                    rcases Nat.lt_or_ge cp (len + n) with h | h
                    · exact h
                    · rw [Nat.ble_eq_true_of_le h] at hle; cases hle
                  exact append_new hw hnew h8 (by omega) hnl hesz hf h7 hlt hroomy
            | none =>
              have y3 := y3 rfl
              simp only at h
              cases hwr : writeAt cs (off + len * esz) new with
              | some cs' =>
                simp only [hwr, Option.some.injEq, Prod.mk.injEq] at h
                obtain ⟨rfl, rfl⟩ := h
                refine inplace cs' hwr ?_
                obtain ⟨z1, z2, z3, z4, z5, z6, z7⟩ := writeAt_eq hwr
                have hl : cs.length = z1.length + z2.length + z3.length := by rw [z4]; simp; omega
                have : (len + n) * esz ≤ cp * esz := by rw [Nat.add_mul]; omega
                exact Nat.le_of_mul_le_mul_right this hesz
              | none =>
                simp only [hwr] at h
                cases off with
                | succ _ => simp at h
                | zero =>
                  simp only at h
                  cases hc : cellsAt cs 0 (len * esz) with
                  | none => simp [hc] at h
                  | some old =>
                    simp only [hc, Option.some.injEq, Prod.mk.injEq] at h
                    obtain ⟨rfl, rfl⟩ := h
                    obtain ⟨q1, q2, q3, q4, q5⟩ := cellsAt_eq hc
                    obtain ⟨vs, h7, h8, -⟩ := sliceCells_sound (P := P) (w := drawn1 w) (size := esz) hw.drew.1 hs (m := len) rfl (Nat.le_refl _) (by simp only [sliceCells, hg]; exact hc) (by omega)
                    have e8 := h8.length
                    by_cases hle : len + n ≤ cp
                    · -- the spare room is used
                      have hmul : (len + n) * esz ≤ cp * esz := Nat.mul_le_mul_right _ hle
                      have hadd := Nat.add_mul len n esz
                      have hq1 : q1 = [] := List.eq_nil_of_length_eq_zero q4
                      subst hq1
                      obtain ⟨u1, u2, hu, hu1, hu2⟩ := VRels.split (xs := old) (ys := q2) (by have := hrel; rw [q3] at this; simpa using this)
                      have eu1 := hu1.length
                      have hcp : cp ≠ 0 ∨ new = [] := by
                        by_cases hz : cp = 0
                        · right
                          have hn0 : n = 0 := by omega
                          subst hn0
                          exact List.eq_nil_of_length_eq_zero (by omega)
                        · exact .inl hz
                      let post := (u2 ++ c2).drop (n * esz)
                      let mid := (u2 ++ c2).take (n * esz)
                      have hmp : c1 ++ c2 = u1 ++ mid ++ post := by
                        rw [hu]; simp only [mid, post, List.append_assoc, List.take_append_drop]
                      have hu2l : c1.length = u1.length + u2.length := by rw [hu]; simp
                      have hmid : mid.length = newV.length := by
                        simp only [mid, List.length_take, List.length_append]; omega
                      have hobj' : ORel CR H (M.move b c sz) sz (.cells (old ++ new) true) (some (.cells (u1 ++ newV ++ post).toArray e' fr)) := by
                        refine ⟨u1 ++ newV ++ post, e', fr, rfl, ?_, by simp, hfr, u1 ++ newV, post, rfl, ?_⟩
                        · have : (u1 ++ mid ++ post).length = sz := by rw [← hmp]; simpa using hlenc
                          simp at this ⊢; omega
                        · exact (hu1.append hnew).mono (M.le_move b c sz)
                      obtain ⟨hw', hk'⟩ := hw.moved hM hobj' (fun lp hl => by simp_all)
                      have hrun : (storeCells (a'.add (len * esz)) newV).run P w = .ok () (put w c (.cells (u1 ++ newV ++ post).toArray e' fr)) := by
                        rcases hcp with hcp | hcp
                        · rcases y1 with y1 | y1
                          · exact absurd y1 hcp
                          · rw [y1, add_none rfl]
                            refine storeCells_run newV _ 0 w u1 mid post rfl rfl (by rw [hobj, hmp]) (by simp; omega) hmid ?_ (ones_of hnew hb3)
                            rw [← hmp]; simp; omega
                        · subst hcp
                          rw [VRels.nil_iff] at hnew; subst hnew
                          have : mid = [] := List.eq_nil_of_length_eq_zero (by simpa using hmid)
                          rw [this] at hmp
                          simp only [storeCells, Sem.run_pure]
                          congr 1
                          rw [List.append_nil] at hmp ⊢
                          rw [← hmp]
                          have hclt : c < w.heap.size := (Array.getElem?_eq_some_iff.1 hobj).1
                          have : w.heap.setIfInBounds c (.cells (c1 ++ c2).toArray e' fr) = w.heap := by
                            apply Array.ext_getElem?
                            intro k
                            rw [Array.getElem?_setIfInBounds]
                            by_cases hk : c = k
                            · subst hk; rw [hobj]; simp [hclt]
                            · simp [hk]
                          simp only [put, this]
                      refine ⟨_, _, _, hf.room _ hle hrun, hw', hk', ?_⟩
                      rw [← hw.next]
                      simp only [VRel]
                      refine ⟨by simp [Mu.move], a', cp, rfl, hle, hesz, by simp, fun c' n' hc' => ?_⟩
                      simp only [Mu.move, if_true, Option.some.injEq, Prod.mk.injEq] at hc'
                      obtain ⟨rfl, rfl⟩ := hc'
                      exact ⟨y1, y2, fun _ => y3⟩
                    · -- new memory
                      obtain ⟨hwd, hkd⟩ := hw.del b
                      have hle' := M.le_drop b
                      have hf' : AppFacts P w e esz n bts run (some a') len cp newV := hf
                      obtain ⟨cv, w', M', r1, r2, r3, r4⟩ := append_new hwd (hnew.mono hle') (h8.mono hle') (by omega) hnl hesz hf' h7 (by omega) hroomy
                      rw [St.next_del] at r4
                      exact ⟨cv, w', M', r1, r2, hkd.trans r3, r4⟩
          | _ => simp [hg] at h
    | _ => simp at h
end Am
/- What an operation of the abstract machine says of the model's: append's two forms, copy, clear, conversions, make. -/
namespace Am
open Go
variable {CR : Code → ACode → Prop} {H : Hc} {M M' : Mu} {σ σ' : St} {w : World} {P : Program} {ρ : Regs} {a : Act}

theorem slice_form {s : PV} {sv : Value} {σ : St} {esz bytes n : Nat} {new : List PV} {r : PV} (hs : VRel H M s sv) (h : appendV σ esz bytes s n new = some (r, σ')) : ∃ ad len cp, sv = .slice ad len cp := by
  unfold appendV at h
  split at h
  · simp at h
  · cases s <;> (try (simp at h; done)) <;> simp only [VRel] at hs
    · exact ⟨_, _, _, hs⟩
    · obtain ⟨_, ad, cp, rfl, _⟩ := hs; exact ⟨_, _, _, rfl⟩
    · obtain ⟨ad, cp, vs, rfl, _⟩ := hs; exact ⟨_, _, _, rfl⟩
theorem zlen {t : TypeId} {zc : List PV} {z : Value} {esz : Nat} (h1 : zcells? P t = some zc) (h2 : zero? P t = some z) (h3 : zc.length = esz) : z.cells.size = esz := by
  obtain ⟨z', h4, h5⟩ := zcells_sound (H := fun _ _ => none) (M := ⟨fun _ => none, 0⟩) h1
  rw [h2] at h4; cases h4
  have := h5.length
  simp at this; omega
theorem appendS {zc : List PV} {esz bts : Nat} {x y : Src} {r : ORes} {X Y : Operand} {t u e ty : TypeId} (hd : P.underlying t = some (.slice e)) (hz : zcells? P e = some zc) (hs : sz? P e = some esz)
    (hb : bytes? P e = some bts) (hu : ∃ d, P.underlying u = some d ∧ ∀ k, d ≠ .int k) (hx : trS X = some x) (hy : trS Y = some y) (hr : RRel H M ρ a.tmps) (hw : WRel CR H M σ w)
    (h : evAppend zc esz bts x y ρ σ = some r) : Sound P CR H M w (do pure (.value (← Builtin.append_ #[t, u] ty #[a.eval X, a.eval Y]))) r := by
  unfold evAppend at h
  cases h1 : ρ.src x with
  | none => simp [h1] at h
  | some sv =>
    cases h2 : ρ.src y with
    | none => simp [h1, h2] at h
    | some xv =>
      cases h3 : lenOf xv with
      | none => simp [h1, h2, h3] at h
      | some n =>
        cases hzl : Nat.beq zc.length esz with
        | false => simp [h1, h2, h3, hzl] at h
        | true =>
          cases h4 : sliceCells σ n xv with
          | none => simp [h1, h2, h3, hzl, h4] at h
          | some new =>
            cases h5 : appendV σ esz bts sv n new with
            | none => simp [h1, h2, h3, hzl, h4, h5] at h
            | some p =>
              obtain ⟨r', σ'⟩ := p
              simp only [h1, h2, h3, hzl, h4, h5, Option.some.injEq] at h; subst h
              have hsv := trS_sound hx hr h1
              have hxv := trS_sound hy hr h2
              obtain ⟨z, hz1, -⟩ := zcells_sound (H := H) (M := M) hz
              have hz0 := zlen hz hz1 (Nat.eq_of_beq_eq_true hzl)
              have hnl : new.length = n * esz := by
                unfold appendV at h5
                split at h5
                · simp at h5
                · rename_i hq
                  simp only [Bool.and_eq_true] at hq
                  exact Nat.eq_of_beq_eq_true hq.1.2
              obtain ⟨ad, len, cp, hsl⟩ := slice_form hsv h5
              obtain ⟨newV, f1, f2, f3⟩ := sliceCells_sound (P := P) (size := esz) hw hxv h3 (Nat.le_refl _) h4 hnl
              obtain ⟨l1, -⟩ := lenOf_sound (P := P) (w := w) h3 hxv
              have facts : AppFacts P w e esz n bts (Builtin.append_ #[t, u] ty #[a.eval X, a.eval Y]) ad len cp newV := by
                rw [hsl]
                refine ⟨fun w' hroom hst => append_room hd hs hu l1 f1 hroom hst, fun old ho hroom hrm => ?_⟩
                obtain ⟨cp', rest, g1, g2, g3⟩ := append_grows (ty := ty) hd hs hb hz1 hu l1 (f3 _ fun _ => rfl) ho hroom hrm
                exact ⟨cp', rest, g1, by rw [← hz0]; exact g2, g3⟩
              rw [hsl] at hsv
              obtain ⟨cv, w', M', r1, r2, r3, r4⟩ := appendV_sound hw hsv f2 facts h5
              exact ⟨.value cv, w', M', by simp [r1], r2, r3, cv, r4, .inl rfl⟩
theorem replV_zero (z : Array Value) (hz : 0 < z.size) (n : Nat) : (replV z.toList n).toArray = Builtin.zeroCells z n := by
  rw [← zeros_eq z hz n]; rfl
theorem appendNS {zc : List PV} {esz bts : Nat} {x y : Src} {r : ORes} {X Y : Operand} {t u e ty : TypeId} (hd : P.underlying t = some (.slice e)) (hz : zcells? P e = some zc) (hs : sz? P e = some esz)
    (hb : bytes? P e = some bts) (hu : ∃ k, P.underlying u = some (.int k)) (hx : trS X = some x) (hy : trS Y = some y) (hr : RRel H M ρ a.tmps) (hw : WRel CR H M σ w)
    (h : evAppendN zc esz bts x y ρ σ = some r) : Sound P CR H M w (do pure (.value (← Builtin.append_ #[t, u] ty #[a.eval X, a.eval Y]))) r := by
  unfold evAppendN at h
  cases h1 : ρ.src x with
  | none => simp [h1] at h
  | some sv =>
    cases h2 : ρ.src y with
    | none => simp [h1, h2] at h
    | some nv =>
      cases h3 : asNat nv with
      | none => simp [h1, h2, h3] at h
      | some n =>
        cases hq : Nat.beq zc.length esz && roomy n bts with
        | false => simp [h1, h2, h3, hq] at h
        | true =>
          cases h5 : appendV σ esz bts sv n (repl zc n) with
          | none => simp [h1, h2, h3, hq, h5] at h
          | some p =>
            obtain ⟨r', σ'⟩ := p
            simp only [h1, h2, h3, hq, h5, Option.some.injEq] at h; subst h
            rw [Bool.and_eq_true] at hq
            have hsv := trS_sound hx hr h1
            obtain ⟨k, hn⟩ := asNat_sound h3 (trS_sound hy hr h2)
            obtain ⟨z, hz1, hz2⟩ := zcells_sound (H := H) (M := M) hz
            have hz0 := zlen hz hz1 (Nat.eq_of_beq_eq_true hq.1)
            have hpos : 0 < esz := by
              unfold appendV at h5
              split at h5
              · simp at h5
              · rename_i hq
                simp only [Bool.and_eq_true] at hq
                simpa using hq.1.1
            obtain ⟨ad, len, cp, hsl⟩ := slice_form hsv h5
            have hnew := repl_sound hz2 n
            have facts : AppFacts P w e esz n bts (Builtin.append_ #[t, u] ty #[a.eval X, a.eval Y]) ad len cp (replV z.cells.toList n) := by
              rw [hsl, hn]
              refine ⟨fun w' hroom hst => appendN_room hd hs hb hz1 hu hq.2 (replV_zero _ (by omega) n) hz0 hroom hst, fun old ho hroom hrm => ?_⟩
              obtain ⟨cp', rest, g1, g2, g3⟩ := appendN_grows (ty := ty) (k := k) hd hs hb hz1 hu hq.2 (replV_zero _ (by omega) n) hz0 ho hroom hrm
              exact ⟨cp', rest, g1, by rw [← hz0]; exact g2, g3⟩
            rw [hsl] at hsv
            obtain ⟨cv, w', M', r1, r2, r3, r4⟩ := appendV_sound hw hsv hnew facts h5
            exact ⟨.value cv, w', M', by simp [r1], r2, r3, cv, r4, .inl rfl⟩
theorem mksliceS {zc : List PV} {esz bts : Nat} {x y : Src} {r : ORes} {X Y : Operand} {t e : TypeId} (hd : P.underlying t = some (.slice e)) (hz : zcells? P e = some zc) (hs : sz? P e = some esz)
    (hb : bytes? P e = some bts) (hx : trS X = some x) (hy : trS Y = some y) (hr : RRel H M ρ a.tmps) (hw : WRel CR H M σ w)
    (h : evMkslice zc esz bts x y ρ σ = some r) : Sound P CR H M w (do pure (.value (← Instr.makeSlice t (a.eval X) (a.eval Y)))) r := by
  unfold evMkslice at h
  cases h1 : ρ.src x with
  | none => simp [h1] at h
  | some lv =>
    cases h2 : ρ.src y with
    | none => simp [h1, h2] at h
    | some cv =>
      cases h3 : asNat lv with
      | none => simp [h1, h2, h3] at h
      | some l =>
        cases h4 : asNat cv with
        | none => simp [h1, h2, h3, h4] at h
        | some c =>
          cases hq : Nat.ble l c && Nat.blt 0 esz && roomy c bts && Nat.beq zc.length esz with
          | false => simp [h1, h2, h3, h4, hq] at h
          | true =>
            simp only [h1, h2, h3, h4, hq, Option.some.injEq] at h; subst h
            simp only [Bool.and_eq_true] at hq
            obtain ⟨⟨⟨q1, q2⟩, q3⟩, q4⟩ := hq
            have hlc := Nat.le_of_ble_eq_true q1
            have hpos : 0 < esz := by simpa using q2
            obtain ⟨kl, hl⟩ := asNat_sound h3 (trS_sound hx hr h1)
            obtain ⟨kc, hc⟩ := asNat_sound h4 (trS_sound hy hr h2)
            obtain ⟨z, hz1, hz2⟩ := zcells_sound (H := H) (M := M) hz
            have hz0 := zlen hz hz1 (Nat.eq_of_beq_eq_true q4)
            unfold roomy at q3
            rw [Bool.and_eq_true] at q3
            have r1 := Nat.le_of_ble_eq_true q3.1
            have r2 := Nat.le_of_ble_eq_true q3.2
            have hb' : ∃ i, P.info? e = some i ∧ i.bytes = bts := by simpa [bytes?] using hb
            obtain ⟨i, hi, hib⟩ := hb'
            have hwl : IntKind.i64.wrap (l : Int) = l := IntWalk.i64_in _ (by omega)
            have hwc : IntKind.i64.wrap (c : Int) = c := IntWalk.i64_in _ (by omega)
            have hbig : ¬ ((bts : Int) * (c : Int) > 2 ^ 48) := by
              have : ((c * bts : Nat) : Int) = (bts : Int) * (c : Int) := by simp [Int.mul_comm]
              omega
            obtain ⟨k1, k2⟩ := newCells0 (e := e) hw (repl_sound hz2 c)
            refine ⟨.value (.slice (some ⟨w.heap.size, 0, none⟩) l c), _, _, ?_, k1, k2, _, ?_, .inl rfl⟩
            · rw [hl, hc]
              simp only [Instr.makeSlice, Sem.run_bind, runUnderlying hd, Result.andThen_ok, asInt, asIntOf_int, Sem.run_pure, runTypeInfo hi, hib, hwl, hwc]
              rw [if_neg (by simp; omega)]
              simp only [Sem.run_bind, run_askRoom, Result.andThen_ok, runSizeOf hs, Int.toNat_natCast]
              by_cases h0 : c * esz = 0
              · have hc0 : c = 0 := by rcases Nat.mul_eq_zero.1 h0 with h | h <;> omega
                subst hc0
                have harr0 : ∀ f : Nat → Value, (Array.range 0).map f = #[] := by simp
                simp only [h0, if_true, Sem.run_bind, Sem.run_pure, Result.andThen_ok, harr0, newRow_run]
                rfl
              · have harr := zeros_eq z.cells (by omega) c
                rw [hz0] at harr
                simp only [if_neg h0, Sem.run_bind, runZeroValue hz1, Result.andThen_ok, Sem.run_pure, hz0, harr, newRow_run]
            · rw [← hw.next]
              refine newSlice (H := H) M w.heap.size _ l c esz (some c) hlc hpos (fun k hk => by simpa using hk) ?_ (by simp)
              rw [replV_length]; simp; rw [hz0]; exact Nat.le_refl _
end Am
/- What an operation of the abstract machine says of the model's: bytes and strings, copy, clear, least and greatest. -/
namespace Am
open Go
variable {CR : Code → ACode → Prop} {H : Hc} {M M' : Mu} {σ σ' : St} {w : World} {P : Program} {ρ : Regs} {a : Act}

theorem bytes_rel : ∀ l : List UInt8, VRels H M (l.map fun b => PV.int .u8 b.toNat) (l.map fun b => Value.int .u8 b.toNat)
  | [] => VRels.nil_iff.2 rfl
  | b :: l => VRels.cons_iff.2 ⟨by simp only [VRel], bytes_rel l⟩
theorem toBytesS {x : Src} {r : ORes} {X : Operand} {s d e : TypeId} (hs' : P.underlying s = some .string) (hd : P.underlying d = some (.slice e)) (he : isByte P e = true)
    (hx : trS X = some x) (hr : RRel H M ρ a.tmps) (hw : WRel CR H M σ w) (h : evToBytes x ρ σ = some r) : Sound P CR H M w (do pure (.value (← convert s d (a.eval X)))) r := by
  unfold evToBytes at h
  have he' : P.underlying e = some (.int .u8) := by unfold isByte at he; split at he <;> simp_all
  cases hs : ρ.src x with
  | none => simp [hs] at h
  | some p =>
    have hp := trS_sound hx hr hs
    cases p with
    | str b =>
      simp only [VRel] at hp
      simp only [hs] at h
      cases hq : Nat.ble b.size 70368744177664 with
      | false => simp [hq] at h
      | true =>
        simp only [hq, Option.some.injEq] at h; subst h
        have hrun := run_bytes_of_string (P := P) w s d e b hs' hd he'
        obtain ⟨hw1, hk1⟩ := hw.drew
        obtain ⟨rest, hrest⟩ : ∃ rest : List Value, bytesRow b (grownCap w b.size 0 e) = (b.data.toList.map (fun b => Value.int .u8 b.toNat) ++ rest).toArray ∧ rest.length = grownCap w b.size 0 e - b.size :=
          ⟨List.replicate (grownCap w b.size 0 e - b.size) (.int .u8 0), by apply Array.ext'; simp [bytesRow], by simp⟩
        obtain ⟨hrest, hrl⟩ := hrest
        have hcap : b.size ≤ grownCap w b.size 0 e := by simp only [grownCap, Question.cut]; omega
        rw [hrest] at hrun
        have hbl : (b.data.toList.map (fun b => Value.int .u8 b.toNat)).length = b.size := by simp
        obtain ⟨hw2, hk2⟩ := newCells (e := e) (c2 := rest) (op := true) (fr := ((b.data.toList.map (fun b => Value.int .u8 b.toNat) ++ rest).toArray.size, (b.data.toList.map (fun b => Value.int .u8 b.toNat) ++ rest).toArray.size + 1))
          hw1 (bytes_rel b.data.toList) (by simp) (by right; simp)
        refine ⟨.value (.slice (some ⟨w.heap.size, 0, none⟩) b.size (grownCap w b.size 0 e)), _, _, ?_, hw2, hk1.trans hk2, _, ?_, .inl rfl⟩
        · rw [hp]; simp only [Sem.run_bind, hrun, Result.andThen_ok, Sem.run_pure]; rfl
        · rw [← hw.next]
          refine newSlice M w.heap.size _ b.size _ 1 none hcap (by omega) (by simp) ?_ ?_
          · simp only [List.length_append, hbl, hrl]; omega
          · intro _; simp only [List.length_append, hbl, hrl]; omega
    | _ => simp [hs] at h
theorem bytesOf_sound : ∀ (cs : List PV) (l : List UInt8) (vs : List Value), bytesOf cs = some l → VRels H M cs vs → ∃ ns : List Int, vs = ns.map (Value.int .u8) ∧ l = ns.map fun n => UInt8.ofNat n.toNat
  | [], l, vs, h, hv => by
    simp [bytesOf] at h; subst h
    rw [VRels.nil_iff] at hv; subst hv
    exact ⟨[], rfl, rfl⟩
  | c :: cs, l, vs, h, hv => by
    simp only [VRels] at hv
    obtain ⟨y, ys, rfl, h1, h2⟩ := hv
    unfold bytesOf at h
    split at h
    · simp at *
    · rename_i n cs' he
      cases he
      cases hb : bytesOf cs with
      | none => simp [hb] at h
      | some r =>
        simp [hb] at h; subst h
        simp only [VRel] at h1; subst h1
        obtain ⟨ns, rfl, rfl⟩ := bytesOf_sound cs r ys hb h2
        exact ⟨n :: ns, rfl, rfl⟩
    · simp at h
theorem foldl_push (ns : List Int) : ∀ r : ByteArray, ns.foldl (fun (r : ByteArray) n => r.push (UInt8.ofNat n.toNat)) r = ⟨r.data ++ (ns.map fun n => UInt8.ofNat n.toNat).toArray⟩ := by
  induction ns with
  | nil => intro r; simp
  | cons n ns ih => intro r; simp only [List.foldl_cons, ih]; simp [ByteArray.push]
theorem toStrS {x : Src} {r : ORes} {X : Operand} {s d e : TypeId} (hs' : P.underlying s = some (.slice e)) (hd : P.underlying d = some .string) (he : isByte P e = true) (hes : sz? P e = some 1)
    (hx : trS X = some x) (hr : RRel H M ρ a.tmps) (hw : WRel CR H M σ w) (h : evToStr x ρ σ = some r) : Sound P CR H M w (do pure (.value (← convert s d (a.eval X)))) r := by
  unfold evToStr at h
  have he' : P.underlying e = some (.int .u8) := by unfold isByte at he; split at he <;> simp_all
  cases hs : ρ.src x with
  | none => simp [hs] at h
  | some p =>
    have hp := trS_sound hx hr hs
    simp only [hs] at h
    cases p with
    | nils =>
      simp [lenOf, sliceCells, bytesOf] at h; subst h
      simp only [VRel] at hp
      refine Sound.pure (cv := .string .empty) hw ?_ (by simp only [VRel]; rfl)
      rw [hp]
      simp only [Sem.run_bind, run_convert_bytes_string w s d e none 0 0 hs' he' hd, Conv.bytesToString, Sem.run_pure, Result.andThen_ok]
    | slice b off len esz cap =>
      simp only [lenOf] at h
      cases hc : sliceCells σ len (.slice b off len esz cap) with
      | none => simp [hc] at h
      | some cs =>
        cases hb : bytesOf cs with
        | none => simp [hc, hb] at h
        | some l =>
          simp only [hc, hb, Option.some.injEq] at h
          cases hq : Nat.beq esz 1 with
          | false => simp [hq] at h
          | true =>
            simp only [hq, Option.some.injEq] at h; subst h
            have hesz := Nat.eq_of_beq_eq_true hq
            subst hesz
            have hlen : cs.length = len * 1 := by
              simp only [sliceCells] at hc
              split at hc
              · obtain ⟨q1, q2, q3, q4, q5⟩ := cellsAt_eq hc; omega
              · simp at hc
            obtain ⟨vs, f1, f2, -⟩ := sliceCells_sound (P := P) (size := 1) hw hp rfl (Nat.le_refl _) hc hlen
            obtain ⟨ns, rfl, rfl⟩ := bytesOf_sound cs l vs hb f2
            simp only [VRel] at hp
            obtain ⟨_, ad, cp, hX, _⟩ := hp
            rw [hX] at f1
            simp only [Builtin.firstCells, Nat.mul_one] at f1
            refine Sound.pure (cv := .string ⟨(ns.map fun n => UInt8.ofNat n.toNat).toArray⟩) hw ?_ (by simp only [VRel])
            rw [hX]
            simp only [Sem.run_bind, run_convert_bytes_string w s d e (some ad) len cp hs' he' hd, run_bytesToString w ad len cp ns f1, Result.andThen_ok, Sem.run_pure, foldl_push]
            congr 3
            apply ByteArray.ext
            show #[] ++ _ = _
            simp
    | _ => simp [lenOf] at h
theorem copyS {esz : Nat} {x y : Src} {r : ORes} {X Y : Operand} {t u e ty : TypeId} (hd : P.underlying t = some (.slice e)) (hs : sz? P e = some esz) (hx : trS X = some x) (hy : trS Y = some y)
    (hr : RRel H M ρ a.tmps) (hw : WRel CR H M σ w) (h : evCopy esz x y ρ σ = some r) : Sound P CR H M w (do pure (.value (← Builtin.copy_ #[t, u] ty #[a.eval X, a.eval Y]))) r := by
  unfold evCopy at h
  cases h1 : ρ.src x with
  | none => simp [h1] at h
  | some dv =>
    cases h2 : ρ.src y with
    | none => simp [h1, h2] at h
    | some sv =>
      cases h3 : lenOf dv with
      | none => simp [h1, h2, h3] at h
      | some dn =>
        cases h4 : lenOf sv with
        | none => simp [h1, h2, h3, h4] at h
        | some sn =>
          cases h5 : sliceCells σ (min sn dn) sv with
          | none => simp [h1, h2, h3, h4, h5] at h
          | some new =>
            simp only [h1, h2, h3, h4, h5] at h
            have hdv := trS_sound hx hr h1
            have hsv := trS_sound hy hr h2
            obtain ⟨ls, -⟩ := lenOf_sound (P := P) (w := w) h4 hsv
            cases dv with
            | nils =>
              simp only [Option.some.injEq] at h; subst h
              simp only [lenOf, Option.some.injEq] at h3; subst h3
              simp only [VRel] at hdv
              have hm0 : min sn 0 = 0 := by omega
              rw [hm0] at h5
              have hl0 : new.length = 0 := by
                cases sv <;> simp only [lenOf, reduceCtorEq, Option.some.injEq] at h4 <;> simp only [sliceCells] at h5
                · rename_i s; rw [show Nat.ble 0 s.size = true from Nat.ble_eq_true_of_le (Nat.zero_le _)] at h5; simp at h5; subst h5; rfl
                · simp at h5; subst h5; rfl
                · split at h5
                  · obtain ⟨q1, q2, q3, q4, q5⟩ := cellsAt_eq h5; omega
                  · simp at h5
                · obtain ⟨q1, q2, q3, q4, q5⟩ := cellsAt_eq h5; omega
              obtain ⟨vs, f1, f2, -⟩ := sliceCells_sound (P := P) (size := esz) hw hsv h4 (by omega) h5 (by omega)
              have e2 := f2.length
              have : vs = [] := List.eq_nil_of_length_eq_zero (by omega)
              subst this
              refine Sound.pure (cv := .int .i64 0) hw ?_ (by simp only [VRel])
              rw [hdv]
              have hmin : Nat.min sn 0 = 0 := by simp
              simp [Builtin.copy_, runUnderlying hd, ls, runSizeOf hs, f1, goInt]
            | slice b off len esz' cap =>
              simp only at h
              cases hq : Nat.beq esz esz' && allOne new && Nat.beq new.length (min sn dn * esz) with
              | false => simp [hq] at h
              | true =>
                cases hwp : writePtr σ (.ptr b off) new with
                | none => simp [hq, hwp] at h
                | some σ' =>
                  simp only [hq, hwp, Option.some.injEq] at h; subst h
                  simp only [Bool.and_eq_true] at hq
                  have he := Nat.eq_of_beq_eq_true hq.1.1
                  subst he
                  have hnl := Nat.eq_of_beq_eq_true hq.2
                  simp only [lenOf, Option.some.injEq] at h3; subst h3
                  obtain ⟨vs, f1, f2, -⟩ := sliceCells_sound (P := P) (size := esz) hw hsv h4 (by omega) h5 hnl
                  simp only [VRel] at hdv
                  obtain ⟨hb, ad, cp, hX, x1, x2, x3, x4⟩ := hdv
                  have e2 := f2.length
                  have hmin : Nat.min sn len = min sn len := rfl
                  by_cases hz : cp = 0
                  · have hl0 : len = 0 := by omega
                    subst hl0
                    have hn0 : new = [] := List.eq_nil_of_length_eq_zero (by rw [hnl]; simp)
                    subst hn0
                    have : vs = [] := List.eq_nil_of_length_eq_zero (by simpa using e2)
                    subst this
                    have hσ : WRel CR H M σ' w := by
                      simp only [writePtr] at hwp
                      cases hg : σ.get b with
                      | none => simp [hg] at hwp
                      | some o =>
                        cases o with
                        | cells cs op =>
                          simp only [hg] at hwp
                          cases hwr : writeAt cs off [] with
                          | none => simp [hwr] at hwp
                          | some cs' =>
                            simp only [hwr, Option.some.injEq] at hwp; subst hwp
                            obtain ⟨z1, z2, z3, z4, z5, z6, z7⟩ := writeAt_eq hwr
                            have : z2 = [] := List.eq_nil_of_length_eq_zero (by simpa using z7)
                            subst this
                            have : cs' = cs := by rw [z4, z5]
                            subst this
                            exact hw.reset hg
                        | _ => simp [hg] at hwp
                    refine ⟨.value (.int .i64 (min sn 0 : Nat)), w, M, ?_, hσ, Keeps.refl M w, _, by simp only [VRel]; rfl, .inl rfl⟩
                    rw [hX]
                    simp at f1
                    simp [Builtin.copy_, runUnderlying hd, ls, runSizeOf hs, f1, goInt, storeCells]
                  · have hp : VRel H M (.ptr b off) (.pointer (some ad)) := by
                      simp only [VRel]
                      refine ⟨hb, ad, rfl, fun c n hc => ?_⟩
                      rcases (x4 c n hc).1 with k | k
                      · exact absurd k hz
                      · exact k
                    obtain ⟨ad', w', hpe, hsp, hrun, hw', hk⟩ := writePtr_sound (P := P) hw hp hwp f2 hq.1.2
                    cases hpe
                    refine ⟨.value (.int .i64 (min sn len : Nat)), w', M, ?_, hw', hk, _, by simp only [VRel]; rfl, .inl rfl⟩
                    rw [hX]
                    have f1' : (Builtin.firstCells esz (Nat.min sn len) (a.eval Y)).run P w = .ok vs.toArray w := f1
                    simp [Builtin.copy_, runUnderlying hd, ls, runSizeOf hs, f1', hrun, goInt]
            | _ => simp at h
end Am
