/-
  What each operation asks of a state that is written out, and what it leaves. Over any program. No condition of its own.
-/
import Derived.Test.YtndlhhhebijknaaSxa
namespace Go.Proofs.Ytndlhhhebijknaa
set_option linter.unusedVariables false
namespace Sx
open Go.RowKit

/-! Forms are laid bare step by step, so that what is left is always written out. -/
def frcN (n : Nat) (k : Nat → Prop) : Prop := match n + 1 with | 0 => False | m + 1 => k m
theorem frcN_eq (n : Nat) (k : Nat → Prop) : frcN n k = k n := rfl
def frcSC (x : SC) (k : SC → Prop) : Prop := match x with
  | .any => k .any
  | .int a b => k (.int a b)
  | .w8 a => k (.w8 a)
  | .w16 a => k (.w16 a)
  | .w32 a => k (.w32 a)
  | .w64 a => k (.w64 a)
  | .bool a => k (.bool a)
  | .str a => k (.str a)
  | .p a b c => k (.p a b c)
  | .sl a b c d e => k (.sl a b c d e)
  | .ptr a => k (.ptr a)
  | .slc a b c => k (.slc a b c)
  | .ifc a b => k (.ifc a b)
  | .nilIfc => k .nilIfc
  | .fnv a b c => k (.fnv a b c)
  | .clo a b c d => k (.clo a b c d)
  | .nilFn => k .nilFn
  | .sn z a b c d e => k (.sn z a b c d e)
theorem frcSC_eq (x : SC) (k : SC → Prop) : frcSC x k = k x := by cases x <;> rfl
def frcV (x : SV) (k : SV → Prop) : Prop := match x with
  | .any => k .any
  | .a (.c x) => frcSC x fun x => k (.a (.c x))
  | .a (.agg l) => k (.a (.agg l))
  | .tup l => k (.tup l)
theorem frcV_eq (x : SV) (k : SV → Prop) : frcV x k = k x := by
  cases x with
  | any => rfl
  | tup l => rfl
  | a x => cases x with
    | agg l => rfl
    | c x => exact frcSC_eq x (fun x => k (.a (.c x)))
def setT : List SV → Nat → SV → (List SV → Prop) → Prop
  | [], _, _, k => k []
  | _ :: r, 0, x, k => k (x :: r)
  | y :: r, n + 1, x, k => setT r n x (fun r' => k (y :: r'))
theorem setT_eq : ∀ (l : List SV) (n : Nat) (x : SV) (k : List SV → Prop), setT l n x k = k (l.set n x)
  | [], _, _, _ => rfl
  | _ :: _, 0, _, _ => rfl
  | y :: r, n + 1, x, k => by simp only [setT, List.set_cons_succ, setT_eq r n x]
def getT : List SV → Nat → SV
  | [], _ => .any
  | x :: _, 0 => x
  | _ :: r, n + 1 => getT r n
def getH : List (List Seg) → Nat → List Seg
  | [], _ => []
  | x :: _, 0 => x
  | _ :: r, n + 1 => getH r n
def setH : List (List Seg) → Nat → List Seg → (List (List Seg) → Prop) → Prop
  | [], _, _, k => k []
  | _ :: r, 0, x, k => k (x :: r)
  | y :: r, n + 1, x, k => setH r n x (fun r' => k (y :: r'))
theorem setH_eq : ∀ (l : List (List Seg)) (n : Nat) (x : List Seg) (k : List (List Seg) → Prop), setH l n x k = k (l.set n x)
  | [], _, _, _ => rfl
  | _ :: _, 0, _, _ => rfl
  | y :: r, n + 1, x, k => by simp only [setH, List.set_cons_succ, setH_eq r n x]
/-- A new block behind the others; its name. -/
def addH : List (List Seg) → List Seg → Nat → (Nat → List (List Seg) → Prop) → Prop
  | [], x, n, k => frcN n fun n => k n [x]
  | y :: r, x, n, k => addH r x (n + 1) (fun i r' => k i (y :: r'))
theorem addH_eq : ∀ (l : List (List Seg)) (x : List Seg) (n : Nat) (k : Nat → List (List Seg) → Prop), addH l x n k = k (n + l.length) (l ++ [x])
  | [], _, _, _ => rfl
  | y :: r, x, n, k => by simp only [addH, addH_eq r x, List.length_cons, List.cons_append]; congr 1; omega

def ofInt (k : IntKind) (n : Int) : SC := match k with
  | .u8 => match n with
    | .ofNat m => match Nat.blt m 256 with | true => .w8 (BitVec.ofNat 8 m) | false => .any
    | _ => .any
  | .u16 => match n with
    | .ofNat m => match Nat.blt m 65536 with | true => .w16 (BitVec.ofNat 16 m) | false => .any
    | _ => .any
  | .u32 => match n with
    | .ofNat m => match Nat.blt m 4294967296 with | true => .w32 (BitVec.ofNat 32 m) | false => .any
    | _ => .any
  | .u64 => match n with
    | .ofNat m => match Nat.blt m 18446744073709551616 with | true => .w64 (BitVec.ofNat 64 m) | false => .any
    | _ => .any
  | k => .int k n
def ofVal : Value → SV
  | .int k n => .a (.c (ofInt k n))
  | .bool b => .a (.c (.bool b))
  | .string s => .a (.c (.str s.data.toList))
  | .pointer a => .a (.c (.ptr a))
  | .slice a n c => .a (.c (.slc a n c))
  | .nilIface => .a (.c .nilIfc)
  | .nilFunc => .a (.c .nilFn)
  | .func f x y => .a (.c (.fnv f x y))
  | _ => .any
def ev (t : List SV) : Operand → SV
  | .tmp d => getT t d
  | .const v => ofVal v
  | .global g => .a (.c (.ptr (some ⟨g, 0, none⟩)))
  | .func f => .a (.c (.fnv (.func f) #[] #[]))

/-! Blocks: the pieces from a place on; a piece is read, written. -/
def segs? : List Seg → Nat → Option (List Seg)
  | l, 0 => some l
  | .one _ :: r, b + 1 => segs? r b
  | .row n _ :: r, b + 1 => match Nat.ble n (b + 1) with
    | true => segs? r (b + 1 - n)
    | false => none
  | [], _ + 1 => none
def shape : List Seg → List (Option Nat)
  | [] => []
  | .one _ :: r => none :: shape r
  | .row n _ :: r => some n :: shape r
def takeA : List (Option Nat) → List Seg → (List Seg → Prop) → Prop
  | [], _, k => k []
  | none :: sh, .one x :: r, k => takeA sh r (fun l => k (.one x :: l))
  | some m :: sh, .row n f :: r, k => match Nat.beq m n with
    | true => takeA sh r (fun l => k (.row n f :: l))
    | false => False
  | _, _, _ => False
def takeB : List (Option Nat) → Nat → (Nat → SC) → Nat → (List Seg → Prop) → Prop
  | [], _, _, _, k => k []
  | none :: sh, n, f, o, k => o < n ∧ takeB sh n f (o + 1) (fun l => frcSC (f o) fun x => k (.one x :: l))
  | some m :: sh, n, f, o, k => o + m ≤ n ∧ takeB sh n f (o + m) (fun l => k (.row m (fun j => f (j + o)) :: l))
def loadS (sh : List (Option Nat)) (l : List Seg) (b o : Nat) (k : List Seg → Prop) : Prop :=
  match segs? l b with
  | some (.one x :: r) => match o with
    | 0 => takeA sh (.one x :: r) k
    | _ + 1 => False
  | some (.row n f :: r) => match sh with
    | [none] => o < n ∧ frcSC (f o) fun x => k [.one x]
    | [some m] => o + m ≤ n ∧ k [.row m (fun j => f (j + o))]
    | some m :: sh => match o with
      | 0 => takeA (some m :: sh) (.row n f :: r) k
      | _ + 1 => False
    | sh => takeB sh n f o k
  | _ => False
def upd (f : Nat → SC) (o : Nat) (x : SC) : Nat → SC := fun j => if j = o then x else f j
def updN (f : Nat → SC) (o m : Nat) (g : Nat → SC) : Nat → SC := fun j => if o ≤ j ∧ j < o + m then g (j - o) else f j
def nthC : List SC → Nat → SC
  | [], _ => .any
  | x :: _, 0 => x
  | _ :: r, n + 1 => nthC r n
/-- What lies in new, in the place of the first pieces of l. -/
def putA : List Seg → List Seg → (List Seg → Prop) → Prop
  | [], l, k => k l
  | .one x :: new, .one _ :: r, k => putA new r (fun l => k (.one x :: l))
  | .row m g :: new, .row n _ :: r, k => match Nat.beq m n with
    | true => putA new r (fun l => k (.row m g :: l))
    | false => False
  | _, _, _ => False
def putR (new : List Seg) (n : Nat) (f : Nat → SC) (o : Nat) (r : List Seg) (k : List Seg → Prop) : Prop :=
  match new with
  | [.one x] => o < n ∧ k (.row n (upd f o x) :: r)
  | [.row m g] => match Nat.beq m n with
    | true => o = 0 ∧ k (.row n g :: r)
    | false => o + m ≤ n ∧ k (.row n (updN f o m g) :: r)
  | .row m g :: new => match o with
    | 0 => putA (.row m g :: new) (.row n f :: r) k
    | _ + 1 => False
  | new => o + (flat new).length ≤ n ∧ k (.row n (updN f o (flat new).length (nthC (flat new))) :: r)
def putS (new : List Seg) : List Seg → Nat → Nat → (List Seg → Prop) → Prop
  | .one y :: r, 0, o, k => match o with
    | 0 => putA new (.one y :: r) k
    | _ + 1 => False
  | .row n f :: r, 0, o, k => putR new n f o r k
  | .one y :: r, b + 1, o, k => putS new r b o (fun l => k (.one y :: l))
  | .row n f :: r, b + 1, o, k => match Nat.ble n (b + 1) with
    | true => putS new r (b + 1 - n) o (fun l => k (.row n f :: l))
    | false => False
  | [], _, _, _ => False

/-! Numbers. -/
def wbin {n : Nat} (mk : BitVec n → SC) (op : BinOp) (x y : BitVec n) (K : SC → Prop) : Prop := match op with
  | .add => K (mk (x + y))
  | .sub => K (mk (x - y))
  | .mul => K (mk (x * y))
  | .and => K (mk (x &&& y))
  | .or => K (mk (x ||| y))
  | .xor => K (mk (x ^^^ y))
  | .andNot => K (mk (x &&& ~~~y))
  | .quo => y ≠ 0 ∧ K (mk (x / y))
  | .rem => y ≠ 0 ∧ K (mk (x % y))
  | .eql => K (.bool (decide (x = y)))
  | .neq => K (.bool (decide (x ≠ y)))
  | .lss => K (.bool (decide (x < y)))
  | .leq => K (.bool (decide (x ≤ y)))
  | .gtr => K (.bool (decide (y < x)))
  | .geq => K (.bool (decide (y ≤ x)))
  | _ => False
def ibin (op : BinOp) (a b : Int) (K : SC → Prop) : Prop := match op with
  | .add => (-9223372036854775808 ≤ a + b ∧ a + b ≤ 9223372036854775807) ∧ K (.int .i64 (a + b))
  | .sub => (-9223372036854775808 ≤ a - b ∧ a - b ≤ 9223372036854775807) ∧ K (.int .i64 (a - b))
  | .mul => (-9223372036854775808 ≤ a * b ∧ a * b ≤ 9223372036854775807) ∧ K (.int .i64 (a * b))
  | .quo => (0 ≤ a ∧ 0 < b ∧ a ≤ 9223372036854775807) ∧ K (.int .i64 (a / b))
  | .rem => (0 ≤ a ∧ 0 < b) ∧ K (.int .i64 (a % b))
  | .and => (0 ≤ a ∧ 0 ≤ b ∧ a ≤ 9223372036854775807 ∧ b ≤ 9223372036854775807) ∧ K (.int .i64 ((a.toNat &&& b.toNat : Nat) : Int))
  | .or => (0 ≤ a ∧ 0 ≤ b ∧ a ≤ 9223372036854775807 ∧ b ≤ 9223372036854775807) ∧ K (.int .i64 ((a.toNat ||| b.toNat : Nat) : Int))
  | .xor => (0 ≤ a ∧ 0 ≤ b ∧ a ≤ 9223372036854775807 ∧ b ≤ 9223372036854775807) ∧ K (.int .i64 ((a.toNat ^^^ b.toNat : Nat) : Int))
  | .eql => K (.bool (decide (a = b)))
  | .neq => K (.bool (decide (a ≠ b)))
  | .lss => K (.bool (decide (a < b)))
  | .leq => K (.bool (decide (a ≤ b)))
  | .gtr => K (.bool (decide (b < a)))
  | .geq => K (.bool (decide (b ≤ a)))
  | _ => False
/-- By how much is shifted. -/
def amount (y : SC) (K : Nat → Prop) : Prop := match y with
  | .w8 y => K (y.toNat)
  | .w16 y => K (y.toNat)
  | .w32 y => K (y.toNat)
  | .w64 y => K (y.toNat)
  | .int _ n => 0 ≤ n ∧ K n.toNat
  | _ => False
def wsh {n : Nat} (mk : BitVec n → SC) (left : Bool) (x : BitVec n) (k : Nat) (K : SC → Prop) : Prop := match left with
  | true => K (mk (x <<< k))
  | false => K (mk (x >>> k))
def sh (left : Bool) (x : SC) (n : Nat) (K : SC → Prop) : Prop := match x with
  | .w8 x => wsh (n := 8) .w8 left x n K
  | .w16 x => wsh (n := 16) .w16 left x n K
  | .w32 x => wsh (n := 32) .w32 left x n K
  | .w64 x => wsh (n := 64) .w64 left x n K
  | .int .i64 a => match left with
    | true => (n < 64 ∧ -9223372036854775808 ≤ a * 2 ^ n ∧ a * 2 ^ n ≤ 9223372036854775807) ∧ K (.int .i64 (a * 2 ^ n))
    | false => n < 64 ∧ K (.int .i64 (a / 2 ^ n))
  | _ => False
def isConst : Operand → Bool | .const _ => true | _ => false
def eqv (tk : TK) (cn : Bool) (x y : SC) (K : Bool → Prop) : Prop := match tk, x, y with
  | .bool, .bool a, .bool b => K (a == b)
  | .ptr _, .p .., .ptr none => K false
  | .ptr _, .ptr none, .p .. => K false
  | .ptr _, .ptr none, .ptr b => K b.isNone
  | .ptr _, .ptr (some _), .ptr none => K false
  | .slice _, .sl .., .slc none _ _ => K false
  | .slice _, .slc none _ _, .sl .. => K false
  | .slice _, .slc none _ _, .slc b _ _ => K b.isNone
  | .slice _, .slc (some _) _ _, .slc none _ _ => K false
  | .ifc, .nilIfc, .nilIfc => match cn with
    | true => K true
    | false => False
  | .ifc, .ifc _ _, .nilIfc => K false
  | .ifc, .nilIfc, .ifc _ _ => K false
  | .fn, .nilFn, .nilFn => K true
  | .fn, .fnv _ _ _, .nilFn => K false
  | .slice _, .sn z _ _ _ _ _, .slc none _ _ => K z
  | .slice _, .slc none _ _, .sn z _ _ _ _ _ => K z
  | _, _, _ => False
def bin (op : BinOp) (tk : TK) (cn : Bool) (x y : SC) (K : SC → Prop) : Prop := match op with
  | .shl => False
  | .shr => False
  | op => match x, y with
    | .int .i64 a, .int .i64 b => ibin op a b K
    | .w8 a, .w8 b => wbin (n := 8) .w8 op a b K
    | .w16 a, .w16 b => wbin (n := 16) .w16 op a b K
    | .w32 a, .w32 b => wbin (n := 32) .w32 op a b K
    | .w64 a, .w64 b => wbin (n := 64) .w64 op a b K
    | .str a, .str b => match op with
      | .add => a.length + b.length ≤ 9223372036854775807 ∧ K (.str (a ++ b))
      | .eql => K (.bool (decide (a = b)))
      | .neq => K (.bool (!decide (a = b)))
      | _ => False
    | x, y => match op with
      | .eql => eqv tk cn x y fun b => K (.bool b)
      | .neq => eqv tk cn x y fun b => K (.bool (!b))
      | _ => False
def un (op : UnOp) (x : SC) (K : SC → Prop) : Prop := match op, x with
  | .not, .bool b => K (.bool (!b))
  | .neg, .int .i64 a => (-9223372036854775808 ≤ -a ∧ -a ≤ 9223372036854775807) ∧ K (.int .i64 (-a))
  | .neg, .w8 x => K (.w8 (-x))
  | .neg, .w16 x => K (.w16 (-x))
  | .neg, .w32 x => K (.w32 (-x))
  | .neg, .w64 x => K (.w64 (-x))
  | .xor, .w8 x => K (.w8 (~~~x))
  | .xor, .w16 x => K (.w16 (~~~x))
  | .xor, .w32 x => K (.w32 (~~~x))
  | .xor, .w64 x => K (.w64 (~~~x))
  | _, _ => False
def ofW (x : SC) (K : (n : Nat) → BitVec n → Prop) : Prop := match x with
  | .w8 x => K 8 x
  | .w16 x => K 16 x
  | .w32 x => K 32 x
  | .w64 x => K 64 x
  | _ => False
def conv (dst : TK) (x : SC) (K : SC → Prop) : Prop := match dst, x with
  | .int .i64, .int .i64 a => (-9223372036854775808 ≤ a ∧ a ≤ 9223372036854775807) ∧ K (.int .i64 a)
  | .int .u8, .int .i64 a => K (.w8 (BitVec.ofInt 8 a))
  | .int .u16, .int .i64 a => K (.w16 (BitVec.ofInt 16 a))
  | .int .u32, .int .i64 a => K (.w32 (BitVec.ofInt 32 a))
  | .int .u64, .int .i64 a => K (.w64 (BitVec.ofInt 64 a))
  | .str, .str l => K (.str l)
  | .int .i64, .w64 x => x.toNat ≤ 9223372036854775807 ∧ K (.int .i64 (x.toNat : Int))
  | .int .i64, .w8 x => K (.int .i64 (x.toNat : Int))
  | .int .i64, .w16 x => K (.int .i64 (x.toNat : Int))
  | .int .i64, .w32 x => K (.int .i64 (x.toNat : Int))
  | .int .u8, x => ofW x fun _ x => K (.w8 (x.setWidth 8))
  | .int .u16, x => ofW x fun _ x => K (.w16 (x.setWidth 16))
  | .int .u32, x => ofW x fun _ x => K (.w32 (x.setWidth 32))
  | .int .u64, x => ofW x fun _ x => K (.w64 (x.setWidth 64))
  | _, _ => False
/-- A number that says where. -/
def idx (x : SC) (K : Int → Prop) : Prop := match x with
  | .int _ n => K n
  | x => ofW x fun _ x => K (x.toNat : Int)
/-- What stands behind an operation: nothing is asked; all that was there; the blocks of these names, and old memory. -/
inductive Keep where
  | free
  | all
  | only (l : List Nat)
def Keep.binds : Keep → Bool
  | .free => false
  | _ => true
def memB : Nat → List Nat → Bool
  | _, [] => false
  | x, y :: r => match Nat.beq x y with
    | true => true
    | false => memB x r
def Near (C : Cx) (r : Rho) (l : List Nat) (w w' : World) : Prop := Ext C.m C.w0 w' ∧ ∀ (i : Nat), i ∈ l → C.ro ≤ i → ∀ (B f : Nat), r[i]? = some (B, f) → B < w.heap.size → w'.heap[B]? = w.heap[B]?
def Stand (C : Cx) (q : Keep) (r : Rho) (w w' : World) : Prop := match q with
  | .free => True
  | .all => Ext [] w w'
  | .only l => Near C r l w w'
/-- From (r, w) to (r', w'): what turned is named or new; so are the names; what is to stand stands. -/
structure Frm (C : Cx) (q : Keep) (r : Rho) (w : World) (r' : Rho) (w' : World) : Prop where
  ext : Ext ((r.drop C.ro).map (·.1)) w w'
  fresh : ∀ (i B f : Nat), C.ro ≤ i → r'[i]? = some (B, f) → B ∈ (r.drop C.ro).map (·.1) ∨ w.heap.size ≤ B
  stand : Stand C q r w w'
/-- The blocks that an operation reads. -/
def nmV : SV → List Nat
  | .a (.c (.p i _ _)) => [i]
  | .a (.c (.sl i _ _ _ _)) => [i]
  | .a (.c (.sn _ i _ _ _ _)) => [i]
  | _ => []
def seen (t : List SV) : Op → List Nat
  | .load _ x => nmV (ev t x)
  | .convert _ _ x => nmV (ev t x)
  | _ => []
def seenOk (q : Keep) (ro : Nat) (l : List Nat) : Bool := match q with
  | .only m => l.all fun i => memB i m || Nat.blt i ro
  | _ => true
/-- Cells of old memory that stands. -/
def RawAt (C : Cx) (a : Addr) (l : List SC) : Prop :=
  a.spot = none ∧ a.block < C.w0.heap.size ∧ a.block ∉ C.m ∧ ∀ (j : Nat) (x : SC), l[j]? = some x → ∃ v, C.w0.cell? ⟨a.block, a.off + j, none⟩ = some v ∧ x.Is [] v

section
variable (C : Cx)
def td (t : Nat) (k : TD → Prop) : Prop := match findT C.T t with
  | some ⟨a, b, c, d⟩ => k ⟨a, b, c, d⟩
  | none => False
def ofSegs (agg : Bool) (l : List Seg) (k : SV → Prop) : Prop := match agg with
  | true => k (.a (.agg l))
  | false => match l with
    | [.one x] => k (.a (.c x))
    | _ => False
def toSegs (x : SV) (k : List Seg → Prop) : Prop := match x with
  | .a (.c x) => k [.one x]
  | .a (.agg l) => k l
  | _ => False
def asC (x : SV) (k : SC → Prop) : Prop := match x with
  | .a (.c x) => frcSC x k
  | _ => False
def nthF : List (Nat × Nat) → Nat → Option (Nat × Nat)
  | [], _ => none
  | x :: _, 0 => some x
  | _ :: r, n + 1 => nthF r n
def nthA : List SA → Nat → (SA → Prop) → Prop
  | .c x :: _, 0, k => k (.c x)
  | .agg l :: _, 0, k => k (.agg l)
  | _ :: r, n + 1, k => nthA r n k
  | [], _, _ => False
/-- Parts laid into pieces, each at its place. -/
def buildL (t : List SV) (place : Nat → (Nat → Nat → Nat → Prop) → Prop) : List (Nat × Operand) → List Seg → (List Seg → Prop) → Prop
  | [], l, k => k l
  | (i, x) :: r, l, k => place i fun b o n => toSegs (ev t x) fun new => (flat new).length = n ∧ putS new l b o fun l => buildL t place r l k
/-- The same for a row of single cells. -/
def buildR (t : List SV) : List (Nat × Operand) → List SC → (List SC → Prop) → Prop
  | [], l, k => k l
  | (i, x) :: r, l, k => asC (ev t x) fun x => setC l i x fun l => buildR t r l k
where setC : List SC → Nat → SC → (List SC → Prop) → Prop
  | [], _, _, _ => False
  | _ :: r, 0, x, k => k (x :: r)
  | y :: r, n + 1, x, k => setC r n x fun r => k (y :: r)
def reps : Nat → SC → (List SC → Prop) → Prop
  | 0, _, k => k []
  | n + 1, x, k => reps n x fun l => k (x :: l)
def rowSC : Nat → Nat → (Nat → SC) → (List SC → Prop) → Prop
  | 0, _, _, k => k []
  | n + 1, i, f, k => frcSC (f i) fun x => rowSC n (i + 1) f fun l => k (x :: l)
theorem rowSC_eq : ∀ (n i : Nat) (f : Nat → SC) (k : List SC → Prop), rowSC n i f k = k ((List.range' i n).map f)
  | 0, _, _, _ => rfl
  | n + 1, i, f, k => by rw [rowSC, frcSC_eq, rowSC_eq n (i + 1) f]; rfl
theorem reps_eq : ∀ (n : Nat) (x : SC) (k : List SC → Prop), reps n x k = k (List.replicate n x)
  | 0, _, _ => rfl
  | n + 1, x, k => by rw [reps, reps_eq n x]; rfl
def bound (t : List SV) (dflt : Nat) : Option Operand → (Int → Prop) → Prop
  | none, k => k (dflt : Int)
  | some x, k => asC (ev t x) fun x => idx x k
/-- What slicing leaves: bounds l, h, m out of n (as far as it goes without a bound) and c. -/
def bounds (t : List SV) (n c : Nat) (lo hi mx : Option Operand) (k : Nat → Nat → Nat → Prop) : Prop :=
  match mx with
  | some _ => match hi with
    | some _ => bound t 0 mx fun m => bound t n hi fun h => bound t 0 lo fun l => (0 ≤ l ∧ l ≤ h ∧ h ≤ m ∧ m ≤ (c : Int)) ∧ frcN l.toNat fun l => frcN h.toNat fun h => frcN m.toNat fun m => k l h m
    | none => False
  | none => bound t n hi fun h => bound t 0 lo fun l => (0 ≤ l ∧ l ≤ h ∧ h ≤ (c : Int)) ∧ frcN l.toNat fun l => frcN h.toNat fun h => k l h c
def isNum : IntKind → SC → Bool
  | .i64, .int .i64 _ => true
  | .u8, .w8 _ => true
  | .u16, .w16 _ => true
  | .u32, .w32 _ => true
  | .u64, .w64 _ => true
  | _, _ => false
def allIn (T : List (Nat × TD)) : List (Nat × Nat) → Bool
  | [] => true
  | (e, _) :: r => match findT T e with
    | some _ => allIn T r
    | none => false
def amt (t : List SV) (y : Operand) (K : Nat → Prop) : Prop := match y with
  | .const (.int _ (.ofNat m)) => K m
  | y => asC (ev t y) fun y => amount y K
def scale (n sz : Nat) : Nat := match sz with
  | 1 => n
  | sz => n * sz
theorem scale_eq (n sz : Nat) : scale n sz = n * sz := by
  unfold scale
  split
  · simp
  · rfl
/-- What lies behind a slice that is not nil. -/
def SnAt (h : List (List Seg)) (j b o m sz : Nat) (f : Nat → SC) : Prop :=
  ∃ N g tl, segs? (getH h j) b = some (.row N g :: tl) ∧ o + scale m sz ≤ N ∧ ∀ q, q < scale m sz → f q = g (q + o)
/-- What is taken from: how many elements, which cells. -/
def srcC (sz : Nat) (h : List (List Seg)) (x : SV) (k : Nat → (Nat → SC) → Prop) : Prop := match x with
  | .a (.c (.sl j b o m _)) => match segs? (getH h j) b with
    | some (.row N f :: _) => o + scale m sz ≤ N ∧ k m (fun q => f (q + o))
    | _ => False
  | .a (.c (.slc none m _)) => m = 0 ∧ k 0 (fun _ => .any)
  | .a (.c (.slc (some a) m _)) => ∃ f, RawAt C a ((List.range (m * sz)).map f) ∧ k m f
  | .a (.c (.str l)) => match sz with
    | 1 => k l.length (fun q => .w8 (l.getD q 0).toBitVec)
    | _ => False
  | .a (.c (.sn z j b o m _)) => ∃ f : Nat → SC, ((z = true → m = 0) ∧ (z = false → SnAt h j b o m sz f)) ∧ k m f
  | _ => False
/-- The place of an element. -/
def elt (n : Int) (sz o : Nat) (K : Nat → Prop) : Prop := match sz with
  | 1 => K (n.toNat + o)
  | sz => K (n.toNat * sz + o)
/-- Two arrays of numbers compared. -/
def arrS (op : BinOp) (n e : Nat) (x y : SV) (k : SV → Prop) : Prop := td C e fun de => match de.k, de.isAgg with
  | .int kk, false => match x, y with
    | .a (.agg [.row n1 f]), .a (.agg [.row n2 g]) => (n1 = n ∧ n2 = n ∧ (∀ j, j < n → isNum kk (f j) = true) ∧ ∀ j, j < n → isNum kk (g j) = true) ∧ ∀ b : Bool, (b = true ↔ ∀ j, j < n → f j = g j) → match op with
      | .eql => k (.a (.c (.bool b)))
      | .neq => k (.a (.c (.bool (!b))))
      | _ => False
    | _, _ => False
  | _, _ => False
/-- Operations that leave the state as it is. -/
def stepR (o : Op) (t : List SV) (h : List (List Seg)) (k : SV → Prop) : Prop := match o with
  | .move x => k (ev t x)
  | .assign x => k (ev t x)
  | .pick c a b => asC (ev t c) fun
    | .bool v => (v = true → k (ev t a)) ∧ (v = false → k (ev t b))
    | _ => False
  | .nilCheck x => asC (ev t x) fun
    | .p i b o => k (.a (.c (.p i b o)))
    | .ptr (some a) => k (.a (.c (.ptr (some a))))
    | .fnv (.func f) a b => k (.a (.c (.fnv (.func f) a b)))
    | _ => False
  | .binOp .shl _ x y _ => asC (ev t x) fun a => amt t y fun n => sh true a n fun v => k (.a (.c v))
  | .binOp .shr _ x y _ => asC (ev t x) fun a => amt t y fun n => sh false a n fun v => k (.a (.c v))
  | .binOp op u x y _ => td C u fun d => match d.k with
   | .array n e => arrS C op n e (ev t x) (ev t y) k
   | _ => asC (ev t x) fun a => asC (ev t y) fun b => bin op d.k (isConst x || isConst y) a b fun v => k (.a (.c v))
  | .unOp op _ x => asC (ev t x) fun a => un op a fun v => k (.a (.c v))
  | .convert s d x => td C s fun ds => td C d fun d => match ds.k, d.k with
    | .slice e, .str => td C e fun de => match de.k with
      | .int .u8 => srcC C 1 h (ev t x) fun m g => ∃ l : List UInt8, (l.length = m ∧ ∀ q, q < m → g q = .w8 (l.getD q 0).toBitVec) ∧ k (.a (.c (.str l)))
      | _ => False
    | _, _ => asC (ev t x) fun a => conv d.k a fun v => k (.a (.c v))
  | .makeInterface u x => td C u fun d => match d.k with
    | .ifc => False
    | _ => asC (ev t x) fun a => match a.plain with
      | true => k (.a (.c (.ifc u a.val)))
      | false => False
  | .makeFunc (.func f) first cap => match first.toList, cap.toList with
    | [], [] => k (.a (.c (.fnv (.func f) #[] #[])))
    | [x], [] => asC (ev t x) fun
      | .p i b o => k (.a (.c (.clo f i b o)))
      | _ => False
    | _, _ => False
  | .load u x => td C u fun d => asC (ev t x) fun
    | .p i b o => loadS (shape d.zero) (getH h i) b o fun l => ofSegs d.isAgg l k
    | .ptr (some a) => ∃ l, (RawAt C a (flat l) ∧ (flat l).length = d.size) ∧ ofSegs d.isAgg l k
    | _ => False
  | .fieldAddr u x f => td C u fun d => match d.k with
    | .struct fs => match nthF fs f with
      | some (e, off) => td C e fun de => match de.size with
       | 0 => False
       | _ + 1 => asC (ev t x) fun
        | .p i b o => match segs? (getH h i) b, d.zero with
          | some (.row _ _ :: _), .one _ :: _ => frcN (o + off) fun o => k (.a (.c (.p i b o)))
          | _, _ => frcN (b + off) fun b => k (.a (.c (.p i b o)))
        | .ptr (some a) => k (.a (.c (.ptr (some (a.add off)))))
        | _ => False
      | none => False
    | _ => False
  | .indexAddr u x ix => td C u fun d => asC (ev t ix) fun ix => idx ix fun n => match d.k with
    | .array len e => td C e fun de => asC (ev t x) fun
      | .p i b o => (0 ≤ n ∧ n < (len : Int)) ∧ elt n de.size o fun o => k (.a (.c (.p i b o)))
      | .ptr (some a) => (0 ≤ n ∧ n < (len : Int)) ∧ k (.a (.c (.ptr (some (a.add (n.toNat * de.size))))))
      | _ => False
    | .slice e => td C e fun de => asC (ev t x) fun
      | .sl i b o len _ => (0 ≤ n ∧ n < (len : Int)) ∧ elt n de.size o fun o => k (.a (.c (.p i b o)))
      | .slc (some a) len _ => (0 ≤ n ∧ n < (len : Int)) ∧ k (.a (.c (.ptr (some (a.add (n.toNat * de.size))))))
      | .sn _ i b o len _ => (0 ≤ n ∧ n < (len : Int)) ∧ elt n de.size o fun o => k (.a (.c (.p i b o)))
      | _ => False
    | _ => False
  | .index u x ix => td C u fun d => asC (ev t ix) fun ix => idx ix fun n => match d.k, ev t x with
    | .str, .a (.c (.str l)) => (0 ≤ n ∧ n < (l.length : Int)) ∧ k (.a (.c (.w8 (l.getD n.toNat 0).toBitVec)))
    | .array len e, .a (.agg l) => td C e fun de => (0 ≤ n ∧ n < (len : Int)) ∧ elt n de.size 0 fun o => loadS (shape de.zero) l 0 o fun l => ofSegs de.isAgg l k
    | _, _ => False
  | .field u x f => td C u fun d => match d.k, ev t x with
    | .struct fs, .a (.agg l) => match nthF fs f with
      | some (e, off) => td C e fun de => loadS (shape de.zero) l off 0 fun l => ofSegs de.isAgg l k
      | none => False
    | _, _ => False
  | .build u parts => td C u fun d => match d.k with
    | .struct fs => match allIn C.T fs with
      | true => buildL t (fun i k => match nthF fs i with | some (e, off) => td C e fun de => k off 0 de.size | none => False) parts.toList d.zero fun l => k (.a (.agg l))
      | false => False
    | .array _ e => td C e fun de => match de.zero, d.zero with
      | [.one _], [.row m f] => rowSC m 0 f fun z => buildR t parts.toList z fun l => k (.a (.agg [.row m (nthC l)]))
      | _, z => buildL t (fun i k => frcN (i * de.size) fun o => k 0 o de.size) parts.toList z fun l => k (.a (.agg l))
    | _ => False
  | .extract x i => match ev t x with
    | .tup l => nthA l i fun v => k (.a v)
    | _ => False
  | .slice u x lo hi mx => td C u fun d => match d.k, ev t x with
    | .str, .a (.c (.str l)) => match mx with
      | none => bounds t l.length l.length lo hi none fun a b _ => k (.a (.c (.str ((l.drop a).take (b - a)))))
      | some _ => False
    | .slice e, .a (.c (.sl i b o n c)) => td C e fun de => bounds t n c lo hi mx fun l h m => frcN (if m = l then o else o + l * de.size) fun o => frcN (h - l) fun n => frcN (m - l) fun c => k (.a (.c (.sl i b o n c)))
    | .slice e, .a (.c (.slc a n c)) => td C e fun de => bounds t n c lo hi mx fun l h m => frcN (h - l) fun n => frcN (m - l) fun c => k (.a (.c (.slc (if m = l then a else a.map (·.add (l * de.size))) n c)))
    | .array len e, .a (.c (.p i b o)) => td C e fun de => bounds t len len lo hi mx fun l h m => frcN (if m = l then o else o + l * de.size) fun o => frcN (h - l) fun n => frcN (m - l) fun c => k (.a (.c (.sl i b o n c)))
    | .ptr q, .a (.c (.p i b o)) => td C q fun dq => match dq.k with
      | .array len e => td C e fun de => bounds t len len lo hi mx fun l h m => frcN (if m = l then o else o + l * de.size) fun o => frcN (h - l) fun n => frcN (m - l) fun c => k (.a (.c (.sl i b o n c)))
      | _ => False
    | .slice e, .a (.c (.sn z i b o n c)) => td C e fun de => bounds t n c lo hi mx fun l h m => frcN (if m = l then o else o + l * de.size) fun o => frcN (h - l) fun n => frcN (m - l) fun c => k (.a (.c (.sn z i b o n c)))
    | _, _ => False
  | .call ⟨.builtin .len, args, ts⟩ => match args.toList, ts.toList with
    | [x], u :: _ => td C u fun d => match d.k, ev t x with
      | .str, .a (.c (.str l)) => k (.a (.c (.int .i64 (l.length : Int))))
      | .slice _, .a (.c (.sl _ _ _ n _)) => k (.a (.c (.int .i64 (n : Int))))
      | .slice _, .a (.c (.slc _ n _)) => k (.a (.c (.int .i64 (n : Int))))
      | .slice _, .a (.c (.sn _ _ _ _ n _)) => k (.a (.c (.int .i64 (n : Int))))
      | _, _ => False
    | _, _ => False
  | .call ⟨.builtin .min, args, _⟩ => match args.toList with
    | [x, y] => asC (ev t x) fun a => asC (ev t y) fun b => match a, b with
      | .int .i64 a, .int .i64 b => k (.a (.c (.int .i64 (if b < a then b else a))))
      | _, _ => False
    | _ => False
  | .call ⟨.builtin .max, args, _⟩ => match args.toList with
    | [x, y] => asC (ev t x) fun a => asC (ev t y) fun b => match a, b with
      | .int .i64 a, .int .i64 b => k (.a (.c (.int .i64 (if a < b then b else a))))
      | _, _ => False
    | _ => False
  | _ => False
def appF (f : Nat → SC) (o n m : Nat) (g : Nat → SC) : Nat → SC := fun q => if q < n then f (q + o) else if q < n + m then g (q - n) else .any
def newF (m : Nat) (g : Nat → SC) : Nat → SC := fun q => if q < m then g q else .any
def isIntK : TK → Bool
  | .int _ => true
  | _ => false
/-- append. -/
def appS (t : List SV) (h : List (List Seg)) (args : List Operand) (ts : List TypeId) (k : SV → List (List Seg) → Prop) : Prop := match args, ts with
  | [s, x], u :: u2 :: _ => td C u fun d => match d.k with
    | .slice e => td C e fun de => td C u2 fun d2 => match isIntK d2.k, de.size, de.bytes with
      | false, sz + 1, by_ + 1 => srcC C (sz + 1) h (ev t x) fun m g => match ev t s with
        | .a (.c (.slc none n c)) => (n = 0 ∧ c = 0) ∧ m * (by_ + 1) ≤ 140737488355328 ∧ (m = 0 → k (.a (.c (.slc none 0 0))) h) ∧
          (0 < m → ∀ c', m ≤ c' → addH h [.row (scale c' (sz + 1)) (newF (scale m (sz + 1)) g)] 0 fun i h => k (.a (.c (.sl i 0 0 m c'))) h)
        | .a (.c (.sl i 0 o n c)) => match Nat.ble C.ro i, getH h i with
          | true, [.row N f] => (n ≤ c ∧ o + scale c (sz + 1) ≤ N ∧ (n + m) * (by_ + 1) ≤ 140737488355328) ∧
            ∀ c', n + m ≤ c' → setH h i [] fun h => addH h [.row (scale c' (sz + 1)) (appF f o (scale n (sz + 1)) (scale m (sz + 1)) g)] 0 fun i h => k (.a (.c (.sl i 0 0 (n + m) c'))) h
          | _, _ => False
        | _ => False
      | _, _, _ => False
    | _ => False
  | _, _ => False
/-- copy, of single cells. -/
def cpS (t : List SV) (h : List (List Seg)) (args : List Operand) (ts : List TypeId) (k : SV → List (List Seg) → Prop) : Prop := match args, ts with
  | [s, x], u :: _ => td C u fun d => match d.k with
    | .slice e => td C e fun de => match de.size with
      | 1 => srcC C 1 h (ev t x) fun m g => match ev t s with
        | .a (.c (.sl i b o n _)) => match Nat.ble C.ro i with
          | true => putRow (getH h i) b o (min m n) g fun l => setH h i l fun h => k (.a (.c (.int .i64 ((min m n : Nat) : Int)))) h
          | false => False
        | .a (.c (.slc none n _)) => n = 0 ∧ k (.a (.c (.int .i64 0))) h
        | _ => False
      | _ => False
    | _ => False
  | _, _ => False
where putRow : List Seg → Nat → Nat → Nat → (Nat → SC) → (List Seg → Prop) → Prop
  | .row n f :: r, 0, o, m, g, k => o + m ≤ n ∧ k (.row n (updN f o m g) :: r)
  | .one y :: r, b + 1, o, m, g, k => putRow r b o m g (fun l => k (.one y :: l))
  | .row n f :: r, b + 1, o, m, g, k => match Nat.ble n (b + 1) with
    | true => putRow r (b + 1 - n) o m g (fun l => k (.row n f :: l))
    | false => False
  | _, _, _, _, _, _ => False
/-- Operations that make or turn memory. -/
def stepC (o : Op) (t : List SV) (h : List (List Seg)) (k : SV → List (List Seg) → Prop) : Prop := match o with
  | .alloc u => td C u fun d => addH h d.zero 0 fun i h => k (.a (.c (.p i 0 0))) h
  | .box u x => td C u fun d => toSegs (ev t x) fun l => addH h l 0 fun i h => (flat l).length = d.size ∧ k (.a (.c (.p i 0 0))) h
  | .store u x y => td C u fun d => toSegs (ev t y) fun new => asC (ev t x) fun
    | .p i b o => match Nat.ble C.ro i with
      | true => putS new (getH h i) b o fun l => setH h i l fun h => (flat new).length = d.size ∧ k (.tup []) h
      | false => False
    | _ => False
  | .buildSlice u len parts => td C u fun d => match d.k with
    | .slice e => td C e fun de => match Nat.ble (len * de.size) 16777216, de.zero with
      | true, [.one z] => reps len z fun z => buildR t parts.toList z fun l => addH h [.row len (nthC l)] 0 fun i h => k (.a (.c (.sl i 0 0 len len))) h
      | true, z => match de.size with
        | 0 => False
        | _ + 1 => frcN (len * de.size) fun n => buildL t (fun i k => frcN (i * de.size) fun o => k 0 o de.size) parts.toList [.row n (fun j => nthC (flat z) (j % de.size))] fun l => addH h l 0 fun i h => k (.a (.c (.sl i 0 0 len len))) h
      | _, _ => False
    | _ => False
  | .makeSlice u l c => td C u fun d => match d.k with
    | .slice e => td C e fun de => asC (ev t l) fun l => idx l fun l => asC (ev t c) fun c => idx c fun c => (0 ≤ l ∧ l ≤ c ∧ c * de.bytes ≤ 140737488355328 ∧ c ≤ 9223372036854775807) ∧
      frcN l.toNat fun l => frcN c.toNat fun c => match de.zero with
        | [.one z] => addH h [.row c (fun _ => z)] 0 fun i h => k (.a (.c (.sl i 0 0 l c))) h
        | z => match de.size with
          | 0 => False
          | _ + 1 => addH h [.row (c * de.size) (fun j => nthC (flat z) (j % de.size))] 0 fun i h => k (.a (.c (.sl i 0 0 l c))) h
    | _ => False
  | .call ⟨.builtin .append, args, ts⟩ => appS C t h args.toList ts.toList k
  | .call ⟨.builtin .copy, args, ts⟩ => cpS C t h args.toList ts.toList k
  | .convert u v x => td C u fun du => td C v fun dv => match du.k, dv.k, ev t x with
    | .str, .slice e, .a (.c (.str l)) => td C e fun de => match de.k with
      | .int .u8 => ∀ c', l.length ≤ c' → addH h [.row c' (fun q => if q < l.length then .w8 (l.getD q 0).toBitVec else .w8 0)] 0 fun i h => k (.a (.c (.sl i 0 0 l.length c'))) h
      | _ => False
    | _, _, _ => False
  | _ => False
def isCh : Op → Bool
  | .alloc _ | .box .. | .store .. | .buildSlice .. | .makeSlice .. => true
  | .call ⟨.builtin .append, _, _⟩ => true
  | .call ⟨.builtin .copy, _, _⟩ => true
  | _ => false
/-- A list of values that are handed over. -/
def evs (t : List SV) : List Operand → (List SA → Prop) → Prop
  | [], k => k []
  | x :: r, k => match ev t x with
    | .a (.c x) => frcSC x fun x => evs t r fun l => k (.c x :: l)
    | .a (.agg g) => evs t r fun l => k (.agg g :: l)
    | _ => False
def IsAs (r : Rho) (l : List SA) (vs : List Value) : Prop := l.length = vs.length ∧ ∀ (j : Nat) (x : SA), l[j]? = some x → ∃ u, vs[j]? = some u ∧ SA.Is r x u
def callable (P : Program) (f : FuncId) : Bool := (P.funcs[f]?).any fun fn => fn.body.isSome && fn.name != "runtime.NumGoroutine"
/-- What a call is to keep to (q: what stands behind it). -/
def CallVC (q : Keep) (f : FuncId) (first : Array Value) (args : List SA) (cap : Array Value) (t : List SV) (h : List (List Seg)) (k : SV → List (List Seg) → Prop) : Prop :=
  ∀ r a w vs, Ok C ⟨t, h⟩ r a w → IsAs r args vs → Calls C.P f (first ++ vs.toArray ++ cap) w fun e w' =>
    ∃ v x h' r', e = .returned v ∧ SV.Is r' x v ∧ RLe r r' ∧ HeapOk C h' r' w' ∧ Frm C q r w r' w' ∧ k x h'
def isSt : Op → Bool
  | .store .. => true
  | .call ⟨.builtin .append, _, _⟩ => true
  | .call ⟨.builtin .copy, _, _⟩ => true
  | _ => false
/-- Where an operation writes. -/
def tgtOf : Op → Option Operand
  | .store _ x _ => some x
  | .call ⟨.builtin .append, args, _⟩ => args.toList.head?
  | .call ⟨.builtin .copy, args, _⟩ => args.toList.head?
  | _ => none
def tgtN (t : List SV) (op : Op) : Option Nat := match tgtOf op with
  | some x => match ev t x with
    | .a (.c (.p i _ _)) => some i
    | .a (.c (.sl i _ _ _ _)) => some i
    | _ => none
  | none => none
def aptN (h : List (List Seg)) (i : Nat) : List Nat → Bool
  | [] => true
  | j :: l => (match Nat.blt j h.length with
    | true => !(Nat.beq j i) && (match getH h j with
      | [] => false
      | _ => true)
    | false => true) && aptN h i l
def tgtOk (ro : Nat) (h : List (List Seg)) (l : List Nat) (i : Nat) : Bool := Nat.ble ro i && (match getH h i with
  | [] => false
  | _ => true) && aptN h i l
def step (q : Keep) (o : Oper) (t : List SV) (h : List (List Seg)) (k : SV → List (List Seg) → Prop) : Prop := match isCh o.op with
  | true => match q.binds && isSt o.op with
    | true => match q, tgtN t o.op with
      | .only l, some i => match tgtOk C.ro h l i with
        | true => stepC C o.op t h k
        | false => False
      | _, _ => False
    | false => stepC C o.op t h k
  | false => match o.op with
    | .call ⟨.value f, args, _⟩ => match ev t f with
      | .a (.c (.fnv (.func g) first cap)) => callable C.P g = true ∧ evs t args.toList fun l => CallVC C q g first l cap t h k
      | .a (.c (.clo g i b o)) => callable C.P g = true ∧ evs t args.toList fun l => CallVC C q g #[] (.c (.p i b o) :: l) #[] t h k
      | _ => False
    | .convert u v x => td C u fun du => td C v fun dv => match du.k, dv.k with
      | .str, .slice _ => stepC C (.convert u v x) t h k
      | .slice _, .slice e => match q with
        | .free => td C e fun de => match de.k, Nat.beq u v, ev t x with
          | .int .u8, true, .a (.c (.sl i b o n c)) => match Nat.ble C.ro i, Nat.blt i h.length with
            | true, true => k (.a (.c (.sl i b o n c))) h
            | _, _ => False
          | _, _, _ => False
        | _ => False
      | _, _ => stepR C (.convert u v x) t h fun x => k x h
    | op => stepR C op t h fun x => k x h
def putD (d : Option Tmp) (x : SV) (t : List SV) (k : List SV → Prop) : Prop := match d with
  | some d => frcV x fun x => setT t d x k
  | none => k t
def dstOf (ops : Array Oper) (j : Nat) : Option Tmp := (ops[j]?).bind (·.dst)
/-- Whether an operation runs. -/
def guard (ops : Array Oper) (o : Oper) (t : List SV) (yes no : Prop) : Prop := match o.guard with
  | none => yes
  | some (j, want) => match dstOf ops j with
    | some d => match getT t d with
      | .a (.c (.bool b)) => match want with
        | true => (b = true → yes) ∧ (b = false → no)
        | false => (b = false → yes) ∧ (b = true → no)
      | .tup [] => no
      | _ => False
    | none => False
def one (q : Keep) (ops : Array Oper) (o : Oper) (s : St) (k : St → Prop) : Prop := match s with
  | ⟨t, h⟩ => guard ops o t (step C q o t h fun x h' => putD o.dst x t fun t' => k ⟨t', h'⟩) (putD o.dst (.tup []) t fun t' => k ⟨t', h⟩)
/-- The same, where it only reads. -/
def oneR (ops : Array Oper) (o : Oper) (s : St) (k : St → Prop) : Prop := match s with
  | ⟨t, h⟩ => guard ops o t (stepR C o.op t h fun x => putD o.dst x t fun t' => k ⟨t', h⟩) (putD o.dst (.tup []) t fun t' => k ⟨t', h⟩)
def vcOps (ops : Array Oper) : List Oper → St → (St → Prop) → Prop
  | [], s, K => K s
  | o :: rest, s, K => one C .free ops o s fun s' => vcOps ops rest s' K
end
end Sx
end Go.Proofs.Ytndlhhhebijknaa
