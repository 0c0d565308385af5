/-
  What a body asks of a state that is written out. Over any program. No condition of its own.
-/
import Derived.Test.YtndlhhhebijknaaSxb
import Derived.Test.YtndlhhhebijknaaRegion
namespace Go.Proofs.Ytndlhhhebijknaa
set_option linter.unusedVariables false
namespace Sx
open Go.RowKit

/-! Other names for the blocks: block i is called q i before. -/
def nthN : List Nat → Nat → Nat → Prop → Prop
  | [], _, _, _ => False
  | x :: _, 0, i, k => match Nat.beq x i with
    | true => k
    | false => False
  | _ :: r, n + 1, i, k => nthN r n i k
def sameN (b b' : Nat) (k : Prop) : Prop := match Nat.beq b b' with
  | true => k
  | false => False
/-- One thing is as good as another. -/
def eqC (q : List Nat) (x y : SC) (k : Prop) : Prop := match y with
  | .any => k
  | .int .i64 b => match x with | .int .i64 a => a = b ∧ k | _ => False
  | .w8 b => match x with | .w8 a => a = b ∧ k | _ => False
  | .w16 b => match x with | .w16 a => a = b ∧ k | _ => False
  | .w32 b => match x with | .w32 a => a = b ∧ k | _ => False
  | .w64 b => match x with | .w64 a => a = b ∧ k | _ => False
  | .bool b => match x with | .bool a => a = b ∧ k | _ => False
  | .str b => match x with | .str a => a = b ∧ k | _ => False
  | .p i' b' o' => match x with | .p i b o => nthN q i' i (sameN b b' (o = o' ∧ k)) | _ => False
  | .sl i' b' o' n' c' => match x with | .sl i b o n c => nthN q i' i (sameN b b' (o = o' ∧ n = n' ∧ c = c' ∧ k)) | _ => False
  | .nilIfc => match x with | .nilIfc => k | _ => False
  | .nilFn => match x with | .nilFn => k | _ => False
  | .int k' b => x = .int k' b ∧ k
  | .ptr a => x = .ptr a ∧ k
  | .slc a n c => x = .slc a n c ∧ k
  | .ifc t v => x = .ifc t v ∧ k
  | .fnv f u v => x = .fnv f u v ∧ k
  | .clo f' i' b' o' => match x with | .clo f i b o => f = f' ∧ nthN q i' i (sameN b b' (o = o' ∧ k)) | _ => False
  | .sn z' i' b' o' n' c' => match x with
    | .sn z i b o n c => nthN q i' i (sameN b b' (z = z' ∧ o = o' ∧ n = n' ∧ c = c' ∧ k))
    | .sl i b o n c => nthN q i' i (sameN b b' (z' = false ∧ o = o' ∧ n = n' ∧ c = c' ∧ k))
    | .slc none n c => n = 0 ∧ c = 0 ∧ z' = true ∧ n' = 0 ∧ c' = 0 ∧ k
    | _ => False
def eqSegs (q : List Nat) : List Seg → List Seg → Prop → Prop
  | _, [], k => k
  | .one x :: r, .one y :: r', k => eqC q x y (eqSegs q r r' k)
  | .row n f :: r, .row m g :: r', k => n = m ∧ (∀ j, j < m → eqC q (f j) (g j) True) ∧ eqSegs q r r' k
  | _, _, _ => False
def eqA (q : List Nat) (x y : SA) (k : Prop) : Prop := match x, y with
  | .c x, .c y => eqC q x y k
  | .agg l, .agg l' => l.length = l'.length ∧ eqSegs q l l' k
  | _, _ => False
def eqL (q : List Nat) : List SA → List SA → Prop → Prop
  | [], [], k => k
  | x :: r, y :: r', k => eqA q x y (eqL q r r' k)
  | _, _, _ => False
def eqV (q : List Nat) (x y : SV) (k : Prop) : Prop := match y with
  | .any => k
  | .a y => match x with
    | .a x => eqA q x y k
    | _ => False
  | .tup l' => match x with
    | .tup l => eqL q l l' k
    | _ => False
def entT (q : List Nat) : List SV → List SV → Prop → Prop
  | [], [], k => k
  | x :: r, y :: r', k => eqV q x y (entT q r r' k)
  | _, _, _ => False
def entH (q : List Nat) (h : List (List Seg)) : List Nat → List (List Seg) → Prop → Prop
  | [], [], k => k
  | i :: is, l :: r, k => eqSegs q (getH h i) l (entH q h is r k)
  | _, _, _ => False
def allLt : List Nat → Nat → Bool
  | [], _ => true
  | x :: r, n => match Nat.blt x n with
    | true => allLt r n
    | false => false
def notIn : Nat → List Nat → Bool
  | _, [] => true
  | x, y :: r => match Nat.beq x y with
    | true => false
    | false => notIn x r
def nodup : List Nat → Bool
  | [] => true
  | x :: r => match notIn x r with
    | true => nodup r
    | false => false
def pref : Nat → Nat → List Nat → Bool
  | 0, _, _ => true
  | n + 1, i, x :: r => match Nat.beq i x with
    | true => pref n (i + 1) r
    | false => false
  | _ + 1, _, [] => false
/-- s is as good as s', whose blocks are called q in s. -/
def Ent (C : Cx) (q : List Nat) (s s' : St) : Prop :=
  (pref C.r0.length 0 q = true ∧ nodup q = true ∧ allLt q s.h.length = true) ∧ entT q s.t s'.t (entH q s.h q s'.h True)

section
variable (C : Cx)
/-- An order that stands for all orders: plain readers and what comes alone; then, behind all of them, what comes alone. AL: new blocks that may come at any time. -/
def planB (ops : Array Oper) : List Nat → Array Bool → Bool
  | [], l => Region.ready .any ops l == []
  | i :: B, l => Region.ready .any ops l == [i] && planB ops B (l.setIfInBounds i true)
def setAll (l : Array Bool) : List Nat → Array Bool
  | [] => l
  | i :: r => setAll (l.setIfInBounds i true) r
def planOk (ops : Array Oper) (AL B : List Nat) : List (Nat × Bool) → Array Bool → Bool
  | [], l => planB ops B l
  | (i, true) :: A, l => !(memB i AL) && (Region.ready .any ops l).contains i && Region.free .any ops l i && planOk ops AL B A (l.setIfInBounds i true)
  | (i, false) :: A, l => Region.ready .any ops (setAll l (AL.filter fun j => !(Nat.beq j i))) == [i] && (Region.ready .any ops l).contains i && planOk ops AL B A (l.setIfInBounds i true)
def planAll (ops : Array Oper) (AL : List Nat) (A : List (Nat × Bool)) (B : List Nat) : Bool :=
  planOk ops AL B A (Array.replicate ops.size false) && Region.noSelect ops && Region.waits .any ops (A.map (·.1)) && Nat.beq (A.length + B.length) ops.size && AL.all fun j => memB j (A.map (·.1))
/-- A new block that may come at any time: its cells; a pointer or a slice. -/
def flo (T : List (Nat × TD)) : Op → Option (List Seg × Option (Nat × Nat))
  | .alloc u => match findT T u with
    | some d => some (d.zero, none)
    | none => none
  | .makeSlice u (.const (.int .i64 (.ofNat l))) (.const (.int .i64 (.ofNat c))) => match findT T u with
    | some d => match d.k with
      | .slice e => match findT T e with
        | some de => match de.zero with
          | [.one z] => match Nat.ble l c && Nat.ble (c * de.bytes) 140737488355328 && Nat.ble c 9223372036854775807 with
            | true => some ([.row c (fun _ => z)], some (l, c))
            | false => none
          | _ => none
        | none => none
      | _ => none
    | none => none
  | _ => none
def floOk (T : List (Nat × TD)) (ops : Array Oper) : List Nat → Bool
  | [] => true
  | j :: r => (match ops[j]? with
    | some o => (match o.dst with
      | some d => (match o.guard with
        | none => (flo T o.op).isSome && (List.range ops.size).all fun i => Nat.beq i j || !(dstOf ops i == some d)
        | some _ => false)
      | none => false)
    | none => false) && floOk T ops r
def fgt (ops : Array Oper) : List Nat → St → (St → Prop) → Prop
  | [], s, k => k s
  | j :: r, ⟨t, h⟩, k => match dstOf ops j with
    | some d => match Nat.blt d t.length with
      | true => setT t d .any fun t => fgt ops r ⟨t, h⟩ k
      | false => False
    | none => False
def vcB (ops : Array Oper) : List Nat → St → (St → Prop) → Prop
  | [], s, K => K s
  | i :: rest, s, K => match ops[i]? with
    | some o => one C .free ops o s fun s' => vcB ops rest s' K
    | none => False
def vcA (q : Keep) (ops : Array Oper) : List (Nat × Bool) → St → (St → Prop) → Prop
  | [], s, K => K s
  | (i, true) :: rest, s, K => match ops[i]? with
    | some o => match seenOk q C.ro (seen s.t o.op) with
      | true => oneR C ops o s fun s' => vcA q ops rest s' K
      | false => False
    | none => False
  | (i, false) :: rest, s, K => match ops[i]? with
    | some o => one C q ops o s fun s' => vcA q ops rest s' K
    | none => False
def Kseq (f : St → Prop) (Q : Exit → St → Prop) : Exit → St → Prop
  | .normal, s => f s
  | e, s => Q e s
def Kblk (id : Nat) (Q : Exit → St → Prop) : Exit → St → Prop
  | .exit i, s => match Nat.beq i id with
    | true => Q .normal s
    | false => Q (.exit i) s
  | e, s => Q e s
def Kscp (Q : Exit → St → Prop) : Exit → St → Prop
  | .goto _, _ => False
  | e, s => Q e s
def rounds (body : St → (Exit → St → Prop) → Prop) : Nat → St → (Exit → St → Prop) → Prop
  | 0, _, _ => False
  | n + 1, s, Q => body s (Kseq (fun s' => rounds body n s' Q) Q)
/-- A loop: by what holds at each round's head, or round by round. -/
def LoopVC (body : St → (Exit → St → Prop) → Prop) (s : St) (Q : Exit → St → Prop) : Prop :=
  (∃ (X : Type) (inv : X → St) (p : X → Prop) (μ : X → Nat), (∃ x q, Ent C q s (inv x) ∧ p x) ∧ ∀ x, p x → body (inv x) (Kseq (fun s' => ∃ x' q, Ent C q s' (inv x') ∧ p x' ∧ μ x' < μ x) Q)) ∨ ∃ n, rounds body n s Q
def keepOf : Option (List Nat) → Keep
  | none => .all
  | some l => .only l
def vc : Code → St → (Exit → St → Prop) → Prop
  | .skip, s, Q => Q .normal s
  | .region _ ops false, s, Q => vcOps C ops ops.toList s (Q .normal)
  | .region _ ops true, s, Q => ∃ (l : Option (List Nat)) (AL : List Nat) (A : List (Nat × Bool)) (B : List Nat), (planAll ops AL A B && floOk C.T ops AL) = true ∧ fgt ops AL s fun s => vcA C (keepOf l) ops A s fun s' => vcB C ops B s' (Q .normal)
  | .seq a b, s, Q => vc a s (Kseq (fun s' => vc b s' Q) Q)
  | .cond c a b, s, Q => asC (ev s.t c) fun
    | .bool t => (t = true → vc a s Q) ∧ (t = false → vc b s Q)
    | _ => False
  | .block id b, s, Q => vc b s (Kblk id Q)
  | .loop b, s, Q => LoopVC C (vc b) s Q
  | .exit id, s, Q => Q (.exit id) s
  | .ret, s, Q => Q .ret s
  | .label _, s, Q => Q .normal s
  | .scope c, s, Q => vc c s (Kscp Q)
  | _, _, _ => False
/-- What is returned. -/
def res1 (s : St) (x : ResultVar) (k : SA → Prop) : Prop := match x with
  | .tmp d => match getT s.t d with
    | .a x => k x
    | _ => False
  | .cell d t => td C t fun dd => match getT s.t d with
    | .a (.c (.p i b o)) => loadS (shape dd.zero) (getH s.h i) b o fun l => match dd.isAgg with
      | true => k (.agg l)
      | false => match l with
        | [.one x] => k (.c x)
        | _ => False
    | _ => False
def resL (s : St) : List ResultVar → (List SA → Prop) → Prop
  | [], k => k []
  | x :: r, k => res1 C s x fun v => resL s r fun l => k (v :: l)
def res (s : St) (l : List ResultVar) (k : SV → Prop) : Prop := match l with
  | [x] => res1 C s x fun v => k (.a v)
  | l => resL C s l fun l => k (.tup l)
def Kend (l : List ResultVar) (K : SV → List (List Seg) → Prop) : Exit → St → Prop
  | .normal, s => res C s l fun v => K v s.h
  | .ret, s => res C s l fun v => K v s.h
  | _, _ => False
def Body (fn : Func) (c : Code) (s : St) (K : SV → List (List Seg) → Prop) : Prop :=
  vc C c s (Kend C fn.results.toList K)
end
end Sx
end Go.Proofs.Ytndlhhhebijknaa
