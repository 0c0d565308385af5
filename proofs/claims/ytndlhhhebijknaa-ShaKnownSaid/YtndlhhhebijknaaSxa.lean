/-
  States of a walk written out as data: slots and blocks. What they say of frames and worlds. Over any program. No condition of its own.
-/
import Derived.Test.YtndlhhhebijknaaExt
import Derived.Laws.IdiomCopy
namespace Go.Proofs.Ytndlhhhebijknaa
set_option linter.unusedVariables false
namespace Sx
open Go.RowKit

/-- What one cell holds. A word of an unsigned kind is a BitVec; a signed one an Int. A pointer: block's name, literal offset, offset. -/
inductive SC where
  | any
  | int (k : IntKind) (n : Int)
  | w8 (x : BitVec 8)
  | w16 (x : BitVec 16)
  | w32 (x : BitVec 32)
  | w64 (x : BitVec 64)
  | bool (b : Bool)
  | str (l : List UInt8)
  | p (i b o : Nat)
  | sl (i b o n c : Nat)
  | ptr (a : Option Addr)
  | slc (a : Option Addr) (n c : Nat)
  | ifc (t : TypeId) (x : Value)
  | nilIfc
  | fnv (f : Fn) (first cap : Array Value)
  | clo (f : FuncId) (i b o : Nat)
  | nilFn
  /-- A slice that may be nil (z: it is). -/
  | sn (z : Bool) (i b o n c : Nat)
inductive Seg where
  | one (x : SC)
  | row (n : Nat) (f : Nat → SC)
inductive SA where
  | c (x : SC)
  | agg (l : List Seg)
inductive SV where
  | any
  | a (x : SA)
  | tup (l : List SA)

abbrev Rho := List (Nat × Nat)

def SC.Is (r : Rho) : SC → Value → Prop
  | .any, v => v.oneCell' = true
  | .int k n, v => v = .int k n
  | .w8 x, v => v = .int .u8 (x.toNat : Int)
  | .w16 x, v => v = .int .u16 (x.toNat : Int)
  | .w32 x, v => v = .int .u32 (x.toNat : Int)
  | .w64 x, v => v = .int .u64 (x.toNat : Int)
  | .bool b, v => v = .bool b
  | .str l, v => v = .string ⟨l.toArray⟩
  | .p i b o, v => ∃ B f, r[i]? = some (B, f) ∧ v = .pointer (some ⟨B, f + (b + o), none⟩)
  | .sl i b o n c, v => ∃ B f, r[i]? = some (B, f) ∧ v = .slice (some ⟨B, f + (b + o), none⟩) n c
  | .ptr a, v => v = .pointer a
  | .slc a n c, v => v = .slice a n c
  | .ifc t x, v => v = .iface t x
  | .nilIfc, v => v = .nilIface
  | .fnv f x y, v => v = .func f x y
  | .clo g i b o, v => ∃ B f, r[i]? = some (B, f) ∧ v = .func (.func g) #[.pointer (some ⟨B, f + (b + o), none⟩)] #[]
  | .nilFn, v => v = .nilFunc
  | .sn z i b o n c, v => (z = true ∧ v = .slice none 0 0 ∧ n = 0 ∧ c = 0) ∨ (z = false ∧ ∃ B f, r[i]? = some (B, f) ∧ v = .slice (some ⟨B, f + (b + o), none⟩) n c)
theorem SC.Is.one {r : Rho} {x : SC} {v : Value} (h : x.Is r v) : v.oneCell' = true := by
  cases x <;> simp only [SC.Is] at h
  case any => exact h
  case p => obtain ⟨_, _, _, rfl⟩ := h; rfl
  case sl => obtain ⟨_, _, _, rfl⟩ := h; rfl
  case clo => obtain ⟨_, _, _, rfl⟩ := h; rfl
  case sn => rcases h with ⟨_, rfl, _, _⟩ | ⟨_, _, _, _, rfl⟩ <;> rfl
  all_goals (subst h; rfl)
def RLe (r r' : Rho) : Prop := ∀ (i : Nat) (x : Nat × Nat), r[i]? = some x → r'[i]? = some x
theorem RLe.refl (r : Rho) : RLe r r := fun _ _ h => h
theorem RLe.trans {a b c : Rho} (h : RLe a b) (k : RLe b c) : RLe a c := fun i x e => k i x (h i x e)
theorem RLe.snoc (r : Rho) (x : Nat × Nat) : RLe r (r ++ [x]) := by
  intro i y e
  have : i < r.length := by
    rcases Nat.lt_or_ge i r.length with h | h
    · exact h
    · rw [List.getElem?_eq_none h] at e; cases e
  rw [List.getElem?_append_left this]; exact e
theorem SC.Is.mono {r r' : Rho} {x : SC} {v : Value} (h : x.Is r v) (k : RLe r r') : x.Is r' v := by
  cases x <;> simp only [SC.Is] at h ⊢ <;> first
    | exact h
    | (obtain ⟨B, f, e, rfl⟩ := h; exact ⟨B, f, k _ _ e, rfl⟩)
    | (rcases h with ⟨h1, h2⟩ | ⟨h1, B, f, e, h2⟩; exact .inl ⟨h1, h2⟩; exact .inr ⟨h1, B, f, k _ _ e, h2⟩)

def flat : List Seg → List SC
  | [] => []
  | .one x :: r => x :: flat r
  | .row n f :: r => (List.range n).map f ++ flat r

def IsL (r : Rho) (l : List SC) (vs : List Value) : Prop := l.length = vs.length ∧ ∀ (j : Nat) (x : SC), l[j]? = some x → ∃ v, vs[j]? = some v ∧ x.Is r v
theorem IsL.mono {r r' : Rho} {l : List SC} {vs : List Value} (h : IsL r l vs) (k : RLe r r') : IsL r' l vs :=
  ⟨h.1, fun j x e => let ⟨v, e1, e2⟩ := h.2 j x e; ⟨v, e1, e2.mono k⟩⟩
theorem IsL.one {r : Rho} {l : List SC} {vs : List Value} (h : IsL r l vs) : ∀ v ∈ vs, v.oneCell' = true := by
  intro v hv
  obtain ⟨j, hj, rfl⟩ := List.mem_iff_getElem.1 hv
  obtain ⟨u, hu, hi⟩ := h.2 j (l[j]'(by rw [h.1]; exact hj)) (List.getElem?_eq_getElem _)
  rw [List.getElem?_eq_getElem hj] at hu
  injection hu with hu
  subst hu
  exact hi.one
def SA.Is (r : Rho) : SA → Value → Prop
  | .c x, v => x.Is r v
  | .agg l, v => ∃ vs : List Value, v = .agg vs.toArray ∧ IsL r (flat l) vs
def SV.Is (r : Rho) : SV → Value → Prop
  | .any, _ => True
  | .a x, v => x.Is r v
  | .tup l, v => ∃ vs : List Value, v = .tuple vs.toArray ∧ l.length = vs.length ∧ ∀ (j : Nat) (x : SA), l[j]? = some x → ∃ u, vs[j]? = some u ∧ SA.Is r x u
theorem SA.Is.mono {r r' : Rho} {x : SA} {v : Value} (h : x.Is r v) (k : RLe r r') : x.Is r' v := by
  cases x with
  | c x => exact SC.Is.mono (x := x) h k
  | agg l => obtain ⟨vs, e, h⟩ := h; exact ⟨vs, e, h.mono k⟩
theorem SV.Is.mono {r r' : Rho} {x : SV} {v : Value} (h : x.Is r v) (k : RLe r r') : x.Is r' v := by
  cases x with
  | any => trivial
  | a x => exact SA.Is.mono (x := x) h k
  | tup l => obtain ⟨vs, e, hl, h⟩ := h; exact ⟨vs, e, hl, fun j x ex => let ⟨u, e1, e2⟩ := h j x ex; ⟨u, e1, e2.mono k⟩⟩

/-- Nothing of the block is marked as never to be written, but what lies behind its end. -/
def Clean (w : World) (B : Nat) : Prop := ∀ c t lo hi, w.heap[B]? = some (.cells c t (lo, hi)) → lo = hi ∨ c.size ≤ lo
theorem Clean.fr {w : World} {B o : Nat} {v : Value} (h : Clean w B) (hc : w.cell? ⟨B, o, none⟩ = some v) : w.frozen? ⟨B, o, none⟩ = false := by
  unfold World.cell? at hc
  unfold World.frozen?
  cases e : w.heap[B]? with
  | none => simp
  | some x =>
    cases x with
    | cells c t z =>
      obtain ⟨lo, hi⟩ := z
      simp only [e] at hc
      have ho : o < c.size := by
        have : c[o]? = some v := by simpa using hc
        exact (Array.getElem?_eq_some_iff.1 this).1
      have := h c t lo hi e
      simp
      omega
    | _ => simp
theorem Clean.block {w w' : World} {B : Nat} (h : Clean w B) (k : w'.heap[B]? = w.heap[B]?) : Clean w' B := fun c t lo hi e => h c t lo hi (k ▸ e)
theorem Clean.setCell {w : World} {B : Nat} (h : Clean w B) (a : Addr) (v : Value) : Clean (w.setCell a v) B := by
  intro c t lo hi e
  simp only [World.setCell, Array.getElem?_modify] at e
  split at e
  · cases e2 : w.heap[B]? with
    | none => rw [e2] at e; cases e
    | some x =>
      rw [e2] at e
      cases x with
      | cells c' t' z =>
        simp only [Option.map_some, Option.some.injEq, Obj.cells.injEq] at e
        obtain ⟨rfl, rfl, rfl⟩ := e
        have := h c' t' lo hi e2
        split
        · exact this
        · simpa using this
      | _ => simp at e
  · exact h c t lo hi e
theorem Clean.setCells {B b : Nat} : ∀ (vs : List Value) (o : Nat) {w : World}, Clean w B → Clean (w.setCells b o vs) B
  | [], _, _, h => h
  | _ :: vs, o, _, h => Clean.setCells vs (o + 1) (h.setCell _ _)
/-- The cells l lie at place off of block B; z: and may be written. -/
def At (z : Bool) (r : Rho) (w : World) (B off : Nat) (l : List SC) : Prop :=
  ∀ (j : Nat) (x : SC), l[j]? = some x → ∃ v, w.cell? ⟨B, off + j, none⟩ = some v ∧ x.Is r v ∧ (z = true → Clean w B)
theorem At.mono {z : Bool} {r r' : Rho} {w : World} {B off : Nat} {l : List SC} (h : At z r w B off l) (k : RLe r r') : At z r' w B off l :=
  fun j x e => let ⟨v, e1, e2, e3⟩ := h j x e; ⟨v, e1, e2.mono k, e3⟩
theorem At.block {z : Bool} {r : Rho} {w w' : World} {B off : Nat} {l : List SC} (h : At z r w B off l) (k : w'.heap[B]? = w.heap[B]?) : At z r w' B off l :=
  fun j x e => let ⟨v, e1, e2, e3⟩ := h j x e; ⟨v, (World.cell?_of_block k).trans e1, e2, fun hz => (e3 hz).block k⟩
theorem At.extm {z : Bool} {r : Rho} {w w' : World} {m : List Nat} {B off : Nat} {l : List SC} (h : At z r w B off l) (k : Ext m w w') (hB : l ≠ [] → B ∉ m) : At z r w' B off l :=
  fun j x e => by
    obtain ⟨v, e1, e2, e3⟩ := h j x e
    have hl : l ≠ [] := fun hc => by subst hc; simp at e
    have hb := k.block B (cell_lt e1) (hB hl)
    exact ⟨v, (World.cell?_of_block hb).trans e1, e2, fun hz => (e3 hz).block hb⟩
theorem At.lt {z : Bool} {r : Rho} {w : World} {B off : Nat} {l : List SC} (h : At z r w B off l) (hl : l ≠ []) : B < w.heap.size := by
  cases l with
  | nil => exact absurd rfl hl
  | cons x l => obtain ⟨v, e1, _⟩ := h 0 x rfl; exact cell_lt e1
theorem At.drop {z : Bool} {r : Rho} {w : World} {B off : Nat} {l : List SC} (h : At z r w B off l) (d : Nat) : At z r w B (off + d) (l.drop d) := by
  intro j x e
  rw [List.getElem?_drop] at e
  have := h _ x e
  rwa [show off + (d + j) = off + d + j by omega] at this
theorem At.take {z : Bool} {r : Rho} {w : World} {B off : Nat} {l : List SC} (h : At z r w B off l) (n : Nat) : At z r w B off (l.take n) := by
  intro j x e
  rw [List.getElem?_take] at e
  split at e
  · exact h j x e
  · cases e
/-- What is read there. -/
theorem At.vals {z : Bool} {r : Rho} {w : World} {B off : Nat} {l : List SC} (h : At z r w B off l) :
    ∃ vs, IsL r l vs ∧ ∀ (j : Nat) (v : Value), vs[j]? = some v → w.cell? ⟨B, off + j, none⟩ = some v := by
  refine ⟨(List.range l.length).map fun j => (w.cell? ⟨B, off + j, none⟩).getD undef, ⟨by simp, fun j x e => ?_⟩, fun j v e => ?_⟩
  · obtain ⟨v, e1, e2, _⟩ := h j x e
    have hj : j < l.length := by
      rcases Nat.lt_or_ge j l.length with h | h
      · exact h
      · rw [List.getElem?_eq_none h] at e; cases e
    exact ⟨v, by simp [hj, e1], e2⟩
  · have hj : j < l.length := by
      rcases Nat.lt_or_ge j l.length with h | h
      · exact h
      · rw [List.getElem?_eq_none (by simpa using h)] at e; cases e
    obtain ⟨u, e1, _⟩ := h j _ (List.getElem?_eq_getElem hj)
    simp [hj, e1] at e
    rw [e1, e]

structure St where
  t : List SV
  h : List (List Seg)

/-! What types are: a table that is checked once. -/
inductive TK where
  | int (k : IntKind) | bool | str | ptr (e : Nat) | slice (e : Nat) | array (n e : Nat) | struct (fs : List (Nat × Nat)) | ifc | fn | other
structure TD where
  k : TK
  size : Nat
  bytes : Nat
  zero : List Seg
def TD.isAgg (d : TD) : Bool := match d.k with | .array .. | .struct _ => true | _ => false
def fieldsOf : Option TypeDesc → Option (List (Nat × Nat))
  | some (.struct gs) => some (gs.toList.map fun f => (f.type, f.offset))
  | _ => none
def isIfc : Option TypeDesc → Bool
  | some (.interface _) => true
  | _ => false
def isFn : Option TypeDesc → Bool
  | some (.func ..) => true
  | _ => false
def TK.Ok (P : Program) (t : TypeId) : TK → Prop
  | .int k => P.underlying t = some (.int k)
  | .bool => P.underlying t = some .bool
  | .str => P.underlying t = some .string
  | .ptr e => P.underlying t = some (.pointer e)
  | .slice e => P.underlying t = some (.slice e)
  | .array n e => P.underlying t = some (.array n e)
  | .struct fs => fieldsOf (P.underlying t) = some fs
  | .ifc => isIfc (P.underlying t) = true
  | .fn => isFn (P.underlying t) = true
  | .other => False
def SC.val : SC → Value
  | .int k n => .int k n
  | .w8 x => .int .u8 (x.toNat : Int)
  | .w16 x => .int .u16 (x.toNat : Int)
  | .w32 x => .int .u32 (x.toNat : Int)
  | .w64 x => .int .u64 (x.toNat : Int)
  | .bool b => .bool b
  | .str l => .string ⟨l.toArray⟩
  | .ptr a => .pointer a
  | .slc a n c => .slice a n c
  | .nilIfc => .nilIface
  | .nilFn => .nilFunc
  | _ => .nilFunc
def SC.plain : SC → Bool
  | .int .. | .w8 _ | .w16 _ | .w32 _ | .w64 _ | .bool _ | .str _ | .ptr _ | .slc .. | .nilIfc | .nilFn => true
  | _ => false
theorem SC.is_val (r : Rho) {x : SC} (h : x.plain = true) : x.Is r x.val := by
  cases x <;> first | rfl | cases h
def TD.zeroVal (d : TD) : Value := if d.isAgg then .agg ((flat d.zero).map SC.val).toArray else (((flat d.zero).map SC.val).headD .nilFunc)
structure TdOk (P : Program) (t : TypeId) (d : TD) : Prop where
  info : (P.info? t).map (fun i => (i.size, i.bytes, i.zero)) = some (d.size, d.bytes, some d.zeroVal)
  kind : d.k.Ok P t
  len : (flat d.zero).length = d.size
  plain : (flat d.zero).all SC.plain = true
  sing : (d.isAgg || (match d.zero with | [.one _] => true | _ => false)) = true
def AllT (P : Program) : List (Nat × TD) → Prop
  | [] => True
  | (t, d) :: r => TdOk P t d ∧ AllT P r
def findT : List (Nat × TD) → Nat → Option TD
  | [], _ => none
  | (t, d) :: r, u => match Nat.beq t u with
    | true => some d
    | false => findT r u
theorem AllT.find {P : Program} : ∀ {T : List (Nat × TD)} {t : Nat} {d : TD}, AllT P T → findT T t = some d → TdOk P t d
  | [], _, _, _, h => by cases h
  | (u, e) :: r, t, d, ⟨h1, h2⟩, h => by
    simp only [findT] at h
    split at h
    · rename_i hb
      injection h with h
      rw [← Nat.eq_of_beq_eq_true hb, ← h]
      exact h1
    · exact h2.find h

/-- What stands fast while a function is gone through. -/
structure Cx where
  P : Program
  T : List (Nat × TD)
  w0 : World
  m : List Nat
  r0 : Rho
  ro : Nat
  live : Nat → Prop
structure HeapOk (C : Cx) (h : List (List Seg)) (r : Rho) (w : World) : Prop where
  ext : Ext C.m C.w0 w
  agree : RLe C.r0 r
  rol : C.ro ≤ C.r0.length
  len : r.length = h.length
  chunks : ∀ (i : Nat) (ch : List Seg) (B f : Nat), h[i]? = some ch → r[i]? = some (B, f) → At (Nat.ble C.ro i) r w B f (flat ch)
  lt : ∀ (i B f : Nat), C.ro ≤ i → r[i]? = some (B, f) → B < w.heap.size
  own : ∀ (i B f : Nat), C.ro ≤ i → r[i]? = some (B, f) → B ∈ C.m ∨ C.w0.heap.size ≤ B
  ros : ∀ (i B f : Nat), i < C.ro → C.live i → r[i]? = some (B, f) → B ∉ C.m ∧ B < C.w0.heap.size
  dead : ∀ (i : Nat) (ch : List Seg), i < C.ro → ¬ C.live i → h[i]? = some ch → flat ch = []
  apart : ∀ (i j B f f' : Nat) (ch ch' : List Seg), i ≠ j → C.ro ≤ i → C.ro ≤ j → h[i]? = some ch → h[j]? = some ch' → r[i]? = some (B, f) → r[j]? = some (B, f') → ch = [] ∨ ch' = []
/-- A block that may be written lies apart from any other one. -/
theorem HeapOk.sep {C : Cx} {h : List (List Seg)} {r : Rho} {w : World} (ok : HeapOk C h r w) {i j B f f' : Nat} {ch ch' : List Seg} (hij : i ≠ j) (hj : C.ro ≤ j) (h1 : h[i]? = some ch) (h2 : h[j]? = some ch') (r1 : r[i]? = some (B, f)) (r2 : r[j]? = some (B, f')) (hne : ch' ≠ []) : flat ch = [] := by
  by_cases hi : C.ro ≤ i
  · rcases ok.apart i j B f f' ch ch' hij hi hj h1 h2 r1 r2 with h | h
    · rw [h]; rfl
    · exact absurd h hne
  · apply Classical.byContradiction
    intro hc
    have hi : i < C.ro := by omega
    have hl : C.live i := Classical.byContradiction fun hl => hc (ok.dead i ch hi hl h1)
    obtain ⟨a1, a2⟩ := ok.ros i B f hi hl r1
    rcases ok.own j B f' hj r2 with h | h
    · exact a1 h
    · omega
theorem ble_le {a b : Nat} (h : Nat.ble a b = true) : a ≤ b := Nat.le_of_ble_eq_true h
theorem le_ble {a b : Nat} (h : a ≤ b) : Nat.ble a b = true := Nat.ble_eq_true_of_le h
structure Ok (C : Cx) (s : St) (r : Rho) (a : Act) (w : World) : Prop where
  heap : HeapOk C s.h r w
  size : a.tmps.size = s.t.length
  slots : ∀ (d : Nat) (x : SV), s.t[d]? = some x → x.Is r (a.tmps.getD d undef)
  defers : a.defers = []
end Sx
end Go.Proofs.Ytndlhhhebijknaa
