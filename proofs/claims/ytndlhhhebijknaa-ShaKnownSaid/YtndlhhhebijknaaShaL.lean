/-
  SHA-256 of lists of bytes. Plain. No condition.
-/
import Derived.Test.YtndlhhhebijknaaShaE
namespace Go.Proofs.Ytndlhhhebijknaa
set_option linter.unusedVariables false
namespace Sha
abbrev Bs := List (BitVec 8)
def L (l : Bs) (i : Nat) : BitVec 8 := l.getD i 0#8
theorem L_lt {l : Bs} {i : Nat} (h : i < l.length) : L l i = l[i] := by
  unfold L; rw [List.getD_eq_getElem?_getD, List.getElem?_eq_getElem h]; rfl
theorem L_app1 {l m : Bs} {i : Nat} (h : i < l.length) : L (l ++ m) i = L l i := by
  unfold L; rw [List.getD_eq_getElem?_getD, List.getD_eq_getElem?_getD, List.getElem?_append_left h]
theorem L_app2 {l m : Bs} {i : Nat} : L (l ++ m) (l.length + i) = L m i := by
  unfold L; rw [List.getD_eq_getElem?_getD, List.getD_eq_getElem?_getD, List.getElem?_append_right (by omega), Nat.add_sub_cancel_left]
theorem L_app {l m : Bs} {i : Nat} : L (l ++ m) i = if i < l.length then L l i else L m (i - l.length) := by
  split
  · rename_i h; exact L_app1 h
  · rename_i h
    have := @L_app2 l m (i - l.length)
    rwa [show l.length + (i - l.length) = i by omega] at this
theorem L_sub (l : Bs) (o n i : Nat) (h : i < n) : L ((l.drop o).take n) i = L l (o + i) := by
  unfold L; rw [List.getD_eq_getElem?_getD, List.getD_eq_getElem?_getD, List.getElem?_take, if_pos h, List.getElem?_drop]
theorem L_drop (l : Bs) (o i : Nat) : L (l.drop o) i = L l (o + i) := by
  unfold L; rw [List.getD_eq_getElem?_getD, List.getD_eq_getElem?_getD, List.getElem?_drop]
theorem L_take (l : Bs) (n i : Nat) (h : i < n) : L (l.take n) i = L l i := by
  unfold L; rw [List.getD_eq_getElem?_getD, List.getD_eq_getElem?_getD, List.getElem?_take, if_pos h]
/-- The list of some bytes. -/
def tab (n : Nat) (b : Nat → BitVec 8) : Bs := (List.range n).map b
@[simp] theorem tab_len (n : Nat) (b : Nat → BitVec 8) : (tab n b).length = n := by simp [tab]
theorem L_tab {n : Nat} {b : Nat → BitVec 8} {i : Nat} (h : i < n) : L (tab n b) i = b i := by
  unfold L tab; rw [List.getD_eq_getElem?_getD]; simp [h]
theorem ext_L {l m : Bs} (h : l.length = m.length) (k : ∀ i, i < l.length → L l i = L m i) : l = m := by
  apply List.ext_getElem h
  intro i h1 h2
  have := k i h1
  rwa [L_lt h1, L_lt h2] at this
def d0 : Dg := ⟨first, fun _ => 0#8, 0⟩
def pushL (d : Dg) (l : Bs) : Dg := l.foldl push d
theorem pushL_app (d : Dg) (l m : Bs) : pushL d (l ++ m) = pushL (pushL d l) m := List.foldl_append
theorem pushL_lt {d : Dg} (h : d.h < 64) (l : Bs) : (pushL d l).h < 64 := by
  induction l generalizing d with
  | nil => exact h
  | cons x l ih => exact ih (push_lt h x)
theorem pushN_congr {d : Dg} {b b' : Nat → BitVec 8} : ∀ {n : Nat}, (∀ i, i < n → b i = b' i) → pushN d b n = pushN d b' n
  | 0, _ => rfl
  | n + 1, h => by simp only [pushN]; rw [pushN_congr (fun i hi => h i (by omega)), h n (by omega)]
theorem pushN_tab (d : Dg) (b : Nat → BitVec 8) : ∀ n, pushN d b n = pushL d (tab n b)
  | 0 => rfl
  | n + 1 => by
    simp only [pushN]
    rw [pushN_tab d b n]
    unfold tab
    rw [List.range_succ, List.map_append, pushL_app]
    rfl
theorem tab_L {l : Bs} : tab l.length (L l) = l := ext_L (by simp) fun i hi => L_tab (by simpa using hi)
theorem tab_ext {n : Nat} {b : Nat → BitVec 8} {l : Bs} (h : l.length = n) (k : ∀ i, i < n → b i = L l i) : tab n b = l :=
  ext_L (by simp [h]) fun i hi => by rw [tab_len] at hi; rw [L_tab hi, k i hi]
theorem pushN_L (d : Dg) (l : Bs) : pushN d (L l) l.length = pushL d l := by rw [pushN_tab, tab_L]
theorem pushN_of (d : Dg) {b : Nat → BitVec 8} {n : Nat} {l : Bs} (h : l.length = n) (k : ∀ i, i < n → b i = L l i) : pushN d b n = pushL d l := by rw [pushN_tab, tab_ext h k]
def sumL (l : Bs) : Bs := tab 32 (endV (pushL d0 l) (BitVec.ofNat 64 l.length))
@[simp] theorem sumL_len (l : Bs) : (sumL l).length = 32 := tab_len _ _
theorem L_sumL (l : Bs) {i : Nat} (h : i < 32) : L (sumL l) i = endV (pushL d0 l) (BitVec.ofNat 64 l.length) i := L_tab h
/-- The first k parts. -/
def cat (ps : Nat → Bs) : Nat → Bs
  | 0 => []
  | k + 1 => cat ps k ++ ps k
theorem ofNat_add64 (a b : Nat) : BitVec.ofNat 64 a + BitVec.ofNat 64 b = BitVec.ofNat 64 (a + b) := (BitVec.ofNat_add a b).symm
end Sha
end Go.Proofs.Ytndlhhhebijknaa
