/-
  SHA-256, byte by byte: what waits and the words. Plain. No condition.
-/
import Derived.Test.YtndlhhhebijknaaShaN
namespace Go.Proofs.Ytndlhhhebijknaa
set_option linter.unusedVariables false
namespace Sha

/-- A sum in the making: the words, the bytes of the block, how many wait. -/
structure Dg where
  V : Nat → BitVec 32
  P : Nat → BitVec 8
  h : Nat
def push (d : Dg) (x : BitVec 8) : Dg :=
  if d.h + 1 = 64 then ⟨compress d.V (fun i => if i = d.h then x else d.P i), fun i => if i = d.h then x else d.P i, 0⟩
  else ⟨d.V, fun i => if i = d.h then x else d.P i, d.h + 1⟩
/-- k bytes of b. -/
def pushN (d : Dg) (b : Nat → BitVec 8) : Nat → Dg
  | 0 => d
  | k + 1 => push (pushN d b k) (b k)
theorem push_lt {d : Dg} (h : d.h < 64) (x : BitVec 8) : (push d x).h < 64 := by
  unfold push
  split
  · show 0 < 64; omega
  · rename_i hc; show d.h + 1 < 64; omega
theorem pushN_lt {d : Dg} (h : d.h < 64) (b : Nat → BitVec 8) : ∀ k, (pushN d b k).h < 64
  | 0 => h
  | k + 1 => push_lt (pushN_lt h b k) _
theorem pushN_add (d : Dg) (b : Nat → BitVec 8) (m : Nat) : ∀ k, pushN d b (m + k) = pushN (pushN d b m) (fun i => b (m + i)) k
  | 0 => rfl
  | k + 1 => by rw [← Nat.add_assoc]; simp only [pushN, pushN_add d b m k]
/-- Bytes that don't fill the block only wait. -/
theorem pushN_wait (d : Dg) (b : Nat → BitVec 8) : ∀ k, d.h + k < 64 → pushN d b k = ⟨d.V, fun i => if d.h ≤ i ∧ i < d.h + k then b (i - d.h) else d.P i, d.h + k⟩
  | 0, _ => by
    have : ∀ i, ¬ (d.h ≤ i ∧ i < d.h + 0) := fun i => by omega
    simp only [pushN, this, if_false]
    rfl
  | k + 1, hk => by
    simp only [pushN, pushN_wait d b k (by omega)]
    unfold push
    rw [if_neg (by show ¬ d.h + k + 1 = 64; omega)]
    congr 1
    funext i
    by_cases hi : i = d.h + k
    · subst hi
      rw [if_pos rfl, if_pos ⟨by omega, by omega⟩]
      congr 1
      omega
    · rw [if_neg hi]
      show (if d.h ≤ i ∧ i < d.h + k then b (i - d.h) else d.P i) = _
      by_cases h1 : d.h ≤ i ∧ i < d.h + k
      · rw [if_pos h1, if_pos ⟨h1.1, by omega⟩]
      · rw [if_neg h1, if_neg (by omega)]
/-- Bytes that fill the block: it is gone through. -/
theorem pushN_fill (d : Dg) (b : Nat → BitVec 8) (k : Nat) (hk : d.h + k = 64) (h0 : 0 < k) :
    pushN d b k = ⟨compress d.V (fun i => if d.h ≤ i ∧ i < d.h + k then b (i - d.h) else d.P i), fun i => if d.h ≤ i ∧ i < d.h + k then b (i - d.h) else d.P i, 0⟩ := by
  obtain ⟨k, rfl⟩ : ∃ k', k = k' + 1 := ⟨k - 1, by omega⟩
  simp only [pushN, pushN_wait d b k (by omega)]
  have e : (fun i => if i = d.h + k then b k else (if d.h ≤ i ∧ i < d.h + k then b (i - d.h) else d.P i)) = fun i => if d.h ≤ i ∧ i < d.h + (k + 1) then b (i - d.h) else d.P i := by
    funext i
    by_cases hi : i = d.h + k
    · subst hi
      rw [if_pos rfl, if_pos ⟨by omega, by omega⟩]
      congr 1
      omega
    · rw [if_neg hi]
      by_cases h1 : d.h ≤ i ∧ i < d.h + k
      · rw [if_pos h1, if_pos ⟨h1.1, by omega⟩]
      · rw [if_neg h1, if_neg (by omega)]
  unfold push
  rw [if_pos (by show d.h + k + 1 = 64; omega)]
  show (⟨compress d.V (fun i => if i = d.h + k then b k else (if d.h ≤ i ∧ i < d.h + k then b (i - d.h) else d.P i)), fun i => if i = d.h + k then b k else (if d.h ≤ i ∧ i < d.h + k then b (i - d.h) else d.P i), 0⟩ : Dg) = _
  rw [e]
end Sha
end Go.Proofs.Ytndlhhhebijknaa
