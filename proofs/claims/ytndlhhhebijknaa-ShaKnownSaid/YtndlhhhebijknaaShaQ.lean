/-
  SHA-256: a message filled up; the document's words. Plain. No condition.
-/
import Derived.Test.YtndlhhhebijknaaShaK
namespace Go.Proofs.Ytndlhhhebijknaa
set_option linter.unusedVariables false
namespace Sha

theorem compress_congr (V : Nat → BitVec 32) {P P' : Nat → BitVec 8} (h : ∀ i, i < 64 → P i = P' i) : compress V P = compress V P' := by
  have e0 : ∀ i, i < 16 → w0 P i = w0 P' i := fun i hi => by
    unfold w0; rw [h _ (by omega), h _ (by omega), h _ (by omega), h _ (by omega)]
  have e1 : ∀ k i, wS P k i = wS P' k i := by
    intro k
    induction k with
    | zero =>
      intro i
      by_cases hi : i < 16
      · simp only [wS, if_pos hi, e0 i hi]
      · simp only [wS, if_neg hi]
    | succ k ih => intro i; simp only [wS, ih]
  have e2 : wS P 48 = wS P' 48 := funext fun i => e1 48 i
  funext i
  unfold compress
  rw [e2]
theorem pushN_h0 (d : Dg) (b : Nat → BitVec 8) (h : d.h = 0) : (pushN d b 64).V = compress d.V b := by
  rw [pushN_fill d b 64 (by omega) (by omega)]
  refine compress_congr d.V fun i hi => ?_
  rw [if_pos (by omega), h, Nat.sub_zero]
theorem push_h (d : Dg) (x : BitVec 8) : (push d x).h = if d.h + 1 = 64 then 0 else d.h + 1 := by
  unfold push
  split <;> rfl
theorem pushL_h (l : Bs) : ∀ d : Dg, d.h < 64 → (pushL d l).h = (d.h + l.length) % 64 := by
  induction l with
  | nil => intro d h; show d.h = (d.h + 0) % 64; omega
  | cons x l ih =>
    intro d h
    show (pushL (push d x) l).h = _
    rw [ih _ (push_lt h x), push_h, List.length_cons]
    split <;> omega
/-- What comes behind a message. -/
def padT (n : Nat) : Bs := tab (padP (n % 64) + 8) (padB (padP (n % 64)) (BitVec.ofNat 64 n * 8#64))
def full (l : Bs) : Bs := l ++ padT l.length
@[simp] theorem padT_len (n : Nat) : (padT n).length = padP (n % 64) + 8 := tab_len _ _
theorem full_len (l : Bs) : (full l).length = l.length + (padP (l.length % 64) + 8) := by simp [full]
theorem full_64 (l : Bs) : ∃ q, (full l).length = 64 * q ∧ l.length + 9 ≤ 64 * q ∧ 64 * q ≤ l.length + 72 := by
  have h : l.length % 64 < 64 := Nat.mod_lt _ (by omega)
  have h2 : (l.length % 64 + padP (l.length % 64)) % 64 = 56 := by
    have h3 := padP_le h
    have := (padP_iff (k := padP (l.length % 64) - 1) h (by omega)).2 (by omega)
    rwa [show padP (l.length % 64) - 1 + 1 = padP (l.length % 64) by omega] at this
  have h3 := padP_le h
  refine ⟨(full l).length / 64, ?_, ?_, ?_⟩ <;> rw [full_len] <;> omega
theorem sumL_full (l : Bs) : sumL l = tab 32 (outW (pushL d0 (full l)).V) := by
  have h : (pushL d0 l).h = l.length % 64 := by rw [pushL_h l d0 (by decide)]; show (0 + _) % 64 = _; rw [Nat.zero_add]
  have e : endD (pushL d0 l) (BitVec.ofNat 64 l.length) = pushL d0 (full l) := by
    unfold endD
    rw [pushN_tab, h, full, pushL_app, padT]
  have e2 : endV (pushL d0 l) (BitVec.ofNat 64 l.length) = outW (pushL d0 (full l)).V := by
    funext i
    unfold endV
    rw [e]
  unfold sumL
  rw [e2]
/-- The words when k blocks of l are gone through. -/
def wordsAt (l : Bs) (k : Nat) : Dg := pushL d0 (l.take (64 * k))
theorem wordsAt_h (l : Bs) (k : Nat) (h : 64 * k ≤ l.length) : (wordsAt l k).h = 0 := by
  unfold wordsAt
  rw [pushL_h _ _ (by decide), List.length_take]
  show (0 + min (64 * k) l.length) % 64 = 0
  omega
theorem wordsAt_succ (l : Bs) (k : Nat) (h : 64 * (k + 1) ≤ l.length) : (wordsAt l (k + 1)).V = compress (wordsAt l k).V (fun i => L l (64 * k + i)) := by
  have e : l.take (64 * (k + 1)) = l.take (64 * k) ++ (l.drop (64 * k)).take 64 := by
    rw [show 64 * (k + 1) = 64 * k + 64 by omega, List.take_add]
  show (pushL d0 (l.take (64 * (k + 1)))).V = _
  rw [e, pushL_app]
  show (pushL (wordsAt l k) _).V = _
  rw [← pushN_of (wordsAt l k) (b := fun i => L l (64 * k + i)) (n := 64), pushN_h0 _ _ (wordsAt_h l k (by omega))]
  · simp only [List.length_take, List.length_drop]; omega
  · intro i hi
    rw [L_take _ _ _ hi, L_drop]
theorem byte_in (x : BitVec 32) (p : BitVec 8) : x * 256#32 + p.setWidth 32 = x <<< 8 ||| p.setWidth 32 := by
  have h1 : x * 256#32 = x <<< 8 := by
    apply BitVec.eq_of_toNat_eq
    rw [BitVec.toNat_mul, BitVec.toNat_shiftLeft, Nat.shiftLeft_eq]
    rfl
  rw [h1]
  apply BitVec.add_eq_or_of_and_eq_zero
  apply BitVec.eq_of_getLsbD_eq
  intro i hi
  simp only [BitVec.getLsbD_and, BitVec.getLsbD_shiftLeft, BitVec.getLsbD_setWidth, BitVec.getLsbD_zero]
  by_cases h : i < 8
  · simp [h]
  · rw [BitVec.getLsbD_of_ge p i (by omega)]; simp
/-- Four bytes, one behind the other. -/
theorem four (p0 p1 p2 p3 : BitVec 8) : (((0#32 * 256#32 + p0.setWidth 32) * 256#32 + p1.setWidth 32) * 256#32 + p2.setWidth 32) * 256#32 + p3.setWidth 32 = p0.setWidth 32 <<< 24 ||| p1.setWidth 32 <<< 16 ||| p2.setWidth 32 <<< 8 ||| p3.setWidth 32 := by
  simp only [byte_in, BitVec.shiftLeft_or_distrib, ← BitVec.shiftLeft_add, BitVec.zero_shiftLeft, BitVec.zero_or]
theorem not_xor (x : BitVec 32) : x ^^^ 4294967295#32 = ~~~x := by
  have : (4294967295#32) = BitVec.allOnes 32 := by decide
  rw [this]; exact BitVec.xor_allOnes
end Sha
end Go.Proofs.Ytndlhhhebijknaa
