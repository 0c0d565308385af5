/-
  SHA-256's tables as the program reckons them: plain functions. No condition.
-/
import Derived.Test.YtndlhhhebijknaaBase
namespace Go.Proofs.Ytndlhhhebijknaa
set_option linter.unusedVariables false
namespace Sha

def mul64 (x y : BitVec 64) : BitVec 64 × BitVec 64 :=
  let x0 := x &&& 4294967295#64
  let x1 := x >>> 32
  let y0 := y &&& 4294967295#64
  let y1 := y >>> 32
  let t := x1 * y0 + (x0 * y0) >>> 32
  let w1 := t &&& 4294967295#64
  let w2 := t >>> 32
  let w1 := w1 + x0 * y1
  (x1 * y1 + w2 + w1 >>> 32, x * y)
def sqFits (x n : BitVec 64) : Bool := decide ((mul64 x x).1 < n) || (decide ((mul64 x x).1 = n) && decide ((mul64 x x).2 = 0#64))
def cuTop (x : BitVec 64) : BitVec 64 := (mul64 x x).1 * x + (mul64 (mul64 x x).2 x).1
def cuFits (x n : BitVec 64) : Bool := decide (cuTop x < n <<< 32) || (decide (cuTop x = n <<< 32) && decide ((mul64 (mul64 x x).2 x).2 = 0#64))
/-- k rounds of the root, from the highest bit down. -/
def rootS (F : BitVec 64 → BitVec 64 → Bool) (n : BitVec 64) : Nat → BitVec 64
  | 0 => 0#64
  | k + 1 => if F (rootS F n k ||| (1#64 <<< (34 - k))) n then rootS F n k ||| (1#64 <<< (34 - k)) else rootS F n k
def root (F : BitVec 64 → BitVec 64 → Bool) (n : BitVec 64) : BitVec 64 := rootS F n 35
/-- No number from 2 up to below d goes into n. -/
def noDiv (n d : Nat) : Prop := ∀ e, 2 ≤ e → e < d → n % e ≠ 0
def isP (n : Nat) : Bool := (List.range 20).all fun d => decide (d < 2) || decide (n < d * d) || !(decide (n % d = 0))
/-- How many primes there are among k numbers from 2 on. -/
def cnt : Nat → Nat
  | 0 => 0
  | k + 1 => cnt k + if isP (k + 2) then 1 else 0
def stepsS (s : Nat → BitVec 32) : Nat → Nat → BitVec 32
  | 0, i => s i
  | k + 1, i => if isP (k + 2) && decide (i = cnt k) then (root cuFits (BitVec.ofNat 64 (k + 2))).setWidth 32 else stepsS s k i
def firstS (s : Nat → BitVec 32) : Nat → Nat → BitVec 32
  | 0, i => s i
  | k + 1, i => if isP (k + 2) && decide (cnt k < 8) && decide (i = cnt k) then (root sqFits (BitVec.ofNat 64 (k + 2))).setWidth 32 else firstS s k i
def stepsL : List Nat := [0x428a2f98, 0x71374491, 0xb5c0fbcf, 0xe9b5dba5, 0x3956c25b, 0x59f111f1, 0x923f82a4, 0xab1c5ed5,
  0xd807aa98, 0x12835b01, 0x243185be, 0x550c7dc3, 0x72be5d74, 0x80deb1fe, 0x9bdc06a7, 0xc19bf174,
  0xe49b69c1, 0xefbe4786, 0x0fc19dc6, 0x240ca1cc, 0x2de92c6f, 0x4a7484aa, 0x5cb0a9dc, 0x76f988da,
  0x983e5152, 0xa831c66d, 0xb00327c8, 0xbf597fc7, 0xc6e00bf3, 0xd5a79147, 0x06ca6351, 0x14292967,
  0x27b70a85, 0x2e1b2138, 0x4d2c6dfc, 0x53380d13, 0x650a7354, 0x766a0abb, 0x81c2c92e, 0x92722c85,
  0xa2bfe8a1, 0xa81a664b, 0xc24b8b70, 0xc76c51a3, 0xd192e819, 0xd6990624, 0xf40e3585, 0x106aa070,
  0x19a4c116, 0x1e376c08, 0x2748774c, 0x34b0bcb5, 0x391c0cb3, 0x4ed8aa4a, 0x5b9cca4f, 0x682e6ff3,
  0x748f82ee, 0x78a5636f, 0x84c87814, 0x8cc70208, 0x90befffa, 0xa4506ceb, 0xbef9a3f7, 0xc67178f2]
def firstL : List Nat := [0x6a09e667, 0xbb67ae85, 0x3c6ef372, 0xa54ff53a, 0x510e527f, 0x9b05688c, 0x1f83d9ab, 0x5be0cd19]
def steps (i : Nat) : BitVec 32 := BitVec.ofNat 32 (stepsL.getD i 0)
def first (i : Nat) : BitVec 32 := BitVec.ofNat 32 (firstL.getD i 0)
theorem cnt_mono (k : Nat) : ∀ d, cnt k ≤ cnt (k + d)
  | 0 => Nat.le_refl _
  | d + 1 => Nat.le_trans (cnt_mono k d) (by rw [← Nat.add_assoc]; simp only [cnt]; omega)
theorem cnt_310 : cnt 310 = 64 := by decide +kernel
theorem cnt_309 : cnt 309 = 63 := by decide +kernel
theorem cnt_end {k : Nat} (h : cnt k = 64) (hk : k ≤ 310) : k = 310 := by
  rcases Nat.lt_or_ge k 310 with h1 | h1
  · have := cnt_mono k (309 - k)
    rw [show k + (309 - k) = 309 by omega, cnt_309] at this
    omega
  · omega
theorem toN {a : Nat} (h : a < 18446744073709551616) : (BitVec.ofNat 64 a).toNat = a := by
  rw [BitVec.toNat_ofNat]; exact Nat.mod_eq_of_lt h
theorem sq_le {e n : Nat} (he : e < 65536) (hn : n < 65536) : (BitVec.ofNat 64 e * BitVec.ofNat 64 e ≤ BitVec.ofNat 64 n) ↔ e * e ≤ n := by
  have h1 : e * e < 65536 * 65536 := Nat.mul_lt_mul'' he he
  rw [BitVec.le_def, BitVec.toNat_mul, toN (by omega), toN (by omega), Nat.mod_eq_of_lt (by omega)]
theorem rem_iff {n e : Nat} (hn : n < 65536) (he : e < 65536) : (BitVec.ofNat 64 n % BitVec.ofNat 64 e = 0#64) ↔ n % e = 0 := by
  constructor
  · intro h
    have := congrArg BitVec.toNat h
    rw [BitVec.toNat_umod, toN (by omega), toN (by omega)] at this
    exact this
  · intro h
    apply BitVec.eq_of_toNat_eq
    rw [BitVec.toNat_umod, toN (by omega), toN (by omega), h]
    rfl
theorem ne_zero {e : Nat} (h1 : 0 < e) (h : e < 65536) : BitVec.ofNat 64 e ≠ 0#64 := by
  intro hc
  have := congrArg BitVec.toNat hc
  rw [toN (by omega)] at this
  simp at this
  omega
theorem ofN_succ (n : Nat) : BitVec.ofNat 64 n + 1#64 = BitVec.ofNat 64 (n + 1) := by
  rw [BitVec.ofNat_add]
theorem firstS_no (s : Nat → BitVec 32) {k : Nat} (h : isP (k + 2) = false) : firstS s (k + 1) = firstS s k := by
  funext i; simp [firstS, h]
theorem stepsS_no (s : Nat → BitVec 32) {k : Nat} (h : isP (k + 2) = false) : stepsS s (k + 1) = stepsS s k := by
  funext i; simp [stepsS, h]
theorem cnt_no {k : Nat} (h : isP (k + 2) = false) : cnt (k + 1) = cnt k := by simp [cnt, h]
theorem cnt_yes {k : Nat} (h : isP (k + 2) = true) : cnt (k + 1) = cnt k + 1 := by simp [cnt, h]
theorem firstS_yes (s : Nat → BitVec 32) {k : Nat} (h : isP (k + 2) = true) (h8 : cnt k < 8) (i : Nat) : firstS s (k + 1) i = if i = cnt k then (root sqFits (BitVec.ofNat 64 (k + 2))).setWidth 32 else firstS s k i := by
  simp [firstS, h, h8]
theorem firstS_late (s : Nat → BitVec 32) {k : Nat} (h8 : ¬ cnt k < 8) : firstS s (k + 1) = firstS s k := by
  funext i; simp [firstS, h8]
theorem stepsS_yes (s : Nat → BitVec 32) {k : Nat} (h : isP (k + 2) = true) (i : Nat) : stepsS s (k + 1) i = if i = cnt k then (root cuFits (BitVec.ofNat 64 (k + 2))).setWidth 32 else stepsS s k i := by
  simp [stepsS, h]
theorem cnt_lt {k : Nat} (h : cnt k < 64) : k < 310 := by
  rcases Nat.lt_or_ge k 310 with h1 | h1
  · exact h1
  · have := cnt_mono 310 (k - 310)
    rw [show 310 + (k - 310) = k by omega, cnt_310] at this
    omega
theorem stepsS_low (s : Nat → BitVec 32) : ∀ k i, stepsS s k i = if i < cnt k then stepsS (fun _ => 0#32) k i else s i
  | 0, i => by simp [stepsS, cnt]
  | k + 1, i => by
    by_cases hp : isP (k + 2) = true
    · have hc : cnt (k + 1) = cnt k + 1 := by simp [cnt, hp]
      simp only [stepsS, hp, hc]
      rw [stepsS_low s k i]
      by_cases hi : i = cnt k
      · simp [hi]
      · by_cases h1 : i < cnt k
        · have h2 : i < cnt k + 1 := by omega
          simp [hi, h1, h2]
        · have h2 : ¬ i < cnt k + 1 := by omega
          simp [hi, h1, h2]
    · have hp : isP (k + 2) = false := by simpa using hp
      have hc : cnt (k + 1) = cnt k := by simp [cnt, hp]
      simp only [stepsS, hp, hc]
      rw [stepsS_low s k i]
      simp
theorem firstS_low (s : Nat → BitVec 32) : ∀ k i, firstS s k i = if i < cnt k ∧ i < 8 then firstS (fun _ => 0#32) k i else s i
  | 0, i => by simp [firstS, cnt]
  | k + 1, i => by
    by_cases hp : isP (k + 2) = true
    · have hc : cnt (k + 1) = cnt k + 1 := by simp [cnt, hp]
      simp only [firstS, hp, hc]
      rw [firstS_low s k i]
      by_cases hi : i = cnt k
      · subst hi
        by_cases h8 : cnt k < 8
        · simp [h8]
        · simp [h8]
      · by_cases h1 : i < cnt k
        · have h2 : i < cnt k + 1 := by omega
          simp [hi, h1, h2]
        · have h2 : ¬ i < cnt k + 1 := by omega
          simp [hi, h1, h2]
    · have hp : isP (k + 2) = false := by simpa using hp
      have hc : cnt (k + 1) = cnt k := by simp [cnt, hp]
      simp only [firstS, hp, hc]
      rw [firstS_low s k i]
      simp
set_option maxRecDepth 100000 in
theorem steps_eq (s : Nat → BitVec 32) (i : Nat) (hi : i < 64) : stepsS s 310 i = steps i := by
  rw [stepsS_low, cnt_310, if_pos hi]
  exact (by decide +kernel : ∀ i, i < 64 → stepsS (fun _ => 0#32) 310 i = steps i) i hi
set_option maxRecDepth 100000 in
theorem first_eq (s : Nat → BitVec 32) (i : Nat) (hi : i < 8) : firstS s 310 i = first i := by
  rw [firstS_low, cnt_310, if_pos ⟨by omega, hi⟩]
  exact (by decide +kernel : ∀ i, i < 8 → firstS (fun _ => 0#32) 310 i = first i) i hi
theorem isP_of {n d : Nat} (h : noDiv n d) (hd : n < d * d) (hd2 : 2 ≤ d) : isP n = true := by
  unfold isP
  rw [List.all_eq_true]
  intro e he
  rw [Bool.or_eq_true, Bool.or_eq_true]
  by_cases h2 : e < 2
  · exact .inl (.inl (decide_eq_true h2))
  · by_cases h3 : e < d
    · refine .inr ?_
      have := h e (by omega) h3
      simpa using this
    · refine .inl (.inr (decide_eq_true ?_))
      have : d * d ≤ e * e := Nat.mul_le_mul (by omega) (by omega)
      omega
theorem not_isP {n d : Nat} (hd2 : 2 ≤ d) (hd : d * d ≤ n) (h20 : d < 20) (h : n % d = 0) : isP n = false := by
  cases e : isP n with
  | false => rfl
  | true =>
    unfold isP at e
    rw [List.all_eq_true] at e
    have := e d (List.mem_range.2 h20)
    rw [Bool.or_eq_true, Bool.or_eq_true] at this
    rcases this with (h1 | h1) | h1
    · have := of_decide_eq_true h1; omega
    · have := of_decide_eq_true h1; omega
    · simp [h] at h1
end Sha
end Go.Proofs.Ytndlhhhebijknaa
