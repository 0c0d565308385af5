/-
  Plain facts on numbers and their bytes. No condition of its own.
-/
import Derived.Test.YtmpnhiehkiiepaaBase
namespace Go.Proofs.Ytmpnhiehkiiepaa
open Go.RowKit

/-- 256 ^ n, behind a name. -/
def win (n : Nat) : Int := 256 ^ n
theorem win_cases (n : Nat) (h1 : 1 ≤ n) (h4 : n ≤ 4) : win n = 256 ∨ win n = 65536 ∨ win n = 16777216 ∨ win n = 4294967296 := by
  have : n = 1 ∨ n = 2 ∨ n = 3 ∨ n = 4 := by omega
  rcases this with rfl | rfl | rfl | rfl <;> simp [win]
theorem win_shl (n : Nat) (h1 : 1 ≤ n) (h4 : n ≤ 4) : IntKind.u64.wrap (2 ^ (8 * n)) = win n := by
  have : n = 1 ∨ n = 2 ∨ n = 3 ∨ n = 4 := by omega
  rcases this with rfl | rfl | rfl | rfl <;> decide +kernel
theorem win_succ (n : Nat) : win (n + 1) = win n * 256 := by unfold win; rw [Int.pow_succ]
theorem win_pos (n : Nat) : 1 ≤ win n := by
  induction n with
  | zero => simp [win]
  | succ n ih => rw [win_succ]; omega

/-- A number behind which bytes are put. -/
def nearK (e : Int) (l : List UInt8) : Int := l.foldl (fun a c => a * 256 + c.toNat) e
theorem nearK_snoc (e : Int) (l : List UInt8) (k : Nat) (hk : k < l.length) : nearK e (l.take (k + 1)) = nearK e (l.take k) * 256 + (l[k].toNat : Int) := by
  unfold nearK; rw [List.take_succ_eq_append_getElem hk, List.foldl_append]; rfl
theorem nearK_cons (e : Int) (c : UInt8) (l : List UInt8) : nearK e (c :: l) = nearK (e * 256 + c.toNat) l := rfl
theorem nearK_eq (l : List UInt8) : ∀ e : Int, nearK e l = e * win l.length + nearK 0 l := by
  induction l with
  | nil => intro e; simp [nearK, win]
  | cons c l ih =>
    intro e
    rw [nearK_cons, ih, nearK_cons, ih (0 * 256 + _), List.length_cons, win_succ, Int.add_mul, Int.zero_mul, Int.zero_add]
    have : e * 256 * win l.length = e * (win l.length * 256) := by rw [Int.mul_assoc, Int.mul_comm 256]
    omega
theorem nearK0_bd (l : List UInt8) : 0 ≤ nearK 0 l ∧ nearK 0 l < win l.length := by
  induction l with
  | nil => simp [nearK, win]
  | cons c l ih =>
    have e0 : nearK 0 (c :: l) = (c.toNat : Int) * win l.length + nearK 0 l := by
      rw [nearK_cons, nearK_eq, Int.zero_mul, Int.zero_add]
    rw [e0, List.length_cons, win_succ]
    have hp := win_pos l.length
    have hc : (c.toNat : Int) < 256 := by have := c.toNat_lt; omega
    have h0 : 0 ≤ (c.toNat : Int) * win l.length := Int.mul_nonneg (by omega) (by omega)
    have h1 : (c.toNat : Int) * win l.length ≤ 255 * win l.length := Int.mul_le_mul_of_nonneg_right (by omega) (by omega)
    omega
theorem nearK_bd (e : Int) (l : List UInt8) (h : 0 ≤ e) : 0 ≤ nearK e l ∧ nearK e l < (e + 1) * win l.length := by
  have h0 := nearK0_bd l
  have hp : 0 ≤ e * win l.length := Int.mul_nonneg h (by have := win_pos l.length; omega)
  rw [nearK_eq, Int.add_mul]; omega

theorem u64_or_byte (x c : Int) (h0 : 0 ≤ x) (h1 : x < 18446744073709551616) (hm : x % 256 = 0) (hc : 0 ≤ c) (hd : c < 256) : bits .or .u64 x c = x + c := by
  obtain ⟨n, rfl⟩ := Int.eq_ofNat_of_zero_le h0
  obtain ⟨m, rfl⟩ := Int.eq_ofNat_of_zero_le hc
  rw [u64_or_nat n m (by omega) (by omega)]
  have h : n = 2 ^ 8 * (n / 256) := by omega
  rw [h, ← Nat.two_pow_add_eq_or_of_lt (by omega)]
  omega

/-- The byte of a number that stands j from its end. -/
def byteAt (full : Int) (j : Nat) : UInt8 := UInt8.ofNat (full / 256 ^ j).toNat
def cutF (full : Int) (k : Nat) : List UInt8 := (List.range k).map fun i => byteAt full (k - 1 - i)
theorem byteAt_toNat (full : Int) (h : 0 ≤ full) (j : Nat) : ((byteAt full j).toNat : Int) = full / 256 ^ j % 256 := by
  unfold byteAt
  have h1 : 0 ≤ full / 256 ^ j := Int.ediv_nonneg h (Int.pow_nonneg (by omega))
  obtain ⟨n, hn⟩ := Int.eq_ofNat_of_zero_le h1
  rw [hn]
  simp [UInt8.toNat_ofNat']
theorem u8v_byteAt (full : Int) (h : 0 ≤ full) (j : Nat) : u8v (byteAt full j) = .int .u8 (full / 256 ^ j % 256) := by
  unfold u8v; rw [byteAt_toNat full h]

end Go.Proofs.Ytmpnhiehkiiepaa
