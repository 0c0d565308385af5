/-
  Plain: a number of one, two, four or eight bytes, put and taken. No program in sight. No condition of its own.
-/
import Derived.Test.YtmpnhiehkiiepaaNum
namespace Go.Proofs.Ytmpnhiehkiiepaa
open Go.RowKit

theorem byteAt_lt (full : Int) (j : Nat) : (byteAt full j).toNat < 256 := (byteAt full j).toNat_lt
theorem cutF_succ (n : Int) (k : Nat) : cutF n (k + 1) = byteAt n k :: cutF n k := by
  unfold cutF
  rw [List.range_succ_eq_map]
  simp only [List.map_cons, List.map_map, Nat.add_sub_cancel, Nat.sub_zero]
  congr 1
  refine List.map_congr_left fun i _ => ?_
  simp only [Function.comp, Nat.succ_eq_add_one]
  rw [show k - (i + 1) = k - 1 - i from by omega]
@[simp] theorem cutF_length (n : Int) (k : Nat) : (cutF n k).length = k := by simp [cutF]
theorem cutF_get (n : Int) (k i : Nat) (h : i < k) : (cutF n k)[i]'(by simpa using h) = byteAt n (k - 1 - i) := by simp [cutF]
theorem cutF_take (n : Int) (k i : Nat) (h : i < k) : (cutF n k).take (i + 1) = (cutF n k).take i ++ [byteAt n (k - 1 - i)] := by
  rw [List.take_succ_eq_append_getElem (by simpa using h), cutF_get n k i h]
theorem nearK_cutF (n : Int) (h : 0 ≤ n) : ∀ k, nearK 0 (cutF n k) = n % win k := by
  intro k
  induction k with
  | zero => simp [cutF, nearK, win, Int.emod_one]
  | succ k ih =>
    rw [cutF_succ, nearK_cons, nearK_eq, ih, cutF_length, byteAt_toNat n h, Int.zero_mul, Int.zero_add]
    obtain ⟨m, rfl⟩ := Int.eq_ofNat_of_zero_le h
    have e : win k = ((256 ^ k : Nat) : Int) := by unfold win; simp
    rw [win_succ, e]
    have h2 : (256 : Int) ^ k = ((256 ^ k : Nat) : Int) := by simp
    rw [h2]
    have := Nat.mod_mul (a := 256 ^ k) (b := 256) (x := m)
    have h3 : ((m % (256 ^ k * 256) : Nat) : Int) = ((m % 256 ^ k + 256 ^ k * (m / 256 ^ k % 256) : Nat) : Int) := by rw [this]
    simp only [Int.natCast_add, Int.natCast_mul, Int.natCast_emod, Int.natCast_ediv] at h3
    rw [show ((256 : Nat) : Int) = 256 from rfl] at h3
    rw [h3, Int.mul_comm, Int.add_comm]

/-- The fewest bytes of a number. -/
def lenF (n : Int) : Int := if n < 64 then 1 else if n < 16384 then 2 else if n < 1073741824 then 4 else if n < 4611686018427387904 then 8 else 0
theorem lenF_spec (n : Int) : (n < 64 ∧ lenF n = 1) ∨ (64 ≤ n ∧ n < 16384 ∧ lenF n = 2) ∨ (16384 ≤ n ∧ n < 1073741824 ∧ lenF n = 4) ∨
    (1073741824 ≤ n ∧ n < 4611686018427387904 ∧ lenF n = 8) ∨ (4611686018427387904 ≤ n ∧ lenF n = 0) := by
  unfold lenF; split <;> (try split) <;> (try split) <;> (try split) <;> omega
/-- What the first byte says of how many there are. -/
def topB (k : Nat) : Nat := if k = 2 then 64 else if k = 4 then 128 else if k = 8 then 192 else 0
def okSize (k : Nat) : Prop := k = 1 ∨ k = 2 ∨ k = 4 ∨ k = 8
/-- A number's bytes, so many. -/
def wideF (n : Int) (k : Nat) : List UInt8 := (cutF n k).set 0 (byteAt n (k - 1) + UInt8.ofNat (topB k))
@[simp] theorem wideF_length (n : Int) (k : Nat) : (wideF n k).length = k := by simp [wideF]
/-- With the fewest. -/
def putF (n : Int) : List UInt8 := wideF n (lenF n).toNat

/-- What is taken from the beginning: the number, how many bytes, how it ended. -/
def takeN (l : List UInt8) : Nat := match l with | [] => 0 | c :: r => if r.length + 1 < 2 ^ (c.toNat / 64) then 0 else 2 ^ (c.toNat / 64)
def takeV (l : List UInt8) : Int := match l with | [] => 0 | c :: r => if r.length + 1 < 2 ^ (c.toNat / 64) then 0 else nearK ((c.toNat : Int) % 64) (r.take (2 ^ (c.toNat / 64) - 1))

theorem size_cases (k : Nat) (hk : okSize k) (n : Int) (h0 : 0 ≤ n) (h1 : lenF n ≠ 0) (h2 : lenF n ≤ k) : n / 256 ^ (k - 1) < 64 ∧ n < 64 * win (k - 1) := by
  have hs := lenF_spec n
  rcases hk with rfl | rfl | rfl | rfl <;> simp [win] <;> omega

theorem head_toNat (k : Nat) (hk : okSize k) (n : Int) (h0 : 0 ≤ n) (h3 : n / 256 ^ (k - 1) < 64) :
    ((byteAt n (k - 1)).toNat : Int) = n / 256 ^ (k - 1) ∧ ((byteAt n (k - 1) + UInt8.ofNat (topB k)).toNat : Int) = n / 256 ^ (k - 1) + topB k := by
  have e := byteAt_toNat n h0 (k - 1)
  have h4 : 0 ≤ n / 256 ^ (k - 1) := Int.ediv_nonneg h0 (Int.pow_nonneg (by omega))
  rw [Int.emod_eq_of_lt h4 (by omega)] at e
  refine ⟨e, ?_⟩
  rw [UInt8.toNat_add, UInt8.toNat_ofNat']
  have ht : topB k ≤ 192 := by rcases hk with rfl | rfl | rfl | rfl <;> simp [topB]
  omega

theorem take_wide (k : Nat) (hk : okSize k) (n : Int) (h0 : 0 ≤ n) (h1 : lenF n ≠ 0) (h2 : lenF n ≤ k) (r : List UInt8) :
    takeN (wideF n k ++ r) = k ∧ takeV (wideF n k ++ r) = n := by
  obtain ⟨h3, h4⟩ := size_cases k hk n h0 h1 h2
  obtain ⟨e1, e2⟩ := head_toNat k hk n h0 h3
  have hq : 0 ≤ n / 256 ^ (k - 1) := Int.ediv_nonneg h0 (Int.pow_nonneg (by omega))
  obtain ⟨j, rfl⟩ : ∃ j, k = j + 1 := ⟨k - 1, by rcases hk with rfl | rfl | rfl | rfl <;> rfl⟩
  simp only [Nat.add_sub_cancel] at h3 h4 e1 e2 hq
  have ew : wideF n (j + 1) = (byteAt n j + UInt8.ofNat (topB (j + 1))) :: cutF n j := by
    unfold wideF; rw [cutF_succ]; simp
  obtain ⟨c, hc⟩ : ∃ c, c = byteAt n j + UInt8.ofNat (topB (j + 1)) := ⟨_, rfl⟩
  rw [← hc] at ew e2
  have hp : 2 ^ (c.toNat / 64) = j + 1 ∧ (c.toNat : Int) % 64 = n / 256 ^ j := by
    rcases hk with hk | hk | hk | hk
    · obtain rfl : j = 0 := by omega
      simp [topB] at e2 ⊢
      omega
    · obtain rfl : j = 1 := by omega
      simp [topB] at e2 ⊢
      have : c.toNat / 64 = 1 := by omega
      rw [this]; omega
    · obtain rfl : j = 3 := by omega
      simp [topB] at e2 ⊢
      have : c.toNat / 64 = 2 := by omega
      rw [this]; omega
    · obtain rfl : j = 7 := by omega
      simp [topB] at e2 ⊢
      have : c.toNat / 64 = 3 := by omega
      rw [this]; omega
  rw [ew, List.cons_append]
  simp only [takeN, takeV, hp.1, hp.2]
  have hl : ¬ (cutF n j ++ r).length + 1 < j + 1 := by simp
  rw [if_neg hl, if_neg hl]
  refine ⟨rfl, ?_⟩
  have ht : (cutF n j ++ r).take (j + 1 - 1) = cutF n j := by simp
  rw [ht, nearK_eq, cutF_length, nearK_cutF n h0]
  have := Int.mul_ediv_add_emod n (win j)
  rw [Int.mul_comm] at this
  exact this
end Go.Proofs.Ytmpnhiehkiiepaa
