/-
  Unlike blocks stay unlike under one key. Plain. No condition.
-/
import Derived.Test.YtngajbgfnmahdaaAesW
namespace Go.Proofs.Ytngajbgfnmahdaa
namespace Aes

theorem unbox : ∀ x : BitVec 8, ofL [82, 9, 106, 213, 48, 54, 165, 56, 191, 64, 163, 158, 129, 243, 215, 251, 124, 227, 57, 130, 155, 47, 255, 135, 52, 142, 67, 68, 196, 222, 233, 203, 84, 123, 148, 50, 166, 194, 35, 61, 238, 76, 149, 11, 66, 250, 195, 78, 8, 46, 161, 102, 40, 217, 36, 178, 118, 91, 162, 73, 109, 139, 209, 37, 114, 248, 246, 100, 134, 104, 152, 22, 212, 164, 92, 204, 93, 101, 182, 146, 108, 112, 72, 80, 253, 237, 185, 218, 94, 21, 70, 87, 167, 141, 157, 132, 144, 216, 171, 0, 140, 188, 211, 10, 247, 228, 88, 5, 184, 179, 69, 6, 208, 44, 30, 143, 202, 63, 15, 2, 193, 175, 189, 3, 1, 19, 138, 107, 58, 145, 17, 65, 79, 103, 220, 234, 151, 242, 207, 206, 240, 180, 230, 115, 150, 172, 116, 34, 231, 173, 53, 133, 226, 249, 55, 232, 28, 117, 223, 110, 71, 241, 26, 113, 29, 41, 197, 137, 111, 183, 98, 14, 170, 24, 190, 27, 252, 86, 62, 75, 198, 210, 121, 32, 154, 219, 192, 254, 120, 205, 90, 244, 31, 221, 168, 51, 136, 7, 199, 49, 177, 18, 16, 89, 39, 128, 236, 95, 96, 81, 127, 169, 25, 181, 74, 13, 45, 229, 122, 159, 147, 201, 156, 239, 160, 224, 59, 77, 174, 42, 245, 176, 200, 235, 187, 60, 131, 83, 153, 97, 23, 43, 4, 126, 186, 119, 214, 38, 225, 105, 20, 99, 85, 33, 12, 125] (box x).toNat = x := all8 (by decide +kernel)
theorem box_inj {x y : BitVec 8} (h : box x = box y) : x = y := by rw [← unbox x, ← unbox y, h]
theorem box_ne : ∀ x : BitVec 8, box x ≠ x := all8 (by decide +kernel)
theorem shift_inj {s t : Nat → BitVec 8} (h : ∀ i, i < 16 → shiftAt s i = shiftAt t i) (i : Nat) (hi : i < 16) : s i = t i := by
  have := h (4 * ((i / 4 + 4 - i % 4) % 4) + i % 4) (by omega)
  unfold shiftAt at this
  have e : 4 * (((4 * ((i / 4 + 4 - i % 4) % 4) + i % 4) / 4 + (4 * ((i / 4 + 4 - i % 4) % 4) + i % 4) % 4) % 4) + (4 * ((i / 4 + 4 - i % 4) % 4) + i % 4) % 4 = i :=
    (by decide : ∀ i, i < 16 → 4 * (((4 * ((i / 4 + 4 - i % 4) % 4) + i % 4) / 4 + (4 * ((i / 4 + 4 - i % 4) % 4) + i % 4) % 4) % 4) + (4 * ((i / 4 + 4 - i % 4) % 4) + i % 4) % 4 = i) i hi
  rw [e] at this
  exact box_inj this
theorem xcl (x y : BitVec 8) : x ^^^ (x ^^^ y) = y := by rw [← BitVec.xor_assoc, BitVec.xor_self, BitVec.zero_xor]
theorem xlc (x y z : BitVec 8) : x ^^^ (y ^^^ z) = y ^^^ (x ^^^ z) := by rw [← BitVec.xor_assoc, BitVec.xor_comm x y, BitVec.xor_assoc]
theorem mix2 (b : Nat → BitVec 8) (i : Nat) (hi : i < 16) : mixAt (mixAt b) i = twice (twice (b i ^^^ b (i / 4 * 4 + (i + 2) % 4))) ^^^ b i := by
  have h1 : (i / 4 * 4 + (i + 1) % 4) / 4 * 4 + ((i / 4 * 4 + (i + 1) % 4) + 1) % 4 = i / 4 * 4 + (i + 2) % 4 := by omega
  have h2 : (i / 4 * 4 + (i + 1) % 4) / 4 * 4 + ((i / 4 * 4 + (i + 1) % 4) + 2) % 4 = i / 4 * 4 + (i + 3) % 4 := by omega
  have h3 : (i / 4 * 4 + (i + 1) % 4) / 4 * 4 + ((i / 4 * 4 + (i + 1) % 4) + 3) % 4 = i := by omega
  have g1 : (i / 4 * 4 + (i + 2) % 4) / 4 * 4 + ((i / 4 * 4 + (i + 2) % 4) + 1) % 4 = i / 4 * 4 + (i + 3) % 4 := by omega
  have g2 : (i / 4 * 4 + (i + 2) % 4) / 4 * 4 + ((i / 4 * 4 + (i + 2) % 4) + 2) % 4 = i := by omega
  have g3 : (i / 4 * 4 + (i + 2) % 4) / 4 * 4 + ((i / 4 * 4 + (i + 2) % 4) + 3) % 4 = i / 4 * 4 + (i + 1) % 4 := by omega
  have k1 : (i / 4 * 4 + (i + 3) % 4) / 4 * 4 + ((i / 4 * 4 + (i + 3) % 4) + 1) % 4 = i := by omega
  have k2 : (i / 4 * 4 + (i + 3) % 4) / 4 * 4 + ((i / 4 * 4 + (i + 3) % 4) + 2) % 4 = i / 4 * 4 + (i + 1) % 4 := by omega
  have k3 : (i / 4 * 4 + (i + 3) % 4) / 4 * 4 + ((i / 4 * 4 + (i + 3) % 4) + 3) % 4 = i / 4 * 4 + (i + 2) % 4 := by omega
  unfold mixAt
  rw [h1, h2, h3, g1, g2, g3, k1, k2, k3]
  generalize b (i / 4 * 4 + (i + 1) % 4) = b1
  generalize b (i / 4 * 4 + (i + 2) % 4) = b2
  generalize b (i / 4 * 4 + (i + 3) % 4) = b3
  generalize b i = b0
  simp only [twice_xor]
  generalize twice (twice b0) = u0
  generalize twice (twice b1) = u1
  generalize twice (twice b2) = u2
  generalize twice b0 = t0
  generalize twice b1 = t1
  generalize twice b2 = t2
  generalize twice b3 = t3
  simp only [BitVec.xor_assoc, BitVec.xor_comm, xlc, BitVec.xor_self, xcl, BitVec.xor_zero, BitVec.zero_xor]
theorem mix4 (b : Nat → BitVec 8) (i : Nat) (hi : i < 16) : mixAt (mixAt (mixAt (mixAt b))) i = b i := by
  rw [mix2 _ i hi, mix2 _ i hi, mix2 _ (i / 4 * 4 + (i + 2) % 4) (by omega)]
  rw [show (i / 4 * 4 + (i + 2) % 4) / 4 * 4 + ((i / 4 * 4 + (i + 2) % 4) + 2) % 4 = i by omega]
  generalize b (i / 4 * 4 + (i + 2) % 4) = b2
  generalize b i = b0
  simp only [twice_xor]
  generalize twice (twice b0) = u0
  generalize twice (twice b2) = u2
  simp only [BitVec.xor_assoc, BitVec.xor_comm, xlc, BitVec.xor_self, xcl, BitVec.xor_zero, BitVec.zero_xor]
theorem mix_inj {s t : Nat → BitVec 8} (h : ∀ i, i < 16 → mixAt s i = mixAt t i) (i : Nat) (hi : i < 16) : s i = t i := by
  rw [← mix4 s i hi, ← mix4 t i hi]
  exact mixAt_congr (mixAt_congr (mixAt_congr h)) i hi
theorem xor_right_inj {x y z : BitVec 8} (h : x ^^^ z = y ^^^ z) : x = y := by
  have := congrArg (· ^^^ z) h
  simpa [BitVec.xor_assoc] using this
theorem turnS_inj (k a b : Nat → BitVec 8) : ∀ r, (∀ i, i < 16 → pTurnS k a r i = pTurnS k b r i) → ∀ i, i < 16 → a i = b i
  | 0, h, i, hi => xor_right_inj (h i hi)
  | r + 1, h, i, hi => turnS_inj k a b r (shift_inj (mix_inj fun i hi => xor_right_inj (h i hi))) i hi
theorem turn_inj (k a b : Nat → BitVec 8) (h : ∀ i, i < 16 → pTurn k a i = pTurn k b i) : ∀ i, i < 16 → a i = b i :=
  turnS_inj k a b 9 (shift_inj fun i hi => xor_right_inj (h i hi))
theorem pTurnS_congr (k : Nat → BitVec 8) {a b : Nat → BitVec 8} (h : ∀ i, i < 16 → a i = b i) : ∀ r i, i < 16 → pTurnS k a r i = pTurnS k b r i
  | 0, i, hi => by simp only [pTurnS, h i hi]
  | r + 1, i, hi => by
    simp only [pTurnS]
    rw [mixAt_congr (shiftAt_congr (pTurnS_congr k h r)) i hi]
theorem turn_iff (k a b : Nat → BitVec 8) : (∀ i, i < 16 → pTurn k a i = pTurn k b i) ↔ ∀ i, i < 16 → a i = b i := by
  refine ⟨turn_inj k a b, fun h i hi => ?_⟩
  unfold pTurn
  rw [shiftAt_congr (pTurnS_congr k h 9) i hi]
end Aes
end Go.Proofs.Ytngajbgfnmahdaa
