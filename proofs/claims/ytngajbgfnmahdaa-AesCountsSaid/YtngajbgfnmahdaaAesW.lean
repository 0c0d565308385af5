/-
  A key and a block whose turned block is known: the model's answer. Plain. No condition.
-/
import Derived.Test.YtngajbgfnmahdaaAesP
namespace Go.Proofs.Ytngajbgfnmahdaa
namespace Aes

def ofL (l : List Nat) (i : Nat) : BitVec 8 := BitVec.ofNat 8 (l.getD i 0)
theorem pW_congr {s t : Nat → BitVec 8} (p : BitVec 8) (h : ∀ i, i < 16 → s i = t i) {j : Nat} (hj : j < 4) : ∀ c, c < 4 → pW s p c j = pW t p c j
  | 0, _ => by simp only [pW]; rw [h 0 (by omega), h 13 (by omega), h j (by omega), h (12 + (j + 1) % 4) (by omega)]
  | c + 1, hc => by simp only [pW]; rw [pW_congr p h hj c (by omega), h _ (by omega)]
theorem pNow_congr {s t : Nat → BitVec 8} (p : BitVec 8) (h : ∀ i, i < 16 → s i = t i) {i : Nat} (hi : i < 16) : pNow s p i = pNow t p i :=
  pW_congr p h (by omega) _ (by omega)
def KeyAt (K : Nat → BitVec 8) (r : Nat) (l : List Nat) (p : BitVec 8) : Prop := (∀ j, j < 16 → (pKeyS K r).1 (16 * r + j) = ofL l j) ∧ (pKeyS K r).2 = p
theorem key_next {K : Nat → BitVec 8} {r : Nat} {l l' : List Nat} {p p' : BitVec 8} (h : KeyAt K r l p) (e : ∀ j, j < 16 → pNow (ofL l) p j = ofL l' j) (ep : times p 2#8 = p') : KeyAt K (r + 1) l' p' := by
  obtain ⟨h1, h2⟩ := h
  refine ⟨fun j hj => ?_, ?_⟩
  · simp only [pKeyS]
    rw [if_neg (by omega), h2, show 16 * (r + 1) + j - 16 * (r + 1) = j by omega, pNow_congr p h1 hj, e j hj]
  · simp only [pKeyS]
    rw [h2, ep]
theorem pKeyS_up (K : Nat → BitVec 8) (r i : Nat) (hi : i < 16 * (r + 1)) : ∀ n, (pKeyS K (r + n)).1 i = (pKeyS K r).1 i
  | 0 => rfl
  | n + 1 => by
    rw [← Nat.add_assoc]
    simp only [pKeyS]
    rw [if_pos (by omega), pKeyS_up K r i hi n]
theorem KeyAt.key {K : Nat → BitVec 8} {r : Nat} {l : List Nat} {p : BitVec 8} (h : KeyAt K r l p) (hr : r ≤ 10) (j : Nat) (hj : j < 16) : pKeys K (16 * r + j) = ofL l j := by
  have := pKeyS_up K r (16 * r + j) (by omega) (10 - r)
  rw [show r + (10 - r) = 10 by omega] at this
  unfold pKeys
  rw [this, h.1 j hj]
def TurnAt (K b : Nat → BitVec 8) (r : Nat) (l : List Nat) : Prop := ∀ i, i < 16 → pTurnS K b r i = ofL l i
theorem turn_next {K b : Nat → BitVec 8} {r : Nat} {l l' k : List Nat} {p : BitVec 8} (h : TurnAt K b r l) (hk : KeyAt K (r + 1) k p) (hr : r + 1 ≤ 10) (e : ∀ i, i < 16 → mixAt (shiftAt (ofL l)) i ^^^ ofL k i = ofL l' i) : TurnAt K b (r + 1) l' := by
  intro i hi
  simp only [pTurnS]
  rw [hk.key hr i hi, mixAt_congr (shiftAt_congr h) i hi, e i hi]
def awK (i : Nat) : BitVec 8 := BitVec.ofInt 8 (i : Int)
def awB (i : Nat) : BitVec 8 := BitVec.ofInt 8 ((i : Int) * 17)
theorem aw_k0 : KeyAt awK 0 [0, 1, 2, 3, 4, 5, 6, 7, 8, 9, 10, 11, 12, 13, 14, 15] 1#8 := ⟨by decide +kernel, rfl⟩
theorem aw_k1 : KeyAt awK 1 [214, 170, 116, 253, 210, 175, 114, 250, 218, 166, 120, 241, 214, 171, 118, 254] 2#8 := key_next aw_k0 (by decide +kernel) (by decide +kernel)
theorem aw_k2 : KeyAt awK 2 [182, 146, 207, 11, 100, 61, 189, 241, 190, 155, 197, 0, 104, 48, 179, 254] 4#8 := key_next aw_k1 (by decide +kernel) (by decide +kernel)
theorem aw_k3 : KeyAt awK 3 [182, 255, 116, 78, 210, 194, 201, 191, 108, 89, 12, 191, 4, 105, 191, 65] 8#8 := key_next aw_k2 (by decide +kernel) (by decide +kernel)
theorem aw_k4 : KeyAt awK 4 [71, 247, 247, 188, 149, 53, 62, 3, 249, 108, 50, 188, 253, 5, 141, 253] 16#8 := key_next aw_k3 (by decide +kernel) (by decide +kernel)
theorem aw_k5 : KeyAt awK 5 [60, 170, 163, 232, 169, 159, 157, 235, 80, 243, 175, 87, 173, 246, 34, 170] 32#8 := key_next aw_k4 (by decide +kernel) (by decide +kernel)
theorem aw_k6 : KeyAt awK 6 [94, 57, 15, 125, 247, 166, 146, 150, 167, 85, 61, 193, 10, 163, 31, 107] 64#8 := key_next aw_k5 (by decide +kernel) (by decide +kernel)
theorem aw_k7 : KeyAt awK 7 [20, 249, 112, 26, 227, 95, 226, 140, 68, 10, 223, 77, 78, 169, 192, 38] 128#8 := key_next aw_k6 (by decide +kernel) (by decide +kernel)
theorem aw_k8 : KeyAt awK 8 [71, 67, 135, 53, 164, 28, 101, 185, 224, 22, 186, 244, 174, 191, 122, 210] 27#8 := key_next aw_k7 (by decide +kernel) (by decide +kernel)
theorem aw_k9 : KeyAt awK 9 [84, 153, 50, 209, 240, 133, 87, 104, 16, 147, 237, 156, 190, 44, 151, 78] 54#8 := key_next aw_k8 (by decide +kernel) (by decide +kernel)
theorem aw_k10 : KeyAt awK 10 [19, 17, 29, 127, 227, 148, 74, 23, 243, 7, 167, 139, 77, 43, 48, 197] 108#8 := key_next aw_k9 (by decide +kernel) (by decide +kernel)
theorem aw_s0 : TurnAt awK awB 0 [0, 16, 32, 48, 64, 80, 96, 112, 128, 144, 160, 176, 192, 208, 224, 240] := fun i hi => by
  show awB i ^^^ pKeys awK i = _
  have := aw_k0.key (by omega) i hi
  rw [show 16 * 0 + i = i by omega] at this
  rw [this]
  exact (by decide +kernel : ∀ i, i < 16 → awB i ^^^ ofL [0, 1, 2, 3, 4, 5, 6, 7, 8, 9, 10, 11, 12, 13, 14, 15] i = ofL [0, 16, 32, 48, 64, 80, 96, 112, 128, 144, 160, 176, 192, 208, 224, 240] i) i hi
theorem aw_s1 : TurnAt awK awB 1 [137, 216, 16, 232, 133, 90, 206, 104, 45, 24, 67, 216, 203, 18, 143, 228] := turn_next aw_s0 aw_k1 (by omega) (by decide +kernel)
theorem aw_s2 : TurnAt awK awB 2 [73, 21, 89, 143, 85, 229, 215, 160, 218, 202, 148, 250, 31, 10, 99, 247] := turn_next aw_s1 aw_k2 (by omega) (by decide +kernel)
theorem aw_s3 : TurnAt awK awB 3 [250, 99, 106, 40, 37, 179, 57, 201, 64, 102, 138, 49, 87, 36, 77, 23] := turn_next aw_s2 aw_k3 (by omega) (by decide +kernel)
theorem aw_s4 : TurnAt awK awB 4 [36, 114, 64, 35, 105, 102, 179, 250, 110, 210, 117, 50, 136, 66, 91, 108] := turn_next aw_s3 aw_k4 (by omega) (by decide +kernel)
theorem aw_s5 : TurnAt awK awB 5 [200, 22, 119, 188, 155, 122, 201, 59, 37, 2, 121, 146, 176, 38, 25, 150] := turn_next aw_s4 aw_k5 (by omega) (by decide +kernel)
theorem aw_s6 : TurnAt awK awB 6 [198, 47, 225, 9, 247, 94, 237, 195, 204, 121, 57, 93, 132, 249, 207, 93] := turn_next aw_s5 aw_k6 (by omega) (by decide +kernel)
theorem aw_s7 : TurnAt awK awB 7 [209, 135, 108, 15, 121, 196, 48, 10, 180, 85, 148, 173, 214, 111, 244, 31] := turn_next aw_s6 aw_k7 (by omega) (by decide +kernel)
theorem aw_s8 : TurnAt awK awB 8 [253, 227, 186, 210, 5, 229, 208, 215, 53, 71, 150, 78, 241, 254, 55, 241] := turn_next aw_s7 aw_k8 (by omega) (by decide +kernel)
theorem aw_s9 : TurnAt awK awB 9 [189, 110, 124, 61, 242, 181, 119, 158, 11, 97, 33, 110, 139, 16, 182, 137] := turn_next aw_s8 aw_k9 (by omega) (by decide +kernel)
theorem aw_turn (i : Nat) (hi : i < 16) : pTurn awK awB i = ofL [105, 196, 224, 216, 106, 123, 4, 48, 216, 205, 183, 128, 112, 180, 197, 90] i := by
  unfold pTurn
  have := aw_k10.key (by omega) i hi
  rw [show 160 + i = 16 * 10 + i by omega, this, shiftAt_congr aw_s9 i hi]
  exact (by decide +kernel : ∀ i, i < 16 → shiftAt (ofL [189, 110, 124, 61, 242, 181, 119, 158, 11, 97, 33, 110, 139, 16, 182, 137]) i ^^^ ofL [19, 17, 29, 127, 227, 148, 74, 23, 243, 7, 167, 139, 77, 43, 48, 197] i = ofL [105, 196, 224, 216, 106, 123, 4, 48, 216, 205, 183, 128, 112, 180, 197, 90] i) i hi
end Aes
end Go.Proofs.Ytngajbgfnmahdaa
