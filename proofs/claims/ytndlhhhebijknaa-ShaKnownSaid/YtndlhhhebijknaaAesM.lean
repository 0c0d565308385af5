/-
  The field of 256 as the program reckons it: plain functions. No condition.
-/
import Derived.Test.YtndlhhhebijknaaBase
namespace Go.Proofs.Ytndlhhhebijknaa
set_option linter.unusedVariables false
namespace Aes

def twice (a : BitVec 8) : BitVec 8 := if a &&& 128#8 = 0#8 then a <<< 1 else a <<< 1 ^^^ 27#8
/-- k rounds of the product: what is summed, and the first factor. -/
def timesS (b : BitVec 8) : Nat → BitVec 8 × BitVec 8 → BitVec 8 × BitVec 8
  | 0, s => s
  | k + 1, s => let s := timesS b k s; (if (b >>> k) &&& 1#8 = 1#8 then s.1 ^^^ s.2 else s.1, twice s.2)
def times (a b : BitVec 8) : BitVec 8 := (timesS b 8 (0#8, a)).1
/-- k rounds of the power: what is reckoned, and the power. -/
def invS : Nat → BitVec 8 × BitVec 8 → BitVec 8 × BitVec 8
  | 0, s => s
  | k + 1, s => let s := invS k s; (if (254 >>> k) % 2 = 1 then times s.1 s.2 else s.1, times s.2 s.2)
def inverse (a : BitVec 8) : BitVec 8 := (invS 8 (1#8, a)).1
def rot8 (x : BitVec 8) (k : Nat) : BitVec 8 := (x <<< k) ||| (x >>> (8 - k))
/-- What a byte is exchanged for. -/
def boxS (i : BitVec 8) : Nat → BitVec 8
  | 0 => i ^^^ 99#8
  | k + 1 => boxS i k ^^^ rot8 i ((k + 1) % 8)
def box (a : BitVec 8) : BitVec 8 := boxS (inverse a) 4
/-- The columns mixed. -/
def mixAt (b : Nat → BitVec 8) (i : Nat) : BitVec 8 :=
  twice (b i) ^^^ twice (b (i / 4 * 4 + (i + 1) % 4)) ^^^ b (i / 4 * 4 + (i + 1) % 4) ^^^ b (i / 4 * 4 + (i + 2) % 4) ^^^ b (i / 4 * 4 + (i + 3) % 4)
def shiftAt (b : Nat → BitVec 8) (i : Nat) : BitVec 8 := box (b (4 * ((i / 4 + i % 4) % 4) + i % 4))
/-! The document's product. -/
def rT1 (a b : BitVec 8) : Nat → Nat
  | 0 => 0
  | k + 1 => if (b >>> k) &&& 1#8 = 1#8 then rT1 a b k ^^^ (a.toNat * 2 ^ k) else rT1 a b k
def rT2 (n : Nat) : Nat → Nat
  | 0 => n
  | j + 1 => if (rT2 n j / 2 ^ (14 - j)) &&& 1 = 1 then rT2 n j ^^^ (283 * 2 ^ (14 - j - 8)) else rT2 n j
def refTimes (a b : BitVec 8) : BitVec 8 := BitVec.ofNat 8 (rT2 (rT1 a b 8) 7)
theorem rT1_lt (a b : BitVec 8) : ∀ k, k ≤ 8 → rT1 a b k < 2 ^ 15
  | 0, _ => by simp [rT1]
  | k + 1, h => by
    have ih := rT1_lt a b k (by omega)
    simp only [rT1]
    split
    · refine Nat.xor_lt_two_pow ih ?_
      have h1 : a.toNat ≤ 255 := by have := a.isLt; omega
      have h2 : 2 ^ k ≤ 2 ^ 7 := Nat.pow_le_pow_right (by omega) (by omega)
      calc a.toNat * 2 ^ k ≤ 255 * 2 ^ 7 := Nat.mul_le_mul h1 h2
        _ < 2 ^ 15 := by decide
    · exact ih
theorem rT2_lt (n : Nat) (hn : n < 2 ^ 15) : ∀ j, j ≤ 7 → rT2 n j < 2 ^ 15
  | 0, _ => hn
  | j + 1, h => by
    have ih := rT2_lt n hn j (by omega)
    simp only [rT2]
    split
    · refine Nat.xor_lt_two_pow ih ?_
      have h2 : 2 ^ (14 - j - 8) ≤ 2 ^ 6 := Nat.pow_le_pow_right (by omega) (by omega)
      calc 283 * 2 ^ (14 - j - 8) ≤ 283 * 2 ^ 6 := Nat.mul_le_mul_left _ h2
        _ < 2 ^ 15 := by decide
    · exact ih
/-- The document's box. -/
def refFind (a : BitVec 8) : Nat → BitVec 8
  | 0 => 0#8
  | k + 1 => if refTimes a (BitVec.ofNat 8 (k + 1)) = 1#8 then BitVec.ofNat 8 (k + 1) else refFind a k
def refBoxS (i : BitVec 8) : Nat → BitVec 8
  | 0 => 99#8
  | k + 1 => refBoxS i k ^^^ rot8 i k
def refBox (a : BitVec 8) : BitVec 8 := refBoxS (refFind a 255) 5
/-! The document's block. -/
def rMixAt (b : Nat → BitVec 8) (i : Nat) : BitVec 8 :=
  refTimes 2#8 (b i) ^^^ refTimes 3#8 (b (i / 4 * 4 + (i + 1) % 4)) ^^^ b (i / 4 * 4 + (i + 2) % 4) ^^^ b (i / 4 * 4 + (i + 3) % 4)
def rWord (B : Nat → BitVec 8) (w : Nat → BitVec 8) (c : BitVec 8) (i : Nat) (j : Nat) : BitVec 8 :=
  if i % 4 = 0 then (if j = 0 then B (w (4 * i - 4 + 1)).toNat ^^^ c else B (w (4 * i - 4 + (j + 1) % 4)).toNat) else w (4 * i - 4 + j)
/-- k words behind the key's four; what the next one is turned by. -/
def rKeyS (B key : Nat → BitVec 8) : Nat → (Nat → BitVec 8) × BitVec 8
  | 0 => (key, 1#8)
  | k + 1 => let s := rKeyS B key k
    (fun j => if j < 4 * (k + 4) then s.1 j else s.1 (j - 16) ^^^ rWord B s.1 s.2 (k + 4) (j - 4 * (k + 4)), if (k + 4) % 4 = 0 then refTimes s.2 2#8 else s.2)
def rKeys (B key : Nat → BitVec 8) : Nat → BitVec 8 := (rKeyS B key 40).1
def rShift (B s : Nat → BitVec 8) (j : Nat) : BitVec 8 := B (s (4 * ((j / 4 + j % 4) % 4) + j % 4)).toNat
def rTurnS (B key block : Nat → BitVec 8) : Nat → Nat → BitVec 8
  | 0, j => block j ^^^ rKeys B key j
  | r + 1, j => let s := rTurnS B key block r
    (if r + 1 < 10 then rMixAt (rShift B s) else rShift B s) j ^^^ rKeys B key (16 * (r + 1) + j)
/-! The program's round keys. -/
def pW (old : Nat → BitVec 8) (p : BitVec 8) : Nat → Nat → BitVec 8
  | 0, j => if j = 0 then old 0 ^^^ box (old 13) ^^^ p else old j ^^^ box (old (12 + (j + 1) % 4))
  | c + 1, j => old (4 * (c + 1) + j) ^^^ pW old p c j
def pNow (old : Nat → BitVec 8) (p : BitVec 8) (i : Nat) : BitVec 8 := pW old p (i / 4) (i % 4)
/-- r round keys behind the first one; the power. -/
def pKeyS (k : Nat → BitVec 8) : Nat → (Nat → BitVec 8) × BitVec 8
  | 0 => (k, 1#8)
  | r + 1 => let s := pKeyS k r
    (fun i => if i < 16 * (r + 1) then s.1 i else pNow (fun j => s.1 (16 * r + j)) s.2 (i - 16 * (r + 1)), times s.2 2#8)
def pKeys (k : Nat → BitVec 8) : Nat → BitVec 8 := (pKeyS k 10).1
/-- The program's block, turned. -/
def pTurnS (k b : Nat → BitVec 8) : Nat → Nat → BitVec 8
  | 0, i => b i ^^^ pKeys k i
  | r + 1, i => mixAt (shiftAt (pTurnS k b r)) i ^^^ pKeys k (16 * (r + 1) + i)
def pTurn (k b : Nat → BitVec 8) (i : Nat) : BitVec 8 := shiftAt (pTurnS k b 9) i ^^^ pKeys k (160 + i)
end Aes
end Go.Proofs.Ytndlhhhebijknaa
