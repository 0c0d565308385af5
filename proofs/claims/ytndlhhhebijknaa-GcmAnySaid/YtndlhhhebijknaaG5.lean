/-
  Texts of this claim, part 5: GcmA, AesN, ShaM, ShaA, ShaN, ShaB, ShaC, ShaP, ShaD, ShaE, ShaL, ShaS, ShaT. No condition of its own.
-/
import Derived.Test.YtndlhhhebijknaaG4
section
/-
  The program's field of 2^128. No condition.
-/
namespace Go.Proofs.Ytndlhhhebijknaa
set_option linter.unusedVariables false
namespace Sx
open Aes Gcm

/-- An element: its two words. -/
abbrev elt2 (h l : BitVec 64) : List Seg := [.one (.w64 h), .one (.w64 l)]
abbrev eltA (e : E) : SA := .agg (elt2 (hi e) (lo e))
theorem fn_load (b : Nat → BitVec 8) : Fn Try.prog tds 53 [] [blk b] (fun _ => True) (fun x hs => x = .a (eltA (toE b)) ∧ hs = []) := by
  refine fn_of_body tds_ok follows_ Try.func53 rfl (t := .a (blk b) :: anys 28) rfl (fun w r0 hr _ => ?_)
  obtain rfl : r0 = [] := List.eq_nil_of_length_eq_zero hr
  refine ⟨rfl, .inl ⟨Nat, fun k => ⟨[.any, .a (.c (.p 0 0 0)), .a (.c (.p 1 0 0)), .a (.c (.p 2 0 0)), .any, .a (.c (.int .i64 (↑k))), .any, .any, .any, .any, .any, .any, .any, .any, .any, .any, .any, .any, .any, .any, .any, .any, .any, .any, .any, .any, .any, .any, .any], [[.row 16 fun i => .w8 (b i)], elt2 0 0, elt2 (ldS b 0 k) (ldS b 8 k)]⟩, fun k => k ≤ 8, fun k => 8 - k, ⟨0, [0, 1, 2], ⟨⟨rfl, rfl, rfl⟩, ?_⟩, by omega⟩, fun k hk => ⟨fun h => ?_, fun h => ?_⟩⟩⟩
  · (repeat first | exact trivial | refine ⟨rfl, ?_⟩ | refine ⟨fun _ _ => ⟨rfl, trivial⟩, ?_⟩ | refine ⟨by omega, ?_⟩)
  · have hlt : (k : Int) < 8 := of_decide_eq_true h
    refine ⟨none, [], [(0, true), (1, true), (2, true), (3, true), (4, true), (5, true), (6, true), (7, true), (8, true)], [9], by kernel_rfl, ?_⟩
    (repeat first | refine ⟨by omega, ?_⟩ | refine ⟨by decide, ?_⟩ | refine ⟨idx8 _, ?_⟩ | refine ⟨lt8 (Nat.le_refl _) _, ?_⟩)
    refine ⟨rfl, none, [], [(0, true), (1, true), (2, true), (3, true), (4, true), (5, true), (6, true), (7, true), (8, true), (9, true)], [10], by kernel_rfl, ?_⟩
    (repeat first | refine ⟨by omega, ?_⟩ | refine ⟨by decide, ?_⟩ | refine ⟨idx8 _, ?_⟩ | refine ⟨lt8 (Nat.le_refl _) _, ?_⟩)
    refine ⟨rfl, ⟨by omega, by omega⟩, k + 1, [0, 1, 2], ⟨⟨rfl, rfl, rfl⟩, ?_⟩, by dsimp only; omega, by dsimp only; omega⟩
    have e0 : (k : Int).toNat + 0 = 0 + k := by omega
    have e1 : (8 + (k : Int)).toNat + 0 = 8 + k := by omega
    refine ⟨rfl, rfl, rfl, rfl, rfl, fun j hj => ⟨rfl, trivial⟩, rfl, rfl, ?_, ?_, trivial⟩
    · show _ <<< 8 ||| (b ((k : Int).toNat + 0)).setWidth 64 = _
      rw [e0]; rfl
    · show _ <<< 8 ||| (b ((8 + (k : Int)).toNat + 0)).setWidth 64 = _
      rw [e1]; rfl
  · obtain rfl : k = 8 := by have : ¬ (k : Int) < 8 := of_decide_eq_false h; have hk : k ≤ 8 := hk; omega
    exact ⟨rfl, .a (eltA (toE b)), [], ⟨[], ⟨rfl, rfl, rfl⟩, rfl, (hi_mk _ _).symm, (lo_mk _ _).symm, trivial⟩, rfl, rfl⟩
theorem sh7 : ∀ k : Nat, k < 8 → (8#64 * BitVec.ofInt 64 (7 - (k : Int))).toNat = 8 * (7 - k) := by decide
theorem fn_store (e : E) : Fn Try.prog tds 74 [] [eltA e] (fun _ => True) (fun x hs => x = .a (blk (byE e)) ∧ hs = []) := by
  refine fn_of_body tds_ok follows_ Try.func74 rfl (t := .a (eltA e) :: anys 30) rfl (fun w r0 hr _ => ?_)
  obtain rfl : r0 = [] := List.eq_nil_of_length_eq_zero hr
  refine ⟨rfl, .inl ⟨Nat, fun k => ⟨[.any, .a (.c (.p 0 0 0)), .a (.c (.p 1 0 0)), .a (.c (.p 2 0 0)), .any, .a (.c (.int .i64 (↑k))), .any, .any, .any, .any, .any, .any, .any, .any, .any, .any, .any, .any, .any, .any, .any, .any, .any, .any, .any, .any, .any, .any, .any, .any, .any], [elt2 (hi e) (lo e), [.row 16 fun _ => .w8 0], [.row 16 fun i => .w8 (if i % 8 < k then byE e i else 0#8)]]⟩, fun k => k ≤ 8, fun k => 8 - k, ⟨0, [0, 1, 2], ⟨⟨rfl, rfl, rfl⟩, ?_⟩, by omega⟩, fun k hk => ⟨fun h => ?_, fun h => ?_⟩⟩⟩
  · refine ⟨rfl, rfl, rfl, rfl, rfl, rfl, rfl, fun j hj => ⟨rfl, trivial⟩, rfl, fun j hj => eqC_w8 (congrArg SC.w8 ?_), trivial⟩
    rw [if_neg (by omega)]; rfl
  · have hlt : (k : Int) < 8 := of_decide_eq_true h
    have hl : k < 8 := by omega
    (repeat first | refine ⟨by omega, ?_⟩ | refine ⟨by decide, ?_⟩ | refine ⟨idx8 _, ?_⟩ | refine ⟨lt8 (Nat.le_refl _) _, ?_⟩)
    refine ⟨rfl, ?_⟩
    (repeat first | refine ⟨by omega, ?_⟩ | refine ⟨by decide, ?_⟩ | refine ⟨idx8 _, ?_⟩ | refine ⟨lt8 (Nat.le_refl _) _, ?_⟩)
    refine ⟨rfl, ⟨by omega, by omega⟩, k + 1, [0, 1, 2], ⟨⟨rfl, rfl, rfl⟩, ?_⟩, by dsimp only; omega, by dsimp only; omega⟩
    refine ⟨rfl, rfl, rfl, rfl, rfl, rfl, rfl, fun j hj => ⟨rfl, trivial⟩, rfl, fun j hj => eqC_w8 ?_, trivial⟩
    have e0 : (k : Int).toNat + 0 = k := by omega
    have e1 : (8 + (k : Int)).toNat + 0 = 8 + k := by omega
    rw [e0, e1, sh7 k hl]
    unfold upd
    by_cases h1 : j = 8 + k
    · rw [if_pos h1, if_pos (by omega)]
      unfold byE
      rw [if_neg (by omega), show 15 - j = 7 - k by omega]
    · rw [if_neg h1]
      by_cases h2 : j = k
      · rw [if_pos h2, if_pos (by omega)]
        unfold byE
        rw [if_pos (by omega), h2]
      · rw [if_neg h2]
        have : j % 8 < k ↔ j % 8 < k + 1 := by omega
        simp only [this]
  · obtain rfl : k = 8 := by have : ¬ (k : Int) < 8 := of_decide_eq_false h; have hk : k ≤ 8 := hk; omega
    exact ⟨by omega, rfl, rfl, by omega, .a (blk (byE e)), [], ⟨[], ⟨rfl, rfl, rfl⟩, rfl, rfl, fun j hj => eqC_w8 (by simp [hj, show j % 8 < 8 by omega]), trivial⟩, rfl, rfl⟩
theorem hi0 : hi 0#128 = 0#64 := by decide
theorem lo0 : lo 0#128 = 0#64 := by decide
theorem shl_hi (a : E) (k : Nat) : hi (a <<< k) <<< 1 ||| lo (a <<< k) >>> 63 = hi (a <<< (k + 1)) := by rw [BitVec.shiftLeft_add, hi_shl]
theorem shl_lo (a : E) (k : Nat) : lo (a <<< k) <<< 1 = lo (a <<< (k + 1)) := by rw [BitVec.shiftLeft_add, lo_shl]
theorem mulS1 {a b : E} {k : Nat} (h : a.getMsbD k = true) : (mulS a b (k + 1)).1 = (mulS a b k).1 ^^^ (mulS a b k).2 := by
  simp only [mulS]; rw [if_pos h]
theorem mulS0 {a b : E} {k : Nat} (h : ¬ a.getMsbD k = true) : (mulS a b (k + 1)).1 = (mulS a b k).1 := by
  simp only [mulS]; rw [if_neg h]
theorem mulS2 {a b : E} {k : Nat} : (mulS a b (k + 1)).2 = Gcm.step (mulS a b k).2 := rfl
set_option maxRecDepth 20000 in
theorem fn_gtimes (a b : E) : Fn Try.prog tds 75 [] [eltA a, eltA b] (fun _ => True) (fun x hs => x = .a (eltA (mul a b)) ∧ hs = []) := by
  refine fn_of_body tds_ok follows_ Try.func75 rfl (t := .a (eltA a) :: .a (eltA b) :: anys 60) rfl (fun w r0 hr _ => ?_)
  obtain rfl : r0 = [] := List.eq_nil_of_length_eq_zero hr
  refine ⟨rfl, rfl, .inl ⟨Nat, fun k => ⟨[.any, .any, .a (.c (.p 0 0 0)), .a (.c (.p 1 0 0)), .a (.c (.p 2 0 0)), .a (.c (.p 3 0 0)), .any, .any, .a (.c (.int .i64 (↑k))), .any, .any, .any, .any, .any, .any, .any, .any, .any, .any, .any, .any, .any, .any, .any, .any, .any, .any, .any, .any, .any, .any, .any, .any, .any, .any, .any, .any, .any, .any, .any, .any, .any, .any, .any, .any, .any, .any, .any, .any, .any, .any, .any, .any, .any, .any, .any, .any, .any, .any, .any, .any, .any], [elt2 (hi (a <<< k)) (lo (a <<< k)), elt2 (hi (mulS a b k).2) (lo (mulS a b k).2), elt2 0 0, elt2 (hi (mulS a b k).1) (lo (mulS a b k).1)]⟩, fun k => k ≤ 128, fun k => 128 - k, ⟨0, [0, 1, 2, 3], ⟨⟨rfl, rfl, rfl⟩, ?_⟩, by omega⟩, fun k hk => ⟨fun h => ?_, fun h => ?_⟩⟩⟩
  · have e : a <<< 0 = a := BitVec.shiftLeft_zero _
    refine ⟨rfl, rfl, rfl, rfl, rfl, ?_, ?_, rfl, rfl, rfl, rfl, hi0.symm, lo0.symm, trivial⟩ <;> rw [e]
  · have hlt : (k : Int) < 128 := of_decide_eq_true h
    by_cases hb : a.getMsbD k = true
    all_goals by_cases ho : (mulS a b k).2.getLsbD 0 = true
    all_goals
      have e1 := (top_shl a k)
      have e2 := low_bit (mulS a b k).2
      first
        | (have e3 : decide (hi (a <<< k) >>> 63 = 1#64) = true := decide_eq_true (e1.2 hb); clear e1)
        | (have e3 : decide (hi (a <<< k) >>> 63 = 1#64) = false := decide_eq_false (mt e1.1 hb); clear e1)
      first
        | (have e4 : decide (lo (mulS a b k).2 &&& 1#64 = 1#64) = true := decide_eq_true (e2.2 ho); clear e2)
        | (have e4 : decide (lo (mulS a b k).2 &&& 1#64 = 1#64) = false := decide_eq_false (mt e2.1 ho); clear e2)
    all_goals
      (repeat first
        | refine ⟨fun _ => ?_, fun h => absurd h (by rw [e3]; decide)⟩
        | refine ⟨fun h => absurd h (by rw [e3]; decide), fun _ => ?_⟩
        | refine ⟨fun _ => ?_, fun h => absurd h (by rw [e4]; decide)⟩
        | refine ⟨fun h => absurd h (by rw [e4]; decide), fun _ => ?_⟩
        | refine ⟨rfl, ?_⟩)
      refine ⟨⟨by omega, by omega⟩, k + 1, [0, 1, 2, 3], ⟨⟨rfl, rfl, rfl⟩, rfl, rfl, rfl, rfl, rfl, shl_hi a k, shl_lo a k, ?_, ?_, rfl, rfl, ?_, ?_, trivial⟩, by dsimp only; omega, by dsimp only; omega⟩
      · first
          | exact (hi_step1 ho).symm
          | exact (hi_step0 ho).symm
      · exact (lo_step _).symm
      · first
          | (rw [mulS1 hb, hi_xor])
          | (rw [mulS0 hb])
      · first
          | (rw [mulS1 hb, lo_xor])
          | (rw [mulS0 hb])
  · obtain rfl : k = 128 := by have : ¬ (k : Int) < 128 := of_decide_eq_false h; have hk : k ≤ 128 := hk; omega
    exact ⟨rfl, .a (eltA (mul a b)), [], ⟨[], ⟨rfl, rfl, rfl⟩, rfl, rfl, rfl, trivial⟩, rfl, rfl⟩
end Sx
end Go.Proofs.Ytndlhhhebijknaa
end

section
/-
  The program's blocks and keys: names for what comes out, nil ones. No condition.
-/
namespace Go.Proofs.Ytndlhhhebijknaa
set_option linter.unusedVariables false
namespace Sx
open Aes

theorem nthC_rep {x : SC} : ∀ {n j : Nat}, j < n → nthC (List.replicate n x) j = x
  | n + 1, 0, _ => rfl
  | n + 1, j + 1, h => nthC_rep (n := n) (j := j) (by omega)
theorem fn_key_nil (k : Nat → BitVec 8) : Fn Try.prog tds 52 [] [.c (.ptr none), blk k] (fun _ => True) (fun x hs => x = .a (.c (.ptr none)) ∧ hs = []) := by
  refine fn_of_body tds_ok follows_ Try.func52 rfl (t := .a (.c (.ptr none)) :: .a (blk k) :: anys 94) rfl (fun w r0 hr _ => ?_)
  obtain rfl : r0 = [] := List.eq_nil_of_length_eq_zero hr
  refine ⟨rfl, fun _ => ?_, fun h => absurd h (by decide)⟩
  exact ⟨.a (.c (.ptr none)), [], ⟨[], ⟨rfl, rfl, rfl⟩, rfl, trivial⟩, rfl, rfl⟩
theorem fn_turn_nil (b : Nat → BitVec 8) : Fn Try.prog tds 54 [] [.c (.ptr none), blk b] (fun _ => True) (fun x hs => x = .a (blk fun _ => 0#8) ∧ hs = []) := by
  refine fn_of_body tds_ok follows_ Try.func54 rfl (t := .a (.c (.ptr none)) :: .a (blk b) :: anys 58) rfl (fun w r0 hr _ => ?_)
  obtain rfl : r0 = [] := List.eq_nil_of_length_eq_zero hr
  refine ⟨rfl, ?_⟩
  repeat first
    | refine ⟨fun _ => ?_, fun h => absurd h (by decide)⟩
    | refine ⟨fun h => absurd h (by decide), fun _ => ?_⟩
  refine ⟨rfl, rfl, by omega, .a (blk fun _ => 0#8), [], ⟨[], ⟨rfl, rfl, rfl⟩, rfl, rfl, fun j hj => eqC_w8 (nthC_rep (n := 16) (x := .w8 0) (by omega)), trivial⟩, rfl, rfl⟩
/-- A key's block; its tables' name here. -/
abbrev keyD (i : Nat) (K : Nat → BitVec 8) : List Seg := [.one (.p i 0 0), .row 176 (fun i => .w8 (K i))]
theorem fn_key' (d : BitVec 32) (b : Nat → BitVec 8) (n : Int) (key K : Nat → BitVec 8) (hK : pKeys key = K) (hd : d = 0#32 ∨ d = 1#32 ∧ b = boxes) :
    Fn Try.prog tds 52 [tabs d 0 b n] [.c (.p 0 0 0), blk key] (fun _ => True) (fun x hs => x = .a (.c (.p 1 0 0)) ∧ hs = [tabs 1 0 boxes n, keyC K]) := by
  subst hK; exact fn_key d b n key hd
theorem fn_turn' (n : Int) (key b K R : Nat → BitVec 8) (hK : pKeys key = K) (hR : pTurn key b = R) (hn : -9223372036854775808 ≤ n + 1 ∧ n + 1 ≤ 9223372036854775807) :
    Fn Try.prog tds 54 [tabs 1 0 boxes n, keyC K] [.c (.p 1 0 0), blk b] (fun _ => True) (fun x hs => x = .a (blk R) ∧ hs = [tabs 1 0 boxes (n + 1), keyC K]) := by
  subst hK hR; exact fn_turn n key b hn
end Sx
end Go.Proofs.Ytndlhhhebijknaa
end

section
/-
  SHA-256's tables as the program reckons them: plain functions. No condition.
-/
namespace Go.Proofs.Ytndlhhhebijknaa
set_option linter.unusedVariables false
namespace Sha

def mul64 (x y : BitVec 64) : BitVec 64 × BitVec 64 :=
  let x0 := x &&& 4294967295#64
  let x1 := x >>> 32
  let y0 := y &&& 4294967295#64
  let y1 := y >>> 32
  let t := x1 * y0 + (x0 * y0) >>> 32
  let w1 := t &&& 4294967295#64
  let w2 := t >>> 32
  let w1 := w1 + x0 * y1
  (x1 * y1 + w2 + w1 >>> 32, x * y)
def sqFits (x n : BitVec 64) : Bool := decide ((mul64 x x).1 < n) || (decide ((mul64 x x).1 = n) && decide ((mul64 x x).2 = 0#64))
def cuTop (x : BitVec 64) : BitVec 64 := (mul64 x x).1 * x + (mul64 (mul64 x x).2 x).1
def cuFits (x n : BitVec 64) : Bool := decide (cuTop x < n <<< 32) || (decide (cuTop x = n <<< 32) && decide ((mul64 (mul64 x x).2 x).2 = 0#64))
/-- k rounds of the root, from the highest bit down. -/
def rootS (F : BitVec 64 → BitVec 64 → Bool) (n : BitVec 64) : Nat → BitVec 64
  | 0 => 0#64
  | k + 1 => if F (rootS F n k ||| (1#64 <<< (34 - k))) n then rootS F n k ||| (1#64 <<< (34 - k)) else rootS F n k
def root (F : BitVec 64 → BitVec 64 → Bool) (n : BitVec 64) : BitVec 64 := rootS F n 35
/-- No number from 2 up to below d goes into n. -/
def noDiv (n d : Nat) : Prop := ∀ e, 2 ≤ e → e < d → n % e ≠ 0
def isP (n : Nat) : Bool := (List.range 20).all fun d => decide (d < 2) || decide (n < d * d) || !(decide (n % d = 0))
/-- How many primes there are among k numbers from 2 on. -/
def cnt : Nat → Nat
  | 0 => 0
  | k + 1 => cnt k + if isP (k + 2) then 1 else 0
def stepsS (s : Nat → BitVec 32) : Nat → Nat → BitVec 32
  | 0, i => s i
  | k + 1, i => if isP (k + 2) && decide (i = cnt k) then (root cuFits (BitVec.ofNat 64 (k + 2))).setWidth 32 else stepsS s k i
def firstS (s : Nat → BitVec 32) : Nat → Nat → BitVec 32
  | 0, i => s i
  | k + 1, i => if isP (k + 2) && decide (cnt k < 8) && decide (i = cnt k) then (root sqFits (BitVec.ofNat 64 (k + 2))).setWidth 32 else firstS s k i
def stepsL : List Nat := [0x428a2f98, 0x71374491, 0xb5c0fbcf, 0xe9b5dba5, 0x3956c25b, 0x59f111f1, 0x923f82a4, 0xab1c5ed5,
  0xd807aa98, 0x12835b01, 0x243185be, 0x550c7dc3, 0x72be5d74, 0x80deb1fe, 0x9bdc06a7, 0xc19bf174,
  0xe49b69c1, 0xefbe4786, 0x0fc19dc6, 0x240ca1cc, 0x2de92c6f, 0x4a7484aa, 0x5cb0a9dc, 0x76f988da,
  0x983e5152, 0xa831c66d, 0xb00327c8, 0xbf597fc7, 0xc6e00bf3, 0xd5a79147, 0x06ca6351, 0x14292967,
  0x27b70a85, 0x2e1b2138, 0x4d2c6dfc, 0x53380d13, 0x650a7354, 0x766a0abb, 0x81c2c92e, 0x92722c85,
  0xa2bfe8a1, 0xa81a664b, 0xc24b8b70, 0xc76c51a3, 0xd192e819, 0xd6990624, 0xf40e3585, 0x106aa070,
  0x19a4c116, 0x1e376c08, 0x2748774c, 0x34b0bcb5, 0x391c0cb3, 0x4ed8aa4a, 0x5b9cca4f, 0x682e6ff3,
  0x748f82ee, 0x78a5636f, 0x84c87814, 0x8cc70208, 0x90befffa, 0xa4506ceb, 0xbef9a3f7, 0xc67178f2]
def firstL : List Nat := [0x6a09e667, 0xbb67ae85, 0x3c6ef372, 0xa54ff53a, 0x510e527f, 0x9b05688c, 0x1f83d9ab, 0x5be0cd19]
def steps (i : Nat) : BitVec 32 := BitVec.ofNat 32 (stepsL.getD i 0)
def first (i : Nat) : BitVec 32 := BitVec.ofNat 32 (firstL.getD i 0)
theorem cnt_mono (k : Nat) : ∀ d, cnt k ≤ cnt (k + d)
  | 0 => Nat.le_refl _
  | d + 1 => Nat.le_trans (cnt_mono k d) (by rw [← Nat.add_assoc]; simp only [cnt]; omega)
theorem cnt_310 : cnt 310 = 64 := by decide +kernel
theorem cnt_309 : cnt 309 = 63 := by decide +kernel
theorem cnt_end {k : Nat} (h : cnt k = 64) (hk : k ≤ 310) : k = 310 := by
  rcases Nat.lt_or_ge k 310 with h1 | h1
  · have := cnt_mono k (309 - k)
    rw [show k + (309 - k) = 309 by omega, cnt_309] at this
    omega
  · omega
theorem toN {a : Nat} (h : a < 18446744073709551616) : (BitVec.ofNat 64 a).toNat = a := by
  rw [BitVec.toNat_ofNat]; exact Nat.mod_eq_of_lt h
theorem sq_le {e n : Nat} (he : e < 65536) (hn : n < 65536) : (BitVec.ofNat 64 e * BitVec.ofNat 64 e ≤ BitVec.ofNat 64 n) ↔ e * e ≤ n := by
  have h1 : e * e < 65536 * 65536 := Nat.mul_lt_mul'' he he
  rw [BitVec.le_def, BitVec.toNat_mul, toN (by omega), toN (by omega), Nat.mod_eq_of_lt (by omega)]
theorem rem_iff {n e : Nat} (hn : n < 65536) (he : e < 65536) : (BitVec.ofNat 64 n % BitVec.ofNat 64 e = 0#64) ↔ n % e = 0 := by
  constructor
  · intro h
    have := congrArg BitVec.toNat h
    rw [BitVec.toNat_umod, toN (by omega), toN (by omega)] at this
    exact this
  · intro h
    apply BitVec.eq_of_toNat_eq
    rw [BitVec.toNat_umod, toN (by omega), toN (by omega), h]
    rfl
theorem ne_zero {e : Nat} (h1 : 0 < e) (h : e < 65536) : BitVec.ofNat 64 e ≠ 0#64 := by
  intro hc
  have := congrArg BitVec.toNat hc
  rw [toN (by omega)] at this
  simp at this
  omega
theorem ofN_succ (n : Nat) : BitVec.ofNat 64 n + 1#64 = BitVec.ofNat 64 (n + 1) := by
  rw [BitVec.ofNat_add]
theorem firstS_no (s : Nat → BitVec 32) {k : Nat} (h : isP (k + 2) = false) : firstS s (k + 1) = firstS s k := by
  funext i; simp [firstS, h]
theorem stepsS_no (s : Nat → BitVec 32) {k : Nat} (h : isP (k + 2) = false) : stepsS s (k + 1) = stepsS s k := by
  funext i; simp [stepsS, h]
theorem cnt_no {k : Nat} (h : isP (k + 2) = false) : cnt (k + 1) = cnt k := by simp [cnt, h]
theorem cnt_yes {k : Nat} (h : isP (k + 2) = true) : cnt (k + 1) = cnt k + 1 := by simp [cnt, h]
theorem firstS_yes (s : Nat → BitVec 32) {k : Nat} (h : isP (k + 2) = true) (h8 : cnt k < 8) (i : Nat) : firstS s (k + 1) i = if i = cnt k then (root sqFits (BitVec.ofNat 64 (k + 2))).setWidth 32 else firstS s k i := by
  simp [firstS, h, h8]
theorem firstS_late (s : Nat → BitVec 32) {k : Nat} (h8 : ¬ cnt k < 8) : firstS s (k + 1) = firstS s k := by
  funext i; simp [firstS, h8]
theorem stepsS_yes (s : Nat → BitVec 32) {k : Nat} (h : isP (k + 2) = true) (i : Nat) : stepsS s (k + 1) i = if i = cnt k then (root cuFits (BitVec.ofNat 64 (k + 2))).setWidth 32 else stepsS s k i := by
  simp [stepsS, h]
theorem cnt_lt {k : Nat} (h : cnt k < 64) : k < 310 := by
  rcases Nat.lt_or_ge k 310 with h1 | h1
  · exact h1
  · have := cnt_mono 310 (k - 310)
    rw [show 310 + (k - 310) = k by omega, cnt_310] at this
    omega
theorem stepsS_low (s : Nat → BitVec 32) : ∀ k i, stepsS s k i = if i < cnt k then stepsS (fun _ => 0#32) k i else s i
  | 0, i => by simp [stepsS, cnt]
  | k + 1, i => by
    by_cases hp : isP (k + 2) = true
    · have hc : cnt (k + 1) = cnt k + 1 := by simp [cnt, hp]
      simp only [stepsS, hp, hc]
      rw [stepsS_low s k i]
      by_cases hi : i = cnt k
      · simp [hi]
      · by_cases h1 : i < cnt k
        · have h2 : i < cnt k + 1 := by omega
          simp [hi, h1, h2]
        · have h2 : ¬ i < cnt k + 1 := by omega
          simp [hi, h1, h2]
    · have hp : isP (k + 2) = false := by simpa using hp
      have hc : cnt (k + 1) = cnt k := by simp [cnt, hp]
      simp only [stepsS, hp, hc]
      rw [stepsS_low s k i]
      simp
theorem firstS_low (s : Nat → BitVec 32) : ∀ k i, firstS s k i = if i < cnt k ∧ i < 8 then firstS (fun _ => 0#32) k i else s i
  | 0, i => by simp [firstS, cnt]
  | k + 1, i => by
    by_cases hp : isP (k + 2) = true
    · have hc : cnt (k + 1) = cnt k + 1 := by simp [cnt, hp]
      simp only [firstS, hp, hc]
      rw [firstS_low s k i]
      by_cases hi : i = cnt k
      · subst hi
        by_cases h8 : cnt k < 8
        · simp [h8]
        · simp [h8]
      · by_cases h1 : i < cnt k
        · have h2 : i < cnt k + 1 := by omega
          simp [hi, h1, h2]
        · have h2 : ¬ i < cnt k + 1 := by omega
          simp [hi, h1, h2]
    · have hp : isP (k + 2) = false := by simpa using hp
      have hc : cnt (k + 1) = cnt k := by simp [cnt, hp]
      simp only [firstS, hp, hc]
      rw [firstS_low s k i]
      simp
set_option maxRecDepth 100000 in
theorem steps_eq (s : Nat → BitVec 32) (i : Nat) (hi : i < 64) : stepsS s 310 i = steps i := by
  rw [stepsS_low, cnt_310, if_pos hi]
  exact (by decide +kernel : ∀ i, i < 64 → stepsS (fun _ => 0#32) 310 i = steps i) i hi
set_option maxRecDepth 100000 in
theorem first_eq (s : Nat → BitVec 32) (i : Nat) (hi : i < 8) : firstS s 310 i = first i := by
  rw [firstS_low, cnt_310, if_pos ⟨by omega, hi⟩]
  exact (by decide +kernel : ∀ i, i < 8 → firstS (fun _ => 0#32) 310 i = first i) i hi
theorem isP_of {n d : Nat} (h : noDiv n d) (hd : n < d * d) (hd2 : 2 ≤ d) : isP n = true := by
  unfold isP
  rw [List.all_eq_true]
  intro e he
  rw [Bool.or_eq_true, Bool.or_eq_true]
  by_cases h2 : e < 2
  · exact .inl (.inl (decide_eq_true h2))
  · by_cases h3 : e < d
    · refine .inr ?_
      have := h e (by omega) h3
      simpa using this
    · refine .inl (.inr (decide_eq_true ?_))
      have : d * d ≤ e * e := Nat.mul_le_mul (by omega) (by omega)
      omega
theorem not_isP {n d : Nat} (hd2 : 2 ≤ d) (hd : d * d ≤ n) (h20 : d < 20) (h : n % d = 0) : isP n = false := by
  cases e : isP n with
  | false => rfl
  | true =>
    unfold isP at e
    rw [List.all_eq_true] at e
    have := e d (List.mem_range.2 h20)
    rw [Bool.or_eq_true, Bool.or_eq_true] at this
    rcases this with (h1 | h1) | h1
    · have := of_decide_eq_true h1; omega
    · have := of_decide_eq_true h1; omega
    · simp [h] at h1
end Sha
end Go.Proofs.Ytndlhhhebijknaa
end

section
/-
  SHA-256's tables, reckoned by the program. No condition.
-/
namespace Go.Proofs.Ytndlhhhebijknaa
set_option linter.unusedVariables false
namespace Sx
open Sha

set_option maxRecDepth 20000 in
theorem fn_mul64 (x y : BitVec 64) : Fn Try.prog tds 95 [] [.c (.w64 x), .c (.w64 y)] (fun _ => True) (fun v hs => v = .tup [.c (.w64 (mul64 x y).1), .c (.w64 (mul64 x y).2)] ∧ hs = []) := by
  refine fn_of_body tds_ok follows_ Try.func95 rfl (t := .a (.c (.w64 x)) :: .a (.c (.w64 y)) :: anys 49) rfl (fun w r0 hr _ => ?_)
  obtain rfl : r0 = [] := List.eq_nil_of_length_eq_zero hr
  exact ⟨.tup [.c (.w64 (mul64 x y).1), .c (.w64 (mul64 x y).2)], [], ⟨[], ⟨rfl, rfl, rfl⟩, rfl, rfl, trivial⟩, rfl, rfl⟩
theorem fn_mul64' {x y hi lo : BitVec 64} (h : mul64 x y = (hi, lo)) : Fn Try.prog tds 95 [] [.c (.w64 x), .c (.w64 y)] (fun _ => True) (fun v hs => v = .tup [.c (.w64 hi), .c (.w64 lo)] ∧ hs = []) := by
  have := fn_mul64 x y
  rw [h] at this
  exact this
theorem fn_sqFits (x n : BitVec 64) : Fn Try.prog tds 83 [] [.c (.w64 x), .c (.w64 n)] (fun _ => True) (fun v hs => v = .a (.c (.bool (sqFits x n))) ∧ hs = []) := by
  refine fn_of_body tds_ok follows_ Try.func83 rfl (t := .a (.c (.w64 x)) :: .a (.c (.w64 n)) :: anys 23) rfl (fun w r0 hr _ => ?_)
  obtain rfl : r0 = [] := List.eq_nil_of_length_eq_zero hr
  obtain ⟨hi, lo, hm⟩ : ∃ hi lo, mul64 x x = (hi, lo) := ⟨_, _, rfl⟩
  refine ⟨by kernel_rfl, call_same (fn_mul64' hm) [] rfl ⟨rfl, rfl, trivial⟩ trivial (fun _ _ => trivial) ?_⟩
  rintro v hs ⟨rfl, rfl⟩
  have hres : sqFits x n = (decide (hi < n) || (decide (hi = n) && decide (lo = 0#64))) := by unfold sqFits; rw [hm]
  rw [hres]
  cases e1 : decide (hi < n) <;> cases e2 : decide (hi = n) <;> cases e3 : decide (lo = 0#64) <;> (repeat first | refine ⟨fun _ => ?_, fun h => absurd h (by rw [e1]; decide)⟩ | refine ⟨fun h => absurd h (by rw [e1]; decide), fun _ => ?_⟩ | refine ⟨fun _ => ?_, fun h => absurd h (by rw [e2]; decide)⟩ | refine ⟨fun h => absurd h (by rw [e2]; decide), fun _ => ?_⟩ | refine ⟨fun _ => ?_, fun h => absurd h (by rw [e3]; decide)⟩ | refine ⟨fun h => absurd h (by rw [e3]; decide), fun _ => ?_⟩ | refine ⟨fun _ => ?_, fun h => Bool.noConfusion h⟩ | refine ⟨fun h => Bool.noConfusion h, fun _ => ?_⟩) <;>
    exact ⟨.a (.c (.bool _)), [], ⟨[], ⟨rfl, rfl, rfl⟩, by first | (rw [e1]; done) | (rw [e2]; done) | (rw [e3]; done) | (rw [e1]; rfl) | (rw [e2]; rfl) | (rw [e3]; rfl) | rfl, trivial⟩, rfl, rfl⟩
set_option maxRecDepth 20000 in
theorem fn_cuFits (x n : BitVec 64) : Fn Try.prog tds 84 [] [.c (.w64 x), .c (.w64 n)] (fun _ => True) (fun v hs => v = .a (.c (.bool (cuFits x n))) ∧ hs = []) := by
  refine fn_of_body tds_ok follows_ Try.func84 rfl (t := .a (.c (.w64 x)) :: .a (.c (.w64 n)) :: anys 39) rfl (fun w r0 hr _ => ?_)
  obtain rfl : r0 = [] := List.eq_nil_of_length_eq_zero hr
  obtain ⟨hi, lo, hm⟩ : ∃ hi lo, mul64 x x = (hi, lo) := ⟨_, _, rfl⟩
  obtain ⟨ov, re, hm2⟩ : ∃ ov re, mul64 lo x = (ov, re) := ⟨_, _, rfl⟩
  refine ⟨by kernel_rfl, call_same (fn_mul64' hm) [] rfl ⟨rfl, rfl, trivial⟩ trivial (fun _ _ => trivial) ?_⟩
  rintro v hs ⟨rfl, rfl⟩
  refine ⟨by kernel_rfl, call_same (fn_mul64' hm2) [] rfl ⟨rfl, rfl, trivial⟩ trivial (fun _ _ => trivial) ?_⟩
  rintro v hs ⟨rfl, rfl⟩
  have hres : cuFits x n = (decide (hi * x + ov < n <<< 32) || (decide (hi * x + ov = n <<< 32) && decide (re = 0#64))) := by unfold cuFits cuTop; rw [hm]; simp only; rw [hm2]
  rw [hres]
  cases e1 : decide (hi * x + ov < n <<< 32) <;> cases e2 : decide (hi * x + ov = n <<< 32) <;> cases e3 : decide (re = 0#64) <;> (repeat first | refine ⟨fun _ => ?_, fun h => absurd h (by rw [e1]; decide)⟩ | refine ⟨fun h => absurd h (by rw [e1]; decide), fun _ => ?_⟩ | refine ⟨fun _ => ?_, fun h => absurd h (by rw [e2]; decide)⟩ | refine ⟨fun h => absurd h (by rw [e2]; decide), fun _ => ?_⟩ | refine ⟨fun _ => ?_, fun h => absurd h (by rw [e3]; decide)⟩ | refine ⟨fun h => absurd h (by rw [e3]; decide), fun _ => ?_⟩ | refine ⟨fun _ => ?_, fun h => Bool.noConfusion h⟩ | refine ⟨fun h => Bool.noConfusion h, fun _ => ?_⟩) <;>
    exact ⟨.a (.c (.bool _)), [], ⟨[], ⟨rfl, rfl, rfl⟩, by first | (rw [e1]; done) | (rw [e2]; done) | (rw [e3]; done) | (rw [e1]; rfl) | (rw [e2]; rfl) | (rw [e3]; rfl) | rfl, trivial⟩, rfl, rfl⟩
theorem fn_root {g : FuncId} {F : BitVec 64 → BitVec 64 → Bool} (hg : callable Try.prog g = true) (hF : ∀ x n, Fn Try.prog tds g [] [.c (.w64 x), .c (.w64 n)] (fun _ => True) (fun v hs => v = .a (.c (.bool (F x n))) ∧ hs = [])) (n : BitVec 64) :
    Fn Try.prog tds 82 [] [.c (.w64 n), .c (.fnv (.func g) #[] #[])] (fun _ => True) (fun v hs => v = .a (.c (.w64 (root F n))) ∧ hs = []) := by
  refine fn_of_body tds_ok follows_ Try.func82 rfl (t := .a (.c (.w64 n)) :: .a (.c (.fnv (.func g) #[] #[])) :: anys 21) rfl (fun w r0 hr _ => ?_)
  obtain rfl : r0 = [] := List.eq_nil_of_length_eq_zero hr
  refine .inl ⟨Nat, fun k => ⟨.a (.c (.w64 n)) :: .a (.c (.fnv (.func g) #[] #[])) :: .any :: .any :: .any :: .a (.c (.w64 (rootS F n k))) :: .a (.c (.int .i64 (34 - (k : Int)))) :: anys 16, []⟩, fun k => k ≤ 35, fun k => 35 - k, ⟨0, [], ⟨⟨rfl, rfl, rfl⟩, rfl, rfl, rfl, rfl, trivial⟩, by omega⟩, fun k hk => ⟨fun h => ?_, fun h => ?_⟩⟩
  · have hlt : 34 - (k : Int) ≥ 0 := of_decide_eq_true h
    have e : (BitVec.ofInt 64 (34 - (k : Int))).toNat = 34 - k := by
      rw [show 34 - (k : Int) = ((34 - k : Nat) : Int) by omega]
      exact cast64 (by omega)
    refine ⟨hg, call_same (hF _ _) [] rfl ⟨rfl, rfl, trivial⟩ trivial (fun _ _ => trivial) ?_⟩
    rintro v hs ⟨rfl, rfl⟩
    rw [e]
    refine ⟨fun h2 => ?_, fun h2 => ?_⟩
    all_goals
      refine ⟨⟨by omega, by omega⟩, k + 1, [], ⟨⟨rfl, rfl, rfl⟩, rfl, rfl, ?_, ?_, trivial⟩, by dsimp only; omega, by dsimp only; omega⟩
      · first | exact (if_pos h2).symm | exact (if_neg (by rw [h2]; decide)).symm
      · show 34 - (k : Int) - 1 = 34 - ((k + 1 : Nat) : Int)
        omega
  · obtain rfl : k = 35 := by have : ¬ 34 - (k : Int) ≥ 0 := of_decide_eq_false h; have hk : k ≤ 35 := hk; omega
    exact ⟨.a (.c (.w64 (root F n))), [], ⟨[], ⟨rfl, rfl, rfl⟩, rfl, trivial⟩, rfl, rfl⟩
/-- Tables of SHA-256: done or not, the lock, the first words, the steps. -/
abbrev shaT (d : BitVec 32) (m : Int) (f s : Nat → BitVec 32) : List Seg := [.one (.w32 d), .one (.int .i32 m), .one (.w32 0), .row 8 (fun i => .w32 (f i)), .row 64 (fun i => .w32 (s i))]
theorem eqC_w32 {q : List Nat} {x : SC} {b : BitVec 32} (h : x = .w32 b) : eqC q x (.w32 b) True := by subst h; exact ⟨rfl, trivial⟩
theorem fn_sfill (d : BitVec 32) (m : Int) (f s : Nat → BitVec 32) : Fn Try.prog tds 64 [shaT d m f s] [.c (.p 0 0 0)] (fun _ => True) (fun x hs => x = .tup [] ∧ hs = [shaT d m first steps]) := by
  refine fn_of_body tds_ok follows_ Try.func64 rfl (t := .a (.c (.p 0 0 0)) :: anys 39) rfl (fun w r0 hr _ => ?_)
  obtain ⟨x0, rfl⟩ := List.length_eq_one_iff.1 hr
  refine .inl ⟨Nat, fun k => ⟨.a (.c (.p 0 0 0)) :: .any :: .a (.c (.int .i64 (cnt k : Int))) :: .a (.c (.w64 (BitVec.ofNat 64 (k + 2)))) :: anys 36, [shaT d m (firstS f k) (stepsS s k)]⟩, fun k => cnt k ≤ 64 ∧ k ≤ 310, fun k => 310 - k, ⟨0, [0], ⟨⟨rfl, rfl, rfl⟩, ?_⟩, by decide⟩, fun k hk => ⟨fun h => ?_, fun h => ?_⟩⟩
  · (repeat first | exact trivial | refine ⟨rfl, ?_⟩ | refine ⟨fun _ _ => ⟨rfl, trivial⟩, ?_⟩ | refine ⟨by omega, ?_⟩)
  · have hlt : (cnt k : Int) < 64 := of_decide_eq_true h
    have hk310 := cnt_lt (show cnt k < 64 by omega)
    refine .inl ⟨Nat, fun e => ⟨.a (.c (.p 0 0 0)) :: .any :: .a (.c (.int .i64 (cnt k : Int))) :: .a (.c (.w64 (BitVec.ofNat 64 (k + 2)))) :: .a (.c (.w64 (BitVec.ofNat 64 e))) :: anys 35, [shaT d m (firstS f k) (stepsS s k)]⟩, fun e => 2 ≤ e ∧ e < 19 ∧ noDiv (k + 2) e, fun e => 20 - e, ⟨2, [0], ⟨⟨rfl, rfl, rfl⟩, ?_⟩, by omega, by omega, fun e h1 h2 => by omega⟩, fun e he => ⟨fun h => ?_, fun h => ?_⟩⟩
    · (repeat first | exact trivial | refine ⟨rfl, ?_⟩ | refine ⟨fun _ _ => ⟨rfl, trivial⟩, ?_⟩ | refine ⟨by omega, ?_⟩)
    · have hle := (sq_le (by omega) (by omega)).1 (of_decide_eq_true h)
      obtain ⟨he2, he19, hnd⟩ := he
      have he18 : e < 18 := by
        rcases Nat.lt_or_ge e 18 with h1 | h1
        · exact h1
        · have := Nat.mul_le_mul h1 h1; omega
      refine ⟨ne_zero (by omega) (by omega), fun h2 => ?_, fun h2 => ?_⟩
      · have hp := not_isP he2 hle (by omega) ((rem_iff (by omega) (by omega)).1 (of_decide_eq_true h2))
        refine ⟨k + 1, [0], ⟨⟨rfl, rfl, rfl⟩, ?_⟩, ⟨by rw [cnt_no hp]; omega, by omega⟩, by dsimp only; omega⟩
        refine ⟨rfl, by rw [cnt_no hp], ofN_succ (k + 2), ?_⟩
        (repeat first | exact trivial | refine ⟨rfl, ?_⟩ | refine ⟨fun _ _ => ⟨rfl, trivial⟩, ?_⟩ | refine ⟨by omega, ?_⟩)
        exact ⟨fun j hj => eqC_w32 (by rw [firstS_no f hp]), rfl, fun j hj => eqC_w32 (by rw [stepsS_no s hp]), trivial⟩
      · have hr : (k + 2) % e ≠ 0 := fun hc => of_decide_eq_false h2 ((rem_iff (by omega) (by omega)).2 hc)
        refine ⟨e + 1, [0], ⟨⟨rfl, rfl, rfl⟩, ?_⟩, ⟨by omega, by omega, fun d h3 h4 => ?_⟩, by dsimp only; omega⟩
        · refine ⟨rfl, rfl, rfl, ofN_succ e, ?_⟩
          (repeat first | exact trivial | refine ⟨rfl, ?_⟩ | refine ⟨fun _ _ => ⟨rfl, trivial⟩, ?_⟩ | refine ⟨by omega, ?_⟩)
        · by_cases hde : d = e
          · subst hde; exact hr
          · exact hnd d h3 (by omega)
    · obtain ⟨he2, he19, hnd⟩ := he
      have hgt : k + 2 < e * e := by
        have := mt (sq_le (e := e) (n := k + 2) (by omega) (by omega)).2 (of_decide_eq_false h)
        omega
      have hp := isP_of hnd hgt he2
      have last : ∀ (g : Nat → SC) (v : SC), (v = .w32 ((root cuFits (BitVec.ofNat 64 (k + 2))).setWidth 32)) → (∀ j, g j = .w32 (stepsS s k j)) → ∀ j, eqC [0] (upd g (cnt k) v j) (.w32 (stepsS s (k + 1) j)) True := fun g v hv hg j => eqC_w32 (by
        unfold upd
        rw [stepsS_yes s hp j]
        by_cases hj : j = cnt k
        · rw [if_pos hj, if_pos hj, hv]
        · rw [if_neg hj, if_neg hj, hg])
      have e0 : (cnt k : Int).toNat + 0 = cnt k := by omega
      refine ⟨fun h8 => ?_, fun h8 => ?_⟩
      · have h8' : cnt k < 8 := by have := of_decide_eq_true h8; omega
        refine ⟨some [0], [], [(0, true), (1, true), (2, true), (5, true), (6, true), (3, false), (4, true), (7, true)], [8], by kernel_rfl, ?_⟩
        refine ⟨by kernel_rfl, call_same (fn_root (by kernel_rfl) fn_sqFits (BitVec.ofNat 64 (k + 2))) [] rfl ⟨rfl, rfl, trivial⟩ trivial (fun _ _ => trivial) ?_⟩
        rintro v hs ⟨rfl, rfl⟩
        refine ⟨⟨by omega, by omega⟩, by omega, rfl, ?_⟩
        refine ⟨some [0], [], [(0, true), (1, true), (2, true), (5, true), (6, true), (3, false), (4, true), (7, true)], [8], by kernel_rfl, ?_⟩
        refine ⟨by kernel_rfl, call_same (fn_root (by kernel_rfl) fn_cuFits (BitVec.ofNat 64 (k + 2))) [] rfl ⟨rfl, rfl, trivial⟩ trivial (fun _ _ => trivial) ?_⟩
        rintro v hs ⟨rfl, rfl⟩
        refine ⟨⟨by omega, by omega⟩, by omega, rfl, ⟨by omega, by omega⟩, ?_⟩
        refine ⟨k + 1, [0], ⟨⟨rfl, rfl, rfl⟩, ?_⟩, ⟨by rw [cnt_yes hp]; omega, by omega⟩, by dsimp only; omega⟩
        refine ⟨rfl, by rw [cnt_yes hp]; rfl, ofN_succ (k + 2), ?_⟩
        (repeat first | exact trivial | refine ⟨rfl, ?_⟩ | refine ⟨fun _ _ => ⟨rfl, trivial⟩, ?_⟩ | refine ⟨by omega, ?_⟩)
        refine ⟨fun j hj => ?_, rfl, fun j hj => ?_, trivial⟩
        · rw [e0]
          refine eqC_w32 ?_
          unfold upd
          rw [firstS_yes f hp h8' j]
          by_cases hj : j = cnt k
          · rw [if_pos hj, if_pos hj]
          · rw [if_neg hj, if_neg hj]
        · rw [e0]
          exact last _ _ rfl (fun _ => rfl) j
      · have h8' : ¬ cnt k < 8 := by have := of_decide_eq_false h8; omega
        refine ⟨some [0], [], [(0, true), (1, true), (2, true), (5, true), (6, true), (3, false), (4, true), (7, true)], [8], by kernel_rfl, ?_⟩
        refine ⟨by kernel_rfl, call_same (fn_root (by kernel_rfl) fn_cuFits (BitVec.ofNat 64 (k + 2))) [] rfl ⟨rfl, rfl, trivial⟩ trivial (fun _ _ => trivial) ?_⟩
        rintro v hs ⟨rfl, rfl⟩
        refine ⟨⟨by omega, by omega⟩, by omega, rfl, ⟨by omega, by omega⟩, ?_⟩
        refine ⟨k + 1, [0], ⟨⟨rfl, rfl, rfl⟩, ?_⟩, ⟨by rw [cnt_yes hp]; omega, by omega⟩, by dsimp only; omega⟩
        refine ⟨rfl, by rw [cnt_yes hp]; rfl, ofN_succ (k + 2), ?_⟩
        (repeat first | exact trivial | refine ⟨rfl, ?_⟩ | refine ⟨fun _ _ => ⟨rfl, trivial⟩, ?_⟩ | refine ⟨by omega, ?_⟩)
        refine ⟨fun j hj => eqC_w32 (by rw [firstS_late f h8']), rfl, fun j hj => ?_, trivial⟩
        rw [e0]
        exact last _ _ rfl (fun _ => rfl) j
  · have h64 : cnt k = 64 := by have : ¬ (cnt k : Int) < 64 := of_decide_eq_false h; have := hk.1; omega
    have hk' := cnt_end h64 hk.2
    have hF : ∀ j, j < 8 → firstS f k j = first j := fun j hj => by rw [hk']; exact first_eq f j hj
    have hS : ∀ j, j < 64 → stepsS s k j = steps j := fun j hj => by rw [hk']; exact steps_eq s j hj
    refine ⟨.tup [], [shaT d m first steps], ⟨[0], ⟨rfl, rfl, rfl⟩, ?_⟩, rfl, rfl⟩
    (repeat first | exact trivial | refine ⟨rfl, ?_⟩ | refine ⟨fun _ _ => ⟨rfl, trivial⟩, ?_⟩ | refine ⟨by omega, ?_⟩)
    refine ⟨fun j hj => eqC_w32 (congrArg SC.w32 (hF j hj)), rfl, fun j hj => eqC_w32 (congrArg SC.w32 (hS j hj)), trivial⟩
end Sx
end Go.Proofs.Ytndlhhhebijknaa
end

section
/-
  SHA-256's rounds as the program makes them: plain functions. No condition.
-/
namespace Go.Proofs.Ytndlhhhebijknaa
set_option linter.unusedVariables false
namespace Sha

/-- Turned right. -/
def ror (x : BitVec 32) (n : Nat) : BitVec 32 := x <<< (32 - n) ||| x >>> n
def w0 (P : Nat → BitVec 8) (i : Nat) : BitVec 32 :=
  (P (4 * i)).setWidth 32 <<< 24 ||| (P (4 * i + 1)).setWidth 32 <<< 16 ||| (P (4 * i + 2)).setWidth 32 <<< 8 ||| (P (4 * i + 3)).setWidth 32
def sig0 (x : BitVec 32) : BitVec 32 := ror x 7 ^^^ ror x 18 ^^^ x >>> 3
def sig1 (y : BitVec 32) : BitVec 32 := ror y 17 ^^^ ror y 19 ^^^ y >>> 10
/-- The schedule's array, k words behind the first sixteen. -/
def wS (P : Nat → BitVec 8) : Nat → Nat → BitVec 32
  | 0, i => if i < 16 then w0 P i else 0#32
  | k + 1, i => if i = 16 + k then wS P k k + sig0 (wS P k (k + 1)) + wS P k (k + 9) + sig1 (wS P k (k + 14)) else wS P k i
def one (v : Nat → BitVec 32) (kw w : BitVec 32) : BitVec 32 :=
  v 7 + (ror (v 4) 6 ^^^ ror (v 4) 11 ^^^ ror (v 4) 25) + ((v 4 &&& v 5) ^^^ (~~~(v 4) &&& v 6)) + kw + w
def two (v : Nat → BitVec 32) : BitVec 32 :=
  (ror (v 0) 2 ^^^ ror (v 0) 13 ^^^ ror (v 0) 22) + ((v 0 &&& v 1) ^^^ (v 0 &&& v 2) ^^^ (v 1 &&& v 2))
def next (v : Nat → BitVec 32) (kw w : BitVec 32) : Nat → BitVec 32
  | 0 => one v kw w + two v
  | 4 => v 3 + one v kw w
  | i + 1 => v i
/-- k rounds. -/
def vR (W : Nat → BitVec 32) (v : Nat → BitVec 32) : Nat → Nat → BitVec 32
  | 0 => v
  | k + 1 => next (vR W v k) (steps k) (W k)
def compress (V : Nat → BitVec 32) (P : Nat → BitVec 8) (i : Nat) : BitVec 32 := V i + vR (wS P 48) V 64 i
end Sha
end Go.Proofs.Ytndlhhhebijknaa
end

section
/-
  SHA-256: words turned; tables begun with. No condition.
-/
namespace Go.Proofs.Ytndlhhhebijknaa
set_option linter.unusedVariables false
namespace Sx
open Sha

theorem ror_amt : ∀ n : Nat, n < 32 → 0 < n → ((BitVec.ofInt 64 (-(n : Int))) &&& 31#64).toNat = 32 - n ∧ (32#64 - ((BitVec.ofInt 64 (-(n : Int))) &&& 31#64)).toNat = n := by decide +kernel
theorem fn_rot32 (x : BitVec 32) (n : Nat) (h : n < 32) (h0 : 0 < n) : Fn Try.prog tds 85 [] [.c (.w32 x), .c (.int .i64 (-(n : Int)))] (fun _ => True) (fun v hs => v = .a (.c (.w32 (ror x n))) ∧ hs = []) := by
  refine fn_of_body tds_ok follows_ Try.func85 rfl (t := .a (.c (.w32 x)) :: .a (.c (.int .i64 (-(n : Int)))) :: anys (Try.f85.ntmps - 2)) rfl (fun w r0 hr _ => ?_)
  obtain rfl : r0 = [] := List.eq_nil_of_length_eq_zero hr
  obtain ⟨e1, e2⟩ := ror_amt n h h0
  refine ⟨.a (.c (.w32 (ror x n))), [], ⟨[], ⟨rfl, rfl, rfl⟩, ?_, trivial⟩, rfl, rfl⟩
  show x <<< _ ||| x >>> _ = x <<< (32 - n) ||| x >>> n
  rw [e1, e2]
/-- A sum in the making: whose tables, the words, the bytes that wait, how many they are, how many there were in all. -/
abbrev digC (i : Nat) (V : Nat → BitVec 32) (P : Nat → BitVec 8) (h : Int) (a : BitVec 64) : List Seg := [.one (.p i 0 0), .row 8 (fun j => .w32 (V j)), .row 64 (fun j => .w8 (P j)), .one (.int .i64 h), .one (.w64 a)]
theorem fn_sdo (d : BitVec 32) (f s : Nat → BitVec 32) (hd : d = 0#32 ∨ d = 1#32 ∧ f = first ∧ s = steps) : Fn Try.prog tds 63 [shaT d 0 f s] [.c (.p 0 0 0), .c (.clo 64 0 0 0)] (fun _ => True) (fun x hs => x = .tup [] ∧ hs = [shaT 1 0 first steps]) := by
  rcases hd with rfl | ⟨rfl, rfl, rfl⟩
  · exact fn_once (by kernel_rfl) (fn_sfill 0#32 1 f s)
  · exact fn_once_done
theorem fn_begin (d : BitVec 32) (f s : Nat → BitVec 32) (hd : d = 0#32 ∨ d = 1#32 ∧ f = first ∧ s = steps) : Fn Try.prog tds 49 [shaT d 0 f s] [.c (.p 0 0 0)] (fun _ => True) (fun x hs => x = .a (.agg (digC 0 first (fun _ => 0#8) 0 0)) ∧ hs = [shaT 1 0 first steps]) := by
  refine fn_of_body tds_ok follows_ Try.func49 rfl (t := .a (.c (.p 0 0 0)) :: anys 14) rfl (fun w r0 hr _ => ?_)
  obtain ⟨x0, rfl⟩ := List.length_eq_one_iff.1 hr
  refine ⟨by kernel_rfl, call_same (fn_sdo d f s hd) [0] rfl ⟨rfl, rfl, rfl, trivial⟩ (by (repeat first | exact trivial | refine ⟨rfl, ?_⟩ | refine ⟨fun _ _ => ⟨rfl, trivial⟩, ?_⟩ | refine ⟨by omega, ?_⟩)) (fun _ _ => trivial) ?_⟩
  rintro x hs ⟨rfl, rfl⟩
  (repeat first | refine ⟨by omega, ?_⟩ | refine ⟨by decide, ?_⟩ | refine ⟨idx8 _, ?_⟩ | refine ⟨lt8 (Nat.le_refl _) _, ?_⟩ | refine ⟨rfl, ?_⟩)
  refine ⟨.a (.agg (digC 0 first (fun _ => 0#8) 0 0)), [shaT 1 0 first steps], ⟨[0], ⟨rfl, rfl, rfl⟩, ?_⟩, rfl, rfl⟩
  (repeat first | exact trivial | refine ⟨rfl, ?_⟩ | refine ⟨fun _ _ => ⟨rfl, trivial⟩, ?_⟩ | refine ⟨by omega, ?_⟩)
theorem fn_snew : Fn Try.prog tds 16 [] [] (fun _ => True) (fun x hs => x = .a (.c (.p 0 0 0)) ∧ hs = [shaT 0 0 (fun _ => 0#32) (fun _ => 0#32)]) := by
  refine fn_of_body tds_ok follows_ Try.func16 rfl (t := anys 2) rfl (fun w r0 hr _ => ?_)
  obtain rfl : r0 = [] := List.eq_nil_of_length_eq_zero hr
  refine ⟨.a (.c (.p 0 0 0)), [shaT 0 0 (fun _ => 0#32) (fun _ => 0#32)], ⟨[0], ⟨rfl, rfl, rfl⟩, ?_⟩, rfl, rfl⟩
  (repeat first | exact trivial | refine ⟨rfl, ?_⟩ | refine ⟨fun _ _ => ⟨rfl, trivial⟩, ?_⟩ | refine ⟨by omega, ?_⟩)
end Sx
end Go.Proofs.Ytndlhhhebijknaa
end

section
/-
  SHA-256: one block gone through. No condition.
-/
namespace Go.Proofs.Ytndlhhhebijknaa
set_option linter.unusedVariables false
namespace Sx
open Sha

theorem upd_w32 {f g : Nat → SC} {k : Nat} {v : SC} (hv : v = g k) (hf : ∀ j, j ≠ k → f j = g j) (j : Nat) : upd f k v j = g j := by
  unfold upd
  split
  · rename_i h; rw [h, hv]
  · rename_i h; exact hf j h
set_option maxHeartbeats 4000000 in
set_option maxRecDepth 20000 in
theorem fn_smix (V : Nat → BitVec 32) (P : Nat → BitVec 8) (hv : Int) (a : BitVec 64) :
    FnR Try.prog tds 65 1 [shaT 1 0 first steps, digC 0 V P hv a] [.c (.p 1 0 0)] (fun _ => True) (fun x hs => x = .tup [] ∧ hs = [shaT 1 0 first steps, digC 0 (compress V P) P hv a]) := by
  refine fn_of_body tds_ok follows_ Try.func65 rfl (t := .a (.c (.p 1 0 0)) :: anys 206) rfl (fun w r0 hr _ => ?_)
  obtain ⟨x0, x1, rfl⟩ := len2' hr
  refine .inl ⟨Nat, fun k => ⟨.a (.c (.p 1 0 0)) :: .any :: .a (.c (.p 2 0 0)) :: (anys 20 ++ (.a (.c (.int .i64 (k : Int))) :: anys 183)), [shaT 1 0 first steps, digC 0 V P hv a, [.row 64 fun i => .w32 (if i < k then w0 P i else 0#32)]]⟩, fun k => k ≤ 16, fun k => 16 - k, ⟨0, [0, 1, 2], ⟨⟨rfl, rfl, rfl⟩, ?_⟩, by omega⟩, fun k hk => ⟨fun h => ?_, fun h => ?_⟩⟩
  · (repeat first | exact trivial | refine ⟨rfl, ?_⟩ | refine ⟨fun _ _ => ⟨rfl, trivial⟩, ?_⟩ | refine ⟨by omega, ?_⟩)
  · have hlt : (k : Int) < 16 := of_decide_eq_true h
    (repeat first | refine ⟨by omega, ?_⟩ | refine ⟨by decide, ?_⟩ | refine ⟨idx8 _, ?_⟩ | refine ⟨lt8 (Nat.le_refl _) _, ?_⟩ | refine ⟨rfl, ?_⟩)
    have e4 : (4 * (k : Int)).toNat = 4 * k := by omega
    have e64 : ((64 : Nat) : Int).toNat = 64 := rfl
    simp only [frcN_eq, e4, e64, if_neg (show ¬ 64 = 4 * k by omega)]
    refine ⟨none, [], [(0, true), (1, true), (2, true), (3, true), (4, true), (5, true), (6, true), (7, true), (8, true), (9, true), (10, true), (11, true), (12, true), (13, true), (14, true), (15, true), (16, true), (17, true), (18, true), (19, true), (20, true), (21, true), (22, true), (23, true)], [24], by kernel_rfl, ?_⟩
    repeat first
      | refine ⟨by omega, ?_⟩
    refine ⟨rfl, ⟨by omega, by omega⟩, k + 1, [0, 1, 2], ⟨⟨rfl, rfl, rfl⟩, ?_⟩, by first | omega | (dsimp only; omega), by first | omega | (dsimp only; omega)⟩
    (repeat first | exact trivial | refine ⟨rfl, ?_⟩ | refine ⟨fun _ _ => ⟨rfl, trivial⟩, ?_⟩ | refine ⟨by omega, ?_⟩)
    refine ⟨fun j hj => ?_, trivial⟩
    have e0 : (k : Int).toNat + 0 = k := by omega
    have i0 : Int.toNat 0 + (0 + 4 * k * 1) = 4 * k := by omega
    have i1 : Int.toNat 1 + (0 + 4 * k * 1) = 4 * k + 1 := by omega
    have i2 : Int.toNat 2 + (0 + 4 * k * 1) = 4 * k + 2 := by omega
    have i3 : Int.toNat 3 + (0 + 4 * k * 1) = 4 * k + 3 := by omega
    rw [e0, i0, i1, i2, i3]
    refine eqC_w32 ((upd_w32 (g := fun i => .w32 (if i < k + 1 then w0 P i else 0#32)) ?_ ?_ j).trans rfl)
    · simp only [if_pos (show k < k + 1 by omega)]
      rfl
    · intro j hjk
      have : j < k + 1 ↔ j < k := by omega
      simp only [this]
  · obtain rfl : k = 16 := by have : ¬ (k : Int) < 16 := of_decide_eq_false h; have hk : k ≤ 16 := hk; omega
    refine .inl ⟨Nat, fun k => ⟨.a (.c (.p 1 0 0)) :: .any :: .a (.c (.p 2 0 0)) :: .any :: .any :: .a (.c (.int .i64 ((16 + k : Nat) : Int))) :: anys 201, [shaT 1 0 first steps, digC 0 V P hv a, [.row 64 fun i => .w32 (wS P k i)]]⟩, fun k => k ≤ 48, fun k => 48 - k, ⟨0, [0, 1, 2], ⟨⟨rfl, rfl, rfl⟩, ?_⟩, by omega⟩, fun k hk => ⟨fun h => ?_, fun h => ?_⟩⟩
    · (repeat first | exact trivial | refine ⟨rfl, ?_⟩ | refine ⟨fun _ _ => ⟨rfl, trivial⟩, ?_⟩ | refine ⟨by omega, ?_⟩)
    · have hlt : ((16 + k : Nat) : Int) < 64 := of_decide_eq_true h
      refine ⟨none, [], [(0, true), (1, true), (2, true), (3, true), (4, true), (5, true), (6, true), (7, true), (8, true), (9, true)], [], by kernel_rfl, ?_⟩
      (repeat first | refine ⟨by omega, ?_⟩ | refine ⟨by decide, ?_⟩ | refine ⟨idx8 _, ?_⟩ | refine ⟨lt8 (Nat.le_refl _) _, ?_⟩)
      refine ⟨by kernel_rfl, call_same (fn_rot32 _ 7 (by omega) (by omega)) [] rfl ⟨rfl, rfl, trivial⟩ trivial (fun _ _ => trivial) ?_⟩
      rintro v hs ⟨rfl, rfl⟩
      refine ⟨by kernel_rfl, call_same (fn_rot32 _ 18 (by omega) (by omega)) [] rfl ⟨rfl, rfl, trivial⟩ trivial (fun _ _ => trivial) ?_⟩
      rintro v hs ⟨rfl, rfl⟩
      refine ⟨by kernel_rfl, call_same (fn_rot32 _ 17 (by omega) (by omega)) [] rfl ⟨rfl, rfl, trivial⟩ trivial (fun _ _ => trivial) ?_⟩
      rintro v hs ⟨rfl, rfl⟩
      refine ⟨by kernel_rfl, call_same (fn_rot32 _ 19 (by omega) (by omega)) [] rfl ⟨rfl, rfl, trivial⟩ trivial (fun _ _ => trivial) ?_⟩
      rintro v hs ⟨rfl, rfl⟩
      refine ⟨none, [], [(0, true), (1, true), (2, true), (3, true), (4, true), (5, true), (6, true), (7, true), (8, true), (9, true), (10, true), (11, true), (12, true), (13, true), (14, true)], [15], by kernel_rfl, ?_⟩
      (repeat first | refine ⟨by omega, ?_⟩ | refine ⟨by decide, ?_⟩ | refine ⟨idx8 _, ?_⟩ | refine ⟨lt8 (Nat.le_refl _) _, ?_⟩)
      refine ⟨rfl, ⟨by omega, by omega⟩, k + 1, [0, 1, 2], ⟨⟨rfl, rfl, rfl⟩, ?_⟩, by first | omega | (dsimp only; omega), by first | omega | (dsimp only; omega)⟩
      (repeat first | exact trivial | refine ⟨rfl, ?_⟩ | refine ⟨fun _ _ => ⟨rfl, trivial⟩, ?_⟩ | refine ⟨by omega, ?_⟩)
      refine ⟨fun j hj => ?_, trivial⟩
      have j0 : ((16 + k : Nat) : Int).toNat + 0 = 16 + k := by omega
      have j1 : (((16 + k : Nat) : Int) - 16).toNat + 0 = k := by omega
      have j2 : (((16 + k : Nat) : Int) - 15).toNat + 0 = k + 1 := by omega
      have j3 : (((16 + k : Nat) : Int) - 7).toNat + 0 = k + 9 := by omega
      have j4 : (((16 + k : Nat) : Int) - 2).toNat + 0 = k + 14 := by omega
      rw [j0, j1, j2, j3, j4]
      refine eqC_w32 ((upd_w32 (g := fun i => .w32 (wS P (k + 1) i)) ?_ ?_ j).trans rfl)
      · simp only [wS]
        rfl
      · intro i hi
        simp only [wS, if_neg hi]
    · obtain rfl : k = 48 := by have : ¬ ((16 + k : Nat) : Int) < 64 := of_decide_eq_false h; have hk : k ≤ 48 := hk; omega
      obtain ⟨W, hW⟩ : ∃ W, wS P 48 = W := ⟨_, rfl⟩
      rw [hW]
      (repeat first | refine ⟨by omega, ?_⟩ | refine ⟨by decide, ?_⟩ | refine ⟨idx8 _, ?_⟩ | refine ⟨lt8 (Nat.le_refl _) _, ?_⟩ | refine ⟨rfl, ?_⟩)
      refine .inl ⟨Nat, fun k => ⟨.a (.c (.p 1 0 0)) :: .any :: .a (.c (.p 2 0 0)) :: (anys 7 ++ (.a (.c (.p 3 0 0)) :: (anys 93 ++ (.a (.c (.int .i64 (k : Int))) :: anys 102)))), [shaT 1 0 first steps, digC 0 V P hv a, [.row 64 fun i => .w32 (W i)], [.row 8 fun i => .w32 (vR W V k i)]]⟩, fun k => k ≤ 64, fun k => 64 - k, ⟨0, [0, 1, 2, 3], ⟨⟨rfl, rfl, rfl⟩, ?_⟩, by omega⟩, fun k hk => ⟨fun h => ?_, fun h => ?_⟩⟩
      · (repeat first | exact trivial | refine ⟨rfl, ?_⟩ | refine ⟨fun _ _ => ⟨rfl, trivial⟩, ?_⟩ | refine ⟨by omega, ?_⟩)
      · have hlt : (k : Int) < 64 := of_decide_eq_true h
        obtain ⟨v, hv⟩ : ∃ v, vR W V k = v := ⟨_, rfl⟩
        rw [hv]
        refine ⟨none, [], [(0, true), (1, true), (2, true), (3, true), (4, true), (5, true), (6, true), (7, true), (8, true), (9, true), (10, true), (11, true), (12, true), (13, true), (14, true), (15, true), (16, true), (17, true)], [], by kernel_rfl, ?_⟩
        (repeat first | refine ⟨by omega, ?_⟩ | refine ⟨by decide, ?_⟩ | refine ⟨idx8 _, ?_⟩ | refine ⟨lt8 (Nat.le_refl _) _, ?_⟩)
        refine ⟨by kernel_rfl, call_same (fn_rot32 _ 6 (by omega) (by omega)) [] rfl ⟨rfl, rfl, trivial⟩ trivial (fun _ _ => trivial) ?_⟩
        rintro v hs ⟨rfl, rfl⟩
        refine ⟨by kernel_rfl, call_same (fn_rot32 _ 11 (by omega) (by omega)) [] rfl ⟨rfl, rfl, trivial⟩ trivial (fun _ _ => trivial) ?_⟩
        rintro v hs ⟨rfl, rfl⟩
        refine ⟨by kernel_rfl, call_same (fn_rot32 _ 25 (by omega) (by omega)) [] rfl ⟨rfl, rfl, trivial⟩ trivial (fun _ _ => trivial) ?_⟩
        rintro v hs ⟨rfl, rfl⟩
        refine ⟨none, [], [(0, true), (1, true), (2, true), (3, true), (4, true), (5, true), (6, true), (7, true), (8, true), (9, true), (10, true), (11, true), (12, true), (13, true), (14, true), (15, true), (16, true), (17, true), (18, true), (19, true), (20, true), (21, true), (22, true), (23, true), (24, true), (25, true), (26, true), (27, true)], [], by kernel_rfl, ?_⟩
        (repeat first | refine ⟨by omega, ?_⟩ | refine ⟨by decide, ?_⟩ | refine ⟨idx8 _, ?_⟩ | refine ⟨lt8 (Nat.le_refl _) _, ?_⟩)
        refine ⟨by kernel_rfl, call_same (fn_rot32 _ 2 (by omega) (by omega)) [] rfl ⟨rfl, rfl, trivial⟩ trivial (fun _ _ => trivial) ?_⟩
        rintro v hs ⟨rfl, rfl⟩
        refine ⟨by kernel_rfl, call_same (fn_rot32 _ 13 (by omega) (by omega)) [] rfl ⟨rfl, rfl, trivial⟩ trivial (fun _ _ => trivial) ?_⟩
        rintro v hs ⟨rfl, rfl⟩
        refine ⟨by kernel_rfl, call_same (fn_rot32 _ 22 (by omega) (by omega)) [] rfl ⟨rfl, rfl, trivial⟩ trivial (fun _ _ => trivial) ?_⟩
        rintro v hs ⟨rfl, rfl⟩
        (repeat first | refine ⟨by omega, ?_⟩ | refine ⟨by decide, ?_⟩ | refine ⟨idx8 _, ?_⟩ | refine ⟨lt8 (Nat.le_refl _) _, ?_⟩)
        refine ⟨rfl, ⟨by omega, by omega⟩, k + 1, [0, 1, 2, 3], ⟨⟨rfl, rfl, rfl⟩, ?_⟩, by first | omega | (dsimp only; omega), by first | omega | (dsimp only; omega)⟩
        (repeat first | exact trivial | refine ⟨rfl, ?_⟩ | refine ⟨fun _ _ => ⟨rfl, trivial⟩, ?_⟩ | refine ⟨by omega, ?_⟩)
        refine ⟨fun j hj => ?_, trivial⟩
        have e0 : (k : Int).toNat + 0 = k := by omega
        rw [e0, show vR W V (k + 1) = next v (steps k) (W k) by simp only [vR, hv]]
        have hj8 : j = 0 ∨ j = 1 ∨ j = 2 ∨ j = 3 ∨ j = 4 ∨ j = 5 ∨ j = 6 ∨ j = 7 := by omega
        rcases hj8 with rfl | rfl | rfl | rfl | rfl | rfl | rfl | rfl <;> exact ⟨rfl, trivial⟩
      · obtain rfl : k = 64 := by have : ¬ (k : Int) < 64 := of_decide_eq_false h; have hk : k ≤ 64 := hk; omega
        obtain ⟨v, hv'⟩ : ∃ v, vR W V 64 = v := ⟨_, rfl⟩
        rw [hv']
        refine .inl ⟨Nat, fun k => ⟨.a (.c (.p 1 0 0)) :: .any :: .a (.c (.p 2 0 0)) :: (anys 7 ++ (.a (.c (.p 3 0 0)) :: (anys 179 ++ (.a (.c (.int .i64 (k : Int))) :: anys 16)))), [shaT 1 0 first steps, digC 0 (fun i => if i < k then V i + v i else V i) P hv a, [.row 64 fun i => .w32 (W i)], [.row 8 fun i => .w32 (v i)]]⟩, fun k => k ≤ 8, fun k => 8 - k, ⟨0, [0, 1, 2, 3], ⟨⟨rfl, rfl, rfl⟩, ?_⟩, by omega⟩, fun k hk => ⟨fun h => ?_, fun h => ?_⟩⟩
        · (repeat first | exact trivial | refine ⟨rfl, ?_⟩ | refine ⟨fun _ _ => ⟨rfl, trivial⟩, ?_⟩ | refine ⟨by omega, ?_⟩)
        · have hlt : (k : Int) < 8 := of_decide_eq_true h
          refine ⟨none, [], [(0, true), (1, true), (2, true), (3, true), (4, true), (5, true), (6, true), (7, true), (8, true), (9, true), (10, true), (11, true), (12, true)], [13], by kernel_rfl, ?_⟩
          (repeat first | refine ⟨by omega, ?_⟩ | refine ⟨by decide, ?_⟩ | refine ⟨idx8 _, ?_⟩ | refine ⟨lt8 (Nat.le_refl _) _, ?_⟩)
          refine ⟨rfl, ⟨by omega, by omega⟩, k + 1, [0, 1, 2, 3], ⟨⟨rfl, rfl, rfl⟩, ?_⟩, by first | omega | (dsimp only; omega), by first | omega | (dsimp only; omega)⟩
          (repeat first | exact trivial | refine ⟨rfl, ?_⟩ | refine ⟨fun _ _ => ⟨rfl, trivial⟩, ?_⟩ | refine ⟨by omega, ?_⟩)
          have e0 : (k : Int).toNat + 0 = k := by omega
          refine ⟨fun j hj => ?_, ?_⟩
          · rw [e0]
            refine eqC_w32 ((upd_w32 (g := fun i => .w32 (if i < k + 1 then V i + v i else V i)) ?_ ?_ j).trans rfl)
            · simp only [if_pos (show k < k + 1 by omega), if_neg (Nat.lt_irrefl k)]
            · intro i hi
              have : i < k + 1 ↔ i < k := by omega
              simp only [this]
          · (repeat first | exact trivial | refine ⟨rfl, ?_⟩ | refine ⟨fun _ _ => ⟨rfl, trivial⟩, ?_⟩ | refine ⟨by omega, ?_⟩)
        · obtain rfl : k = 8 := by have : ¬ (k : Int) < 8 := of_decide_eq_false h; have hk : k ≤ 8 := hk; omega
          refine ⟨.tup [], [shaT 1 0 first steps, digC 0 (compress V P) P hv a], ⟨[0, 1], ⟨rfl, rfl, rfl⟩, ?_⟩, rfl, rfl⟩
          (repeat first | exact trivial | refine ⟨rfl, ?_⟩ | refine ⟨fun _ _ => ⟨rfl, trivial⟩, ?_⟩ | refine ⟨by omega, ?_⟩)
          refine ⟨fun j hj => eqC_w32 (congrArg SC.w32 ?_), ?_⟩
          · show (if j < 8 then V j + v j else V j) = compress V P j
            rw [if_pos hj, ← hv', ← hW]
            rfl
          · (repeat first | exact trivial | refine ⟨rfl, ?_⟩ | refine ⟨fun _ _ => ⟨rfl, trivial⟩, ?_⟩ | refine ⟨by omega, ?_⟩)
end Sx
end Go.Proofs.Ytndlhhhebijknaa
end

section
/-
  SHA-256, byte by byte: what waits and the words. Plain. No condition.
-/
namespace Go.Proofs.Ytndlhhhebijknaa
set_option linter.unusedVariables false
namespace Sha

/-- A sum in the making: the words, the bytes of the block, how many wait. -/
structure Dg where
  V : Nat → BitVec 32
  P : Nat → BitVec 8
  h : Nat
def push (d : Dg) (x : BitVec 8) : Dg :=
  if d.h + 1 = 64 then ⟨compress d.V (fun i => if i = d.h then x else d.P i), fun i => if i = d.h then x else d.P i, 0⟩
  else ⟨d.V, fun i => if i = d.h then x else d.P i, d.h + 1⟩
/-- k bytes of b. -/
def pushN (d : Dg) (b : Nat → BitVec 8) : Nat → Dg
  | 0 => d
  | k + 1 => push (pushN d b k) (b k)
theorem push_lt {d : Dg} (h : d.h < 64) (x : BitVec 8) : (push d x).h < 64 := by
  unfold push
  split
  · show 0 < 64; omega
  · rename_i hc; show d.h + 1 < 64; omega
theorem pushN_lt {d : Dg} (h : d.h < 64) (b : Nat → BitVec 8) : ∀ k, (pushN d b k).h < 64
  | 0 => h
  | k + 1 => push_lt (pushN_lt h b k) _
theorem pushN_add (d : Dg) (b : Nat → BitVec 8) (m : Nat) : ∀ k, pushN d b (m + k) = pushN (pushN d b m) (fun i => b (m + i)) k
  | 0 => rfl
  | k + 1 => by rw [← Nat.add_assoc]; simp only [pushN, pushN_add d b m k]
/-- Bytes that don't fill the block only wait. -/
theorem pushN_wait (d : Dg) (b : Nat → BitVec 8) : ∀ k, d.h + k < 64 → pushN d b k = ⟨d.V, fun i => if d.h ≤ i ∧ i < d.h + k then b (i - d.h) else d.P i, d.h + k⟩
  | 0, _ => by
    have : ∀ i, ¬ (d.h ≤ i ∧ i < d.h + 0) := fun i => by omega
    simp only [pushN, this, if_false]
    rfl
  | k + 1, hk => by
    simp only [pushN, pushN_wait d b k (by omega)]
    unfold push
    rw [if_neg (by show ¬ d.h + k + 1 = 64; omega)]
    congr 1
    funext i
    by_cases hi : i = d.h + k
    · subst hi
      rw [if_pos rfl, if_pos ⟨by omega, by omega⟩]
      congr 1
      omega
    · rw [if_neg hi]
      show (if d.h ≤ i ∧ i < d.h + k then b (i - d.h) else d.P i) = _
      by_cases h1 : d.h ≤ i ∧ i < d.h + k
      · rw [if_pos h1, if_pos ⟨h1.1, by omega⟩]
      · rw [if_neg h1, if_neg (by omega)]
/-- Bytes that fill the block: it is gone through. -/
theorem pushN_fill (d : Dg) (b : Nat → BitVec 8) (k : Nat) (hk : d.h + k = 64) (h0 : 0 < k) :
    pushN d b k = ⟨compress d.V (fun i => if d.h ≤ i ∧ i < d.h + k then b (i - d.h) else d.P i), fun i => if d.h ≤ i ∧ i < d.h + k then b (i - d.h) else d.P i, 0⟩ := by
  obtain ⟨k, rfl⟩ : ∃ k', k = k' + 1 := ⟨k - 1, by omega⟩
  simp only [pushN, pushN_wait d b k (by omega)]
  have e : (fun i => if i = d.h + k then b k else (if d.h ≤ i ∧ i < d.h + k then b (i - d.h) else d.P i)) = fun i => if d.h ≤ i ∧ i < d.h + (k + 1) then b (i - d.h) else d.P i := by
    funext i
    by_cases hi : i = d.h + k
    · subst hi
      rw [if_pos rfl, if_pos ⟨by omega, by omega⟩]
      congr 1
      omega
    · rw [if_neg hi]
      by_cases h1 : d.h ≤ i ∧ i < d.h + k
      · rw [if_pos h1, if_pos ⟨h1.1, by omega⟩]
      · rw [if_neg h1, if_neg (by omega)]
  unfold push
  rw [if_pos (by show d.h + k + 1 = 64; omega)]
  show (⟨compress d.V (fun i => if i = d.h + k then b k else (if d.h ≤ i ∧ i < d.h + k then b (i - d.h) else d.P i)), fun i => if i = d.h + k then b k else (if d.h ≤ i ∧ i < d.h + k then b (i - d.h) else d.P i), 0⟩ : Dg) = _
  rw [e]
end Sha
end Go.Proofs.Ytndlhhhebijknaa
end

section
/-
  SHA-256: bytes written. No condition.
-/
namespace Go.Proofs.Ytndlhhhebijknaa
set_option linter.unusedVariables false
namespace Sx
open Sha

theorem pushN_step (d : Dg) (B : Nat → BitVec 8) (k m : Nat) (h0 : 0 < m) (hm : (pushN d B k).h + m ≤ 64) :
    pushN d B (k + m) = if (pushN d B k).h + m = 64
      then ⟨compress (pushN d B k).V (fun i => if (pushN d B k).h ≤ i ∧ i < (pushN d B k).h + m then B (k + (i - (pushN d B k).h)) else (pushN d B k).P i), fun i => if (pushN d B k).h ≤ i ∧ i < (pushN d B k).h + m then B (k + (i - (pushN d B k).h)) else (pushN d B k).P i, 0⟩
      else ⟨(pushN d B k).V, fun i => if (pushN d B k).h ≤ i ∧ i < (pushN d B k).h + m then B (k + (i - (pushN d B k).h)) else (pushN d B k).P i, (pushN d B k).h + m⟩ := by
  rw [pushN_add]
  split
  · rename_i h; exact pushN_fill _ _ _ h h0
  · rename_i h; exact pushN_wait _ _ _ (by omega)
theorem len3' {α : Type} : ∀ {l : List α}, l.length = 3 → ∃ a b c, l = [a, b, c]
  | [a, b, c], _ => ⟨a, b, c, rfl⟩
theorem len4' {α : Type} : ∀ {l : List α}, l.length = 4 → ∃ a b c d, l = [a, b, c, d]
  | [a, b, c, d], _ => ⟨a, b, c, d, rfl⟩
theorem len5' {α : Type} : ∀ {l : List α}, l.length = 5 → ∃ a b c d e, l = [a, b, c, d, e]
  | [a, b, c, d, e], _ => ⟨a, b, c, d, e, rfl⟩
/-- n bytes from place o on. -/
def winF (o n : Nat) (b : Nat → BitVec 8) : Nat → SC := fun j => if o ≤ j ∧ j < o + n then .w8 (b (j - o)) else .any
theorem winF_at (o n : Nat) (b : Nat → BitVec 8) {i : Nat} (h : i < n) : winF o n b (o + i) = .w8 (b i) := by
  unfold winF
  rw [if_pos ⟨by omega, by omega⟩, show o + i - o = i by omega]
theorem eqC_win {q : List Nat} {o n : Nat} {f : Nat → SC} {b : Nat → BitVec 8} (h : ∀ i, i < n → f (o + i) = .w8 (b i)) (j : Nat) : eqC q (f j) (winF o n b j) True := by
  unfold winF
  split
  · rename_i hj
    have := h (j - o) (by omega)
    rw [show o + (j - o) = j by omega] at this
    exact eqC_w8 this
  · trivial
theorem eqC_winS {q : List Nat} {o n : Nat} {b : Nat → BitVec 8} {j : Nat} : eqC q (winF o n b j) (winF o n b j) True := eqC_win (fun _ h => winF_at _ _ _ h) j
theorem eqC_winM {q : List Nat} {g : Nat → Nat} {o n : Nat} {b : Nat → BitVec 8} {j : Nat} : eqC q (SC.mp g (winF o n b j)) (winF o n b j) True :=
  eqC_win (f := fun j => SC.mp g (winF o n b j)) (fun _ h => by rw [winF_at _ _ _ h]; rfl) j
theorem eqC_selfB {q : List Nat} {n : Nat} {b : Nat → BitVec 8} {j : Nat} : eqC q (bytesF n b j) (bytesF n b j) True := eqC_bytes (fun _ h => bytesF_lt h) j
theorem eqC_mpB {q : List Nat} {g : Nat → Nat} {n : Nat} {b : Nat → BitVec 8} {j : Nat} : eqC q (SC.mp g (bytesF n b j)) (bytesF n b j) True :=
  eqC_bytes (f := fun j => SC.mp g (bytesF n b j)) (fun j h => by rw [bytesF_lt h]; rfl) j
theorem eqC_winB {q : List Nat} {n : Nat} {b : Nat → BitVec 8} {j : Nat} : eqC q (bytesF n b j) (winF 0 n b j) True :=
  eqC_win (fun i h => by rw [Nat.zero_add]; exact bytesF_lt h) j
/-- Bytes of a slice that may be nil. -/
def bts : Bool → Nat → Nat → Nat → (Nat → BitVec 8) → List Seg
  | true, _, _, _, _ => []
  | false, N, o, n, b => [.row N (winF o n b)]
/-- Bytes of a slice that may be nil, taken as they are. -/
theorem sn_bts {h : List (List Seg)} {z : Bool} {j N o n : Nat} {b : Nat → BitVec 8} {k : (Nat → SC) → Prop} (hj : getH h j = bts z N o n b) (hN : o + n ≤ N) (hz : z = true → n = 0)
    (hk : ∀ g : Nat → SC, (∀ i, i < n → g i = .w8 (b i)) → k g) : ∃ f : Nat → SC, ((z = true → n = 0) ∧ (z = false → SnAt h j 0 o n 1 f)) ∧ k f := by
  refine ⟨fun i => .w8 (b i), ⟨hz, ?_⟩, hk _ fun _ _ => rfl⟩
  rintro rfl
  exact ⟨N, winF o n b, [], by rw [hj]; rfl, hN, fun q hq => by rw [Nat.add_comm]; exact (winF_at _ _ _ hq).symm⟩
theorem copied (q : List Nat) (P b : Nat → BitVec 8) (n h m s o k j : Nat) (e : s = o + k) (hm : k + m ≤ n) : eqC q (updN (fun j => SC.w8 (P j)) h m (fun q => winF o n b (q + s)) j) (SC.w8 (if h ≤ j ∧ j < h + m then b (k + (j - h)) else P j)) True := by
  unfold updN
  by_cases hj : h ≤ j ∧ j < h + m
  · rw [if_pos hj, if_pos hj]
    show eqC q (winF o n b (j - h + s)) _ _
    rw [show j - h + s = o + (k + (j - h)) by omega, winF_at _ _ _ (by omega)]
    exact ⟨rfl, trivial⟩
  · rw [if_neg hj, if_neg hj]
    exact ⟨rfl, trivial⟩
set_option maxRecDepth 20000 in
theorem fn_swrite (z : Bool) (n c N o : Nat) (b : Nat → BitVec 8) (d : Dg) (a : BitVec 64) (hd : d.h < 64) (hN : o + n ≤ N) (hc : n ≤ c) (hz : z = true → n = 0) :
    FnR Try.prog tds 50 2 [shaT 1 0 first steps, bts z N o n b, digC 0 d.V d.P d.h a] [.c (.p 2 0 0), .c (.sn z 1 0 o n c)] (fun _ => True)
      (fun x hs => x = .tup [] ∧ hs = [shaT 1 0 first steps, bts z N o n b, digC 0 (pushN d b n).V (pushN d b n).P (pushN d b n).h (a + BitVec.ofNat 64 n)]) := by
  refine fn_of_body tds_ok follows_ Try.func50 rfl (t := [.a (.c (.p 2 0 0)), .a (.c (.sn z 1 0 o n c)), .any, .any, .any, .any, .any, .any, .any, .any, .any, .any, .any, .any, .any, .any, .any, .any, .any, .any, .any, .any, .any, .any, .any, .any, .any, .any, .any, .any, .any, .any, .any, .any, .any, .any, .any, .any, .any, .any, .any, .any, .any, .any, .any, .any, .any, .any, .any]) rfl (fun w r0 hr _ => ?_)
  obtain ⟨x0, x1, x2, rfl⟩ := len3' hr
  cases z with
  | true =>
    obtain rfl := hz rfl
    (repeat first | refine ⟨by omega, ?_⟩ | refine ⟨by decide, ?_⟩ | refine ⟨idx8 _, ?_⟩ | refine ⟨lt8 (Nat.le_refl _) _, ?_⟩ | refine ⟨rfl, ?_⟩)
    refine .inl ⟨Unit, fun _ => ⟨[.a (.c (.p 2 0 0)), .a (.c (.sn true 1 0 o 0 c)), .any, .any, .any, .any, .any, .any, .any, .any, .any, .any, .any, .any, .any, .any, .any, .any, .any, .any, .any, .any, .any, .any, .any, .any, .any, .any, .any, .any, .any, .any, .any, .any, .any, .any, .any, .any, .any, .any, .any, .any, .any, .any, .any, .any, .any, .any, .any], [shaT 1 0 first steps, bts true N o 0 b, digC 0 d.V d.P d.h (a + BitVec.ofNat 64 0)]⟩,
      fun _ => True, fun _ => 0, ⟨(), [0, 1, 2], ⟨⟨rfl, rfl, rfl⟩, ?_⟩, trivial⟩, fun _ _ => ⟨fun h => absurd (of_decide_eq_true h) (by decide), fun h => ?_⟩⟩
    · (repeat first | exact trivial | refine ⟨rfl, ?_⟩ | refine ⟨fun _ _ => ⟨rfl, trivial⟩, ?_⟩ | refine ⟨by omega, ?_⟩)
    · refine ⟨.tup [], _, ⟨[0, 1, 2], ⟨rfl, rfl, rfl⟩, ?_⟩, rfl, rfl⟩
      (repeat first | exact trivial | refine ⟨rfl, ?_⟩ | refine ⟨fun _ _ => ⟨rfl, trivial⟩, ?_⟩ | refine ⟨by omega, ?_⟩)
  | false =>
  (repeat first | refine ⟨by omega, ?_⟩ | refine ⟨by decide, ?_⟩ | refine ⟨idx8 _, ?_⟩ | refine ⟨lt8 (Nat.le_refl _) _, ?_⟩ | refine ⟨rfl, ?_⟩)
  refine .inl ⟨Nat × Nat × Nat, fun (k, oo, cc) => ⟨[.a (.c (.p 2 0 0)), .a (.c (.sn false 1 0 oo (n - k) cc)), .any, .any, .any, .any, .any, .any, .any, .any, .any, .any, .any, .any, .any, .any, .any, .any, .any, .any, .any, .any, .any, .any, .any, .any, .any, .any, .any, .any, .any, .any, .any, .any, .any, .any, .any, .any, .any, .any, .any, .any, .any, .any, .any, .any, .any, .any, .any], [shaT 1 0 first steps, [.row N (winF o n b)], digC 0 (pushN d b k).V (pushN d b k).P (pushN d b k).h (a + BitVec.ofNat 64 n)]⟩,
    fun (k, oo, cc) => k ≤ n ∧ (k < n → oo = o + k) ∧ n - k ≤ cc ∧ cc ≤ c, fun (k, _, _) => n - k, ⟨(0, o, c), [0, 1, 2], ⟨⟨rfl, rfl, rfl⟩, ?_⟩, by omega, by omega, by omega, by omega⟩, fun (k, oo, cc) ⟨hk, hoo, hcc, hcc'⟩ => ⟨fun h => ?_, fun h => ?_⟩⟩
  · (repeat first | exact trivial | refine ⟨rfl, ?_⟩ | refine ⟨fun _ _ => ⟨rfl, trivial⟩, ?_⟩ | refine ⟨fun _ _ => trivial, ?_⟩ | refine ⟨by omega, ?_⟩ | refine ⟨fun _ _ => eqC_winS, ?_⟩ | refine ⟨fun _ _ => eqC_winM, ?_⟩ | refine ⟨fun _ _ => eqC_winB, ?_⟩ | refine ⟨fun _ _ => eqC_selfB, ?_⟩ | refine ⟨fun _ _ => eqC_mpB, ?_⟩)
  · have hlt : k < n := by have : ((n - k : Nat) : Int) > 0 := of_decide_eq_true h; omega
    obtain rfl : oo = o + k := hoo hlt
    obtain ⟨D, hD⟩ : ∃ D, pushN d b k = D := ⟨_, rfl⟩
    have hDl : D.h < 64 := by rw [← hD]; exact pushN_lt hd _ _
    have hst := fun m h0 hm => pushN_step d b k m h0 hm
    rw [hD] at hst ⊢
    refine ⟨none, [], [(0, true), (1, true), (2, true), (3, true), (4, true), (5, true), (6, true), (7, true), (8, true)], [9, 10], by kernel_rfl, ?_⟩
    (repeat first | refine ⟨by omega, ?_⟩ | refine ⟨by decide, ?_⟩ | refine ⟨idx8 _, ?_⟩ | refine ⟨lt8 (Nat.le_refl _) _, ?_⟩ | refine ⟨rfl, ?_⟩)
    have e1 : ((D.h : Nat) : Int).toNat = D.h := by omega
    have e64 : ((64 : Nat) : Int).toNat = 64 := rfl
    simp only [frcN_eq, e1, e64, if_neg (show ¬ 64 = D.h by omega)]
    have hsrc : 1 * (n - k) ≤ N := by omega
    (repeat first | refine ⟨by omega, ?_⟩ | refine ⟨by decide, ?_⟩ | refine ⟨idx8 _, ?_⟩ | refine ⟨lt8 (Nat.le_refl _) _, ?_⟩ | refine ⟨rfl, ?_⟩)
    refine ⟨fun q => winF o n b (q + (o + k)), ⟨fun h => Bool.noConfusion h, fun _ => ⟨N, winF o n b, [], rfl, by simp only [scale]; omega, fun _ _ => rfl⟩⟩, ?_⟩
    refine ⟨by omega, ?_⟩
    generalize hm : min (n - k) (64 - D.h) = m
    have hm1 : m ≤ n - k ∧ m ≤ 64 - D.h ∧ 0 < m ∧ (m = n - k ∨ m = 64 - D.h) := by omega
    (repeat first | refine ⟨by omega, ?_⟩ | refine ⟨by decide, ?_⟩ | refine ⟨idx8 _, ?_⟩ | refine ⟨lt8 (Nat.le_refl _) _, ?_⟩ | refine ⟨rfl, ?_⟩)
    have e2 : ((m : Nat) : Int).toNat = m := by omega
    have e3 : ((n - k : Nat) : Int).toNat = n - k := by omega
    have e4 : ((cc : Nat) : Int).toNat = cc := by omega
    simp only [frcN_eq, e2, e3]
    generalize ho2 : (if cc = m then o + k else o + k + m * 1) = o2
    have e5 : n - k - m = n - (k + m) := by omega
    rw [e5]
    have hs := hst m (by omega) (by omega)
    have hb1 : k + m ≤ n := by omega
    have hb2 : n - (k + m) ≤ cc - m := by omega
    have hb3 : cc - m ≤ c := by omega
    have hb4 : n - (k + m) < n - k := by omega
    have hb5 : k + m < n → o2 = o + (k + m) := fun hlt2 => by rw [← ho2, if_neg (by omega)]; omega
    have hb6 : 0 + D.h * 1 = D.h := by omega
    rw [hb6]
    refine ⟨fun h2 => ?_, fun h2 => ?_⟩
    · have h64 : D.h + m = 64 := by have := of_decide_eq_true h2; omega
      rw [if_pos h64] at hs
      refine ⟨by kernel_rfl, call_same (fn_smix D.V (fun i => if D.h ≤ i ∧ i < D.h + m then b (k + (i - D.h)) else D.P i) ((D.h : Int) + m) (a + BitVec.ofNat 64 n)) [0, 2] rfl ⟨rfl, trivial⟩ ?_ (fun _ _ => trivial) ?_⟩
      · (repeat first | exact trivial | refine ⟨rfl, ?_⟩ | refine ⟨fun _ _ => ⟨rfl, trivial⟩, ?_⟩ | refine ⟨fun _ _ => trivial, ?_⟩ | refine ⟨by omega, ?_⟩ | refine ⟨fun _ _ => eqC_winS, ?_⟩ | refine ⟨fun _ _ => eqC_winM, ?_⟩ | refine ⟨fun _ _ => eqC_winB, ?_⟩ | refine ⟨fun _ _ => eqC_selfB, ?_⟩ | refine ⟨fun _ _ => eqC_mpB, ?_⟩)
        refine ⟨fun j hj => copied _ D.P b n D.h m (o + k) o k j rfl hb1, ?_⟩
        (repeat first | exact trivial | refine ⟨rfl, ?_⟩ | refine ⟨fun _ _ => ⟨rfl, trivial⟩, ?_⟩ | refine ⟨fun _ _ => trivial, ?_⟩ | refine ⟨by omega, ?_⟩ | refine ⟨fun _ _ => eqC_winS, ?_⟩ | refine ⟨fun _ _ => eqC_winM, ?_⟩ | refine ⟨fun _ _ => eqC_winB, ?_⟩ | refine ⟨fun _ _ => eqC_selfB, ?_⟩ | refine ⟨fun _ _ => eqC_mpB, ?_⟩)
      · rintro x hs' ⟨rfl, rfl⟩
        refine ⟨rfl, ?_⟩
        refine ⟨(k + m, o2, cc - m), [0, 1, 2], ⟨⟨rfl, rfl, rfl⟩, ?_⟩, ⟨hb1, hb5, hb2, hb3⟩, hb4⟩
        dsimp only
        rw [hs]
        (repeat first | exact trivial | refine ⟨rfl, ?_⟩ | refine ⟨fun _ _ => ⟨rfl, trivial⟩, ?_⟩ | refine ⟨fun _ _ => trivial, ?_⟩ | refine ⟨by omega, ?_⟩ | refine ⟨fun _ _ => eqC_winS, ?_⟩ | refine ⟨fun _ _ => eqC_winM, ?_⟩ | refine ⟨fun _ _ => eqC_winB, ?_⟩ | refine ⟨fun _ _ => eqC_selfB, ?_⟩ | refine ⟨fun _ _ => eqC_mpB, ?_⟩)
    · have h64 : ¬ D.h + m = 64 := by have := of_decide_eq_false h2; omega
      rw [if_neg h64] at hs
      refine ⟨(k + m, o2, cc - m), [0, 1, 2], ⟨⟨rfl, rfl, rfl⟩, ?_⟩, ⟨hb1, hb5, hb2, hb3⟩, hb4⟩
      dsimp only
      rw [hs]
      (repeat first | exact trivial | refine ⟨rfl, ?_⟩ | refine ⟨fun _ _ => ⟨rfl, trivial⟩, ?_⟩ | refine ⟨fun _ _ => trivial, ?_⟩ | refine ⟨by omega, ?_⟩ | refine ⟨fun _ _ => eqC_winS, ?_⟩ | refine ⟨fun _ _ => eqC_winM, ?_⟩ | refine ⟨fun _ _ => eqC_winB, ?_⟩ | refine ⟨fun _ _ => eqC_selfB, ?_⟩ | refine ⟨fun _ _ => eqC_mpB, ?_⟩)
      refine ⟨fun j hj => copied _ D.P b n D.h m (o + k) o k j rfl hb1, ?_⟩
      (repeat first | exact trivial | refine ⟨rfl, ?_⟩ | refine ⟨fun _ _ => ⟨rfl, trivial⟩, ?_⟩ | refine ⟨fun _ _ => trivial, ?_⟩ | refine ⟨by omega, ?_⟩ | refine ⟨fun _ _ => eqC_winS, ?_⟩ | refine ⟨fun _ _ => eqC_winM, ?_⟩ | refine ⟨fun _ _ => eqC_winB, ?_⟩ | refine ⟨fun _ _ => eqC_selfB, ?_⟩ | refine ⟨fun _ _ => eqC_mpB, ?_⟩)
  · have hkn : k = n := by have : ¬ ((n - k : Nat) : Int) > 0 := of_decide_eq_false h; omega
    subst hkn
    refine ⟨.tup [], _, ⟨[0, 1, 2], ⟨rfl, rfl, rfl⟩, ?_⟩, rfl, rfl⟩
    (repeat first | exact trivial | refine ⟨rfl, ?_⟩ | refine ⟨fun _ _ => ⟨rfl, trivial⟩, ?_⟩ | refine ⟨fun _ _ => trivial, ?_⟩ | refine ⟨by omega, ?_⟩ | refine ⟨fun _ _ => eqC_winS, ?_⟩ | refine ⟨fun _ _ => eqC_winM, ?_⟩ | refine ⟨fun _ _ => eqC_winB, ?_⟩ | refine ⟨fun _ _ => eqC_selfB, ?_⟩ | refine ⟨fun _ _ => eqC_mpB, ?_⟩)
end Sx
end Go.Proofs.Ytndlhhhebijknaa
end

section
/-
  SHA-256: the end of a sum. No condition.
-/
namespace Go.Proofs.Ytndlhhhebijknaa
set_option linter.unusedVariables false
namespace Sha
/-- How many bytes come ahead of the size. -/
def padP (h : Nat) : Nat := if h < 56 then 56 - h else 120 - h
def padB (p : Nat) (m : BitVec 64) (i : Nat) : BitVec 8 := if i = 0 then 128#8 else if i < p then 0#8 else (m >>> (8 * (7 - (i - p)))).setWidth 8
def outW (V : Nat → BitVec 32) (i : Nat) : BitVec 8 := (V (i / 4) >>> (8 * (3 - i % 4))).setWidth 8
def endD (d : Dg) (a : BitVec 64) : Dg := pushN d (padB (padP d.h) (a * 8#64)) (padP d.h + 8)
def endV (d : Dg) (a : BitVec 64) (i : Nat) : BitVec 8 := outW (endD d a).V i
theorem padP_iff {h k : Nat} (hh : h < 64) (hk : k + 1 ≤ padP h) : (h + (k + 1)) % 64 = 56 ↔ k + 1 = padP h := by
  unfold padP at *
  by_cases h5 : h < 56
  · rw [if_pos h5] at *; constructor <;> intro _ <;> omega
  · rw [if_neg h5] at *; constructor <;> intro _ <;> omega
theorem padP_le {h : Nat} (hh : h < 64) : 1 ≤ padP h ∧ padP h ≤ 64 := by unfold padP; split <;> omega
end Sha
namespace Sx
open Sha

theorem app1 {f : Nat → SC} {n : Nat} {b : Nat → BitVec 8} {g : Nat → SC} (hf : ∀ j, j < n → f j = .w8 (b j)) (hg : g 0 = .w8 (b n)) (i : Nat) (hi : i < n + 1) :
    appF f 0 (scale n (0 + 1)) (scale 1 (0 + 1)) g i = .w8 (b i) := by
  unfold appF
  by_cases hik : i < n
  · rw [if_pos (by simpa [scale] using hik), Nat.add_zero, hf i hik]
  · obtain rfl : i = n := by omega
    rw [if_neg (by simp [scale]), if_pos (by simp [scale]), show i - scale i (0 + 1) = 0 from Nat.sub_self _, hg]
theorem of_decide_eq_false' {p : Prop} [Decidable p] (h : decide (¬ p) = false) : p := Decidable.not_not.1 (of_decide_eq_false h)
theorem shAmt8 : ∀ k : Nat, k < 8 → (8#64 * BitVec.ofInt 64 (7 - (k : Int))).toNat = 8 * (7 - k) := by decide +kernel
theorem shAmt4 : ∀ k : Nat, k < 4 → (8#64 * BitVec.ofInt 64 (3 - (k : Int))).toNat = 8 * (3 - k) := by decide +kernel
set_option maxRecDepth 20000 in
theorem fn_send (d : Dg) (a : BitVec 64) (hd : d.h < 64) :
    FnR Try.prog tds 51 1 [shaT 1 0 first steps, digC 0 d.V d.P d.h a] [.c (.p 1 0 0)] (fun _ => True)
      (fun x hs => x = .a (.agg [.row 32 fun i => .w8 (endV d a i)]) ∧ ∃ (V' : Nat → BitVec 32) (P' : Nat → BitVec 8) (h' : Nat) (a' : BitVec 64), hs = [shaT 1 0 first steps, digC 0 V' P' h' a']) := by
  refine fn_of_body tds_ok follows_ Try.func51 rfl (t := [.a (.c (.p 1 0 0)), .any, .any, .any, .any, .any, .any, .any, .any, .any, .any, .any, .any, .any, .any, .any, .any, .any, .any, .any, .any, .any, .any, .any, .any, .any, .any, .any, .any, .any, .any, .any, .any, .any, .any, .any, .any, .any, .any, .any, .any, .any, .any, .any, .any, .any, .any, .any, .any, .any, .any, .any, .any, .any, .any, .any, .any, .any, .any, .any, .any, .any, .any, .any, .any, .any, .any, .any, .any, .any]) rfl (fun w r0 hr _ => ?_)
  obtain ⟨x0, x1, rfl⟩ := len2' hr
  have hpl := padP_le hd
  refine .inl ⟨Nat × Nat, fun (k, c) => ⟨[.a (.c (.p 1 0 0)), .any, .a (.c (.p 2 0 0)), .a (.c (.w64 ((a * 8#64)))), .a (.c (.sl 3 0 0 (k+1) c)), .any, .any, .any, .any, .any, .any, .any, .any, .any, .any, .any, .any, .any, .any, .any, .any, .any, .any, .any, .any, .any, .any, .any, .any, .any, .any, .any, .any, .any, .any, .any, .any, .any, .any, .any, .any, .any, .any, .any, .any, .any, .any, .any, .any, .any, .any, .any, .any, .any, .any, .any, .any, .any, .any, .any, .any, .any, .any, .any, .any, .any, .any, .any, .any, .any], [shaT 1 0 first steps, digC 0 d.V d.P d.h a, [.row 32 fun _ => .w8 0#8], [.row c (bytesF (k + 1) (padB (padP d.h) (a * 8#64)))]]⟩,
    fun (k, c) => k + 1 ≤ padP d.h ∧ k + 1 ≤ c, fun (k, _) => 64 - k, ⟨(0, 1), [0, 1, 2, 3], ⟨⟨rfl, rfl, rfl⟩, ?_⟩, by omega, by omega⟩, fun (k, c) ⟨hk, hc⟩ => ?_⟩
  · (repeat first | exact trivial | refine ⟨rfl, ?_⟩ | refine ⟨fun _ _ => ⟨rfl, trivial⟩, ?_⟩ | refine ⟨fun _ _ => trivial, ?_⟩ | refine ⟨by omega, ?_⟩ | refine ⟨fun _ _ => eqC_winS, ?_⟩ | refine ⟨fun _ _ => eqC_winM, ?_⟩ | refine ⟨fun _ _ => eqC_winB, ?_⟩ | refine ⟨fun _ _ => eqC_selfB, ?_⟩ | refine ⟨fun _ _ => eqC_mpB, ?_⟩)
    exact ⟨fun j hj => eqC_bytes (fun i hi => by obtain rfl : i = 0 := by omega
                                                 rfl) j, trivial⟩
  · (repeat first | refine ⟨by omega, ?_⟩ | refine ⟨by decide, ?_⟩ | refine ⟨idx8 _, ?_⟩ | refine ⟨lt8 (Nat.le_refl _) _, ?_⟩ | refine ⟨rfl, ?_⟩)
    have e1 : ((d.h : Int) + ((k + 1 : Nat) : Int)) % 64 = (((d.h + (k + 1)) % 64 : Nat) : Int) := by omega
    refine ⟨fun h => ?_, fun h => ?_⟩
    · have h1 : ¬ ((d.h : Int) + ((k + 1 : Nat) : Int)) % 64 = 56 := of_decide_eq_true h
      have h2 := mt (padP_iff hd hk).2
      have h3 : k + 1 < padP d.h := by omega
      refine ⟨by decide, ⟨by omega, by simp [scale], by show _ * 1 ≤ _; omega⟩, fun c' hc' => ?_⟩
      refine ⟨(k + 1, c'), [0, 1, 2, 5], ⟨⟨rfl, rfl, rfl⟩, ?_⟩, by omega, by dsimp only; omega⟩
      (repeat first | exact trivial | refine ⟨rfl, ?_⟩ | refine ⟨fun _ _ => ⟨rfl, trivial⟩, ?_⟩ | refine ⟨fun _ _ => trivial, ?_⟩ | refine ⟨by omega, ?_⟩ | refine ⟨fun _ _ => eqC_winS, ?_⟩ | refine ⟨fun _ _ => eqC_winM, ?_⟩ | refine ⟨fun _ _ => eqC_winB, ?_⟩ | refine ⟨fun _ _ => eqC_selfB, ?_⟩ | refine ⟨fun _ _ => eqC_mpB, ?_⟩)
      exact ⟨fun j hj => eqC_bytes (app1 (fun _ h => bytesF_lt h) (by show SC.w8 0#8 = _; unfold padB; rw [if_neg (by omega), if_pos h3])) j, trivial⟩
    · have h1 : ((d.h : Int) + ((k + 1 : Nat) : Int)) % 64 = 56 := of_decide_eq_false' h
      have h2 : k + 1 = padP d.h := (padP_iff hd hk).1 (by omega)
      refine .inl ⟨Nat × Nat, fun (k, c) => ⟨[.a (.c (.p 1 0 0)), .any, .a (.c (.p 2 0 0)), .a (.c (.w64 ((a * 8#64)))), .a (.c (.sl 3 0 0 (padP d.h + k) c)), .a (.c (.int .i64 (7 - (k : Int)))), .any, .any, .any, .any, .any, .any, .any, .any, .any, .any, .any, .any, .any, .any, .any, .any, .any, .any, .any, .any, .any, .any, .any, .any, .any, .any, .any, .any, .any, .any, .any, .any, .any, .any, .any, .any, .any, .any, .any, .any, .any, .any, .any, .any, .any, .any, .any, .any, .any, .any, .any, .any, .any, .any, .any, .any, .any, .any, .any, .any, .any, .any, .any, .any], [shaT 1 0 first steps, digC 0 d.V d.P d.h a, [.row 32 fun _ => .w8 0#8], [.row c (bytesF (padP d.h + k) (padB (padP d.h) (a * 8#64)))]]⟩,
        fun (k, c) => k ≤ 8 ∧ padP d.h + k ≤ c, fun (k, _) => 64 - k, ⟨(0, c), [0, 1, 2, 3], ⟨⟨rfl, rfl, rfl⟩, ?_⟩, by omega, by omega⟩, fun (k, c) ⟨hk, hc⟩ => ⟨fun h => ?_, fun h => ?_⟩⟩
      · (repeat first | exact trivial | refine ⟨rfl, ?_⟩ | refine ⟨fun _ _ => ⟨rfl, trivial⟩, ?_⟩ | refine ⟨fun _ _ => trivial, ?_⟩ | refine ⟨by omega, ?_⟩ | refine ⟨fun _ _ => eqC_winS, ?_⟩ | refine ⟨fun _ _ => eqC_winM, ?_⟩ | refine ⟨fun _ _ => eqC_winB, ?_⟩ | refine ⟨fun _ _ => eqC_selfB, ?_⟩ | refine ⟨fun _ _ => eqC_mpB, ?_⟩)
        refine ⟨fun j hj => ?_, trivial⟩
        rw [h2]
        exact eqC_selfB
      · have hlt : 7 - (k : Int) ≥ 0 := of_decide_eq_true h
        refine ⟨by decide, ⟨by omega, by simp [scale], by show _ * 1 ≤ _; omega⟩, fun c' hc' => ?_⟩
        refine ⟨⟨by omega, by omega⟩, (k + 1, c'), [0, 1, 2, 5], ⟨⟨rfl, rfl, rfl⟩, ?_⟩, by omega, by dsimp only; omega⟩
        (repeat first | exact trivial | refine ⟨rfl, ?_⟩ | refine ⟨fun _ _ => ⟨rfl, trivial⟩, ?_⟩ | refine ⟨fun _ _ => trivial, ?_⟩ | refine ⟨by omega, ?_⟩ | refine ⟨fun _ _ => eqC_winS, ?_⟩ | refine ⟨fun _ _ => eqC_winM, ?_⟩ | refine ⟨fun _ _ => eqC_winB, ?_⟩ | refine ⟨fun _ _ => eqC_selfB, ?_⟩ | refine ⟨fun _ _ => eqC_mpB, ?_⟩)
        refine ⟨fun j hj => eqC_bytes (app1 (fun _ h => bytesF_lt h) ?_) j, trivial⟩
        show SC.w8 (((a * 8#64) >>> (8#64 * BitVec.ofInt 64 (7 - (k : Int))).toNat).setWidth 8) = _
        rw [shAmt8 k (by omega)]
        unfold padB
        rw [if_neg (by omega), if_neg (by omega), show padP d.h + k - padP d.h = k by omega]
      · obtain rfl : k = 8 := by have : ¬ 7 - (k : Int) ≥ 0 := of_decide_eq_false h; omega
        refine ⟨by kernel_rfl, call_same (fn_swrite false (padP d.h + 8) c c 0 (padB (padP d.h) (a * 8#64)) d a hd (by omega) (by omega) (fun h => Bool.noConfusion h)) [0, 3, 1] rfl (by (repeat first | exact trivial | refine ⟨rfl, ?_⟩ | refine ⟨fun _ _ => ⟨rfl, trivial⟩, ?_⟩ | refine ⟨fun _ _ => trivial, ?_⟩ | refine ⟨by omega, ?_⟩ | refine ⟨fun _ _ => eqC_winS, ?_⟩ | refine ⟨fun _ _ => eqC_winM, ?_⟩ | refine ⟨fun _ _ => eqC_winB, ?_⟩ | refine ⟨fun _ _ => eqC_selfB, ?_⟩ | refine ⟨fun _ _ => eqC_mpB, ?_⟩)) ?_ (fun _ _ => trivial) ?_⟩
        · (repeat first | exact trivial | refine ⟨rfl, ?_⟩ | refine ⟨fun _ _ => ⟨rfl, trivial⟩, ?_⟩ | refine ⟨fun _ _ => trivial, ?_⟩ | refine ⟨by omega, ?_⟩ | refine ⟨fun _ _ => eqC_winS, ?_⟩ | refine ⟨fun _ _ => eqC_winM, ?_⟩ | refine ⟨fun _ _ => eqC_winB, ?_⟩ | refine ⟨fun _ _ => eqC_selfB, ?_⟩ | refine ⟨fun _ _ => eqC_mpB, ?_⟩)
        · rintro x hs ⟨rfl, rfl⟩
          obtain ⟨D, hD⟩ : ∃ D, pushN d (padB (padP d.h) (a * 8#64)) (padP d.h + 8) = D := ⟨_, rfl⟩
          rw [hD]
          (repeat first | refine ⟨by omega, ?_⟩ | refine ⟨by decide, ?_⟩ | refine ⟨idx8 _, ?_⟩ | refine ⟨lt8 (Nat.le_refl _) _, ?_⟩ | refine ⟨rfl, ?_⟩)
          refine .inl ⟨Nat, fun k => ⟨[.any, .any, .a (.c (.p 2 0 0)), .any, .any, .any, .a (.c (.p 4 0 0)), .any, .any, .any, .any, .any, .any, .any, .any, .any, .any, .any, .any, .any, .any, .any, .any, .any, .any, .any, .any, .any, .any, .any, .any, .any, .any, .any, .any, .any, .any, .any, .any, .any, .any, .any, .any, .any, .any, .any, .any, .a (.agg [.row 8 fun j => .w32 (D.V j)]), .a (.c (.int .i64 (↑k))), .any, .any, .any, .any, .any, .any, .any, .any, .any, .any, .any, .any, .any, .any, .any, .any, .any, .any, .any, .any, .any], [shaT 1 0 first steps, digC 0 D.V D.P D.h (a + BitVec.ofNat 64 (padP d.h + 8)), [.row 32 fun _ => .w8 0#8], [], [.row 32 fun i => .w8 (if i < 4 * k then outW D.V i else 0#8)]]⟩,
            fun k => k ≤ 8, fun k => 8 - k, ⟨0, [0, 1, 2, 3, 4], ⟨⟨rfl, rfl, rfl⟩, ?_⟩, by omega⟩, fun k hk => ⟨fun h => ?_, fun h => ?_⟩⟩
          · (repeat first | exact trivial | refine ⟨rfl, ?_⟩ | refine ⟨fun _ _ => ⟨rfl, trivial⟩, ?_⟩ | refine ⟨fun _ _ => trivial, ?_⟩ | refine ⟨by omega, ?_⟩ | refine ⟨fun _ _ => eqC_winS, ?_⟩ | refine ⟨fun _ _ => eqC_winM, ?_⟩ | refine ⟨fun _ _ => eqC_winB, ?_⟩ | refine ⟨fun _ _ => eqC_selfB, ?_⟩ | refine ⟨fun _ _ => eqC_mpB, ?_⟩)
          · have hlt : (k : Int) < 8 := of_decide_eq_true h
            (repeat first | refine ⟨by omega, ?_⟩ | refine ⟨by decide, ?_⟩ | refine ⟨idx8 _, ?_⟩ | refine ⟨lt8 (Nat.le_refl _) _, ?_⟩ | refine ⟨rfl, ?_⟩)
            refine .inl ⟨Nat, fun m => ⟨[.any, .any, .a (.c (.p 2 0 0)), .any, .any, .any, .a (.c (.p 4 0 0)), .a (.c (.int .i64 (↑k))), .a (.c (.w32 ((D.V k)))), .any, .any, .any, .any, .any, .any, .any, .any, .any, .any, .any, .any, .any, .any, .any, .any, .any, .any, .any, .any, .any, .any, .any, .any, .any, .any, .any, .any, .any, .any, .any, .any, .any, .any, .any, .any, .any, .any, .a (.agg [.row 8 fun j => .w32 (D.V j)]), .a (.c (.int .i64 (↑k))), .any, .any, .any, .a (.c (.int .i64 (↑m))), .any, .any, .any, .any, .any, .any, .any, .any, .any, .any, .any, .any, .any, .any, .any, .any, .any], [shaT 1 0 first steps, digC 0 D.V D.P D.h (a + BitVec.ofNat 64 (padP d.h + 8)), [.row 32 fun _ => .w8 0#8], [], [.row 32 fun i => .w8 (if i < 4 * k + m then outW D.V i else 0#8)]]⟩,
              fun m => m ≤ 4, fun m => 4 - m, ⟨0, [0, 1, 2, 3, 4], ⟨⟨rfl, rfl, rfl⟩, ?_⟩, by omega⟩, fun m hm => ⟨fun h => ?_, fun h => ?_⟩⟩
            · (repeat first | exact trivial | refine ⟨rfl, ?_⟩ | refine ⟨fun _ _ => ⟨rfl, trivial⟩, ?_⟩ | refine ⟨fun _ _ => trivial, ?_⟩ | refine ⟨by omega, ?_⟩ | refine ⟨fun _ _ => eqC_winS, ?_⟩ | refine ⟨fun _ _ => eqC_winM, ?_⟩ | refine ⟨fun _ _ => eqC_winB, ?_⟩ | refine ⟨fun _ _ => eqC_selfB, ?_⟩ | refine ⟨fun _ _ => eqC_mpB, ?_⟩)
            · have hlt : (m : Int) < 4 := of_decide_eq_true h
              (repeat first | refine ⟨by omega, ?_⟩ | refine ⟨by decide, ?_⟩ | refine ⟨idx8 _, ?_⟩ | refine ⟨lt8 (Nat.le_refl _) _, ?_⟩)
              refine ⟨rfl, ⟨by omega, by omega⟩, m + 1, [0, 1, 2, 3, 4], ⟨⟨rfl, rfl, rfl⟩, ?_⟩, by dsimp only; omega, by dsimp only; omega⟩
              (repeat first | exact trivial | refine ⟨rfl, ?_⟩ | refine ⟨fun _ _ => ⟨rfl, trivial⟩, ?_⟩ | refine ⟨fun _ _ => trivial, ?_⟩ | refine ⟨by omega, ?_⟩ | refine ⟨fun _ _ => eqC_winS, ?_⟩ | refine ⟨fun _ _ => eqC_winM, ?_⟩ | refine ⟨fun _ _ => eqC_winB, ?_⟩ | refine ⟨fun _ _ => eqC_selfB, ?_⟩ | refine ⟨fun _ _ => eqC_mpB, ?_⟩)
              refine ⟨fun j hj => ?_, trivial⟩
              have e0 : (4 * (k : Int) + (m : Int)).toNat + 0 = 4 * k + m := by omega
              rw [e0, shAmt4 m (by omega)]
              unfold upd
              by_cases hj2 : j = 4 * k + m
              · rw [if_pos hj2, hj2]
                refine eqC_w8 (congrArg SC.w8 ?_)
                show _ = if 4 * k + m < 4 * k + (m + 1) then _ else _
                rw [if_pos (by omega)]
                unfold outW
                rw [show (4 * k + m) / 4 = k by omega, show (4 * k + m) % 4 = m by omega]
              · rw [if_neg hj2]
                have : j < 4 * k + (m + 1) ↔ j < 4 * k + m := by omega
                refine eqC_w8 (congrArg SC.w8 ?_)
                simp only [this]
            · obtain rfl : m = 4 := by have : ¬ (m : Int) < 4 := of_decide_eq_false h; have hm : m ≤ 4 := hm; omega
              refine ⟨⟨by omega, by omega⟩, k + 1, [0, 1, 2, 3, 4], ⟨⟨rfl, rfl, rfl⟩, ?_⟩, by dsimp only; omega, by dsimp only; omega⟩
              (repeat first | exact trivial | refine ⟨rfl, ?_⟩ | refine ⟨fun _ _ => ⟨rfl, trivial⟩, ?_⟩ | refine ⟨fun _ _ => trivial, ?_⟩ | refine ⟨by omega, ?_⟩ | refine ⟨fun _ _ => eqC_winS, ?_⟩ | refine ⟨fun _ _ => eqC_winM, ?_⟩ | refine ⟨fun _ _ => eqC_winB, ?_⟩ | refine ⟨fun _ _ => eqC_selfB, ?_⟩ | refine ⟨fun _ _ => eqC_mpB, ?_⟩)
          · obtain rfl : k = 8 := by have : ¬ (k : Int) < 8 := of_decide_eq_false h; have hk : k ≤ 8 := hk; omega
            (repeat first | refine ⟨by omega, ?_⟩ | refine ⟨by decide, ?_⟩ | refine ⟨idx8 _, ?_⟩ | refine ⟨lt8 (Nat.le_refl _) _, ?_⟩ | refine ⟨rfl, ?_⟩)
            refine ⟨.a (.agg [.row 32 fun i => .w8 (endV d a i)]), [shaT 1 0 first steps, digC 0 D.V D.P D.h (a + BitVec.ofNat 64 (padP d.h + 8))], ⟨[0, 1], ⟨rfl, rfl, rfl⟩, ?_⟩, rfl, D.V, D.P, D.h, a + BitVec.ofNat 64 (padP d.h + 8), rfl⟩
            (repeat first | exact trivial | refine ⟨rfl, ?_⟩ | refine ⟨fun _ _ => ⟨rfl, trivial⟩, ?_⟩ | refine ⟨fun _ _ => trivial, ?_⟩ | refine ⟨by omega, ?_⟩ | refine ⟨fun _ _ => eqC_winS, ?_⟩ | refine ⟨fun _ _ => eqC_winM, ?_⟩ | refine ⟨fun _ _ => eqC_winB, ?_⟩ | refine ⟨fun _ _ => eqC_selfB, ?_⟩ | refine ⟨fun _ _ => eqC_mpB, ?_⟩)
            refine ⟨fun j hj => eqC_w8 (congrArg SC.w8 ?_), ?_⟩
            · show (if j + 0 + 0 < 4 * 8 then outW D.V (j + 0 + 0) else 0#8) = endV d a j
              rw [if_pos (by omega)]
              unfold endV endD
              rw [hD]
              rfl
            · (repeat first | exact trivial | refine ⟨rfl, ?_⟩ | refine ⟨fun _ _ => ⟨rfl, trivial⟩, ?_⟩ | refine ⟨fun _ _ => trivial, ?_⟩ | refine ⟨by omega, ?_⟩ | refine ⟨fun _ _ => eqC_winS, ?_⟩ | refine ⟨fun _ _ => eqC_winM, ?_⟩ | refine ⟨fun _ _ => eqC_winB, ?_⟩ | refine ⟨fun _ _ => eqC_selfB, ?_⟩ | refine ⟨fun _ _ => eqC_mpB, ?_⟩)
end Sx
end Go.Proofs.Ytndlhhhebijknaa
end

section
/-
  SHA-256 of lists of bytes. Plain. No condition.
-/
namespace Go.Proofs.Ytndlhhhebijknaa
set_option linter.unusedVariables false
namespace Sha
abbrev Bs := List (BitVec 8)
def L (l : Bs) (i : Nat) : BitVec 8 := l.getD i 0#8
theorem L_lt {l : Bs} {i : Nat} (h : i < l.length) : L l i = l[i] := by
  unfold L; rw [List.getD_eq_getElem?_getD, List.getElem?_eq_getElem h]; rfl
theorem L_app1 {l m : Bs} {i : Nat} (h : i < l.length) : L (l ++ m) i = L l i := by
  unfold L; rw [List.getD_eq_getElem?_getD, List.getD_eq_getElem?_getD, List.getElem?_append_left h]
theorem L_app2 {l m : Bs} {i : Nat} : L (l ++ m) (l.length + i) = L m i := by
  unfold L; rw [List.getD_eq_getElem?_getD, List.getD_eq_getElem?_getD, List.getElem?_append_right (by omega), Nat.add_sub_cancel_left]
theorem L_app {l m : Bs} {i : Nat} : L (l ++ m) i = if i < l.length then L l i else L m (i - l.length) := by
  split
  · rename_i h; exact L_app1 h
  · rename_i h
    have := @L_app2 l m (i - l.length)
    rwa [show l.length + (i - l.length) = i by omega] at this
theorem L_sub (l : Bs) (o n i : Nat) (h : i < n) : L ((l.drop o).take n) i = L l (o + i) := by
  unfold L; rw [List.getD_eq_getElem?_getD, List.getD_eq_getElem?_getD, List.getElem?_take, if_pos h, List.getElem?_drop]
theorem L_drop (l : Bs) (o i : Nat) : L (l.drop o) i = L l (o + i) := by
  unfold L; rw [List.getD_eq_getElem?_getD, List.getD_eq_getElem?_getD, List.getElem?_drop]
theorem L_take (l : Bs) (n i : Nat) (h : i < n) : L (l.take n) i = L l i := by
  unfold L; rw [List.getD_eq_getElem?_getD, List.getD_eq_getElem?_getD, List.getElem?_take, if_pos h]
/-- The list of some bytes. -/
def tab (n : Nat) (b : Nat → BitVec 8) : Bs := (List.range n).map b
@[simp] theorem tab_len (n : Nat) (b : Nat → BitVec 8) : (tab n b).length = n := by simp [tab]
theorem L_tab {n : Nat} {b : Nat → BitVec 8} {i : Nat} (h : i < n) : L (tab n b) i = b i := by
  unfold L tab; rw [List.getD_eq_getElem?_getD]; simp [h]
theorem ext_L {l m : Bs} (h : l.length = m.length) (k : ∀ i, i < l.length → L l i = L m i) : l = m := by
  apply List.ext_getElem h
  intro i h1 h2
  have := k i h1
  rwa [L_lt h1, L_lt h2] at this
def d0 : Dg := ⟨first, fun _ => 0#8, 0⟩
def pushL (d : Dg) (l : Bs) : Dg := l.foldl push d
theorem pushL_app (d : Dg) (l m : Bs) : pushL d (l ++ m) = pushL (pushL d l) m := List.foldl_append
theorem pushL_lt {d : Dg} (h : d.h < 64) (l : Bs) : (pushL d l).h < 64 := by
  induction l generalizing d with
  | nil => exact h
  | cons x l ih => exact ih (push_lt h x)
theorem pushN_congr {d : Dg} {b b' : Nat → BitVec 8} : ∀ {n : Nat}, (∀ i, i < n → b i = b' i) → pushN d b n = pushN d b' n
  | 0, _ => rfl
  | n + 1, h => by simp only [pushN]; rw [pushN_congr (fun i hi => h i (by omega)), h n (by omega)]
theorem pushN_tab (d : Dg) (b : Nat → BitVec 8) : ∀ n, pushN d b n = pushL d (tab n b)
  | 0 => rfl
  | n + 1 => by
    simp only [pushN]
    rw [pushN_tab d b n]
    unfold tab
    rw [List.range_succ, List.map_append, pushL_app]
    rfl
theorem tab_L {l : Bs} : tab l.length (L l) = l := ext_L (by simp) fun i hi => L_tab (by simpa using hi)
theorem tab_ext {n : Nat} {b : Nat → BitVec 8} {l : Bs} (h : l.length = n) (k : ∀ i, i < n → b i = L l i) : tab n b = l :=
  ext_L (by simp [h]) fun i hi => by rw [tab_len] at hi; rw [L_tab hi, k i hi]
theorem pushN_L (d : Dg) (l : Bs) : pushN d (L l) l.length = pushL d l := by rw [pushN_tab, tab_L]
theorem pushN_of (d : Dg) {b : Nat → BitVec 8} {n : Nat} {l : Bs} (h : l.length = n) (k : ∀ i, i < n → b i = L l i) : pushN d b n = pushL d l := by rw [pushN_tab, tab_ext h k]
def sumL (l : Bs) : Bs := tab 32 (endV (pushL d0 l) (BitVec.ofNat 64 l.length))
@[simp] theorem sumL_len (l : Bs) : (sumL l).length = 32 := tab_len _ _
theorem L_sumL (l : Bs) {i : Nat} (h : i < 32) : L (sumL l) i = endV (pushL d0 l) (BitVec.ofNat 64 l.length) i := L_tab h
/-- The first k parts. -/
def cat (ps : Nat → Bs) : Nat → Bs
  | 0 => []
  | k + 1 => cat ps k ++ ps k
theorem ofNat_add64 (a b : Nat) : BitVec.ofNat 64 a + BitVec.ofNat 64 b = BitVec.ofNat 64 (a + b) := (BitVec.ofNat_add a b).symm
end Sha
end Go.Proofs.Ytndlhhhebijknaa
end

section
/-
  SHA-256: sums of parts. No condition.
-/
namespace Go.Proofs.Ytndlhhhebijknaa
set_option linter.unusedVariables false
namespace Sx
open Sha

/-- Things of which only the first m are known. -/
def partsF (m : Nat) (g : Nat → SC) : Nat → SC := fun i => if i < m then g i else .any
theorem frc_parts {m : Nat} {g : Nat → SC} {i : Nat} {k : SC → Prop} (h : i < m) (hk : frcSC (g i) k) : frcSC (partsF m g i) k := by
  unfold partsF; rw [if_pos h]; exact hk
theorem eqC_parts {q : List Nat} {m : Nat} {f g : Nat → SC} (h : ∀ i, i < m → eqC q (f i) (g i) True) (j : Nat) : eqC q (f j) (partsF m g j) True := by
  unfold partsF
  split
  · exact h j ‹_›
  · trivial
theorem eqC_partsS {q : List Nat} {m : Nat} {g : Nat → SC} (h : ∀ i, i < m → eqC q (g i) (g i) True) {j : Nat} : eqC q (partsF m g j) (partsF m g j) True :=
  eqC_parts (fun i hi => by unfold partsF; rw [if_pos hi]; exact h i hi) j
theorem eqC_parts0 {q : List Nat} {m : Nat} {z : Bool} {a b c : Nat → Nat} {j : Nat} : eqC (0 :: q) (partsF m (fun i => .sn z 0 0 (a i) (b i) (c i)) j) (partsF m (fun i => .sn z 0 0 (a i) (b i) (c i)) j) True :=
  eqC_partsS (q := 0 :: q) (g := fun i => .sn z 0 0 (a i) (b i) (c i)) (fun i hi => ⟨rfl, rfl, rfl, rfl, trivial⟩)
/-- A part of some bytes. -/
def sub (l : Bs) (o n : Nat) : Bs := (l.drop o).take n
set_option maxRecDepth 20000 in
theorem fn_ssum (z : Bool) (N o c cm M m : Nat) (l : Bs) (po pn pc : Nat → Nat) (dn : BitVec 32) (f s : Nat → BitVec 32) (hd : dn = 0#32 ∨ dn = 1#32 ∧ f = first ∧ s = steps)
    (hN : o + l.length ≤ N) (hz : z = true → l = []) (hm : m ≤ M) (hM : m < 9223372036854775808) (hp : ∀ i, i < m → po i + pn i ≤ l.length ∧ pn i ≤ pc i) :
    FnR Try.prog tds 18 2 [bts z N o l.length (L l), [.row M (partsF m fun i => .sn z 0 0 (o + po i) (pn i) (pc i))], shaT dn 0 f s] [.c (.p 2 0 0), .c (.sl 1 0 0 m cm)] (fun _ => True)
      (fun x hs => x = .a (.agg [.row 32 fun i => .w8 (L (sumL (cat (fun i => sub l (po i) (pn i)) m)) i)]) ∧ hs = [bts z N o l.length (L l), [.row M (partsF m fun i => .sn z 0 0 (o + po i) (pn i) (pc i))], shaT 1 0 first steps]) := by
  refine fn_of_body tds_ok follows_ Try.func18 rfl (t := [.a (.c (.p 2 0 0)), .a (.c (.sl 1 0 0 m cm)), .any, .any, .any, .any, .any, .any, .any, .any, .any, .any, .any, .any, .any, .any, .any, .any, .any, .any, .any, .any, .any]) rfl (fun w r0 hr _ => ?_)
  obtain ⟨x0, x1, x2, rfl⟩ := len3' hr
  refine ⟨fun h => Bool.noConfusion h, fun _ => ?_⟩
  refine ⟨by kernel_rfl, call_same (fn_begin dn f s hd) [2] rfl (by (repeat first | exact trivial | refine ⟨rfl, ?_⟩ | refine ⟨fun _ _ => ⟨rfl, trivial⟩, ?_⟩ | refine ⟨fun _ _ => trivial, ?_⟩ | refine ⟨by omega, ?_⟩ | refine ⟨fun _ _ => eqC_winS, ?_⟩ | refine ⟨fun _ _ => eqC_winM, ?_⟩ | refine ⟨fun _ _ => eqC_winB, ?_⟩ | refine ⟨fun _ _ => eqC_selfB, ?_⟩ | refine ⟨fun _ _ => eqC_mpB, ?_⟩)) (by (repeat first | exact trivial | refine ⟨rfl, ?_⟩ | refine ⟨fun _ _ => ⟨rfl, trivial⟩, ?_⟩ | refine ⟨fun _ _ => trivial, ?_⟩ | refine ⟨by omega, ?_⟩ | refine ⟨fun _ _ => eqC_winS, ?_⟩ | refine ⟨fun _ _ => eqC_winM, ?_⟩ | refine ⟨fun _ _ => eqC_winB, ?_⟩ | refine ⟨fun _ _ => eqC_selfB, ?_⟩ | refine ⟨fun _ _ => eqC_mpB, ?_⟩)) (fun _ _ => trivial) ?_⟩
  rintro x hs ⟨rfl, rfl⟩
  (repeat first | refine ⟨by omega, ?_⟩ | refine ⟨by decide, ?_⟩ | refine ⟨idx8 _, ?_⟩ | refine ⟨lt8 (Nat.le_refl _) _, ?_⟩ | refine ⟨rfl, ?_⟩)
  obtain ⟨ps, hps⟩ : ∃ ps, (fun i => sub l (po i) (pn i)) = ps := ⟨_, rfl⟩
  rw [hps]
  refine .inl ⟨Nat, fun k => ⟨[.any, .any, .any, .any, .a (.c (.p 3 0 0)), .a (.c (.p 4 0 0)), .any, .any, .any, .any, .any, .any, .any, .a (.c (.sl 1 0 0 m cm)), .a (.c (.int .i64 (↑m))), .a (.c (.int .i64 (↑k))), .any, .any, .any, .any, .any, .any, .any], [bts z N o l.length (L l), [.row M (partsF m fun i => .sn z 0 0 (o + po i) (pn i) (pc i))], shaT 1 0 first steps, [.row 32 fun _ => .w8 0#8], digC 2 (pushL d0 (cat ps k)).V (pushL d0 (cat ps k)).P (pushL d0 (cat ps k)).h (BitVec.ofNat 64 (cat ps k).length)]⟩,
    fun k => k ≤ m, fun k => m - k, ⟨0, [0, 1, 2, 3, 4], ⟨⟨rfl, rfl, rfl⟩, ?_⟩, by omega⟩, fun k hk => ⟨fun h => ?_, fun h => ?_⟩⟩
  · cases z
    all_goals
      (repeat first | exact trivial | refine ⟨rfl, ?_⟩ | refine ⟨fun _ _ => ⟨rfl, trivial⟩, ?_⟩ | refine ⟨fun _ _ => trivial, ?_⟩ | refine ⟨by omega, ?_⟩ | refine ⟨fun _ _ => eqC_winS, ?_⟩ | refine ⟨fun _ _ => eqC_winM, ?_⟩ | refine ⟨fun _ _ => eqC_winB, ?_⟩ | refine ⟨fun _ _ => eqC_selfB, ?_⟩ | refine ⟨fun _ _ => eqC_mpB, ?_⟩)
      refine ⟨fun j hj => eqC_parts0, ?_⟩
      (repeat first | exact trivial | refine ⟨rfl, ?_⟩ | refine ⟨fun _ _ => ⟨rfl, trivial⟩, ?_⟩ | refine ⟨fun _ _ => trivial, ?_⟩ | refine ⟨by omega, ?_⟩ | refine ⟨fun _ _ => eqC_winS, ?_⟩ | refine ⟨fun _ _ => eqC_winM, ?_⟩ | refine ⟨fun _ _ => eqC_winB, ?_⟩ | refine ⟨fun _ _ => eqC_selfB, ?_⟩ | refine ⟨fun _ _ => eqC_mpB, ?_⟩)
  · have hlt : k < m := by have : (k : Int) < (m : Int) := of_decide_eq_true h; omega
    (repeat first | refine ⟨by omega, ?_⟩ | refine ⟨by decide, ?_⟩ | refine ⟨idx8 _, ?_⟩ | refine ⟨lt8 (Nat.le_refl _) _, ?_⟩)
    have e1 : (k : Int).toNat + 0 = k := by omega
    rw [e1]
    refine frc_parts hlt ?_
    obtain ⟨hp1, hp2⟩ := hp k hlt
    obtain ⟨D, hD⟩ : ∃ D, pushL d0 (cat ps k) = D := ⟨_, rfl⟩
    have hDl : D.h < 64 := by rw [← hD]; exact pushL_lt (by decide) _
    have hb : (ps k).length = pn k := by rw [← hps]; simp only [sub, List.length_take, List.length_drop]; omega
    have hk1 : pushN D (fun j => L l (po k + j)) (pn k) = pushL d0 (cat ps (k + 1)) := by
      rw [pushN_of D hb (fun i hi => by rw [← hps]; exact (L_sub l _ _ i hi).symm)]
      simp only [cat]
      rw [pushL_app, hD]
    have hl1 : BitVec.ofNat 64 (cat ps k).length + BitVec.ofNat 64 (pn k) = BitVec.ofNat 64 (cat ps (k + 1)).length := by
      simp only [cat, List.length_append, hb, ofNat_add64]
    rw [hD]
    refine ⟨by kernel_rfl, call_same (fn_swrite z (pn k) (pc k) N (o + po k) (fun j => L l (po k + j)) D (BitVec.ofNat 64 (cat ps k).length) hDl (by omega) hp2 (fun h => by have := hz h; subst this; simp at hp1; omega)) [2, 0, 4] rfl (by (repeat first | exact trivial | refine ⟨rfl, ?_⟩ | refine ⟨fun _ _ => ⟨rfl, trivial⟩, ?_⟩ | refine ⟨fun _ _ => trivial, ?_⟩ | refine ⟨by omega, ?_⟩ | refine ⟨fun _ _ => eqC_winS, ?_⟩ | refine ⟨fun _ _ => eqC_winM, ?_⟩ | refine ⟨fun _ _ => eqC_winB, ?_⟩ | refine ⟨fun _ _ => eqC_selfB, ?_⟩ | refine ⟨fun _ _ => eqC_mpB, ?_⟩)) ?_ (fun _ _ => trivial) ?_⟩
    · cases z
      all_goals
        (repeat first | exact trivial | refine ⟨rfl, ?_⟩ | refine ⟨fun _ _ => ⟨rfl, trivial⟩, ?_⟩ | refine ⟨fun _ _ => trivial, ?_⟩ | refine ⟨by omega, ?_⟩ | refine ⟨fun _ _ => eqC_winS, ?_⟩ | refine ⟨fun _ _ => eqC_winM, ?_⟩ | refine ⟨fun _ _ => eqC_winB, ?_⟩ | refine ⟨fun _ _ => eqC_selfB, ?_⟩ | refine ⟨fun _ _ => eqC_mpB, ?_⟩)
      refine ⟨fun j hj => eqC_win (fun i hi => ?_) j, ?_⟩
      · show winF o l.length (L l) (o + po k + i) = _
        rw [Nat.add_assoc, winF_at _ _ _ (by omega)]
      · (repeat first | exact trivial | refine ⟨rfl, ?_⟩ | refine ⟨fun _ _ => ⟨rfl, trivial⟩, ?_⟩ | refine ⟨fun _ _ => trivial, ?_⟩ | refine ⟨by omega, ?_⟩ | refine ⟨fun _ _ => eqC_winS, ?_⟩ | refine ⟨fun _ _ => eqC_winM, ?_⟩ | refine ⟨fun _ _ => eqC_winB, ?_⟩ | refine ⟨fun _ _ => eqC_selfB, ?_⟩ | refine ⟨fun _ _ => eqC_mpB, ?_⟩)
    · rintro x hs ⟨rfl, rfl⟩
      rw [hk1, hl1]
      refine ⟨⟨by omega, by omega⟩, k + 1, [0, 1, 2, 3, 4], ⟨⟨rfl, rfl, rfl⟩, ?_⟩, by dsimp only; omega, by dsimp only; omega⟩
      cases z
      all_goals
        (repeat first | exact trivial | refine ⟨rfl, ?_⟩ | refine ⟨fun _ _ => ⟨rfl, trivial⟩, ?_⟩ | refine ⟨fun _ _ => trivial, ?_⟩ | refine ⟨by omega, ?_⟩ | refine ⟨fun _ _ => eqC_winS, ?_⟩ | refine ⟨fun _ _ => eqC_winM, ?_⟩ | refine ⟨fun _ _ => eqC_winB, ?_⟩ | refine ⟨fun _ _ => eqC_selfB, ?_⟩ | refine ⟨fun _ _ => eqC_mpB, ?_⟩)
        refine ⟨fun j hj => eqC_parts0, ?_⟩
        (repeat first | exact trivial | refine ⟨rfl, ?_⟩ | refine ⟨fun _ _ => ⟨rfl, trivial⟩, ?_⟩ | refine ⟨fun _ _ => trivial, ?_⟩ | refine ⟨by omega, ?_⟩ | refine ⟨fun _ _ => eqC_winS, ?_⟩ | refine ⟨fun _ _ => eqC_winM, ?_⟩ | refine ⟨fun _ _ => eqC_winB, ?_⟩ | refine ⟨fun _ _ => eqC_selfB, ?_⟩ | refine ⟨fun _ _ => eqC_mpB, ?_⟩)
  · obtain rfl : k = m := by have : ¬ (k : Int) < (m : Int) := of_decide_eq_false h; have hk : k ≤ m := hk; omega
    obtain ⟨D, hD⟩ : ∃ D, pushL d0 (cat ps k) = D := ⟨_, rfl⟩
    have hDl : D.h < 64 := by rw [← hD]; exact pushL_lt (by decide) _
    obtain ⟨S, hS⟩ : ∃ S, sumL (cat ps k) = S := ⟨_, rfl⟩
    have hSL : ∀ i, i < 32 → endV D (BitVec.ofNat 64 (cat ps k).length) i = L S i := fun i hi => by rw [← hS, L_sumL _ hi, hD]
    rw [hD]
    refine ⟨by kernel_rfl, call_same (fn_send D (BitVec.ofNat 64 (cat ps k).length) hDl) [2, 4] rfl (by (repeat first | exact trivial | refine ⟨rfl, ?_⟩ | refine ⟨fun _ _ => ⟨rfl, trivial⟩, ?_⟩ | refine ⟨fun _ _ => trivial, ?_⟩ | refine ⟨by omega, ?_⟩ | refine ⟨fun _ _ => eqC_winS, ?_⟩ | refine ⟨fun _ _ => eqC_winM, ?_⟩ | refine ⟨fun _ _ => eqC_winB, ?_⟩ | refine ⟨fun _ _ => eqC_selfB, ?_⟩ | refine ⟨fun _ _ => eqC_mpB, ?_⟩)) (by (repeat first | exact trivial | refine ⟨rfl, ?_⟩ | refine ⟨fun _ _ => ⟨rfl, trivial⟩, ?_⟩ | refine ⟨fun _ _ => trivial, ?_⟩ | refine ⟨by omega, ?_⟩ | refine ⟨fun _ _ => eqC_winS, ?_⟩ | refine ⟨fun _ _ => eqC_winM, ?_⟩ | refine ⟨fun _ _ => eqC_winB, ?_⟩ | refine ⟨fun _ _ => eqC_selfB, ?_⟩ | refine ⟨fun _ _ => eqC_mpB, ?_⟩)) (fun _ _ => trivial) ?_⟩
    rintro x hs ⟨rfl, V', P', h', a', rfl⟩
    (repeat first | refine ⟨by omega, ?_⟩ | refine ⟨by decide, ?_⟩ | refine ⟨idx8 _, ?_⟩ | refine ⟨lt8 (Nat.le_refl _) _, ?_⟩ | refine ⟨rfl, ?_⟩)
    refine ⟨.a (.agg [.row 32 fun i => .w8 (L S i)]), [bts z N o l.length (L l), [.row M (partsF k fun i => .sn z 0 0 (o + po i) (pn i) (pc i))], shaT 1 0 first steps], ⟨[0, 1, 2], ⟨rfl, rfl, rfl⟩, ?_⟩, by rw [← hS], rfl⟩
    cases z
    all_goals
      (repeat first | exact trivial | refine ⟨rfl, ?_⟩ | refine ⟨fun _ _ => ⟨rfl, trivial⟩, ?_⟩ | refine ⟨fun _ _ => trivial, ?_⟩ | refine ⟨by omega, ?_⟩ | refine ⟨fun _ _ => eqC_winS, ?_⟩ | refine ⟨fun _ _ => eqC_winM, ?_⟩ | refine ⟨fun _ _ => eqC_winB, ?_⟩ | refine ⟨fun _ _ => eqC_selfB, ?_⟩ | refine ⟨fun _ _ => eqC_mpB, ?_⟩)
      refine ⟨fun j hj => eqC_w8 (congrArg SC.w8 (hSL j hj)), ?_⟩
      (repeat first | exact trivial | refine ⟨rfl, ?_⟩ | refine ⟨fun _ _ => ⟨rfl, trivial⟩, ?_⟩ | refine ⟨fun _ _ => trivial, ?_⟩ | refine ⟨by omega, ?_⟩ | refine ⟨fun _ _ => eqC_winS, ?_⟩ | refine ⟨fun _ _ => eqC_winM, ?_⟩ | refine ⟨fun _ _ => eqC_winB, ?_⟩ | refine ⟨fun _ _ => eqC_selfB, ?_⟩ | refine ⟨fun _ _ => eqC_mpB, ?_⟩)
      refine ⟨fun j hj => eqC_parts0, ?_⟩
      (repeat first | exact trivial | refine ⟨rfl, ?_⟩ | refine ⟨fun _ _ => ⟨rfl, trivial⟩, ?_⟩ | refine ⟨fun _ _ => trivial, ?_⟩ | refine ⟨by omega, ?_⟩ | refine ⟨fun _ _ => eqC_winS, ?_⟩ | refine ⟨fun _ _ => eqC_winM, ?_⟩ | refine ⟨fun _ _ => eqC_winB, ?_⟩ | refine ⟨fun _ _ => eqC_selfB, ?_⟩ | refine ⟨fun _ _ => eqC_mpB, ?_⟩)
end Sx
end Go.Proofs.Ytndlhhhebijknaa
end

section
/-
  SHA-256: a sum of at most three parts, each in a block of its own. No condition.
-/
namespace Go.Proofs.Ytndlhhhebijknaa
set_option linter.unusedVariables false
namespace Sha
def ps3 (l0 l1 l2 : Bs) : Nat → Bs
  | 0 => l0
  | 1 => l1
  | _ => l2
end Sha
namespace Sx
open Sha

theorem eqC_P3 {a b c : SC} {q : List Nat} {m : Nat} (hm : m ≤ 3) (h0 : eqC q a a True) (h1 : eqC q b b True) (h2 : eqC q c c True) {j : Nat} :
    eqC q (partsF m (nthC [a, b, c]) j) (partsF m (nthC [a, b, c]) j) True := eqC_partsS (fun i hi => by
  have : i = 0 ∨ i = 1 ∨ i = 2 := by omega
  rcases this with rfl | rfl | rfl
  · exact h0
  · exact h1
  · exact h2)
theorem eqC_P012 {q : List Nat} {m : Nat} (hm : m ≤ 3) {z0 z1 z2 : Bool} {o0 o1 o2 n0 n1 n2 c0 c1 c2 : Nat} {j : Nat} :
    eqC (0 :: 1 :: 2 :: q) (partsF m (nthC [.sn z0 0 0 o0 n0 c0, .sn z1 1 0 o1 n1 c1, .sn z2 2 0 o2 n2 c2]) j) (partsF m (nthC [.sn z0 0 0 o0 n0 c0, .sn z1 1 0 o1 n1 c1, .sn z2 2 0 o2 n2 c2]) j) True :=
  eqC_P3 (q := 0 :: 1 :: 2 :: q) (a := .sn z0 0 0 o0 n0 c0) (b := .sn z1 1 0 o1 n1 c1) (c := .sn z2 2 0 o2 n2 c2) hm ⟨rfl, rfl, rfl, rfl, trivial⟩ ⟨rfl, rfl, rfl, rfl, trivial⟩ ⟨rfl, rfl, rfl, rfl, trivial⟩
theorem eqC_bts {q : List Nat} {z : Bool} {N o n : Nat} {b : Nat → BitVec 8} {k : Prop} (hk : k) : eqSegs q (bts z N o n b) (bts z N o n b) k := by
  cases z
  · exact ⟨rfl, fun j hj => eqC_winS, hk⟩
  · exact hk
theorem eqC_btsM {q : List Nat} {g : Nat → Nat} {z : Bool} {N o n : Nat} {b : Nat → BitVec 8} {k : Prop} (hk : k) : eqSegs q (mpL g (bts z N o n b)) (bts z N o n b) k := by
  cases z
  · exact ⟨rfl, fun j hj => eqC_winM, hk⟩
  · exact hk
set_option maxRecDepth 20000 in
theorem fn_ssum3 (z0 z1 z2 : Bool) (N0 N1 N2 o0 o1 o2 c0 c1 c2 : Nat) (l0 l1 l2 : Bs) (cm M m : Nat) (dn : BitVec 32) (f s : Nat → BitVec 32) (hd : dn = 0#32 ∨ dn = 1#32 ∧ f = first ∧ s = steps)
    (hN0 : o0 + l0.length ≤ N0) (hN1 : o1 + l1.length ≤ N1) (hN2 : o2 + l2.length ≤ N2) (hc0 : l0.length ≤ c0) (hc1 : l1.length ≤ c1) (hc2 : l2.length ≤ c2)
    (hz0 : z0 = true → l0 = []) (hz1 : z1 = true → l1 = []) (hz2 : z2 = true → l2 = []) (hm : m ≤ M) (hM : m ≤ 3) :
    FnR Try.prog tds 18 4 [bts z0 N0 o0 l0.length (L l0), bts z1 N1 o1 l1.length (L l1), bts z2 N2 o2 l2.length (L l2), [.row M (partsF m (nthC [.sn z0 0 0 o0 l0.length c0, .sn z1 1 0 o1 l1.length c1, .sn z2 2 0 o2 l2.length c2]))], shaT dn 0 f s] [.c (.p 4 0 0), .c (.sl 3 0 0 m cm)] (fun _ => True)
      (fun x hs => x = .a (.agg [.row 32 fun i => .w8 (L (sumL (cat (ps3 l0 l1 l2) m)) i)]) ∧ hs = [bts z0 N0 o0 l0.length (L l0), bts z1 N1 o1 l1.length (L l1), bts z2 N2 o2 l2.length (L l2), [.row M (partsF m (nthC [.sn z0 0 0 o0 l0.length c0, .sn z1 1 0 o1 l1.length c1, .sn z2 2 0 o2 l2.length c2]))], shaT 1 0 first steps]) := by
  refine fn_of_body tds_ok follows_ Try.func18 rfl (t := [.a (.c (.p 4 0 0)), .a (.c (.sl 3 0 0 m cm)), .any, .any, .any, .any, .any, .any, .any, .any, .any, .any, .any, .any, .any, .any, .any, .any, .any, .any, .any, .any, .any]) rfl (fun w r0 hr _ => ?_)
  obtain ⟨x0, x1, x2, x3, x4, rfl⟩ := len5' hr
  refine ⟨fun h => Bool.noConfusion h, fun _ => ?_⟩
  refine ⟨by kernel_rfl, call_same (fn_begin dn f s hd) [4] rfl (by (repeat first | exact trivial | refine ⟨rfl, ?_⟩ | refine ⟨fun _ _ => ⟨rfl, trivial⟩, ?_⟩ | refine ⟨fun _ _ => trivial, ?_⟩ | refine ⟨by omega, ?_⟩ | refine ⟨fun _ _ => eqC_winS, ?_⟩ | refine ⟨fun _ _ => eqC_winM, ?_⟩ | refine ⟨fun _ _ => eqC_winB, ?_⟩ | refine ⟨fun _ _ => eqC_selfB, ?_⟩ | refine ⟨fun _ _ => eqC_mpB, ?_⟩)) (by (repeat first | exact trivial | refine ⟨rfl, ?_⟩ | refine ⟨fun _ _ => ⟨rfl, trivial⟩, ?_⟩ | refine ⟨fun _ _ => trivial, ?_⟩ | refine ⟨by omega, ?_⟩ | refine ⟨fun _ _ => eqC_winS, ?_⟩ | refine ⟨fun _ _ => eqC_winM, ?_⟩ | refine ⟨fun _ _ => eqC_winB, ?_⟩ | refine ⟨fun _ _ => eqC_selfB, ?_⟩ | refine ⟨fun _ _ => eqC_mpB, ?_⟩)) (fun _ _ => trivial) ?_⟩
  rintro x hs ⟨rfl, rfl⟩
  (repeat first | refine ⟨by omega, ?_⟩ | refine ⟨by decide, ?_⟩ | refine ⟨idx8 _, ?_⟩ | refine ⟨lt8 (Nat.le_refl _) _, ?_⟩ | refine ⟨rfl, ?_⟩)
  obtain ⟨ps, hps⟩ : ∃ ps, ps3 l0 l1 l2 = ps := ⟨_, rfl⟩
  rw [hps]
  have hl : ∀ (k : Nat) (l : Bs), ps k = l → pushN (pushL d0 (cat ps k)) (L l) l.length = pushL d0 (cat ps (k + 1)) ∧ BitVec.ofNat 64 (cat ps k).length + BitVec.ofNat 64 l.length = BitVec.ofNat 64 (cat ps (k + 1)).length := by
    rintro k l rfl
    refine ⟨by rw [pushN_L]; simp only [cat]; rw [pushL_app], by simp only [cat, List.length_append, ofNat_add64]⟩
  refine .inl ⟨Nat, fun k => ⟨[.any, .any, .any, .any, .a (.c (.p 5 0 0)), .a (.c (.p 6 0 0)), .any, .any, .any, .any, .any, .any, .any, .a (.c (.sl 3 0 0 m cm)), .a (.c (.int .i64 (↑m))), .a (.c (.int .i64 (↑k))), .any, .any, .any, .any, .any, .any, .any], [bts z0 N0 o0 l0.length (L l0), bts z1 N1 o1 l1.length (L l1), bts z2 N2 o2 l2.length (L l2), [.row M (partsF m (nthC [.sn z0 0 0 o0 l0.length c0, .sn z1 1 0 o1 l1.length c1, .sn z2 2 0 o2 l2.length c2]))], shaT 1 0 first steps, [.row 32 fun _ => .w8 0#8], digC 4 (pushL d0 (cat ps k)).V (pushL d0 (cat ps k)).P (pushL d0 (cat ps k)).h (BitVec.ofNat 64 (cat ps k).length)]⟩,
    fun k => k ≤ m, fun k => m - k, ⟨0, [0, 1, 2, 3, 4, 5, 6], ⟨⟨rfl, rfl, rfl⟩, ?_⟩, by omega⟩, fun k hk => ⟨fun h => ?_, fun h => ?_⟩⟩
  · (repeat first | exact trivial | refine ⟨rfl, ?_⟩ | refine ⟨fun _ _ => ⟨rfl, trivial⟩, ?_⟩ | refine ⟨fun _ _ => trivial, ?_⟩ | refine ⟨by omega, ?_⟩ | refine ⟨fun _ _ => eqC_winS, ?_⟩ | refine ⟨fun _ _ => eqC_winM, ?_⟩ | refine ⟨fun _ _ => eqC_winB, ?_⟩ | refine ⟨fun _ _ => eqC_selfB, ?_⟩ | refine ⟨fun _ _ => eqC_mpB, ?_⟩)
    refine eqC_bts (eqC_bts (eqC_bts ⟨rfl, fun j hj => eqC_P012 hM, ?_⟩))
    (repeat first | exact trivial | refine ⟨rfl, ?_⟩ | refine ⟨fun _ _ => ⟨rfl, trivial⟩, ?_⟩ | refine ⟨fun _ _ => trivial, ?_⟩ | refine ⟨by omega, ?_⟩ | refine ⟨fun _ _ => eqC_winS, ?_⟩ | refine ⟨fun _ _ => eqC_winM, ?_⟩ | refine ⟨fun _ _ => eqC_winB, ?_⟩ | refine ⟨fun _ _ => eqC_selfB, ?_⟩ | refine ⟨fun _ _ => eqC_mpB, ?_⟩)
  · have hlt : k < m := by have : (k : Int) < (m : Int) := of_decide_eq_true h; omega
    (repeat first | refine ⟨by omega, ?_⟩ | refine ⟨by decide, ?_⟩ | refine ⟨idx8 _, ?_⟩ | refine ⟨lt8 (Nat.le_refl _) _, ?_⟩)
    have e1 : (k : Int).toNat + 0 = k := by omega
    rw [e1]
    refine frc_parts hlt ?_
    obtain ⟨D, hD⟩ : ∃ D, pushL d0 (cat ps k) = D := ⟨_, rfl⟩
    have hDl : D.h < 64 := by rw [← hD]; exact pushL_lt (by decide) _
    rw [hD]
    have hk3 : k = 0 ∨ k = 1 ∨ k = 2 := by omega
    rcases hk3 with rfl | rfl | rfl
    · obtain ⟨hk1, hl1⟩ := hl 0 l0 (by rw [← hps]; rfl)
      rw [hD] at hk1
      refine ⟨by kernel_rfl, call_same (fn_swrite z0 l0.length c0 N0 o0 (L l0) D (BitVec.ofNat 64 (cat ps 0).length) hDl hN0 hc0 (fun h => by rw [hz0 h]; rfl)) [4, 0, 6] rfl (by (repeat first | exact trivial | refine ⟨rfl, ?_⟩ | refine ⟨fun _ _ => ⟨rfl, trivial⟩, ?_⟩ | refine ⟨fun _ _ => trivial, ?_⟩ | refine ⟨by omega, ?_⟩ | refine ⟨fun _ _ => eqC_winS, ?_⟩ | refine ⟨fun _ _ => eqC_winM, ?_⟩ | refine ⟨fun _ _ => eqC_winB, ?_⟩ | refine ⟨fun _ _ => eqC_selfB, ?_⟩ | refine ⟨fun _ _ => eqC_mpB, ?_⟩)) ?_ (fun _ _ => trivial) ?_⟩
      · (repeat first | exact trivial | refine ⟨rfl, ?_⟩ | refine ⟨fun _ _ => ⟨rfl, trivial⟩, ?_⟩ | refine ⟨fun _ _ => trivial, ?_⟩ | refine ⟨by omega, ?_⟩ | refine ⟨fun _ _ => eqC_winS, ?_⟩ | refine ⟨fun _ _ => eqC_winM, ?_⟩ | refine ⟨fun _ _ => eqC_winB, ?_⟩ | refine ⟨fun _ _ => eqC_selfB, ?_⟩ | refine ⟨fun _ _ => eqC_mpB, ?_⟩)
        refine eqC_bts ?_
        (repeat first | exact trivial | refine ⟨rfl, ?_⟩ | refine ⟨fun _ _ => ⟨rfl, trivial⟩, ?_⟩ | refine ⟨fun _ _ => trivial, ?_⟩ | refine ⟨by omega, ?_⟩ | refine ⟨fun _ _ => eqC_winS, ?_⟩ | refine ⟨fun _ _ => eqC_winM, ?_⟩ | refine ⟨fun _ _ => eqC_winB, ?_⟩ | refine ⟨fun _ _ => eqC_selfB, ?_⟩ | refine ⟨fun _ _ => eqC_mpB, ?_⟩)
      · rintro x hs ⟨rfl, rfl⟩
        rw [hk1, hl1]
        refine ⟨⟨by omega, by omega⟩, 1, [0, 1, 2, 3, 4, 5, 6], ⟨⟨rfl, rfl, rfl⟩, ?_⟩, by dsimp only; omega, by dsimp only; omega⟩
        (repeat first | exact trivial | refine ⟨rfl, ?_⟩ | refine ⟨fun _ _ => ⟨rfl, trivial⟩, ?_⟩ | refine ⟨fun _ _ => trivial, ?_⟩ | refine ⟨by omega, ?_⟩ | refine ⟨fun _ _ => eqC_winS, ?_⟩ | refine ⟨fun _ _ => eqC_winM, ?_⟩ | refine ⟨fun _ _ => eqC_winB, ?_⟩ | refine ⟨fun _ _ => eqC_selfB, ?_⟩ | refine ⟨fun _ _ => eqC_mpB, ?_⟩)
        refine eqC_bts (eqC_bts (eqC_bts ⟨rfl, fun j hj => eqC_P012 hM, ?_⟩))
        (repeat first | exact trivial | refine ⟨rfl, ?_⟩ | refine ⟨fun _ _ => ⟨rfl, trivial⟩, ?_⟩ | refine ⟨fun _ _ => trivial, ?_⟩ | refine ⟨by omega, ?_⟩ | refine ⟨fun _ _ => eqC_winS, ?_⟩ | refine ⟨fun _ _ => eqC_winM, ?_⟩ | refine ⟨fun _ _ => eqC_winB, ?_⟩ | refine ⟨fun _ _ => eqC_selfB, ?_⟩ | refine ⟨fun _ _ => eqC_mpB, ?_⟩)
    · obtain ⟨hk1, hl1⟩ := hl 1 l1 (by rw [← hps]; rfl)
      rw [hD] at hk1
      refine ⟨by kernel_rfl, call_same (fn_swrite z1 l1.length c1 N1 o1 (L l1) D (BitVec.ofNat 64 (cat ps 1).length) hDl hN1 hc1 (fun h => by rw [hz1 h]; rfl)) [4, 1, 6] rfl (by (repeat first | exact trivial | refine ⟨rfl, ?_⟩ | refine ⟨fun _ _ => ⟨rfl, trivial⟩, ?_⟩ | refine ⟨fun _ _ => trivial, ?_⟩ | refine ⟨by omega, ?_⟩ | refine ⟨fun _ _ => eqC_winS, ?_⟩ | refine ⟨fun _ _ => eqC_winM, ?_⟩ | refine ⟨fun _ _ => eqC_winB, ?_⟩ | refine ⟨fun _ _ => eqC_selfB, ?_⟩ | refine ⟨fun _ _ => eqC_mpB, ?_⟩)) ?_ (fun _ _ => trivial) ?_⟩
      · (repeat first | exact trivial | refine ⟨rfl, ?_⟩ | refine ⟨fun _ _ => ⟨rfl, trivial⟩, ?_⟩ | refine ⟨fun _ _ => trivial, ?_⟩ | refine ⟨by omega, ?_⟩ | refine ⟨fun _ _ => eqC_winS, ?_⟩ | refine ⟨fun _ _ => eqC_winM, ?_⟩ | refine ⟨fun _ _ => eqC_winB, ?_⟩ | refine ⟨fun _ _ => eqC_selfB, ?_⟩ | refine ⟨fun _ _ => eqC_mpB, ?_⟩)
        refine eqC_bts ?_
        (repeat first | exact trivial | refine ⟨rfl, ?_⟩ | refine ⟨fun _ _ => ⟨rfl, trivial⟩, ?_⟩ | refine ⟨fun _ _ => trivial, ?_⟩ | refine ⟨by omega, ?_⟩ | refine ⟨fun _ _ => eqC_winS, ?_⟩ | refine ⟨fun _ _ => eqC_winM, ?_⟩ | refine ⟨fun _ _ => eqC_winB, ?_⟩ | refine ⟨fun _ _ => eqC_selfB, ?_⟩ | refine ⟨fun _ _ => eqC_mpB, ?_⟩)
      · rintro x hs ⟨rfl, rfl⟩
        rw [hk1, hl1]
        refine ⟨⟨by omega, by omega⟩, 2, [0, 1, 2, 3, 4, 5, 6], ⟨⟨rfl, rfl, rfl⟩, ?_⟩, by dsimp only; omega, by dsimp only; omega⟩
        (repeat first | exact trivial | refine ⟨rfl, ?_⟩ | refine ⟨fun _ _ => ⟨rfl, trivial⟩, ?_⟩ | refine ⟨fun _ _ => trivial, ?_⟩ | refine ⟨by omega, ?_⟩ | refine ⟨fun _ _ => eqC_winS, ?_⟩ | refine ⟨fun _ _ => eqC_winM, ?_⟩ | refine ⟨fun _ _ => eqC_winB, ?_⟩ | refine ⟨fun _ _ => eqC_selfB, ?_⟩ | refine ⟨fun _ _ => eqC_mpB, ?_⟩)
        refine eqC_bts (eqC_bts (eqC_bts ⟨rfl, fun j hj => eqC_P012 hM, ?_⟩))
        (repeat first | exact trivial | refine ⟨rfl, ?_⟩ | refine ⟨fun _ _ => ⟨rfl, trivial⟩, ?_⟩ | refine ⟨fun _ _ => trivial, ?_⟩ | refine ⟨by omega, ?_⟩ | refine ⟨fun _ _ => eqC_winS, ?_⟩ | refine ⟨fun _ _ => eqC_winM, ?_⟩ | refine ⟨fun _ _ => eqC_winB, ?_⟩ | refine ⟨fun _ _ => eqC_selfB, ?_⟩ | refine ⟨fun _ _ => eqC_mpB, ?_⟩)
    · obtain ⟨hk1, hl1⟩ := hl 2 l2 (by rw [← hps]; rfl)
      rw [hD] at hk1
      refine ⟨by kernel_rfl, call_same (fn_swrite z2 l2.length c2 N2 o2 (L l2) D (BitVec.ofNat 64 (cat ps 2).length) hDl hN2 hc2 (fun h => by rw [hz2 h]; rfl)) [4, 2, 6] rfl (by (repeat first | exact trivial | refine ⟨rfl, ?_⟩ | refine ⟨fun _ _ => ⟨rfl, trivial⟩, ?_⟩ | refine ⟨fun _ _ => trivial, ?_⟩ | refine ⟨by omega, ?_⟩ | refine ⟨fun _ _ => eqC_winS, ?_⟩ | refine ⟨fun _ _ => eqC_winM, ?_⟩ | refine ⟨fun _ _ => eqC_winB, ?_⟩ | refine ⟨fun _ _ => eqC_selfB, ?_⟩ | refine ⟨fun _ _ => eqC_mpB, ?_⟩)) ?_ (fun _ _ => trivial) ?_⟩
      · (repeat first | exact trivial | refine ⟨rfl, ?_⟩ | refine ⟨fun _ _ => ⟨rfl, trivial⟩, ?_⟩ | refine ⟨fun _ _ => trivial, ?_⟩ | refine ⟨by omega, ?_⟩ | refine ⟨fun _ _ => eqC_winS, ?_⟩ | refine ⟨fun _ _ => eqC_winM, ?_⟩ | refine ⟨fun _ _ => eqC_winB, ?_⟩ | refine ⟨fun _ _ => eqC_selfB, ?_⟩ | refine ⟨fun _ _ => eqC_mpB, ?_⟩)
        refine eqC_bts ?_
        (repeat first | exact trivial | refine ⟨rfl, ?_⟩ | refine ⟨fun _ _ => ⟨rfl, trivial⟩, ?_⟩ | refine ⟨fun _ _ => trivial, ?_⟩ | refine ⟨by omega, ?_⟩ | refine ⟨fun _ _ => eqC_winS, ?_⟩ | refine ⟨fun _ _ => eqC_winM, ?_⟩ | refine ⟨fun _ _ => eqC_winB, ?_⟩ | refine ⟨fun _ _ => eqC_selfB, ?_⟩ | refine ⟨fun _ _ => eqC_mpB, ?_⟩)
      · rintro x hs ⟨rfl, rfl⟩
        rw [hk1, hl1]
        refine ⟨⟨by omega, by omega⟩, 3, [0, 1, 2, 3, 4, 5, 6], ⟨⟨rfl, rfl, rfl⟩, ?_⟩, by dsimp only; omega, by dsimp only; omega⟩
        (repeat first | exact trivial | refine ⟨rfl, ?_⟩ | refine ⟨fun _ _ => ⟨rfl, trivial⟩, ?_⟩ | refine ⟨fun _ _ => trivial, ?_⟩ | refine ⟨by omega, ?_⟩ | refine ⟨fun _ _ => eqC_winS, ?_⟩ | refine ⟨fun _ _ => eqC_winM, ?_⟩ | refine ⟨fun _ _ => eqC_winB, ?_⟩ | refine ⟨fun _ _ => eqC_selfB, ?_⟩ | refine ⟨fun _ _ => eqC_mpB, ?_⟩)
        refine eqC_bts (eqC_bts (eqC_bts ⟨rfl, fun j hj => eqC_P012 hM, ?_⟩))
        (repeat first | exact trivial | refine ⟨rfl, ?_⟩ | refine ⟨fun _ _ => ⟨rfl, trivial⟩, ?_⟩ | refine ⟨fun _ _ => trivial, ?_⟩ | refine ⟨by omega, ?_⟩ | refine ⟨fun _ _ => eqC_winS, ?_⟩ | refine ⟨fun _ _ => eqC_winM, ?_⟩ | refine ⟨fun _ _ => eqC_winB, ?_⟩ | refine ⟨fun _ _ => eqC_selfB, ?_⟩ | refine ⟨fun _ _ => eqC_mpB, ?_⟩)
  · obtain rfl : k = m := by have : ¬ (k : Int) < (m : Int) := of_decide_eq_false h; have hk : k ≤ m := hk; omega
    obtain ⟨D, hD⟩ : ∃ D, pushL d0 (cat ps k) = D := ⟨_, rfl⟩
    have hDl : D.h < 64 := by rw [← hD]; exact pushL_lt (by decide) _
    obtain ⟨S, hS⟩ : ∃ S, sumL (cat ps k) = S := ⟨_, rfl⟩
    have hSL : ∀ i, i < 32 → endV D (BitVec.ofNat 64 (cat ps k).length) i = L S i := fun i hi => by rw [← hS, L_sumL _ hi, hD]
    rw [hD]
    refine ⟨by kernel_rfl, call_same (fn_send D (BitVec.ofNat 64 (cat ps k).length) hDl) [4, 6] rfl (by (repeat first | exact trivial | refine ⟨rfl, ?_⟩ | refine ⟨fun _ _ => ⟨rfl, trivial⟩, ?_⟩ | refine ⟨fun _ _ => trivial, ?_⟩ | refine ⟨by omega, ?_⟩ | refine ⟨fun _ _ => eqC_winS, ?_⟩ | refine ⟨fun _ _ => eqC_winM, ?_⟩ | refine ⟨fun _ _ => eqC_winB, ?_⟩ | refine ⟨fun _ _ => eqC_selfB, ?_⟩ | refine ⟨fun _ _ => eqC_mpB, ?_⟩)) (by (repeat first | exact trivial | refine ⟨rfl, ?_⟩ | refine ⟨fun _ _ => ⟨rfl, trivial⟩, ?_⟩ | refine ⟨fun _ _ => trivial, ?_⟩ | refine ⟨by omega, ?_⟩ | refine ⟨fun _ _ => eqC_winS, ?_⟩ | refine ⟨fun _ _ => eqC_winM, ?_⟩ | refine ⟨fun _ _ => eqC_winB, ?_⟩ | refine ⟨fun _ _ => eqC_selfB, ?_⟩ | refine ⟨fun _ _ => eqC_mpB, ?_⟩)) (fun _ _ => trivial) ?_⟩
    rintro x hs ⟨rfl, V', P', h', a', rfl⟩
    (repeat first | refine ⟨by omega, ?_⟩ | refine ⟨by decide, ?_⟩ | refine ⟨idx8 _, ?_⟩ | refine ⟨lt8 (Nat.le_refl _) _, ?_⟩ | refine ⟨rfl, ?_⟩)
    refine ⟨.a (.agg [.row 32 fun i => .w8 (L S i)]), [bts z0 N0 o0 l0.length (L l0), bts z1 N1 o1 l1.length (L l1), bts z2 N2 o2 l2.length (L l2), [.row M (partsF k (nthC [.sn z0 0 0 o0 l0.length c0, .sn z1 1 0 o1 l1.length c1, .sn z2 2 0 o2 l2.length c2]))], shaT 1 0 first steps], ⟨[0, 1, 2, 3, 4], ⟨rfl, rfl, rfl⟩, ?_⟩, by rw [← hS], rfl⟩
    (repeat first | exact trivial | refine ⟨rfl, ?_⟩ | refine ⟨fun _ _ => ⟨rfl, trivial⟩, ?_⟩ | refine ⟨fun _ _ => trivial, ?_⟩ | refine ⟨by omega, ?_⟩ | refine ⟨fun _ _ => eqC_winS, ?_⟩ | refine ⟨fun _ _ => eqC_winM, ?_⟩ | refine ⟨fun _ _ => eqC_winB, ?_⟩ | refine ⟨fun _ _ => eqC_selfB, ?_⟩ | refine ⟨fun _ _ => eqC_mpB, ?_⟩)
    refine ⟨fun j hj => eqC_w8 (congrArg SC.w8 (hSL j hj)), ?_⟩
    refine eqC_bts (eqC_bts (eqC_bts ⟨rfl, fun j hj => eqC_P012 hM, ?_⟩))
    (repeat first | exact trivial | refine ⟨rfl, ?_⟩ | refine ⟨fun _ _ => ⟨rfl, trivial⟩, ?_⟩ | refine ⟨fun _ _ => trivial, ?_⟩ | refine ⟨by omega, ?_⟩ | refine ⟨fun _ _ => eqC_winS, ?_⟩ | refine ⟨fun _ _ => eqC_winM, ?_⟩ | refine ⟨fun _ _ => eqC_winB, ?_⟩ | refine ⟨fun _ _ => eqC_selfB, ?_⟩ | refine ⟨fun _ _ => eqC_mpB, ?_⟩)
end Sx
end Go.Proofs.Ytndlhhhebijknaa
end
