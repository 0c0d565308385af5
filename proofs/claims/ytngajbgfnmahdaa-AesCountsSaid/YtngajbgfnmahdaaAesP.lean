/-
  The field of 256: the program's way and the document's are one; round keys and blocks too. Plain. No condition.
-/
import Derived.Test.YtngajbgfnmahdaaAesM
namespace Go.Proofs.Ytngajbgfnmahdaa
namespace Aes

theorem all8 {P : BitVec 8 → Prop} (h : ∀ k, k < 256 → P (BitVec.ofNat 8 k)) (x : BitVec 8) : P x := by
  have := h x.toNat x.isLt
  rwa [BitVec.ofNat_toNat, BitVec.setWidth_eq] at this
theorem xswap (a b c d : BitVec 8) : (a ^^^ b) ^^^ (c ^^^ d) = (a ^^^ c) ^^^ (b ^^^ d) := by
  rw [BitVec.xor_assoc, BitVec.xor_assoc, ← BitVec.xor_assoc b c d, BitVec.xor_comm b c, BitVec.xor_assoc c b d]
theorem twice_bit : ∀ a : BitVec 8, twice a = a <<< 1 ^^^ (if a.getLsbD 7 then 27#8 else 0#8) := all8 (by decide +kernel)
theorem twice_xor (a b : BitVec 8) : twice (a ^^^ b) = twice a ^^^ twice b := by
  rw [twice_bit, twice_bit a, twice_bit b, BitVec.shiftLeft_xor_distrib, BitVec.getLsbD_xor, xswap]
  congr 1
  cases a.getLsbD 7 <;> cases b.getLsbD 7 <;> rfl
theorem bit_iff (b : BitVec 8) (k : Nat) : (b >>> k) &&& 1#8 = 1#8 ↔ b.getLsbD k = true := by
  have h : ∀ x : BitVec 8, (x &&& 1#8 = 1#8) ↔ x.getLsbD 0 = true := all8 (by decide +kernel)
  rw [h, BitVec.getLsbD_ushiftRight]
  simp
def pw (a : BitVec 8) : Nat → BitVec 8
  | 0 => a
  | k + 1 => twice (pw a k)
theorem pw_xor (a b : BitVec 8) : ∀ k, pw (a ^^^ b) k = pw a k ^^^ pw b k
  | 0 => rfl
  | k + 1 => by simp only [pw, pw_xor a b k, twice_xor]
theorem timesS_snd (b o a : BitVec 8) : ∀ k, (timesS b k (o, a)).2 = pw a k
  | 0 => rfl
  | k + 1 => by simp only [timesS, pw, timesS_snd b o a k]
def tm (a b : BitVec 8) : Nat → BitVec 8
  | 0 => 0#8
  | k + 1 => tm a b k ^^^ (if b.getLsbD k then pw a k else 0#8)
theorem timesS_fst (a b : BitVec 8) : ∀ k, (timesS b k (0#8, a)).1 = tm a b k
  | 0 => rfl
  | k + 1 => by
    simp only [timesS, tm, timesS_fst a b k, timesS_snd]
    by_cases h : b.getLsbD k = true
    · rw [if_pos ((bit_iff b k).2 h), if_pos h]
    · rw [if_neg (fun e => h ((bit_iff b k).1 e)), if_neg h, BitVec.xor_zero]
theorem times_tm (a b : BitVec 8) : times a b = tm a b 8 := timesS_fst a b 8
theorem tm_right (a b c : BitVec 8) : ∀ k, tm a (b ^^^ c) k = tm a b k ^^^ tm a c k
  | 0 => by simp [tm]
  | k + 1 => by
    simp only [tm, tm_right a b c k]
    rw [xswap, BitVec.getLsbD_xor]
    congr 1
    cases b.getLsbD k <;> cases c.getLsbD k <;> simp
theorem tm_left (a b c : BitVec 8) : ∀ k, tm (a ^^^ b) c k = tm a c k ^^^ tm b c k
  | 0 => by simp [tm]
  | k + 1 => by
    simp only [tm, tm_left a b c k]
    rw [xswap, pw_xor]
    congr 1
    cases c.getLsbD k <;> simp
theorem times_right (a b c : BitVec 8) : times a (b ^^^ c) = times a b ^^^ times a c := by rw [times_tm, times_tm, times_tm, tm_right]
theorem times_left (a b c : BitVec 8) : times (a ^^^ b) c = times a c ^^^ times b c := by rw [times_tm, times_tm, times_tm, tm_left]
/-- What is added part by part is known by what it does to the eight bits. -/
theorem lin_ext {f g : BitVec 8 → BitVec 8} (hf : ∀ x y, f (x ^^^ y) = f x ^^^ f y) (hg : ∀ x y, g (x ^^^ y) = g x ^^^ g y)
    (h : ∀ k, k < 8 → f (1#8 <<< k) = g (1#8 <<< k)) (x : BitVec 8) : f x = g x := by
  have z : ∀ {u : BitVec 8 → BitVec 8}, (∀ x y, u (x ^^^ y) = u x ^^^ u y) → u 0#8 = 0#8 := fun {u} hu => by
    have := hu 0#8 0#8
    rwa [BitVec.xor_self, BitVec.xor_self] at this
  have d : ∀ x : BitVec 8, x = (x &&& (1#8 <<< 0)) ^^^ ((x &&& (1#8 <<< 1)) ^^^ ((x &&& (1#8 <<< 2)) ^^^ ((x &&& (1#8 <<< 3)) ^^^ ((x &&& (1#8 <<< 4)) ^^^ ((x &&& (1#8 <<< 5)) ^^^ ((x &&& (1#8 <<< 6)) ^^^ (x &&& (1#8 <<< 7)))))))) := all8 (by decide +kernel)
  have o : ∀ k, k < 8 → ∀ m, m < 256 → BitVec.ofNat 8 m &&& (1#8 <<< k) = 0#8 ∨ BitVec.ofNat 8 m &&& (1#8 <<< k) = 1#8 <<< k := by decide +kernel
  have e : ∀ k, k < 8 → ∀ x : BitVec 8, f (x &&& (1#8 <<< k)) = g (x &&& (1#8 <<< k)) := fun k hk => all8 fun m hm => by
    rcases o k hk m hm with p | p <;> rw [p]
    · rw [z hf, z hg]
    · exact h k hk
  rw [d x]
  simp only [hf, hg]
  rw [e 0 (by omega), e 1 (by omega), e 2 (by omega), e 3 (by omega), e 4 (by omega), e 5 (by omega), e 6 (by omega), e 7 (by omega)]
theorem bi_ext {f g : BitVec 8 → BitVec 8 → BitVec 8} (hf1 : ∀ x y z, f (x ^^^ y) z = f x z ^^^ f y z) (hf2 : ∀ x y z, f x (y ^^^ z) = f x y ^^^ f x z)
    (hg1 : ∀ x y z, g (x ^^^ y) z = g x z ^^^ g y z) (hg2 : ∀ x y z, g x (y ^^^ z) = g x y ^^^ g x z)
    (h : ∀ i, i < 8 → ∀ k, k < 8 → f (1#8 <<< i) (1#8 <<< k) = g (1#8 <<< i) (1#8 <<< k)) (x y : BitVec 8) : f x y = g x y :=
  lin_ext (f := f x) (g := g x) (hf2 x) (hg2 x) (fun k hk => lin_ext (f := fun x => f x (1#8 <<< k)) (g := fun x => g x (1#8 <<< k)) (fun a b => hf1 a b _) (fun a b => hg1 a b _) (fun i hi => h i hi k hk) x) y
theorem times_comm (a b : BitVec 8) : times a b = times b a :=
  bi_ext (f := times) (g := fun a b => times b a) times_left times_right (fun x y z => times_right z x y) (fun x y z => times_left y z x) (by decide +kernel) a b
theorem times_assoc (a b c : BitVec 8) : times a (times b c) = times (times a b) c :=
  lin_ext (f := fun a => times a (times b c)) (g := fun a => times (times a b) c) (fun x y => times_left x y _) (fun x y => by rw [times_left, times_left])
    (fun i hi => bi_ext (f := fun b c => times (1#8 <<< i) (times b c)) (g := fun b c => times (times (1#8 <<< i) b) c) (fun x y z => by rw [times_left, times_right]) (fun x y z => by rw [times_right, times_right]) (fun x y z => by rw [times_right, times_left]) (fun x y z => times_right _ y z)
      (fun j hj k hk => (by decide +kernel : ∀ i, i < 8 → ∀ j, j < 8 → ∀ k, k < 8 → times (1#8 <<< i) (times (1#8 <<< j) (1#8 <<< k)) = times (times (1#8 <<< i) (1#8 <<< j)) (1#8 <<< k)) i hi j hj k hk) b c) a
/-! The document's product. -/
theorem nswap (a b c d : Nat) : (a ^^^ b) ^^^ (c ^^^ d) = (a ^^^ c) ^^^ (b ^^^ d) := by
  rw [Nat.xor_assoc, Nat.xor_assoc, ← Nat.xor_assoc b c d, Nat.xor_comm b c, Nat.xor_assoc c b d]
theorem rT1_step (a b : BitVec 8) (k : Nat) : rT1 a b (k + 1) = rT1 a b k ^^^ (if b.getLsbD k then a.toNat * 2 ^ k else 0) := by
  simp only [rT1]
  by_cases h : b.getLsbD k = true
  · rw [if_pos ((bit_iff b k).2 h), if_pos h]
  · rw [if_neg (fun e => h ((bit_iff b k).1 e)), if_neg h, Nat.xor_zero]
theorem rT1_right (a b c : BitVec 8) : ∀ k, rT1 a (b ^^^ c) k = rT1 a b k ^^^ rT1 a c k
  | 0 => by simp [rT1]
  | k + 1 => by
    rw [rT1_step, rT1_step, rT1_step, rT1_right a b c k, nswap, BitVec.getLsbD_xor]
    congr 1
    cases b.getLsbD k <;> cases c.getLsbD k <;> simp
theorem mul_xor (x y k : Nat) : (x ^^^ y) * 2 ^ k = x * 2 ^ k ^^^ y * 2 ^ k := by
  rw [← Nat.shiftLeft_eq, ← Nat.shiftLeft_eq, ← Nat.shiftLeft_eq, Nat.shiftLeft_xor_distrib]
theorem rT1_left (a b c : BitVec 8) : ∀ k, rT1 (a ^^^ b) c k = rT1 a c k ^^^ rT1 b c k
  | 0 => by simp [rT1]
  | k + 1 => by
    rw [rT1_step, rT1_step, rT1_step, rT1_left a b c k, nswap, BitVec.toNat_xor]
    congr 1
    cases c.getLsbD k
    · exact (Nat.xor_self 0).symm
    · exact mul_xor _ _ _
theorem nbit_iff (n k : Nat) : (n / 2 ^ k) &&& 1 = 1 ↔ n.testBit k = true := by
  rw [Nat.and_one_is_mod, Nat.testBit_eq_decide_div_mod_eq]
  simp
theorem rT2_step (n j : Nat) : rT2 n (j + 1) = rT2 n j ^^^ (if (rT2 n j).testBit (14 - j) then 283 * 2 ^ (14 - j - 8) else 0) := by
  simp only [rT2]
  by_cases h : (rT2 n j).testBit (14 - j) = true
  · rw [if_pos ((nbit_iff _ _).2 h), if_pos h]
  · rw [if_neg (fun e => h ((nbit_iff _ _).1 e)), if_neg h, Nat.xor_zero]
theorem rT2_xor (n m : Nat) : ∀ j, rT2 (n ^^^ m) j = rT2 n j ^^^ rT2 m j
  | 0 => rfl
  | j + 1 => by
    rw [rT2_step, rT2_step, rT2_step, rT2_xor n m j, nswap, Nat.testBit_xor]
    congr 1
    cases (rT2 n j).testBit (14 - j) <;> cases (rT2 m j).testBit (14 - j) <;> simp
theorem ofNat_xor8 (x y : Nat) : BitVec.ofNat 8 (x ^^^ y) = BitVec.ofNat 8 x ^^^ BitVec.ofNat 8 y := by
  apply BitVec.eq_of_toNat_eq
  simp [BitVec.toNat_xor]
theorem ref_right (a b c : BitVec 8) : refTimes a (b ^^^ c) = refTimes a b ^^^ refTimes a c := by
  unfold refTimes; rw [rT1_right, rT2_xor, ofNat_xor8]
theorem ref_left (a b c : BitVec 8) : refTimes (a ^^^ b) c = refTimes a c ^^^ refTimes b c := by
  unfold refTimes; rw [rT1_left, rT2_xor, ofNat_xor8]
theorem ref_times (a b : BitVec 8) : refTimes a b = times a b :=
  bi_ext (f := refTimes) (g := times) ref_left ref_right times_left times_right (by decide +kernel) a b
/-! Inverses. -/
theorem times_inv : ∀ a : BitVec 8, a ≠ 0#8 → times a (inverse a) = 1#8 := all8 (by decide +kernel)
theorem times_one : ∀ a : BitVec 8, times 1#8 a = a := all8 (by decide +kernel)
theorem times_zero : ∀ a : BitVec 8, times 0#8 a = 0#8 := all8 (by decide +kernel)
theorem inv_uniq {a x : BitVec 8} (h : times a x = 1#8) : x = inverse a := by
  have ha : a ≠ 0#8 := by
    rintro rfl
    rw [times_zero] at h
    exact absurd h (by decide)
  calc x = times 1#8 x := (times_one x).symm
    _ = times (times a (inverse a)) x := by rw [times_inv a ha]
    _ = times (inverse a) (times a x) := by rw [times_comm a, times_assoc]
    _ = inverse a := by rw [h, times_comm, times_one]
theorem inverse_zero : inverse 0#8 = 0#8 := by decide +kernel
theorem refFind_eq (a : BitVec 8) : ∀ k, k ≤ 255 → refFind a k = if (inverse a).toNat ≤ k then inverse a else 0#8
  | 0, _ => by
    simp only [refFind]
    split
    · rename_i h
      exact (BitVec.eq_of_toNat_eq (by simpa using h)).symm
    · rfl
  | k + 1, hk => by
    simp only [refFind, refFind_eq a k (by omega), ref_times]
    have e : (BitVec.ofNat 8 (k + 1)).toNat = k + 1 := by rw [BitVec.toNat_ofNat]; omega
    by_cases h : times a (BitVec.ofNat 8 (k + 1)) = 1#8
    · rw [if_pos h, ← inv_uniq h, e, if_pos (Nat.le_refl _)]
    · rw [if_neg h]
      by_cases h1 : (inverse a).toNat ≤ k
      · rw [if_pos h1, if_pos (by omega)]
      · rw [if_neg h1]
        by_cases h2 : (inverse a).toNat ≤ k + 1
        · exfalso
          have h3 : inverse a = BitVec.ofNat 8 (k + 1) := BitVec.eq_of_toNat_eq (by rw [e]; omega)
          have h4 : a ≠ 0#8 := by
            rintro rfl
            rw [inverse_zero] at h1
            exact h1 (Nat.zero_le _)
          rw [← h3] at h
          exact h (times_inv a h4)
        · rw [if_neg h2]
theorem refBox_eq (a : BitVec 8) : refBox a = box a := by
  unfold refBox box
  rw [refFind_eq a 255 (by omega), if_pos (by have := (inverse a).isLt; omega)]
  have h : ∀ i : BitVec 8, refBoxS i 5 = boxS i 4 := all8 (by decide +kernel)
  exact h _
/-! Columns. -/
theorem times2 : ∀ a : BitVec 8, times 2#8 a = twice a := all8 (by decide +kernel)
theorem times3 : ∀ a : BitVec 8, times 3#8 a = twice a ^^^ a := all8 (by decide +kernel)
theorem rMix_eq (b : Nat → BitVec 8) (i : Nat) : rMixAt b i = mixAt b i := by
  unfold rMixAt mixAt
  rw [ref_times, ref_times, times2, times3]
  simp only [BitVec.xor_assoc]
theorem mixAt_congr {s t : Nat → BitVec 8} (h : ∀ i, i < 16 → s i = t i) (i : Nat) (hi : i < 16) : mixAt s i = mixAt t i := by
  unfold mixAt
  rw [h i hi, h _ (by omega), h _ (by omega), h _ (by omega)]
theorem shiftAt_congr {s t : Nat → BitVec 8} (h : ∀ i, i < 16 → s i = t i) (i : Nat) (hi : i < 16) : shiftAt s i = shiftAt t i := by
  unfold shiftAt
  rw [h _ (by omega)]
/-! Round keys. -/
section
variable {B : Nat → BitVec 8} (hB : ∀ x : BitVec 8, B x.toNat = box x) (key : Nat → BitVec 8)
include hB
theorem rKey_step (r : Nat) (h0 : (rKeyS B key (4 * r)).2 = (pKeyS key r).2) (h : ∀ j, j < 16 * (r + 1) → (rKeyS B key (4 * r)).1 j = (pKeyS key r).1 j) :
    ∀ c, c ≤ 4 → (rKeyS B key (4 * r + c)).2 = (if c = 0 then (pKeyS key r).2 else times (pKeyS key r).2 2#8) ∧
      ∀ j, j < 16 * (r + 1) + 4 * c → (rKeyS B key (4 * r + c)).1 j = if j < 16 * (r + 1) then (pKeyS key r).1 j else pNow (fun j => (pKeyS key r).1 (16 * r + j)) (pKeyS key r).2 (j - 16 * (r + 1))
  | 0, _ => ⟨h0, fun j hj => by rw [if_pos (by omega)]; exact h j (by omega)⟩
  | c + 1, hc => by
    obtain ⟨i0, ih⟩ := rKey_step r h0 h c (by omega)
    refine ⟨?_, fun j hj => ?_⟩
    · show (if (4 * r + c + 4) % 4 = 0 then refTimes (rKeyS B key (4 * r + c)).2 2#8 else (rKeyS B key (4 * r + c)).2) = _
      rw [if_neg (show ¬ c + 1 = 0 by omega), i0, ref_times]
      by_cases hc0 : c = 0
      · subst hc0
        rw [if_pos (by omega), if_pos rfl]
      · rw [if_neg (by omega), if_neg hc0]
    · show (if j < 4 * (4 * r + c + 4) then (rKeyS B key (4 * r + c)).1 j else (rKeyS B key (4 * r + c)).1 (j - 16) ^^^ rWord B (rKeyS B key (4 * r + c)).1 (rKeyS B key (4 * r + c)).2 (4 * r + c + 4) (j - 4 * (4 * r + c + 4))) = _
      by_cases hj1 : j < 4 * (4 * r + c + 4)
      · rw [if_pos hj1]; exact ih j (by omega)
      · rw [if_neg hj1, if_neg (by omega)]
        obtain ⟨i, rfl⟩ : ∃ i, j = 16 * (r + 1) + 4 * c + i := ⟨j - (16 * (r + 1) + 4 * c), by omega⟩
        have hi : i < 4 := by omega
        rw [show 16 * (r + 1) + 4 * c + i - 4 * (4 * r + c + 4) = i by omega, show 16 * (r + 1) + 4 * c + i - 16 * (r + 1) = 4 * c + i by omega]
        unfold pNow
        rw [show (4 * c + i) / 4 = c by omega, show (4 * c + i) % 4 = i by omega]
        rw [ih _ (by omega)]
        rw [if_pos (by omega), show 16 * (r + 1) + 4 * c + i - 16 = 16 * r + (4 * c + i) by omega]
        unfold rWord
        by_cases hc0 : c = 0
        · subst hc0
          rw [if_pos (by omega), i0, if_pos rfl]
          simp only [pW]
          by_cases hi0 : i = 0
          · subst hi0
            rw [if_pos rfl, if_pos rfl, ih _ (by omega), if_pos (by omega), hB, show 4 * (4 * r + 0 + 4) - 4 + 1 = 16 * r + 13 by omega]
            show _ = (pKeyS key r).1 (16 * r + 0) ^^^ _ ^^^ _
            rw [BitVec.xor_assoc]
          · rw [if_neg hi0, if_neg hi0, ih _ (by omega), if_pos (by omega), hB, show 4 * (4 * r + 0 + 4) - 4 + (i + 1) % 4 = 16 * r + (12 + (i + 1) % 4) by omega, show 4 * 0 + i = i by omega]
        · rw [if_neg (by omega)]
          obtain ⟨c, rfl⟩ : ∃ d, c = d + 1 := ⟨c - 1, by omega⟩
          rw [ih _ (by omega), if_neg (by omega)]
          unfold pNow
          rw [show (4 * (4 * r + (c + 1) + 4) - 4 + i - 16 * (r + 1)) / 4 = c by omega, show (4 * (4 * r + (c + 1) + 4) - 4 + i - 16 * (r + 1)) % 4 = i by omega]
          rfl
theorem rKey_eq (r : Nat) : (rKeyS B key (4 * r)).2 = (pKeyS key r).2 ∧ ∀ j, j < 16 * (r + 1) → (rKeyS B key (4 * r)).1 j = (pKeyS key r).1 j := by
  induction r with
  | zero => exact ⟨rfl, fun j _ => rfl⟩
  | succ r ih =>
    have e := rKey_step hB key r ih.1 ih.2 4 (by omega)
    rw [show 4 * (r + 1) = 4 * r + 4 by omega]
    generalize rKeyS B key (4 * r + 4) = s at e ⊢
    refine ⟨e.1.trans (if_neg (by omega)), fun j hj => (e.2 j (by omega)).trans ?_⟩
    rfl
theorem rKeys_eq (j : Nat) (hj : j < 176) : rKeys B key j = pKeys key j := (rKey_eq hB key 10).2 j hj
theorem rShift_eq (s : Nat → BitVec 8) (j : Nat) : rShift B s j = shiftAt s j := hB _
theorem rTurn_eq (block : Nat → BitVec 8) : ∀ r, r ≤ 9 → ∀ i, i < 16 → rTurnS B key block r i = pTurnS key block r i
  | 0, _, i, hi => by simp only [rTurnS, pTurnS, rKeys_eq hB key i (by omega)]
  | r + 1, hr, i, hi => by
    simp only [rTurnS, pTurnS]
    rw [rKeys_eq hB key _ (by omega), if_pos (by omega), rMix_eq, show rShift B (rTurnS B key block r) = shiftAt (rTurnS B key block r) from funext fun j => rShift_eq hB _ j]
    rw [mixAt_congr (shiftAt_congr (rTurn_eq block r (by omega))) i hi]
omit hB in
theorem rTurnS_succ (block : Nat → BitVec 8) (r i : Nat) : rTurnS B key block (r + 1) i = (if r + 1 < 10 then rMixAt (rShift B (rTurnS B key block r)) else rShift B (rTurnS B key block r)) i ^^^ rKeys B key (16 * (r + 1) + i) := rfl
theorem turn_eq (block : Nat → BitVec 8) (i : Nat) (hi : i < 16) : rTurnS B key block 10 i = pTurn key block i := by
  have h9 := rTurn_eq hB key block 9 (by omega)
  rw [show 10 = 9 + 1 from rfl, rTurnS_succ]
  unfold pTurn
  generalize rTurnS B key block 9 = s at h9 ⊢
  generalize pTurnS key block 9 = t at h9 ⊢
  rw [rKeys_eq hB key _ (by omega), if_neg (by omega), rShift_eq hB, shiftAt_congr h9 i hi]
end
end Aes
end Go.Proofs.Ytngajbgfnmahdaa
