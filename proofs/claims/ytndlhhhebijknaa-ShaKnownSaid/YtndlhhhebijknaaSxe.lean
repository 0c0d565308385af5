/-
  What the operations on single values do. Over any program. No condition of its own.
-/
import Derived.Test.YtndlhhhebijknaaSxd
namespace Go.Proofs.Ytndlhhhebijknaa
set_option linter.unusedVariables false
namespace Sx
open Go.RowKit

theorem wrap_i64 {n : Int} (h : -9223372036854775808 ≤ n ∧ n ≤ 9223372036854775807) : IntKind.i64.wrap n = n := by
  unfold IntKind.wrap IntKind.bits IntKind.signed
  simp only [Bool.true_and, decide_eq_true_eq]
  have h2 : ((2 : Int) ^ 64) = 18446744073709551616 := by decide
  have h3 : ((2 : Int) ^ (64 - 1)) = 9223372036854775808 := by decide
  rw [h2, h3]
  split <;> omega
theorem wrap_u {k : IntKind} (hk : k.signed = false) (n : Int) : k.wrap n = n % ((2 ^ k.bits : Nat) : Int) := by
  unfold IntKind.wrap
  simp [hk]
theorem wrap_nat {k : IntKind} (hk : k.signed = false) (n : Nat) : k.wrap (n : Int) = ((n % 2 ^ k.bits : Nat) : Int) := by
  rw [wrap_u hk]; rfl
theorem wrap_w {k : IntKind} (hk : k.signed = false) (x : BitVec k.bits) : k.wrap (x.toNat : Int) = (x.toNat : Int) := by
  rw [wrap_nat hk, Nat.mod_eq_of_lt x.isLt]
theorem ofInt_w {n : Nat} (x : BitVec n) : BitVec.ofInt n (x.toNat : Int) = x := by
  rw [BitVec.ofInt_natCast]; simp

section
variable {k : IntKind}
theorem u_add (hk : k.signed = false) (x y : BitVec k.bits) : k.wrap ((x.toNat : Int) + y.toNat) = ((x + y).toNat : Int) := by
  rw [← Int.natCast_add, wrap_nat hk, BitVec.toNat_add]
theorem u_mul (hk : k.signed = false) (x y : BitVec k.bits) : k.wrap ((x.toNat : Int) * y.toNat) = ((x * y).toNat : Int) := by
  rw [← Int.natCast_mul, wrap_nat hk, BitVec.toNat_mul]
theorem u_sub (hk : k.signed = false) (x y : BitVec k.bits) : k.wrap ((x.toNat : Int) - y.toNat) = ((x - y).toNat : Int) := by
  have hx := x.isLt
  have hy := y.isLt
  rw [wrap_u hk, BitVec.toNat_sub]
  generalize 2 ^ k.bits = n at *
  have e : ((x.toNat : Int) - y.toNat) % (n : Int) = ((n - y.toNat + x.toNat : Nat) : Int) % (n : Int) := by
    rw [show ((n - y.toNat + x.toNat : Nat) : Int) = (x.toNat : Int) - y.toNat + n by omega, Int.add_emod_right]
  rw [e]; rfl
theorem u_div (hk : k.signed = false) (x y : BitVec k.bits) : k.wrap ((x.toNat : Int).tdiv y.toNat) = ((x / y).toNat : Int) := by
  rw [Int.tdiv_eq_ediv_of_nonneg (Int.natCast_nonneg _), ← Int.natCast_ediv, wrap_nat hk, Nat.mod_eq_of_lt (Nat.lt_of_le_of_lt (Nat.div_le_self _ _) x.isLt)]; simp
theorem u_rem (x y : BitVec k.bits) : ((x.toNat : Int).tmod y.toNat) = ((x % y).toNat : Int) := by
  rw [Int.tmod_eq_emod_of_nonneg (Int.natCast_nonneg _), ← Int.natCast_emod]; simp
theorem u_eq (x y : BitVec k.bits) : ((x.toNat : Int) == y.toNat) = decide (x = y) := by
  rw [Bool.eq_iff_iff]; simp only [beq_iff_eq, decide_eq_true_eq]
  exact ⟨fun h => BitVec.eq_of_toNat_eq (by omega), fun h => by rw [h]⟩
theorem u_ne (x y : BitVec k.bits) : ((x.toNat : Int) != y.toNat) = decide (x ≠ y) := by
  rw [Bool.eq_iff_iff]; simp only [bne_iff_ne, decide_eq_true_eq]
  exact ⟨fun h e => h (by rw [e]), fun h e => h (BitVec.eq_of_toNat_eq (by omega))⟩
theorem u_lt (x y : BitVec k.bits) : decide ((x.toNat : Int) < y.toNat) = decide (x < y) := by
  rw [Bool.eq_iff_iff]; simp [BitVec.lt_def]
theorem u_le (x y : BitVec k.bits) : decide ((x.toNat : Int) ≤ y.toNat) = decide (x ≤ y) := by
  rw [Bool.eq_iff_iff]; simp [BitVec.le_def]
theorem u_shl (hk : k.signed = false) (x : BitVec k.bits) (n : Nat) : k.wrap ((x.toNat : Int) * 2 ^ (min n k.bits)) = ((x <<< n).toNat : Int) := by
  have e : ((x.toNat : Int) * 2 ^ (min n k.bits)) = ((x.toNat * 2 ^ (min n k.bits) : Nat) : Int) := by simp
  rw [e, wrap_nat hk, BitVec.toNat_shiftLeft, Nat.shiftLeft_eq]
  rcases Nat.le_total n k.bits with h | h
  · rw [Nat.min_eq_left h]
  · rw [Nat.min_eq_right h]
    have h1 : x.toNat * 2 ^ n = 2 ^ k.bits * (x.toNat * 2 ^ (n - k.bits)) := by
      rw [Nat.mul_left_comm, ← Nat.pow_add]; congr 2; omega
    rw [h1, Nat.mul_mod_right, Nat.mul_mod_left]
theorem u_shr (x : BitVec k.bits) (n : Nat) : (x.toNat : Int).fdiv (2 ^ (min n k.bits)) = ((x >>> n).toNat : Int) := by
  have e : ((2 : Int) ^ (min n k.bits)) = ((2 ^ (min n k.bits) : Nat) : Int) := by simp
  rw [e, Int.fdiv_eq_ediv_of_nonneg _ (Int.natCast_nonneg _), ← Int.natCast_ediv, BitVec.toNat_ushiftRight, Nat.shiftRight_eq_div_pow]
  rcases Nat.le_total n k.bits with h | h
  · rw [Nat.min_eq_left h]
  · rw [Nat.min_eq_right h, Nat.div_eq_of_lt x.isLt, Nat.div_eq_of_lt (Nat.lt_of_lt_of_le x.isLt (Nat.pow_le_pow_right (by omega) h))]
end

section
variable {P : Program}
/-- Two words. -/
theorem wbin_spec {k : IntKind} (mk : BitVec k.bits → SC) (hmk : ∀ r x, (mk x).Is r (.int k (x.toNat : Int))) (hk : k.signed = false) {op : BinOp} {x y : BitVec k.bits} {K : SC → Prop} (t : TypeId) (h : wbin mk op x y K) :
    ∃ z q, K z ∧ (∀ r, z.Is r q) ∧ ∀ w : World, (binOp op t (.int k (x.toNat : Int)) (.int k (y.toNat : Int))).run P w = .ok q w := by
  cases op <;> simp only [wbin] at h
  case add => exact ⟨_, _, h, fun r => hmk r _, fun w => by simp only [binOp, Op.intArith, ne_eq, not_true_eq_false, if_false]; rw [u_add hk]; rfl⟩
  case sub => exact ⟨_, _, h, fun r => hmk r _, fun w => by simp only [binOp, Op.intArith, ne_eq, not_true_eq_false, if_false]; rw [u_sub hk]; rfl⟩
  case mul => exact ⟨_, _, h, fun r => hmk r _, fun w => by simp only [binOp, Op.intArith, ne_eq, not_true_eq_false, if_false]; rw [u_mul hk]; rfl⟩
  case and => exact ⟨_, _, h, fun r => hmk r _, fun w => by simp only [binOp, Op.intBits, ne_eq, not_true_eq_false, if_false, ofInt_w]; rw [wrap_w hk]; rfl⟩
  case or => exact ⟨_, _, h, fun r => hmk r _, fun w => by simp only [binOp, Op.intBits, ne_eq, not_true_eq_false, if_false, ofInt_w]; rw [wrap_w hk]; rfl⟩
  case xor => exact ⟨_, _, h, fun r => hmk r _, fun w => by simp only [binOp, Op.intBits, ne_eq, not_true_eq_false, if_false, ofInt_w]; rw [wrap_w hk]; rfl⟩
  case andNot => exact ⟨_, _, h, fun r => hmk r _, fun w => by simp only [binOp, Op.intBits, ne_eq, not_true_eq_false, if_false, ofInt_w]; rw [wrap_w hk]; rfl⟩
  case quo =>
    have hy : ((y.toNat : Int)) ≠ 0 := fun e => h.1 (BitVec.eq_of_toNat_eq (by simpa using e))
    exact ⟨_, _, h.2, fun r => hmk r _, fun w => by simp only [binOp, Op.intDiv, ne_eq, not_true_eq_false, if_false, if_neg hy]; rw [u_div hk]; rfl⟩
  case rem =>
    have hy : ((y.toNat : Int)) ≠ 0 := fun e => h.1 (BitVec.eq_of_toNat_eq (by simpa using e))
    exact ⟨_, _, h.2, fun r => hmk r _, fun w => by simp only [binOp, Op.intDiv, ne_eq, not_true_eq_false, if_false, if_neg hy]; rw [u_rem]; rfl⟩
  case eql => exact ⟨_, _, h, fun r => rfl, fun w => by simp only [binOp, Op.intCmp, ne_eq, not_true_eq_false, if_false]; rw [u_eq]; rfl⟩
  case neq => exact ⟨_, _, h, fun r => rfl, fun w => by simp only [binOp, Op.intCmp, ne_eq, not_true_eq_false, if_false]; rw [u_ne]; rfl⟩
  case lss => exact ⟨_, _, h, fun r => rfl, fun w => by simp only [binOp, Op.intCmp, ne_eq, not_true_eq_false, if_false]; rw [u_lt]; rfl⟩
  case leq => exact ⟨_, _, h, fun r => rfl, fun w => by simp only [binOp, Op.intCmp, ne_eq, not_true_eq_false, if_false]; rw [u_le]; rfl⟩
  case gtr => exact ⟨_, _, h, fun r => rfl, fun w => by simp only [binOp, Op.intCmp, ne_eq, not_true_eq_false, if_false, gt_iff_lt]; rw [u_lt]; rfl⟩
  case geq => exact ⟨_, _, h, fun r => rfl, fun w => by simp only [binOp, Op.intCmp, ne_eq, not_true_eq_false, if_false, ge_iff_le]; rw [u_le]; rfl⟩
theorem ofInt_nat {n : Nat} {a : Int} (h : 0 ≤ a) : BitVec.ofInt n a = BitVec.ofNat n a.toNat := by
  rw [← BitVec.ofInt_natCast, Int.toNat_of_nonneg h]
theorem bits_nat {a b : Int} (h : 0 ≤ a ∧ 0 ≤ b ∧ a ≤ 9223372036854775807 ∧ b ≤ 9223372036854775807) (f : ∀ {n : Nat}, BitVec n → BitVec n → BitVec n) (g : Nat → Nat → Nat)
    (hf : ∀ x y : BitVec 64, (f x y).toNat = g x.toNat y.toNat) (hg : g a.toNat b.toNat < 2 ^ 63) :
    IntKind.i64.wrap ((f (BitVec.ofInt IntKind.i64.bits a) (BitVec.ofInt IntKind.i64.bits b)).toNat : Int) = ((g a.toNat b.toNat : Nat) : Int) := by
  show IntKind.i64.wrap ((f (BitVec.ofInt 64 a) (BitVec.ofInt 64 b)).toNat : Int) = _
  rw [hf, ofInt_nat h.1, ofInt_nat h.2.1, BitVec.toNat_ofNat, BitVec.toNat_ofNat, Nat.mod_eq_of_lt (by omega), Nat.mod_eq_of_lt (by omega)]
  exact wrap_i64 (by omega)
/-- Two signed numbers. -/
theorem ibin_spec {op : BinOp} {a b : Int} {K : SC → Prop} (t : TypeId) (h : ibin op a b K) :
    ∃ z q, K z ∧ (∀ r, z.Is r q) ∧ ∀ w : World, (binOp op t (.int .i64 a) (.int .i64 b)).run P w = .ok q w := by
  cases op <;> simp only [ibin] at h
  case add => exact ⟨_, _, h.2, fun r => rfl, fun w => by simp [binOp, Op.intArith, pure, wrap_i64 h.1]⟩
  case sub => exact ⟨_, _, h.2, fun r => rfl, fun w => by simp [binOp, Op.intArith, pure, wrap_i64 h.1]⟩
  case mul => exact ⟨_, _, h.2, fun r => rfl, fun w => by simp [binOp, Op.intArith, pure, wrap_i64 h.1]⟩
  case quo =>
    obtain ⟨⟨h1, h2, h3⟩, h⟩ := h
    have e : a.tdiv b = a / b := Int.tdiv_eq_ediv_of_nonneg h1
    have h4 : 0 ≤ a / b := Int.ediv_nonneg h1 (by omega)
    have h5 : a / b ≤ a := Int.ediv_le_self _ h1
    exact ⟨_, _, h, fun r => rfl, fun w => by simp [binOp, Op.intDiv, pure, show b ≠ 0 by omega, e, wrap_i64 (n := a / b) (by omega)]⟩
  case rem =>
    obtain ⟨⟨h1, h2⟩, h⟩ := h
    exact ⟨_, _, h, fun r => rfl, fun w => by simp [binOp, Op.intDiv, pure, show b ≠ 0 by omega, Int.tmod_eq_emod_of_nonneg h1]⟩
  case and =>
    have := bits_nat h.1 (fun x y => x &&& y) (fun x y => x &&& y) (fun x y => by simp) (Nat.and_lt_two_pow _ (by omega))
    exact ⟨_, _, h.2, fun r => rfl, fun w => by simp only [binOp, Op.intBits, ne_eq, not_true_eq_false, if_false]; rw [this]; rfl⟩
  case or =>
    have := bits_nat h.1 (fun x y => x ||| y) (fun x y => x ||| y) (fun x y => by simp) (Nat.or_lt_two_pow (by omega) (by omega))
    exact ⟨_, _, h.2, fun r => rfl, fun w => by simp only [binOp, Op.intBits, ne_eq, not_true_eq_false, if_false]; rw [this]; rfl⟩
  case xor =>
    have := bits_nat h.1 (fun x y => x ^^^ y) (fun x y => x ^^^ y) (fun x y => by simp) (Nat.xor_lt_two_pow (by omega) (by omega))
    exact ⟨_, _, h.2, fun r => rfl, fun w => by simp only [binOp, Op.intBits, ne_eq, not_true_eq_false, if_false]; rw [this]; rfl⟩
  case eql => exact ⟨_, _, h, fun r => rfl, fun w => by simp [binOp, Op.intCmp, pure]; rw [Bool.eq_iff_iff]; simp⟩
  case neq => exact ⟨_, _, h, fun r => rfl, fun w => by simp [binOp, Op.intCmp, pure]; rw [Bool.eq_iff_iff]; simp⟩
  case lss => exact ⟨_, _, h, fun r => rfl, fun w => rfl⟩
  case leq => exact ⟨_, _, h, fun r => rfl, fun w => rfl⟩
  case gtr => exact ⟨_, _, h, fun r => rfl, fun w => rfl⟩
  case geq => exact ⟨_, _, h, fun r => rfl, fun w => rfl⟩
end
end Sx
end Go.Proofs.Ytndlhhhebijknaa
