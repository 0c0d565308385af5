/-
  The contract of param.Params' Check. No condition.
-/
import Derived.Test.YtmpnhiehkiiepaaU64
namespace Go.Proofs.Ytmpnhiehkiiepaa
open Go.RowKit

/-- What Check says of params. -/
def pcheckF (x0 x1 x2 x3 x4 x5 x6 x7 x8 : Int) (m : Nat) : Int :=
  if 65536 < x1 ∨ 65536 < x2 ∨ 65536 < x3 ∨ 65536 < x4 then 2 else if 1073741824 < x0 ∨ 16384 ≤ x7 then 2 else if 8 < x5 ∨ 8 < x6 then 15 else if x8 < 2 ∨ 4 < x8 then 7 else if 20 < m then 6 else 0

def more2 (x y : Int) : Int := if y > x then y else x
def more4 (x y z u : Int) : Int := more2 (more2 (more2 x y) z) u
theorem run_max4 (P : Program) (ts : Array TypeId) (t : TypeId) (k : IntKind) (x y z u : Int) (w : World) : (Builtin.max_ ts t #[.int k x, .int k y, .int k z, .int k u]).run P w = .ok (.int k (more4 x y z u)) w := by
  simp [Builtin.max_, Builtin.max2, more4, more2]
theorem more4_gt (x y z u b : Int) : (b < more4 x y z u) ↔ (b < x ∨ b < y ∨ b < z ∨ b < u) := by
  unfold more4 more2
  (repeat' split) <;> omega

set_option maxRecDepth 100000 in
set_option maxHeartbeats 1000000 in
theorem pcheck_any (x0 x1 x2 x3 x4 x5 x6 x7 x8 : Int) (A : Option Addr) (n c : Nat) (w : World) :
    Calls Try.prog 71 #[.agg #[.int .u64 x0, .int .u64 x1, .int .u64 x2, .int .u64 x3, .int .u64 x4, .int .u64 x5, .int .u64 x6, .int .u64 x7, .int .u64 x8, .slice A n c]] w fun e w' =>
      e = .returned (.int .i64 (pcheckF x0 x1 x2 x3 x4 x5 x6 x7 x8 n)) ∧ Below w.heap.size w w' := by
  obtain ⟨z, hz⟩ : ∃ z, z = pcheckF x0 x1 x2 x3 x4 x5 x6 x7 x8 n := ⟨_, rfl⟩
  rw [← hz]
  have hmx := run_max4 Try.prog #[25, 25, 25, 25] 25 .u64 x1 x2 x3 x4
  have hgt := more4_gt x1 x2 x3 x4 65536
  generalize more4 x1 x2 x3 x4 = mx at hmx hgt
  unfold pcheckF at hz
  by_cases c1 : 65536 < mx
  case pos =>
    obtain rfl : z = 2 := by rw [hz, if_pos (hgt.1 c1)]
    clear hz hgt
    go_enter Try.func71, Try.ntmps71
    go_wp2
    exact bodyPost_ret (results_tmp rfl _ _ _) rfl ⟨rfl, (Below.refl _ _).alloc (Nat.le_refl _) _⟩
  rw [if_neg (fun h => c1 (hgt.2 h))] at hz
  clear hgt
  by_cases c2 : 1073741824 < x0
  case pos =>
    obtain rfl : z = 2 := by rw [hz, if_pos (.inl c2)]
    clear hz
    go_enter Try.func71, Try.ntmps71
    go_wp2
    exact bodyPost_ret (results_tmp rfl _ _ _) rfl ⟨rfl, (Below.refl _ _).alloc (Nat.le_refl _) _⟩
  by_cases c3 : 16384 ≤ x7
  case pos =>
    obtain rfl : z = 2 := by rw [hz, if_pos (.inr c3)]
    clear hz
    go_enter Try.func71, Try.ntmps71
    go_wp2
    exact bodyPost_ret (results_tmp rfl _ _ _) rfl ⟨rfl, (Below.refl _ _).alloc (Nat.le_refl _) _⟩
  rw [if_neg (fun h => h.elim c2 c3)] at hz
  by_cases c4 : 8 < x5
  case pos =>
    obtain rfl : z = 15 := by rw [hz, if_pos (.inl c4)]
    clear hz
    go_enter Try.func71, Try.ntmps71
    go_wp2
    exact bodyPost_ret (results_tmp rfl _ _ _) rfl ⟨rfl, (Below.refl _ _).alloc (Nat.le_refl _) _⟩
  by_cases c5 : 8 < x6
  case pos =>
    obtain rfl : z = 15 := by rw [hz, if_pos (.inr c5)]
    clear hz
    go_enter Try.func71, Try.ntmps71
    go_wp2
    exact bodyPost_ret (results_tmp rfl _ _ _) rfl ⟨rfl, (Below.refl _ _).alloc (Nat.le_refl _) _⟩
  rw [if_neg (fun h => h.elim c4 c5)] at hz
  by_cases c6 : x8 < 2
  case pos =>
    obtain rfl : z = 7 := by rw [hz, if_pos (.inl c6)]
    clear hz
    go_enter Try.func71, Try.ntmps71
    go_wp2
    exact bodyPost_ret (results_tmp rfl _ _ _) rfl ⟨rfl, (Below.refl _ _).alloc (Nat.le_refl _) _⟩
  by_cases c7 : 4 < x8
  case pos =>
    obtain rfl : z = 7 := by rw [hz, if_pos (.inr c7)]
    clear hz
    go_enter Try.func71, Try.ntmps71
    go_wp2
    exact bodyPost_ret (results_tmp rfl _ _ _) rfl ⟨rfl, (Below.refl _ _).alloc (Nat.le_refl _) _⟩
  rw [if_neg (fun h => h.elim c6 c7)] at hz
  by_cases c8 : 20 < n
  case pos =>
    obtain rfl : z = 6 := by rw [hz, if_pos c8]
    have c8i : (20 : Int) < (n : Int) := by omega
    clear hz
    go_enter Try.func71, Try.ntmps71
    go_wp2
    exact bodyPost_ret (results_tmp rfl _ _ _) rfl ⟨rfl, (Below.refl _ _).alloc (Nat.le_refl _) _⟩
  obtain rfl : z = 0 := by rw [hz, if_neg c8]
  have c8i : ¬ (20 : Int) < (n : Int) := by omega
  clear hz
  go_enter Try.func71, Try.ntmps71
  go_wp2
  exact bodyPost_ret (results_tmp rfl _ _ _) rfl ⟨rfl, (Below.refl _ _).alloc (Nat.le_refl _) _⟩
end Go.Proofs.Ytmpnhiehkiiepaa
