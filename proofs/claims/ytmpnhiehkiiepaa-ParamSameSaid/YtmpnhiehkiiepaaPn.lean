/-
  The contract of the law's nums. No condition.
-/
import Derived.Test.YtmpnhiehkiiepaaU64
namespace Go.Proofs.Ytmpnhiehkiiepaa
open Go.RowKit

set_option maxRecDepth 100000 in
set_option maxHeartbeats 1000000 in
theorem nums_any (x0 x1 x2 x3 x4 x5 x6 x7 x8 : Int) (A : Option Addr) (n c : Nat) (w : World) :
    Calls Try.prog 46 #[.agg #[.int .u64 x0, .int .u64 x1, .int .u64 x2, .int .u64 x3, .int .u64 x4, .int .u64 x5, .int .u64 x6, .int .u64 x7, .int .u64 x8, .slice A n c]] w fun e w' =>
      e = .returned (.agg #[.int .u64 x0, .int .u64 x1, .int .u64 x2, .int .u64 x3, .int .u64 x4, .int .u64 x5, .int .u64 x6, .int .u64 x7, .int .u64 x8]) ∧ Below w.heap.size w w' := by
  go_enter Try.func46, Try.ntmps46
  go_wp2
  exact bodyPost_ret (results_cell_row rfl _ _ (w.heap.size + 1) 85 #[.int .u64 x0, .int .u64 x1, .int .u64 x2, .int .u64 x3, .int .u64 x4, .int .u64 x5, .int .u64 x6, .int .u64 x7, .int .u64 x8] (0, 0) _ rfl (Blk.new_ _ _ _ _ (by simp)) Try.underlying85 rfl (by kernel_rfl)) rfl ⟨rfl, ((Below.refl _ _).alloc (Nat.le_refl _) _).alloc (by simp) _⟩
end Go.Proofs.Ytmpnhiehkiiepaa
