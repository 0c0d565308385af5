/-
  binnaclelaw01.VintNone returns true. No condition.
-/
import Derived.Test.YtmpnhiehkiiepaaVintTakes
namespace Go.Proofs.Ytmpnhiehkiiepaa
open Go.RowKit

set_option maxRecDepth 100000 in
set_option maxHeartbeats 1000000 in
theorem walk_none (n : Int) (A : Option Addr) (m c : Nat) (k : Int) (w : World) (_hn : 0 ≤ n) (hm : m ≤ 9223372036854775807) :
    Calls Try.prog 14 #[.int .u64 n, .slice A m c, .int .i64 k] w fun e w' => e = .returned (.bool true) ∧ Below w.heap.size w w' := by
  go_enter Try.func14, Try.ntmps14
  go_wp2_with (first | (go_at_call 25; refine (awake01 _).mono ?_; rintro e w1 ⟨rfl, hb1⟩) | go_in)
  go_ret
  refine ⟨rfl, ?_⟩
  have hz := hb1.size
  exact (hb1.alloc hz _).alloc (by simp; omega) _
end Go.Proofs.Ytmpnhiehkiiepaa
