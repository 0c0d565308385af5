/-
  param.Same, its answer under a name. No condition.
-/
import Derived.Test.YtmpnhiehkiiepaaPs
namespace Go.Proofs.Ytmpnhiehkiiepaa
open Go.RowKit

theorem psame_z (x0 x1 x2 x3 x4 x5 x6 x7 x8 y0 y1 y2 y3 y4 y5 y6 y7 y8 : Int) (A : Option Addr) (n c : Nat) (B : Option Addr) (m d : Nat) (bs cs : List UInt8) (w : World) (z : Bool) (hz : z = decide (x0 = y0 ∧ x1 = y1 ∧ x2 = y2 ∧ x3 = y3 ∧ x4 = y4 ∧ x5 = y5 ∧ x6 = y6 ∧ x7 = y7 ∧ x8 = y8 ∧ bs = cs))
    (hr : Rd u8v w w.heap.size A bs) (hn : bs.length = n) (hs : Rd u8v w w.heap.size B cs) (hm : cs.length = m) :
    Calls Try.prog 45 #[.agg #[.int .u64 x0, .int .u64 x1, .int .u64 x2, .int .u64 x3, .int .u64 x4, .int .u64 x5, .int .u64 x6, .int .u64 x7, .int .u64 x8, .slice A n c], .agg #[.int .u64 y0, .int .u64 y1, .int .u64 y2, .int .u64 y3, .int .u64 y4, .int .u64 y5, .int .u64 y6, .int .u64 y7, .int .u64 y8, .slice B m d]] w fun e w' => e = .returned (.bool z) ∧ Below w.heap.size w w' := by
  subst hz
  exact psame_any x0 x1 x2 x3 x4 x5 x6 x7 x8 y0 y1 y2 y3 y4 y5 y6 y7 y8 A n c B m d bs cs w hr hn hs hm
end Go.Proofs.Ytmpnhiehkiiepaa
