/-
  binnaclelaw10.Awake returns true. No condition.
-/
import Derived.Test.YtmpnhiehkiiepaaPutP
namespace Go.Proofs.Ytmpnhiehkiiepaa
open Go.RowKit

theorem putP_awake : putP 0 0 0 0 0 0 0 0 2 [] = [1, 1, 0, 4, 1, 0, 5, 1, 0, 6, 1, 0, 7, 1, 0, 8, 1, 0, 9, 1, 0, 11, 1, 0, 14, 1, 2, 15, 0] := by decide +kernel

set_option maxRecDepth 100000 in
set_option maxHeartbeats 1000000 in
theorem awake10 (w : World) : Calls Try.prog 44 #[] w fun e w' => e = .returned (.bool true) ∧ Below w.heap.size w w' := by
  go_enter Try.func44, Try.ntmps44
  go_wp2_with (go_at_call 69; refine (pput_ok 0 0 0 0 0 0 0 0 2 none 0 0 [] w (Rd.nil_ _ _ _ _) rfl (by decide) (by decide)).mono ?_; rintro e w1 ⟨A1, n1, c1, rfl, hown, hb1⟩; rw [putP_awake] at hown; obtain ⟨hn1, -, -⟩ := hown.cap; obtain rfl : n1 = 29 := hn1.symm; obtain ⟨g, hA, -, -⟩ := hown.form (by omega); subst hA; have c27 : w1.cell? ⟨g, 27, none⟩ = some (.int .u8 15) := hown.cell 27 (by simp); have c28 : w1.cell? ⟨g, 28, none⟩ = some (.int .u8 0) := hown.cell 28 (by simp); have HB1 := Lib.hid hb1; clear hb1 hown)
  exact bodyPost_ret (results_tmp rfl _ _ _) rfl ⟨rfl, HB1.out⟩
end Go.Proofs.Ytmpnhiehkiiepaa
