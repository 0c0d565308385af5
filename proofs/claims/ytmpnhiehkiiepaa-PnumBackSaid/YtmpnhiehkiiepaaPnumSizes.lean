/-
  Contracts of pnum.Size; binnaclelaw02.PnumSizes returns true. No condition.
-/
import Derived.Test.YtmpnhiehkiiepaaPnumWholes
namespace Go.Proofs.Ytmpnhiehkiiepaa
open Go.RowKit

/-- How many bytes tell a number that is so far away. -/
def sizeF (away : Int) : Int := if away < 128 then 1 else if away < 32768 then 2 else if away < 8388608 then 3 else 4
theorem sizeF_spec (a : Int) : (a < 128 ∧ sizeF a = 1) ∨ (128 ≤ a ∧ a < 32768 ∧ sizeF a = 2) ∨ (32768 ≤ a ∧ a < 8388608 ∧ sizeF a = 3) ∨ (8388608 ≤ a ∧ sizeF a = 4) := by
  unfold sizeF; split <;> (try split) <;> (try split) <;> omega

set_option maxHeartbeats 1000000 in
theorem size_neg (full acked : Int) (w : World) (h0 : 0 ≤ full) (h1 : full < 9223372036854775807) (ha : acked < 0) :
    Calls Try.prog 18 #[.int .u64 full, .int .i64 acked] w fun e w' => e = .returned (.int .i64 (sizeF (full + 1))) ∧ w = w' := by
  have hs := sizeF_spec (full + 1)
  rcases hs with ⟨c1, hs⟩ | ⟨c1, c2, hs⟩ | ⟨c1, c2, hs⟩ | ⟨c1, hs⟩
  all_goals
    have HS := Lib.hid hs
    clear hs
    go_enter Try.func18, Try.ntmps18
    go_wp2
    go_rounds 4
    go_ret
    exact ⟨ret_int HS.out.symm, rfl⟩
set_option maxHeartbeats 1000000 in
theorem size_pos (full acked : Int) (w : World) (h0 : acked ≤ full) (h1 : full < 9223372036854775807) (ha : 0 ≤ acked) :
    Calls Try.prog 18 #[.int .u64 full, .int .i64 acked] w fun e w' => e = .returned (.int .i64 (sizeF (full - acked))) ∧ w = w' := by
  have hs := sizeF_spec (full - acked)
  rcases hs with ⟨c1, hs⟩ | ⟨c1, c2, hs⟩ | ⟨c1, c2, hs⟩ | ⟨c1, hs⟩
  all_goals
    have HS := Lib.hid hs
    clear hs
    go_enter Try.func18, Try.ntmps18
    go_wp2
    go_rounds 4
    go_ret
    exact ⟨ret_int HS.out.symm, rfl⟩
/-- From the one ahead of what was acknowledged on. -/
theorem size_ahead (acked m : Int) (w : World) (h0 : 0 ≤ m) (h1 : m ≤ 4294967295) (ha : -1 ≤ acked) (hb : acked ≤ 2305843009213693952) :
    Calls Try.prog 18 #[.int .u64 (acked + 1 + m), .int .i64 acked] w fun e w' => e = .returned (.int .i64 (sizeF (m + 1))) ∧ w = w' := by
  by_cases h : acked < 0
  · have := size_neg (acked + 1 + m) acked w (by omega) (by omega) h
    rwa [show acked + 1 + m + 1 = m + 1 from by omega] at this
  · have := size_pos (acked + 1 + m) acked w (by omega) (by omega) (by omega)
    rwa [show acked + 1 + m - acked = m + 1 from by omega] at this

set_option maxHeartbeats 1000000 in
theorem walk_sizes (acked a b : Int) (w : World) (ha0 : 0 ≤ a) (ha1 : a ≤ 4294967295) (hb0 : 0 ≤ b) (hb1 : b ≤ 4294967295) (h1 : -9223372036854775808 ≤ acked) (h2 : acked ≤ 9223372036854775807) :
    Calls Try.prog 4 #[.int .i64 acked, .int .u32 a, .int .u32 b] w fun e w' => e = .returned (.bool true) ∧ Below w.heap.size w w' := by
  by_cases hlo : acked < -1
  · go_enter Try.func4, Try.ntmps4
    go_wp2_with (go_at_call 15; refine (awake02 _).mono ?_; rintro e w1 ⟨rfl, hb⟩)
    go_ret
    exact ⟨rfl, by assumption⟩
  · by_cases hhi : 2305843009213693952 < acked
    · go_enter Try.func4, Try.ntmps4
      go_wp2_with (go_at_call 15; refine (awake02 _).mono ?_; rintro e w1 ⟨rfl, hb⟩)
      go_ret
      exact ⟨rfl, by assumption⟩
    · rcases (show a < b ∨ b < a ∨ a = b from by omega) with hab | hab | hab
      · have hs := sizeF_spec (a + 1)
        have hy := sizeF_spec (b + 1)
        have hy1 : sizeF (a + 1) ≤ sizeF (b + 1) ∧ sizeF (b + 1) ≤ 4 := by omega
        clear hy
        obtain ⟨y, hyy⟩ : ∃ y, y = sizeF (b + 1) := ⟨_, rfl⟩
        rw [← hyy] at hy1
        have HY := Lib.hid hyy
        clear hyy
        rcases hs with ⟨c1, hs⟩ | ⟨c1, c2, hs⟩ | ⟨c1, c2, hs⟩ | ⟨c1, hs⟩
        all_goals
          rw [hs] at hy1
          obtain ⟨y1, y2⟩ := hy1
          have HS := Lib.hid hs
          clear hs
          go_enter Try.func4, Try.ntmps4
          go_wp2_with (go_at_call 15; refine (awake02 _).mono ?_; rintro e w1 ⟨rfl, hb⟩)
          refine (size_ahead acked a _ (by omega) (by omega) (by omega) (by omega)).mono ?_
          rintro e w' ⟨rfl, rfl⟩
          rw [HS.out]
          go_wp2_with fail
          refine (size_ahead acked b _ (by omega) (by omega) (by omega) (by omega)).mono ?_
          rintro e w' ⟨rfl, rfl⟩
          rw [← HY.out]
          go_wp2
          go_ret
          exact ⟨rfl, by assumption⟩
      · have hs := sizeF_spec (b + 1)
        have hy := sizeF_spec (a + 1)
        have hy1 : sizeF (b + 1) ≤ sizeF (a + 1) ∧ sizeF (a + 1) ≤ 4 := by omega
        clear hy
        obtain ⟨y, hyy⟩ : ∃ y, y = sizeF (a + 1) := ⟨_, rfl⟩
        rw [← hyy] at hy1
        have HY := Lib.hid hyy
        clear hyy
        rcases hs with ⟨c1, hs⟩ | ⟨c1, c2, hs⟩ | ⟨c1, c2, hs⟩ | ⟨c1, hs⟩
        all_goals
          rw [hs] at hy1
          obtain ⟨y1, y2⟩ := hy1
          have HS := Lib.hid hs
          clear hs
          go_enter Try.func4, Try.ntmps4
          go_wp2_with (go_at_call 15; refine (awake02 _).mono ?_; rintro e w1 ⟨rfl, hb⟩)
          refine (size_ahead acked b _ (by omega) (by omega) (by omega) (by omega)).mono ?_
          rintro e w' ⟨rfl, rfl⟩
          rw [HS.out]
          go_wp2_with fail
          refine (size_ahead acked a _ (by omega) (by omega) (by omega) (by omega)).mono ?_
          rintro e w' ⟨rfl, rfl⟩
          rw [← HY.out]
          go_wp2
          go_ret
          exact ⟨rfl, by assumption⟩
      · subst hab
        have hs := sizeF_spec (a + 1)
        rcases hs with ⟨c1, hs⟩ | ⟨c1, c2, hs⟩ | ⟨c1, c2, hs⟩ | ⟨c1, hs⟩
        all_goals
          have HS := Lib.hid hs
          clear hs
          go_enter Try.func4, Try.ntmps4
          go_wp2_with (go_at_call 15; refine (awake02 _).mono ?_; rintro e w1 ⟨rfl, hb⟩)
          refine (size_ahead acked a _ (by omega) (by omega) (by omega) (by omega)).mono ?_
          rintro e w' ⟨rfl, rfl⟩
          rw [HS.out]
          go_wp2_with fail
          refine (size_ahead acked a _ (by omega) (by omega) (by omega) (by omega)).mono ?_
          rintro e w' ⟨rfl, rfl⟩
          rw [HS.out]
          go_wp2
          go_ret
          exact ⟨rfl, by assumption⟩
end Go.Proofs.Ytmpnhiehkiiepaa
