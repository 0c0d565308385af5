/-
  Contract of pnum.Cut; binnaclelaw02.PnumBack returns true. No condition.
-/
import Derived.Test.YtmpnhiehkiiepaaPnumSizes
namespace Go.Proofs.Ytmpnhiehkiiepaa
open Go.RowKit

/-- The byte of a number that stands j from its end. -/
def byteAt (full : Int) (j : Nat) : UInt8 := UInt8.ofNat (full / 256 ^ j).toNat
def cutF (full : Int) (k : Nat) : List UInt8 := (List.range k).map fun i => byteAt full (k - 1 - i)
theorem byteAt_toNat (full : Int) (h : 0 ≤ full) (j : Nat) : ((byteAt full j).toNat : Int) = full / 256 ^ j % 256 := by
  unfold byteAt
  have h1 : 0 ≤ full / 256 ^ j := Int.ediv_nonneg h (Int.pow_nonneg (by omega))
  obtain ⟨n, hn⟩ := Int.eq_ofNat_of_zero_le h1
  rw [hn]
  simp [UInt8.toNat_ofNat']
theorem u8v_byteAt (full : Int) (h : 0 ≤ full) (j : Nat) : u8v (byteAt full j) = .int .u8 (full / 256 ^ j % 256) := by
  unfold u8v; rw [byteAt_toNat full h]

set_option maxHeartbeats 1000000 in
theorem cut_any (full : Int) (k : Nat) (w : World) (h0 : 0 ≤ full) (_h1 : full < 9223372036854775807) (hk1 : 1 ≤ k) (hk4 : k ≤ 4) :
    Calls Try.prog 19 #[.int .u64 full, .int .i64 k] w fun e w' => e = .returned (.slice (some ⟨w.heap.size, 0, none⟩) k k) ∧ w.alloc (.cells ((cutF full k).map u8v).toArray 5) = w' := by
  rcases (show k = 1 ∨ k = 2 ∨ k = 3 ∨ k = 4 from by omega) with rfl | rfl | rfl | rfl
  · have hmk : ∀ w, (Instr.makeSlice 22 (.int .i64 1) (.int .i64 1)).run Try.prog w = .ok (.slice (some ⟨w.heap.size, 0, none⟩) 1 1) (w.alloc (.cells #[(.int .u8 0)] 5)) := fun _ => by kernel_rfl
    go_enter Try.func19, Try.ntmps19
    go_wp2
    go_rounds 2
    go_ret
    exact ⟨rfl, congrArg (fun c => w.alloc (.cells c 5)) (by simp [cutF, List.range, List.range.loop, u8v_byteAt full h0])⟩
  · have hmk : ∀ w, (Instr.makeSlice 22 (.int .i64 2) (.int .i64 2)).run Try.prog w = .ok (.slice (some ⟨w.heap.size, 0, none⟩) 2 2) (w.alloc (.cells #[(.int .u8 0), (.int .u8 0)] 5)) := fun _ => by kernel_rfl
    go_enter Try.func19, Try.ntmps19
    go_wp2
    go_rounds 3
    go_ret
    exact ⟨rfl, congrArg (fun c => w.alloc (.cells c 5)) (by simp [cutF, List.range, List.range.loop, u8v_byteAt full h0])⟩
  · have hmk : ∀ w, (Instr.makeSlice 22 (.int .i64 3) (.int .i64 3)).run Try.prog w = .ok (.slice (some ⟨w.heap.size, 0, none⟩) 3 3) (w.alloc (.cells #[(.int .u8 0), (.int .u8 0), (.int .u8 0)] 5)) := fun _ => by kernel_rfl
    go_enter Try.func19, Try.ntmps19
    go_wp2
    go_rounds 4
    go_ret
    exact ⟨rfl, congrArg (fun c => w.alloc (.cells c 5)) (by simp [cutF, List.range, List.range.loop, u8v_byteAt full h0])⟩
  · have hmk : ∀ w, (Instr.makeSlice 22 (.int .i64 4) (.int .i64 4)).run Try.prog w = .ok (.slice (some ⟨w.heap.size, 0, none⟩) 4 4) (w.alloc (.cells #[(.int .u8 0), (.int .u8 0), (.int .u8 0), (.int .u8 0)] 5)) := fun _ => by kernel_rfl
    go_enter Try.func19, Try.ntmps19
    go_wp2
    go_rounds 5
    go_ret
    exact ⟨rfl, congrArg (fun c => w.alloc (.cells c 5)) (by simp [cutF, List.range, List.range.loop, u8v_byteAt full h0])⟩

/-- A number that is not too far ahead comes back. -/
theorem pick_back (k : Nat) (full exp : Int) (hk1 : 1 ≤ k) (hk4 : k ≤ 4) (h0 : 0 ≤ exp) (h1 : exp ≤ full) (h2 : full < 4611686018427387904) (h3 : 2 * (full - exp) < win k) : pickF (cutF full k) exp = full := by
  have hl : (cutF full k).length = k := by simp [cutF]
  unfold pickF
  rw [hl, nearK_eq, hl]
  have e1 : nearK 0 (cutF full k) = full % win k := by
    have b := byteAt_toNat full (by omega)
    have b0 := b 0
    have b1 := b 1
    have b2 := b 2
    have b3 := b 3
    simp at b0 b1 b2 b3
    rcases (show k = 1 ∨ k = 2 ∨ k = 3 ∨ k = 4 from by omega) with rfl | rfl | rfl | rfl <;> simp [cutF, List.range, List.range.loop, nearK, win, b0, b1, b2, b3] <;> omega
  rw [e1]
  have hs := pick_spec k (exp / win k * win k + full % win k) exp
  rcases (show k = 1 ∨ k = 2 ∨ k = 3 ∨ k = 4 from by omega) with rfl | rfl | rfl | rfl <;> simp [win] at hs h3 ⊢ <;> omega

theorem whole_m1 (A : Option Addr) (n cap : Nat) (l : List UInt8) (g : Int) (B : Nat) (w : World) (hr : Sb w B A l) (hl : l.length = n) (hn1 : 1 ≤ n) (hn4 : n ≤ 4) (hg2 : g < 4611686018427387903) (hg0 : -1 ≤ g) :
    Calls Try.prog 16 #[.slice A n cap, .int .i64 g] w fun e w' => e = .returned (.tuple #[.int .u64 (pickF l (g + 1)), .int .i64 0]) ∧ w = w' := by
  by_cases h : 0 ≤ g
  · exact whole_pos A n cap l g B w hr hl hn1 hn4 hg2 h
  · obtain rfl : g = -1 := by omega
    exact whole_neg A n cap l (-1) B w hr hl hn1 hn4 (by omega) (by omega)

set_option maxHeartbeats 1000000 in
theorem walk_back (acked a b : Int) (w : World) (ha0 : 0 ≤ a) (ha1 : a ≤ 4294967295) (hb0 : 0 ≤ b) (hb1 : b ≤ 4294967295) (h1 : -9223372036854775808 ≤ acked) (h2 : acked ≤ 9223372036854775807) :
    Calls Try.prog 5 #[.int .i64 acked, .int .u32 a, .int .u32 b] w fun e w' => e = .returned (.bool true) ∧ Below w.heap.size w w' := by
  by_cases hlo : acked < -1
  · go_enter Try.func5, Try.ntmps5
    go_wp2_with (go_at_call 15; refine (awake02 _).mono ?_; rintro e w1 ⟨rfl, hb⟩)
    go_ret
    exact ⟨rfl, by assumption⟩
  · by_cases hhi : 2305843009213693952 < acked
    · go_enter Try.func5, Try.ntmps5
      go_wp2_with (go_at_call 15; refine (awake02 _).mono ?_; rintro e w1 ⟨rfl, hb⟩)
      go_ret
      exact ⟨rfl, by assumption⟩
    · go_enter Try.func5, Try.ntmps5
      go_wp2_with (go_at_call 15; refine (awake02 _).mono ?_; rintro e w1 ⟨rfl, hb⟩)
      refine (size_ahead acked (a / 4) _ (by omega) (by omega) (by omega) (by omega)).mono ?_
      rintro e w' ⟨rfl, rfl⟩
      have hs := sizeF_spec (a / 4 + 1)
      obtain ⟨k, hk⟩ := Int.eq_ofNat_of_zero_le (show 0 ≤ sizeF (a / 4 + 1) from by omega)
      rw [hk] at hs ⊢
      have hw : 2 * (a / 4) < win k ∧ 1 ≤ k ∧ k ≤ 4 := by
        rcases (show k = 1 ∨ k = 2 ∨ k = 3 ∨ k = 4 from by omega) with rfl | rfl | rfl | rfl <;> simp [win] at hs ⊢ <;> omega
      clear hs hk
      obtain ⟨hw, hk1, hk4⟩ := hw
      have hr0 : 0 ≤ b % (a / 4 + 1) := Int.emod_nonneg _ (by omega)
      have hr1 : b % (a / 4 + 1) < a / 4 + 1 := Int.emod_lt_of_pos _ (by omega)
      obtain ⟨r, hr⟩ : ∃ r, b % (acked + 1 + a / 4 - (acked + 1) + 1) = r := ⟨_, rfl⟩
      have he : acked + 1 + a / 4 - (acked + 1) + 1 = a / 4 + 1 := by omega
      have hr2 : b % (a / 4 + 1) = r := by rw [← he]; exact hr
      rw [hr2] at hr0 hr1
      clear he hr2
      go_wp2_with fail
      refine (cut_any _ k _ (by omega) (by omega) hk1 hk4).mono ?_
      rintro e w' ⟨rfl, rfl⟩
      go_wp2_with fail
      refine (whole_m1 _ _ _ (cutF (acked + 1 + a / 4) k) _ _ _ (Sb.new _ _ _) (by simp [cutF]) hk1 hk4 (by omega) (by omega)).mono ?_
      rintro e w' ⟨rfl, rfl⟩
      rw [pick_back k _ _ hk1 hk4 (by omega) (by omega) (by omega) (by omega)]
      go_wp2
      go_ret
      exact ⟨rfl, hb.alloc hb.size _⟩
end Go.Proofs.Ytmpnhiehkiiepaa
