/-
  binnaclelaw02.PnumWholes returns true for every input. No condition.
-/
import Derived.Test.YtmpnhiehkiiepaaPnum
namespace Go.Proofs.Ytmpnhiehkiiepaa
open Go.RowKit

theorem awake02 (w : World) : Calls Try.prog 15 #[] w fun e w' => e = .returned (.bool true) ∧ Below w.heap.size w w' := by
  have hv : pickF [155, 50] (2821665002 + 1) = 2821692210 := by decide +kernel
  have key : ∀ w1 : World, Calls Try.prog 16 #[.slice (some ⟨w.heap.size, 0, none⟩) 2 2, .int .i64 2821665002] (w.alloc (.cells #[.int .u8 155, .int .u8 50] 5)) fun e w' => e = .returned (.tuple #[.int .u64 2821692210, .int .i64 0]) ∧ w.alloc (.cells #[.int .u8 155, .int .u8 50] 5) = w' := by
    intro _
    have h := whole_pos (some ⟨w.heap.size, 0, none⟩) 2 2 [155, 50] 2821665002 (w.heap.size + 1) (w.alloc (.cells #[.int .u8 155, .int .u8 50] 5)) ⟨rfl, fun _ => ⟨_, _, rfl, by omega, fun j u hu => ?_⟩⟩ rfl (by omega) (by omega) (by omega) (by omega)
    · rw [hv] at h
      exact h
    · match j, hu with
      | 0, hu => simp [u8v] at hu; subst hu; simp [go_sem]
      | 1, hu => simp [u8v] at hu; subst hu; simp [go_sem]
  clear hv
  go_enter Try.func15, Try.ntmps15
  go_wp2_with (go_at_call 16; refine (key w).mono ?_; rintro e w' ⟨rfl, rfl⟩)
  go_ret
  exact ⟨rfl, (Below.refl _ _).alloc (Nat.le_refl _) _⟩

/-- One of the two numbers. -/
def gsel (g v : Int) (k : Nat) : Int := if k = 0 then g else v
set_option maxHeartbeats 1000000 in
theorem walk_wholes (A : Option Addr) (n cap : Nat) (l : List UInt8) (g v : Int) (w : World) (hr : Sb w w.heap.size A l) (hl : l.length = n) (hm : n ≤ 9223372036854775807)
    (hg1 : -9223372036854775808 ≤ g) (hg2 : g ≤ 9223372036854775807) (hv0 : 0 ≤ v) (hv1 : v < 256) :
    Calls Try.prog 3 #[.slice A n cap, .int .i64 g, .int .u8 v] w fun e w' => e = .returned (.bool true) ∧ Below w.heap.size w w' := by
  have HL := Lib.hid hl
  clear hl
  go_enter Try.func3, Try.ntmps3
  go_wp2_with (go_at_call 15; refine (awake02 _).mono ?_; rintro e w1 ⟨rfl, hb⟩)
  have hs2 : Sb (w1.alloc (.cells #[.int .i64 g, .int .i64 (v - 3)] 2)) w.heap.size A l := (hr.below hb (Nat.le_refl _)).alloc hb.size _
  have hb2 : Below w.heap.size w (w1.alloc (.cells #[.int .i64 g, .int .i64 (v - 3)] 2)) := hb.alloc hb.size _
  have hc2 : ∀ k, k < 2 → (w1.alloc (.cells #[.int .i64 g, .int .i64 (v - 3)] 2)).cell? ⟨w1.heap.size, k, none⟩ = some (.int .i64 (gsel g (v - 3) k)) := by
    intro k hk
    match k, hk with
    | 0, _ => simp [go_sem, gsel]
    | 1, _ => simp [go_sem, gsel]
  obtain ⟨w2, hw2⟩ : ∃ w2, w2 = w1.alloc (.cells #[.int .i64 g, .int .i64 (v - 3)] 2) := ⟨_, rfl⟩
  rw [← hw2] at hs2 hb2 hc2 ⊢
  clear hw2 hr hb
  have HS := Lib.hid hs2
  have HC := Lib.hid hc2
  have HB := Lib.hid hb2
  clear hs2 hc2 hb2
  go_loop [23] (fun i => ∃ k : Nat, k ≤ 2 ∧ i = .int .i64 k) (fun i => 2 - (intOf i).toNat)
  case atStart => exact ⟨0, by omega, rfl⟩
  case round =>
    obtain ⟨k, hk, rfl⟩ := hrel
    by_cases hlt : k < 2
    · have hcell := HC.out k hlt
      have hx1 : -9223372036854775808 ≤ gsel g (v - 3) k ∧ gsel g (v - 3) k ≤ 9223372036854775807 := by unfold gsel; split <;> omega
      obtain ⟨x, hx⟩ : ∃ x, x = gsel g (v - 3) k := ⟨_, rfl⟩
      rw [← hx] at hcell hx1
      clear hx
      by_cases hn : n < 1 ∨ 4 < n
      · rcases hn with hn | hn
        all_goals
          go_wp2_with (go_at_call 16; refine (whole_size _ _ _ _ _ (by omega) hm).mono ?_; rintro e w' ⟨rfl, rfl⟩)
          go_round
          case rel => exact ⟨k + 1, by omega, by go_num⟩
          case measure => simp [intOf]; omega
      · by_cases h3 : 4611686018427387903 ≤ x
        · go_wp2_with (go_at_call 16; refine (whole_range _ _ _ _ _ (by omega) (by omega) h3).mono ?_; rintro e w' ⟨rfl, rfl⟩)
          go_round
          case rel => exact ⟨k + 1, by omega, by go_num⟩
          case measure => simp [intOf]; omega
        · by_cases h0 : 0 ≤ x
          · go_wp2_with (go_at_call 16; refine (whole_pos _ _ _ l _ _ _ HS.out HL.out (by omega) (by omega) (by omega) h0).mono ?_; rintro e w' ⟨rfl, rfl⟩)
            go_loop [12, 62] (fun s i => ∃ j : Nat, j ≤ n ∧ i = .int .i64 j ∧ s = .int .u64 (nearK 0 (l.take j))) (fun _ i => n - (intOf i).toNat)
            case atStart => exact ⟨0, by omega, rfl, rfl⟩
            case round =>
              obtain ⟨j, hj, rfl, rfl⟩ := hrel
              by_cases hlt2 : j < n
              · have hbd := near_bd 0 l j (by rw [HL.out]; exact hj) (by rw [HL.out]; omega) (by rw [HL.out]; omega) (by omega) (by omega)
                rw [HL.out, Int.zero_ediv] at hbd
                obtain ⟨b1, b2, b3⟩ := hbd
                have b4 := b3 hlt2
                clear b3
                obtain ⟨b, off, hA, -, hcell2⟩ := HS.out.at_ (by rw [HL.out]; exact hlt2)
                subst hA
                have hsn := nearK_snoc 0 l j (by rw [HL.out]; exact hlt2)
                obtain ⟨c, hc⟩ : ∃ c : UInt8, c = l[j]'(by rw [HL.out]; exact hlt2) := ⟨_, rfl⟩
                rw [← hc] at hsn hcell2
                have HN := Lib.hid hsn
                clear hsn hc
                unfold u8v at hcell2
                have hc2 := c.toNat_lt
                go_wp2
                go_round
                case rel => exact ⟨j + 1, by omega, by go_num, by rw [HN.out]⟩
                case measure => simp [intOf]; omega
              · obtain rfl : j = n := by omega
                have ht : l.take j = l := List.take_of_length_le (by rw [HL.out]; exact Nat.le_refl _)
                simp only [ht]
                clear ht
                go_wp2_with (go_at_call 17; refine (refWhole_any l _ _ _ HL.out (by omega) (by omega) (by omega) (by omega)).mono ?_; rintro e w' ⟨rfl, rfl⟩)
                go_round
                case rel => exact ⟨k + 1, by omega, by go_num⟩
                case measure => simp [intOf]; omega
          · go_wp2_with (go_at_call 16; refine (whole_neg _ _ _ l _ _ _ HS.out HL.out (by omega) (by omega) (by omega) (by omega)).mono ?_; rintro e w' ⟨rfl, rfl⟩)
            go_loop [12, 62] (fun s i => ∃ j : Nat, j ≤ n ∧ i = .int .i64 j ∧ s = .int .u64 (nearK 0 (l.take j))) (fun _ i => n - (intOf i).toNat)
            case atStart => exact ⟨0, by omega, rfl, rfl⟩
            case round =>
              obtain ⟨j, hj, rfl, rfl⟩ := hrel
              by_cases hlt2 : j < n
              · have hbd := near_bd 0 l j (by rw [HL.out]; exact hj) (by rw [HL.out]; omega) (by rw [HL.out]; omega) (by omega) (by omega)
                rw [HL.out, Int.zero_ediv] at hbd
                obtain ⟨b1, b2, b3⟩ := hbd
                have b4 := b3 hlt2
                clear b3
                obtain ⟨b, off, hA, -, hcell2⟩ := HS.out.at_ (by rw [HL.out]; exact hlt2)
                subst hA
                have hsn := nearK_snoc 0 l j (by rw [HL.out]; exact hlt2)
                obtain ⟨c, hc⟩ : ∃ c : UInt8, c = l[j]'(by rw [HL.out]; exact hlt2) := ⟨_, rfl⟩
                rw [← hc] at hsn hcell2
                have HN := Lib.hid hsn
                clear hsn hc
                unfold u8v at hcell2
                have hc2 := c.toNat_lt
                go_wp2
                go_round
                case rel => exact ⟨j + 1, by omega, by go_num, by rw [HN.out]⟩
                case measure => simp [intOf]; omega
              · obtain rfl : j = n := by omega
                have ht : l.take j = l := List.take_of_length_le (by rw [HL.out]; exact Nat.le_refl _)
                simp only [ht]
                clear ht
                go_wp2_with (go_at_call 17; refine (refWhole_any l _ _ _ HL.out (by omega) (by omega) (by omega) (by omega)).mono ?_; rintro e w' ⟨rfl, rfl⟩)
                go_round
                case rel => exact ⟨k + 1, by omega, by go_num⟩
                case measure => simp [intOf]; omega
    · go_wp2
      go_ret
      exact ⟨rfl, HB.out⟩

end Go.Proofs.Ytmpnhiehkiiepaa
