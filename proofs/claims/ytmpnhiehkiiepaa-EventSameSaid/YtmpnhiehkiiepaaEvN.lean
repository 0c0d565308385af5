/-
  Contract of event.Named. Nothing old is written.
-/
import Derived.Test.YtmpnhiehkiiepaaEv
namespace Go.Proofs.Ytmpnhiehkiiepaa
open Go.RowKit

/-- The kind of a name; 0: there is none. -/
def namedF (s : List UInt8) : Nat := match (List.range 19).find? (fun i => evName (i + 1) == s) with | some i => i + 1 | none => 0
theorem named_hit (s : List UInt8) (k : Nat) (h1 : 1 ≤ k) (h2 : k ≤ 19) (h : evName k = s) (hn : ∀ j, 1 ≤ j → j < k → evName j ≠ s) : namedF s = k := by
  unfold namedF
  have : (List.range 19).find? (fun i => evName (i + 1) == s) = some (k - 1) := by
    rw [List.find?_range_eq_some]
    refine ⟨by simp; rw [show k - 1 + 1 = k from by omega]; exact h, by simp; omega, fun j hj => ?_⟩
    simp
    exact hn (j + 1) (by omega) (by omega)
  rw [this]
  simp; omega
theorem named_miss (s : List UInt8) (hn : ∀ j, 1 ≤ j → j < 20 → evName j ≠ s) : namedF s = 0 := by
  unfold namedF
  have : (List.range 19).find? (fun i => evName (i + 1) == s) = none := by
    rw [List.find?_eq_none]
    intro i hi
    simp at hi ⊢
    exact hn (i + 1) (by omega) (by omega)
  rw [this]

set_option maxRecDepth 100000 in
set_option maxHeartbeats 1000000 in
theorem named_any (s : List UInt8) (w : World) : Calls Try.prog 23 #[.string ⟨s.toArray⟩] w fun e w' => e = .returned (.tuple #[.int .u8 (namedF s), .bool (decide (namedF s ≠ 0))]) ∧ Below w.heap.size w w' := by
  go_enter Try.func23, Try.ntmps23
  go_wp2
  go_loopw [4] (fun i wr => ∃ k : Nat, 1 ≤ k ∧ k ≤ 20 ∧ i = .int .u8 k ∧ Hid (∀ j, 1 ≤ j → j < k → evName j ≠ s) ∧ Below w.heap.size w wr) (fun i _ => 20 - (intOf i).toNat)
  case atStart => exact ⟨1, by omega, by omega, rfl, fun j h1 h2 => by omega, Below.refl _ _⟩
  case round =>
    obtain ⟨k, hk1, hk2, rfl, HN, hb⟩ := hrel
    have HB := Lib.hid hb
    clear hb
    by_cases hlt : k < 20
    · by_cases heq : evName k = s
      · have HE := Lib.hid heq
        have hs : ((evName k) == s) = true := by rw [heq]; simp
        clear heq
        go_wp2_with (go_at_call 22; refine (of_any k _ (by omega)).mono ?_; rintro e w1 ⟨A1, n1, c1, rfl, hr1, hn1, hb1⟩; rw [Int.toNat_natCast])
        go_ret2
        refine ⟨?_, (HB.out.trans (hb1.mono HB.out.size)).alloc (Nat.le_trans HB.out.size hb1.size) _⟩
        rw [named_hit s k hk1 (by omega) HE.out HN.out]
        have : decide (k ≠ 0) = true := by simp; omega
        rw [this]
        rfl
      · have HE := Lib.hid heq
        have hs : ((evName k) == s) = false := by simpa using heq
        clear heq
        go_wp2_with (go_at_call 22; refine (of_any k _ (by omega)).mono ?_; rintro e w1 ⟨A1, n1, c1, rfl, hr1, hn1, hb1⟩; rw [Int.toNat_natCast])
        go_roundw
        case rel => exact ⟨k + 1, by omega, by omega, by go_num, fun j h1 h2 => if h : j = k then by rw [h]; exact HE.out else HN.out j h1 (by omega), (HB.out.trans (hb1.mono HB.out.size)).alloc (Nat.le_trans HB.out.size hb1.size) _⟩
        case measure => simp [intOf]; omega
    · obtain rfl : k = 20 := by omega
      go_wp2
      go_ret2
      refine ⟨?_, HB.out⟩
      rw [named_miss s HN.out]
      rfl
end Go.Proofs.Ytmpnhiehkiiepaa
