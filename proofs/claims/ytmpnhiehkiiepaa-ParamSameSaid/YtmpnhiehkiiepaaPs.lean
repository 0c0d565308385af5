/-
  Contracts of param.Same and of the law's nums. No condition.
-/
import Derived.Test.YtmpnhiehkiiepaaU64
import Derived.Test.YtmpnhiehkiiepaaStr
namespace Go.Proofs.Ytmpnhiehkiiepaa
open Go.RowKit

theorem eq_bytes (A : Option Addr) (n c : Nat) (B : Option Addr) (m d : Nat) (bs cs : List UInt8) (w : World) (hr : Rd u8v w w.heap.size A bs) (hn : bs.length = n) (hs : Rd u8v w w.heap.size B cs) (hm : cs.length = m) :
    Calls Try.prog 68 #[.slice A n c, .slice B m d] w fun e w' => e = .returned (.bool (decide (bs = cs))) ∧ w = w' := by
  have h1 := str_of hr hn c
  have h2 := str_of hs hm d
  have hbc : (bs == cs) = decide (bs = cs) := by rw [Bool.eq_iff_iff]; simp
  clear hr hs hn hm
  go_enter Try.func68, Try.ntmps68
  go_wp2
  rw [← hbc]
  exact bodyPost_ret (results_tmp rfl _ _ _) rfl ⟨rfl, rfl⟩

set_option maxRecDepth 100000 in
set_option maxHeartbeats 4000000 in
theorem psame_any (x0 x1 x2 x3 x4 x5 x6 x7 x8 y0 y1 y2 y3 y4 y5 y6 y7 y8 : Int) (A : Option Addr) (n c : Nat) (B : Option Addr) (m d : Nat) (bs cs : List UInt8) (w : World)
    (hr : Rd u8v w w.heap.size A bs) (hn : bs.length = n) (hs : Rd u8v w w.heap.size B cs) (hm : cs.length = m) :
    Calls Try.prog 45 #[.agg #[.int .u64 x0, .int .u64 x1, .int .u64 x2, .int .u64 x3, .int .u64 x4, .int .u64 x5, .int .u64 x6, .int .u64 x7, .int .u64 x8, .slice A n c], .agg #[.int .u64 y0, .int .u64 y1, .int .u64 y2, .int .u64 y3, .int .u64 y4, .int .u64 y5, .int .u64 y6, .int .u64 y7, .int .u64 y8, .slice B m d]] w fun e w' => e = .returned (.bool (decide (x0 = y0 ∧ x1 = y1 ∧ x2 = y2 ∧ x3 = y3 ∧ x4 = y4 ∧ x5 = y5 ∧ x6 = y6 ∧ x7 = y7 ∧ x8 = y8 ∧ bs = cs))) ∧ Below w.heap.size w w' := by
  obtain ⟨z, hz⟩ : ∃ z, z = decide (x0 = y0 ∧ x1 = y1 ∧ x2 = y2 ∧ x3 = y3 ∧ x4 = y4 ∧ x5 = y5 ∧ x6 = y6 ∧ x7 = y7 ∧ x8 = y8 ∧ bs = cs) := ⟨_, rfl⟩
  rw [← hz]
  have HZ := Lib.hid hz
  have HR := Lib.hid hr
  have HS := Lib.hid hs
  have HN := Lib.hid hn
  have HM := Lib.hid hm
  clear hz hr hs hn hm
  have HW : Hid (Below w.heap.size w ((w.alloc (.cells #[.int .u64 x0, .int .u64 x1, .int .u64 x2, .int .u64 x3, .int .u64 x4, .int .u64 x5, .int .u64 x6, .int .u64 x7, .int .u64 x8, .slice A n c] 83)).alloc (.cells #[.int .u64 y0, .int .u64 y1, .int .u64 y2, .int .u64 y3, .int .u64 y4, .int .u64 y5, .int .u64 y6, .int .u64 y7, .int .u64 y8, .slice B m d] 83))) :=
    ((Below.refl w.heap.size w).alloc (Nat.le_refl _) _).alloc (by simp) _
  by_cases h0 : x0 = y0
  case neg =>
    obtain rfl : z = false := by rw [HZ.out, decide_eq_false_iff_not]; rintro ⟨g0, g1, g2, g3, g4, g5, g6, g7, g8, g9⟩; exact h0 g0
    clear HZ
    go_enter Try.func45, Try.ntmps45
    go_wp2
    exact bodyPost_ret (results_tmp rfl _ _ _) rfl ⟨rfl, HW.out⟩
  subst h0
  by_cases h1 : x1 = y1
  case neg =>
    obtain rfl : z = false := by rw [HZ.out, decide_eq_false_iff_not]; rintro ⟨g0, g1, g2, g3, g4, g5, g6, g7, g8, g9⟩; exact h1 g1
    clear HZ
    go_enter Try.func45, Try.ntmps45
    go_wp2
    exact bodyPost_ret (results_tmp rfl _ _ _) rfl ⟨rfl, HW.out⟩
  subst h1
  by_cases h2 : x2 = y2
  case neg =>
    obtain rfl : z = false := by rw [HZ.out, decide_eq_false_iff_not]; rintro ⟨g0, g1, g2, g3, g4, g5, g6, g7, g8, g9⟩; exact h2 g2
    clear HZ
    go_enter Try.func45, Try.ntmps45
    go_wp2
    exact bodyPost_ret (results_tmp rfl _ _ _) rfl ⟨rfl, HW.out⟩
  subst h2
  by_cases h3 : x3 = y3
  case neg =>
    obtain rfl : z = false := by rw [HZ.out, decide_eq_false_iff_not]; rintro ⟨g0, g1, g2, g3, g4, g5, g6, g7, g8, g9⟩; exact h3 g3
    clear HZ
    go_enter Try.func45, Try.ntmps45
    go_wp2
    exact bodyPost_ret (results_tmp rfl _ _ _) rfl ⟨rfl, HW.out⟩
  subst h3
  by_cases h4 : x4 = y4
  case neg =>
    obtain rfl : z = false := by rw [HZ.out, decide_eq_false_iff_not]; rintro ⟨g0, g1, g2, g3, g4, g5, g6, g7, g8, g9⟩; exact h4 g4
    clear HZ
    go_enter Try.func45, Try.ntmps45
    go_wp2
    exact bodyPost_ret (results_tmp rfl _ _ _) rfl ⟨rfl, HW.out⟩
  subst h4
  by_cases h5 : x5 = y5
  case neg =>
    obtain rfl : z = false := by rw [HZ.out, decide_eq_false_iff_not]; rintro ⟨g0, g1, g2, g3, g4, g5, g6, g7, g8, g9⟩; exact h5 g5
    clear HZ
    go_enter Try.func45, Try.ntmps45
    go_wp2
    exact bodyPost_ret (results_tmp rfl _ _ _) rfl ⟨rfl, HW.out⟩
  subst h5
  by_cases h6 : x6 = y6
  case neg =>
    obtain rfl : z = false := by rw [HZ.out, decide_eq_false_iff_not]; rintro ⟨g0, g1, g2, g3, g4, g5, g6, g7, g8, g9⟩; exact h6 g6
    clear HZ
    go_enter Try.func45, Try.ntmps45
    go_wp2
    exact bodyPost_ret (results_tmp rfl _ _ _) rfl ⟨rfl, HW.out⟩
  subst h6
  by_cases h7 : x7 = y7
  case neg =>
    obtain rfl : z = false := by rw [HZ.out, decide_eq_false_iff_not]; rintro ⟨g0, g1, g2, g3, g4, g5, g6, g7, g8, g9⟩; exact h7 g7
    clear HZ
    go_enter Try.func45, Try.ntmps45
    go_wp2
    exact bodyPost_ret (results_tmp rfl _ _ _) rfl ⟨rfl, HW.out⟩
  subst h7
  by_cases h8 : x8 = y8
  case neg =>
    obtain rfl : z = false := by rw [HZ.out, decide_eq_false_iff_not]; rintro ⟨g0, g1, g2, g3, g4, g5, g6, g7, g8, g9⟩; exact h8 g8
    clear HZ
    go_enter Try.func45, Try.ntmps45
    go_wp2
    exact bodyPost_ret (results_tmp rfl _ _ _) rfl ⟨rfl, HW.out⟩
  subst h8
  obtain ⟨v, hv⟩ : ∃ v, v = decide (bs = cs) := ⟨_, rfl⟩
  obtain rfl : z = v := by
    rw [HZ.out, hv]
    simp
  have HV := Lib.hid hv
  clear hv HZ
  go_enter Try.func45, Try.ntmps45
  go_wp2_with (go_at_call 68; refine (eq_bytes A n c B m d bs cs _ ((HR.out.below HW.out (Nat.le_refl _)).more HW.out.size) HN.out ((HS.out.below HW.out (Nat.le_refl _)).more HW.out.size) HM.out).mono ?_; rintro e w2 ⟨rfl, rfl⟩; rw [← HV.out])
  exact bodyPost_ret (results_tmp rfl _ _ _) rfl ⟨rfl, HW.out⟩

end Go.Proofs.Ytmpnhiehkiiepaa
