/-
  binnaclelaw01.VintTakes returns true. No condition.
-/
import Derived.Test.YtmpnhiehkiiepaaVintR
import Derived.Test.YtmpnhiehkiiepaaStr
namespace Go.Proofs.Ytmpnhiehkiiepaa
open Go.RowKit

theorem awake01 (w : World) : Calls Try.prog 25 #[] w fun e w' => e = .returned (.bool true) ∧ Below w.heap.size w w' := by
  have hp : putF 300 = [65, 44] := by decide +kernel
  have key := put_ok none 0 0 [] 300 0 w (Rd.nil_ u8v w 0 none) rfl (by omega) (by omega) (by decide +kernel) (by omega)
  rw [List.nil_append, hp] at key
  have HKEY := Lib.hid key
  clear key hp
  go_enter Try.func25, Try.ntmps25
  go_wp2_with (go_at_call 28; refine HKEY.out.mono ?_; rintro e w1 ⟨A1, N1, c1, rfl, hown1, hb1, hA1⟩; have hs1 := str_of hown1.rd hown1.cap.1 c1)
  go_ret
  exact ⟨rfl, hb1⟩

set_option maxHeartbeats 1000000 in
theorem walk_takes (A : Option Addr) (n cap : Nat) (l : List UInt8) (w : World) (hr : Rd u8v w w.heap.size A l) (hl : l.length = n) (hc : n ≤ cap) (hm : cap ≤ 9223372036854775807) :
    Calls Try.prog 8 #[.slice A n cap] w fun e w' => e = .returned (.bool true) ∧ Below w.heap.size w w' := by
  have HR := Lib.hid hr
  clear hr
  cases l with
  | nil =>
    obtain rfl : n = 0 := by simpa using hl.symm
    clear hl
    go_enter Try.func8, Try.ntmps8
    go_wp2_with (first | (go_at_call 25; refine (awake01 _).mono ?_; rintro e w1 ⟨rfl, hb1⟩) | (go_at_call 32; refine (take_nil A cap _).mono ?_; rintro e w' ⟨rfl, rfl⟩) | (go_at_call 33; refine (refTake_nil A cap _).mono ?_; rintro e w' ⟨rfl, rfl⟩))
    go_ret
    exact ⟨rfl, by assumption⟩
  | cons c r =>
    by_cases hk : takeN (c :: r) = 0
    · have hz : takeV (c :: r) = 0 := by
        by_cases hlt : r.length + 1 < 2 ^ (c.toNat / 64)
        · exact (take_not c r hlt).2
        · have := takeN_eq c r hlt; have := pow_cases c; omega
      have hl' : r.length + 1 = n := by simpa using hl
      have HL := Lib.hid hl'
      have HK := Lib.hid hk
      have HZ := Lib.hid hz
      clear hl hl' hk hz
      go_enter Try.func8, Try.ntmps8
      go_wp2_with (first | (go_at_call 25; refine (awake01 _).mono ?_; rintro e w1 ⟨rfl, hb1⟩; have HR1 := Lib.hid (HR.out.below hb1 (Nat.le_refl _)); have HB1 := Lib.hid hb1; clear hb1) | (go_at_call 32; refine (take_short A n cap c r _ _ HR1.out HL.out (by omega) HK.out).mono ?_; rintro e w' ⟨rfl, rfl⟩) | (go_at_call 33; refine (refTake_cons A n cap c r _ _ HR1.out HL.out (by omega)).mono ?_; rintro e w' ⟨rfl, rfl⟩; rw [HK.out, HZ.out]))
      go_ret
      exact ⟨rfl, HB1.out⟩
    · have hl' : r.length + 1 = n := by simpa using hl
      have HL := Lib.hid hl'
      have HK := Lib.hid hk
      have hpos : 0 < takeN (c :: r) := by omega
      clear hl hl' hk
      have hne : (((takeN (c :: r) : Nat) : Int) == 0) = false := by simp; omega
      go_enter Try.func8, Try.ntmps8
      go_wp2_with (first | (go_at_call 25; refine (awake01 _).mono ?_; rintro e w1 ⟨rfl, hb1⟩; have HR1 := Lib.hid (HR.out.below hb1 (Nat.le_refl _)); have HB1 := Lib.hid hb1; clear hb1) | (go_at_call 32; refine (take_ok A n cap c r _ _ HR1.out HL.out hc hm HK.out).mono ?_; rintro e w' ⟨rfl, rfl⟩) | (go_at_call 33; refine (refTake_cons A n cap c r _ _ HR1.out HL.out (by omega)).mono ?_; rintro e w' ⟨rfl, rfl⟩))
      go_ret
      exact ⟨rfl, HB1.out⟩
end Go.Proofs.Ytmpnhiehkiiepaa
