/-
  binnaclelaw01.VintBytes returns true. No condition.
-/
import Derived.Test.YtmpnhiehkiiepaaVintTakes
namespace Go.Proofs.Ytmpnhiehkiiepaa
open Go.RowKit

theorem neq_nil (W : World) (a : Option Addr) (n c : Nat) : (binOp .neq 22 (.slice a n c) (.slice none 0 0)).run Try.prog W = .ok (.bool (!a.isNone)) W := run_neq_slice_nil_any W 22 5 a n c 0 0 Try.underlying22
theorem eql_nil (W : World) (a : Option Addr) (n c : Nat) : (binOp .eql 22 (.slice a n c) (.slice none 0 0)).run Try.prog W = .ok (.bool a.isNone) W := Lib.run_eql_slice_nil W 22 5 a n c 0 0 Try.underlying22
theorem add_str (x y : List UInt8) (hx : x.length ≤ 8388608) (hy : y.length ≤ 8388608) (W : World) : (Op.stringOp .add ⟨x.toArray⟩ ⟨y.toArray⟩).run Try.prog W = .ok (.string ⟨(x ++ y).toArray⟩) W :=
  run_string_add_lists W x y (by omega) (by omega)
theorem below_then {a b c : World} (h : Below a.heap.size a b) (k : Below b.heap.size b c) : Below a.heap.size a c := h.trans (k.mono h.size)
theorem some_of {A : Option Addr} (h : A ≠ none) : ∃ a, A = some a := Option.ne_none_iff_exists'.1 h

/-- One of the sizes that are tried. -/
def ksel (s : Int) (j : Nat) : Int := if j = 0 then s else if j = 1 then 1 else if j = 2 then 2 else if j = 3 then 4 else 8
theorem ksel_bd (s : Int) (j : Nat) (h1 : -9223372036854775808 ≤ s) (h2 : s ≤ 9223372036854775807) : -9223372036854775808 ≤ ksel s j ∧ ksel s j ≤ 9223372036854775807 := by
  unfold ksel; split <;> (try split) <;> (try split) <;> (try split) <;> omega
theorem ksel_cell (w : World) (s : Int) (t : TypeId) (k : Nat) (hk : k < 5) : (w.alloc (.cells #[.int .i64 s, .int .i64 1, .int .i64 2, .int .i64 4, .int .i64 8] t)).cell? ⟨w.heap.size, k, none⟩ = some (.int .i64 (ksel s k)) := by
  match k, hk with
  | 0, _ => simp [go_sem, ksel]
  | 1, _ => simp [go_sem, ksel]
  | 2, _ => simp [go_sem, ksel]
  | 3, _ => simp [go_sem, ksel]
  | 4, _ => simp [go_sem, ksel]

set_option maxHeartbeats 1000000 in
theorem bytes_big (n s : Int) (A1 A2 : Option Addr) (m1 c1 m2 c2 : Nat) (w : World) (hm1 : m1 ≤ 9223372036854775807) (hm2 : m2 ≤ 9223372036854775807) (hbig : 100 < m1 ∨ 100 < m2) :
    Calls Try.prog 7 #[.int .u64 n, .int .i64 s, .slice A1 m1 c1, .slice A2 m2 c2] w fun e w' => e = .returned (.bool true) ∧ Below w.heap.size w w' := by
  by_cases h1 : 100 < m1
  · clear hbig
    go_enter Try.func7, Try.ntmps7
    go_wp2_with (go_at_call 25; refine (awake01 _).mono ?_; rintro e w1 ⟨rfl, hb1⟩)
    go_ret
    exact ⟨rfl, by assumption⟩
  · have h2 : 100 < m2 := by omega
    clear hbig
    go_enter Try.func7, Try.ntmps7
    go_wp2_with (go_at_call 25; refine (awake01 _).mono ?_; rintro e w1 ⟨rfl, hb1⟩)
    go_ret
    exact ⟨rfl, by assumption⟩

set_option maxRecDepth 100000 in
set_option maxHeartbeats 1000000 in
theorem bytes_none (n s : Int) (A1 A2 : Option Addr) (m1 c1 m2 c2 : Nat) (w : World) (hm1 : m1 ≤ 100) (hm2 : m2 ≤ 100) (h0 : 0 ≤ n) (hz : lenF n = 0) (hs1 : -9223372036854775808 ≤ s) (hs2 : s ≤ 9223372036854775807) :
    Calls Try.prog 7 #[.int .u64 n, .int .i64 s, .slice A1 m1 c1, .slice A2 m2 c2] w fun e w' => e = .returned (.bool true) ∧ Below w.heap.size w w' := by
  have hn1 := neq_nil
  have hn2 := eql_nil
  have HZ := Lib.hid hz
  clear hz
  go_enter Try.func7, Try.ntmps7
  go_wp2_with (first | (go_at_call 25; refine (awake01 _).mono ?_; rintro e w1 ⟨rfl, hb1⟩; have HB1 := Lib.hid hb1; clear hb1) | (go_at_call 26; refine (len_any n _ h0).mono ?_; rintro e w' ⟨rfl, rfl⟩) | (go_at_call 27; refine (refLen_any n _ h0).mono ?_; rintro e w' ⟨rfl, rfl⟩) | (go_at_call 28; refine (put_not A1 m1 c1 n _ h0 HZ.out).mono ?_; rintro e w' ⟨rfl, rfl⟩) | (go_at_call 29; refine (refPut_not n _ h0 HZ.out).mono ?_; rintro e w' ⟨rfl, rfl⟩))
  have hc2 := ksel_cell w1 s 3
  have hb2 := HB1.out.alloc HB1.out.size (.cells #[.int .i64 s, .int .i64 1, .int .i64 2, .int .i64 4, .int .i64 8] 3)
  obtain ⟨w2, hw2⟩ : ∃ w2, w2 = w1.alloc (.cells #[.int .i64 s, .int .i64 1, .int .i64 2, .int .i64 4, .int .i64 8] 3) := ⟨_, rfl⟩
  rw [← hw2] at hc2 hb2 ⊢
  have HC := Lib.hid hc2
  have HB := Lib.hid hb2
  clear hw2 hc2 hb2
  go_loop [78] (fun i => ∃ k : Nat, k ≤ 5 ∧ i = .int .i64 k) (fun i => 5 - (intOf i).toNat)
  case atStart => exact ⟨0, by omega, rfl⟩
  case round =>
    obtain ⟨k, hk, rfl⟩ := hrel
    by_cases hlt : k < 5
    · have hcell := HC.out k hlt
      obtain ⟨x, hx⟩ : ∃ x, x = ksel s k := ⟨_, rfl⟩
      have hxb := ksel_bd s k hs1 hs2
      rw [← hx] at hcell hxb
      clear hx
      obtain ⟨hx1, hx2⟩ := hxb
      go_wp2_with (first | (go_at_call 30; refine (wide_not A1 m1 c1 n x _ h0 (by have := HZ.out; omega) hx1 hx2).mono ?_; rintro e w' ⟨rfl, rfl⟩) | (go_at_call 31; refine (refWide_not n x _ h0 (by have := HZ.out; omega) hx1 hx2).mono ?_; rintro e w' ⟨rfl, rfl⟩))
      go_round
      case rel => exact ⟨k + 1, by omega, by go_num⟩
      case measure => simp [intOf]; omega
    · go_wp2
      go_ret
      exact ⟨rfl, HB.out⟩

set_option maxRecDepth 100000 in
set_option maxHeartbeats 2000000 in
theorem bytes_some (n s : Int) (A1 A2 : Option Addr) (m1 c1 m2 c2 : Nat) (l1 l2 : List UInt8) (w : World) (hm1 : m1 ≤ 100) (hm2 : m2 ≤ 100) (h0 : 0 ≤ n) (hz : lenF n ≠ 0) (hs1 : -9223372036854775808 ≤ s) (hs2 : s ≤ 9223372036854775807)
    (hr1 : Rd u8v w w.heap.size A1 l1) (hl1 : l1.length = m1) (hr2 : Rd u8v w w.heap.size A2 l2) (hl2 : l2.length = m2) :
    Calls Try.prog 7 #[.int .u64 n, .int .i64 s, .slice A1 m1 c1, .slice A2 m2 c2] w fun e w' => e = .returned (.bool true) ∧ Below w.heap.size w w' := by
  have hn1 := neq_nil
  have hn2 := eql_nil
  have HZ := Lib.hid hz
  have HR1 := Lib.hid hr1
  have HR2 := Lib.hid hr2
  have HL1 := Lib.hid hl1
  have HL2 := Lib.hid hl2
  have hp8 : Hid ((putF n).length ≤ 8) := by
    obtain ⟨k, hk, hok⟩ := lenF_ok n hz
    unfold Hid putF
    rw [hk]
    rcases hok with rfl | rfl | rfl | rfl <;> simp
  clear hz hr1 hr2 hl1 hl2
  have hadd := add_str l1 (putF n) (by have := HL1.out; omega) (by have := hp8.out; omega)
  go_enter Try.func7, Try.ntmps7
  go_wp2_with (first | (go_at_call 25; refine (awake01 _).mono ?_; rintro e w1 ⟨rfl, hb1⟩; have HB1 := Lib.hid hb1; have HR11 := Lib.hid (HR1.out.below hb1 (Nat.le_refl _)); have hwz := hb1.size; clear hb1) | (go_at_call 26; refine (len_any n _ h0).mono ?_; rintro e w' ⟨rfl, rfl⟩) | (go_at_call 27; refine (refLen_any n _ h0).mono ?_; rintro e w' ⟨rfl, rfl⟩) | (go_at_call 28; refine (put_ok A1 m1 c1 l1 n w.heap.size _ HR11.out HL1.out hwz h0 HZ.out (by omega)).mono ?_; rintro e w2 ⟨A3, N3, c3, rfl, hown3, hb2, hA3⟩; obtain ⟨a3, rfl⟩ := some_of hA3; clear hA3; have HO3 := Lib.hid hown3; have HB2 := Lib.hid hb2; clear hown3 hb2) | (go_at_call 29; refine (refPut_ok n _ h0 HZ.out).mono ?_; rintro e w3 ⟨A4, N4, c4, rfl, hown4, hb3, hA4⟩; obtain ⟨a4, rfl⟩ := some_of hA4; clear hA4; have HB3 := Lib.hid hb3; have hstr1 := str_of (HO3.out.below hb3 (Nat.le_refl _)).rd HO3.out.cap.1 c3; have hstr2 := str_of hown4.rd hown4.cap.1 c4; have hstr3 := str_of ((HR11.out.below HB2.out hwz).below hb3 (Nat.le_trans hwz HB2.out.size)) HL1.out c1; clear hown4 hb3))
  have hw1 : w.heap.size ≤ w3.heap.size := by have := HB2.out.size; have := HB3.out.size; omega
  have hbb : Below w.heap.size w w3 := HB1.out.trans ((HB2.out.mono hwz).trans (HB3.out.mono (Nat.le_trans hwz HB2.out.size)))
  have hc2 := ksel_cell w3 s 3
  have hb2 := hbb.alloc hw1 (.cells #[.int .i64 s, .int .i64 1, .int .i64 2, .int .i64 4, .int .i64 8] 3)
  have hra : Rd u8v (w3.alloc (.cells #[.int .i64 s, .int .i64 1, .int .i64 2, .int .i64 4, .int .i64 8] 3)) w.heap.size A1 l1 := (HR1.out.below hbb (Nat.le_refl _)).alloc hw1 _
  have hrb : Rd u8v (w3.alloc (.cells #[.int .i64 s, .int .i64 1, .int .i64 2, .int .i64 4, .int .i64 8] 3)) w.heap.size A2 l2 := (HR2.out.below hbb (Nat.le_refl _)).alloc hw1 _
  have hsz : (w3.alloc (.cells #[.int .i64 s, .int .i64 1, .int .i64 2, .int .i64 4, .int .i64 8] 3)).heap.size = w3.heap.size + 1 := by simp
  obtain ⟨w4, hw4⟩ : ∃ w4, w4 = w3.alloc (.cells #[.int .i64 s, .int .i64 1, .int .i64 2, .int .i64 4, .int .i64 8] 3) := ⟨_, rfl⟩
  rw [← hw4] at hc2 hb2 hra hrb hsz ⊢
  have HC := Lib.hid hc2
  have HB := Lib.hid hb2
  have HA := Lib.hid hra
  have HD := Lib.hid hrb
  have HS := Lib.hid hsz
  clear hw4 hc2 hb2 hra hrb hsz hbb hstr1 hstr2 hstr3 hadd HR11 HB1 HB2 HB3 HO3 HR1 HR2
  go_loopw [78] (fun i wr => ∃ k : Nat, k ≤ 5 ∧ i = .int .i64 k ∧ Below w4.heap.size w4 wr) (fun i _ => 5 - (intOf i).toNat)
  case atStart => exact ⟨0, by omega, rfl, Below.refl _ _⟩
  case round =>
    obtain ⟨k, hk, rfl, hbr⟩ := hrel
    have HBR := Lib.hid hbr
    clear hbr
    by_cases hlt : k < 5
    · have hcell : wr.cell? ⟨w3.heap.size, k, none⟩ = some (.int .i64 (ksel s k)) := (HBR.out.cell (p := ⟨w3.heap.size, k, none⟩) (by have := HS.out; simp; omega)).trans (HC.out k hlt)
      obtain ⟨x, hx⟩ : ∃ x, x = ksel s k := ⟨_, rfl⟩
      have hxb := ksel_bd s k hs1 hs2
      rw [← hx] at hcell hxb
      clear hx
      obtain ⟨hx1, hx2⟩ := hxb
      by_cases hok : lenF n ≠ 0 ∧ lenF n ≤ x ∧ (x = 1 ∨ x = 2 ∨ x = 4 ∨ x = 8)
      · obtain ⟨_, hle, hx4⟩ := hok
        obtain ⟨j, rfl⟩ := Int.eq_ofNat_of_zero_le (show 0 ≤ x from by omega)
        have hj : okSize j := by unfold okSize; omega
        have hj8 : j ≤ 8 := by omega
        have HJ := Lib.hid hj
        have HLE := Lib.hid hle
        clear hj hle hx4
        have hadd2 := add_str l1 (wideF n j) (by have := HL1.out; omega) (by simp; omega)
        have hz4 : w.heap.size ≤ wr.heap.size := by have := HBR.out.size; have := HS.out; omega
        have hraw : Hid (Rd u8v wr w.heap.size A1 l1) := HA.out.below HBR.out (by have := HS.out; omega)
        have hrbw : Hid (Rd u8v wr w.heap.size A2 l2) := HD.out.below HBR.out (by have := HS.out; omega)
        have hj1 : 1 ≤ j := by have := HJ.out; unfold okSize at this; omega
        obtain ⟨c, r, hcr⟩ : ∃ c r, wideF n j ++ l2 = c :: r := by
          cases h : wideF n j ++ l2 with
          | nil => have := congrArg List.length h; simp at this; omega
          | cons c r => exact ⟨c, r, rfl⟩
        have htk := take_wide j HJ.out n h0 HZ.out HLE.out l2
        rw [hcr] at htk
        have hrl : r.length + 1 = j + m2 := by have := congrArg List.length hcr; simp at this; have := HL2.out; omega
        have HTN := Lib.hid htk.1
        have HTV := Lib.hid htk.2
        have HCR := Lib.hid hcr
        have HRL := Lib.hid hrl
        clear htk hcr hrl
        go_wp2_with (first | (go_at_call 30; refine (wide_ok A1 m1 c1 l1 n j w.heap.size _ hraw.out HL1.out hz4 HJ.out h0 HZ.out HLE.out (by omega)).mono ?_; rintro e w5 ⟨A5, c5, rfl, hown5, hb5, hA5⟩; obtain ⟨a5, rfl⟩ := some_of hA5; clear hA5; have HO5 := Lib.hid hown5; have HB5 := Lib.hid hb5; clear hown5 hb5) | (go_at_call 31; refine (refWide_ok n j _ h0 HJ.out HZ.out HLE.out).mono ?_; rintro e w6 ⟨A6, c6, rfl, hown6, hb6, hA6⟩; obtain ⟨a6, rfl⟩ := some_of hA6; clear hA6; have HB6 := Lib.hid hb6; have HO6 := Lib.hid hown6; have hstr1 := str_of (HO5.out.below hb6 (Nat.le_refl _)).rd HO5.out.cap.1 c5; have hstr2 := str_of hown6.rd hown6.cap.1 c6; have hstr3 := str_of ((hraw.out.below HB5.out hz4).below hb6 (Nat.le_trans hz4 HB5.out.size)) HL1.out c1; have hz6 : wr.heap.size ≤ w6.heap.size := Nat.le_trans HB5.out.size hb6.size; clear hown6 hb6) | (at_builtin; refine wpList_appL _ rfl (.tmp 127) (.tmp 128) _ rfl 5 (.int .u8 0) 1 rowB u8v u8v_one w6.heap.size _ [] rfl (Own.empty u8v 5 _ _ _ rfl (Nat.le_refl _)) w6.heap.size _ j c6 (wideF n j) rfl (HO6.out.rd.alloc (Nat.le_refl _) _) (by simp) (wideF n j) j rfl (by simp) (by omega) (by omega) (by simp) ?_; intro A7 c7 w7 hown7 hgr7 hc7 hA7; have HO7 := Lib.hid hown7; have HB7 : Hid (Below w6.heap.size w6 w7) := hgr7.below ((Below.refl _ _).alloc (Nat.le_refl _) _) (ownBlock_ge (Nat.le_refl _)) (by simp); have HR7 : Hid (Rd u8v w7 w.heap.size A2 l2) := ((hrbw.out.below HB5.out hz4).below HB6.out (Nat.le_trans hz4 HB5.out.size)).below HB7.out (Nat.le_trans hz4 hz6); clear hown7 hgr7 hc7 hA7) | (at_builtin; refine wpList_appL _ rfl (.tmp 129) (.tmp 130) _ rfl 5 (.int .u8 0) 1 rowB u8v u8v_one w6.heap.size _ (wideF n j) rfl HO7.out w.heap.size _ m2 c2 l2 rfl HR7.out HL2.out (c :: r) (j + m2) HCR.out (by simp; exact HRL.out) (by omega) (by omega) HB7.out.size ?_; intro A8 c8 w8 hown8 hgr8 hc8 hA8; have HO8 := Lib.hid hown8; have HB8 : Hid (Below w6.heap.size w6 w8) := hgr8.below HB7.out HO7.out.lt HB7.out.size; have hc8m := hown8.cap.2.2; unfold maxLen at hc8m; clear hown8 hgr8 hA8) | (go_at_call 32; refine (take_ok A8 (j + m2) c8 c r w8.heap.size _ HO8.out.rd HRL.out hc8 hc8m (by have := HTN.out; omega)).mono ?_; rintro e w' ⟨rfl, rfl⟩; rw [HTN.out, HTV.out]))
        go_roundw
        case rel => exact ⟨k + 1, by omega, by go_num, below_then (below_then (below_then HBR.out HB5.out) HB6.out) HB8.out⟩
        case measure => simp [intOf]; omega
      · have HOK := Lib.hid hok
        clear hok
        go_wp2_with (first | (go_at_call 30; refine (wide_not A1 m1 c1 n x _ h0 HOK.out hx1 hx2).mono ?_; rintro e w' ⟨rfl, rfl⟩) | (go_at_call 31; refine (refWide_not n x _ h0 HOK.out hx1 hx2).mono ?_; rintro e w' ⟨rfl, rfl⟩))
        go_roundw
        case rel => exact ⟨k + 1, by omega, by go_num, HBR.out⟩
        case measure => simp [intOf]; omega
    · go_wp2
      go_ret
      exact ⟨rfl, HB.out.trans (HBR.out.mono (by have := HS.out; omega))⟩

theorem walk_bytes (n s : Int) (A1 A2 : Option Addr) (m1 c1 m2 c2 : Nat) (l1 l2 : List UInt8) (w : World) (hm1 : m1 ≤ 9223372036854775807) (hm2 : m2 ≤ 9223372036854775807) (h0 : 0 ≤ n) (hs1 : -9223372036854775808 ≤ s) (hs2 : s ≤ 9223372036854775807)
    (hr1 : Rd u8v w w.heap.size A1 l1) (hl1 : l1.length = m1) (hr2 : Rd u8v w w.heap.size A2 l2) (hl2 : l2.length = m2) :
    Calls Try.prog 7 #[.int .u64 n, .int .i64 s, .slice A1 m1 c1, .slice A2 m2 c2] w fun e w' => e = .returned (.bool true) ∧ Below w.heap.size w w' := by
  by_cases hbig : 100 < m1 ∨ 100 < m2
  · exact bytes_big n s A1 A2 m1 c1 m2 c2 w hm1 hm2 hbig
  · by_cases hz : lenF n = 0
    · exact bytes_none n s A1 A2 m1 c1 m2 c2 w (by omega) (by omega) h0 hz hs1 hs2
    · exact bytes_some n s A1 A2 m1 c1 m2 c2 l1 l2 w (by omega) (by omega) h0 hz hs1 hs2 hr1 hl1 hr2 hl2
end Go.Proofs.Ytmpnhiehkiiepaa
