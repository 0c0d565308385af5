/-
  Contracts of vint.attach, vint.Wide, vint.Put. A row of the caller's own grows; nothing else is written.
-/
import Derived.Test.YtmpnhiehkiiepaaVintA
namespace Go.Proofs.Ytmpnhiehkiiepaa
open Go.RowKit

theorem u8v_one (x : UInt8) : (u8v x).oneCell' = true := rfl

set_option maxHeartbeats 1000000 in
theorem attach_any (A : Option Addr) (m c : Nat) (l : List UInt8) (n : Int) (k : Nat) (base : Nat) (w : World) (hown : Own u8v 5 w base (.slice A m c) l) (hk : okSize k) (h0 : 0 ≤ n) (h1 : lenF n ≠ 0) (h2 : lenF n ≤ k)
    (hm : m + k ≤ 140737488355328) (hbase : base ≤ w.heap.size) :
    Calls Try.prog 65 #[.slice A m c, .int .u64 n, .int .i64 k] w fun e w' => ∃ A' c', e = .returned (.slice A' (m + k) c') ∧
      Own u8v 5 w' base (.slice A' (m + k) c') (l ++ wideF n k) ∧ Grow w w' (.slice A m c) (.slice A' (m + k) c') ∧ A' ≠ none := by
  have hk8 : 1 ≤ k ∧ k ≤ 8 := by rcases hk with rfl | rfl | rfl | rfl <;> omega
  obtain ⟨hk1, hk8⟩ := hk8
  obtain ⟨hlm, hmc, hcm⟩ := hown.cap
  unfold maxLen at hcm
  obtain ⟨hd1, hd2⟩ := size_cases k hk n h0 h1 h2
  have HD := Lib.hid hd1
  have HK := Lib.hid hk
  have HM := Lib.hid hlm
  clear hd1 hd2 hlm hk
  go_enter Try.func65, Try.ntmps65
  go_wp2_with (go_at_call 64; refine (mark_ok k _ HK.out).mono ?_; rintro e w' ⟨rfl, rfl⟩)
  go_loopw [0, 10] (fun v i wr => ∃ p A' c', p ≤ k ∧ i = .int .i64 ((p : Int) - 1) ∧ v = .slice A' (m + (k - p)) c' ∧ Own u8v 5 wr base (.slice A' (m + (k - p)) c') (l ++ (cutF n k).take (k - p)) ∧ Grow w wr (.slice A m c) (.slice A' (m + (k - p)) c')) (fun _ i _ => (intOf i + 1).toNat)
  case atStart =>
    refine ⟨k, A, c, Nat.le_refl _, rfl, by simp, ?_, ?_⟩
    · simpa using hown
    · simpa using Grow.refl _ _
  case round =>
    obtain ⟨p, A', c', hp, rfl, rfl, hown', hgr⟩ := hrel
    obtain ⟨hl1, hc1, hc2⟩ := hown'.cap
    unfold maxLen at hc2
    have HO := Lib.hid hown'
    have HG := Lib.hid hgr
    clear hown' hgr hl1
    rcases Nat.eq_zero_or_pos p with hp0 | hp0
    · subst hp0
      have hown1 := HO.out
      have hgr1 := HG.out
      simp only [Nat.sub_zero] at hown1 hgr1 hc1
      rw [List.take_of_length_le (show (cutF n k).length ≤ k by simp)] at hown1
      obtain ⟨g, hA1, hbg, hgl⟩ := hown1.form (by omega)
      subst hA1
      obtain ⟨e1, e2⟩ := head_toNat k HK.out n h0 HD.out
      have hlm := HM.out
      have hcell := hown1.cell m (by simp; omega)
      have hget : (l ++ cutF n k)[m]'(by simp; omega) = byteAt n (k - 1) := by
        rw [List.getElem_append_right (by omega)]
        simp [hlm, cutF_get n k 0 (by omega)]
      rw [hget] at hcell
      have hfz : wr.frozen? ⟨g, m, none⟩ = false := hown1.free m
      have hor : bits .or .u8 ((byteAt n (k - 1)).toNat : Int) (topB k) = (byteAt n (k - 1) + UInt8.ofNat (topB k)).toNat := by
        have hd := HD.out
        have ht : topB k = 0 ∨ topB k = 64 ∨ topB k = 128 ∨ topB k = 192 := by rcases HK.out with rfl | rfl | rfl | rfl <;> simp [topB]
        rw [u8_or_nat _ _ (by omega) (by omega), e2, ← e1]
        have : topB k = 2 ^ 6 * (topB k / 64) := by omega
        rw [this, Nat.or_comm, ← Nat.two_pow_add_eq_or_of_lt (by omega)]
        omega
      obtain ⟨hst, hgr2⟩ := hown1.set_ m (byteAt n (k - 1) + UInt8.ofNat (topB k))
      have hset : (l ++ cutF n k).set m (byteAt n (k - 1) + UInt8.ofNat (topB k)) = l ++ wideF n k := by
        rw [List.set_append_right _ _ (by omega), hlm, Nat.sub_self, wideF]
      rw [hset] at hst
      have HT := Lib.hid hst
      have HG2 := Lib.hid (hgr1.trans hgr2)
      unfold u8v at hcell HT HG2
      obtain ⟨bb, hbb⟩ : ∃ bb : Int, bb = ((byteAt n (k - 1)).toNat : Int) := ⟨_, rfl⟩
      obtain ⟨bc, hbc⟩ : ∃ bc : Int, bc = ((byteAt n (k - 1) + UInt8.ofNat (topB k)).toNat : Int) := ⟨_, rfl⟩
      rw [← hbb] at hcell hor
      rw [← hbc] at hor HT HG2
      have hbd : 0 ≤ bb ∧ bb < 256 ∧ 0 ≤ bc ∧ bc < 256 := by have := byteAt_lt n (k - 1); have := (byteAt n (k - 1) + UInt8.ofNat (topB k)).toNat_lt; omega
      obtain ⟨hb1, hb2, hb3, hb4⟩ := hbd
      clear hst hgr1 hgr2 hset e1 e2 hbb hbc HO HG hown1 hget hlm
      simp only [Nat.sub_zero]
      go_wp2
      go_ret
      exact ⟨some ⟨g, 0, none⟩, c', rfl, HT.out, HG2.out, by simp⟩
    · obtain ⟨q, rfl⟩ : ∃ q, p = q + 1 := ⟨p - 1, by omega⟩
      simp only [show (((q + 1 : Nat) : Int) - 1) = (q : Int) from by omega]
      have hbyte : n / 2 ^ (8 * q) % 256 = ((byteAt n q).toNat : Int) := by
        rw [byteAt_toNat n h0, Int.pow_mul]; rfl
      have hwr : base ≤ wr.heap.size := by have := HG.out.size; omega
      have hcut := cutF_take n k (k - (q + 1)) (by omega)
      rw [show k - (q + 1) + 1 = k - q from by omega, show k - 1 - (k - (q + 1)) = q from by omega] at hcut
      have HC : Hid ((l ++ (cutF n k).take (k - (q + 1))) ++ [byteAt n q] = l ++ (cutF n k).take (k - q)) := by unfold Hid; rw [hcut, List.append_assoc]
      have HL : Hid ((l ++ (cutF n k).take (k - q)).length = m + (k - q)) := by have := HM.out; unfold Hid; simp; omega
      have HB : Hid (Value.slice (some ⟨wr.heap.size, 0, none⟩) 1 1 = Value.slice (some ⟨wr.heap.size, 0, none⟩) 1 1) := rfl
      clear hcut
      go_wp2_with (at_builtin; rw [show Value.int .u8 (n / 2 ^ (8 * q) % 256) = u8v (byteAt n q) from by unfold u8v; rw [← hbyte]]; refine wpList_appL _ rfl (.tmp 24) (.tmp 31) _ rfl 5 (.int .u8 0) 1 rowB u8v u8v_one base _ _ rfl (HO.out.alloc _) (wr.heap.size + 1) _ 1 1 [byteAt n q] rfl (Rd.one u8v _ _ _) rfl _ _ HC.out HL.out (by omega) (by omega) (by simp; omega) ?_; intro A2 c2 w2 hown2 hg2 hc3 hA2)
      go_roundw
      case rel => exact ⟨q, A2, c2, by omega, rfl, rfl, hown2, HG.out.trans (Grow.of_alloc hg2)⟩
      case measure => simp [intOf]

theorem wide_not (A : Option Addr) (m c : Nat) (n k : Int) (w : World) (h0 : 0 ≤ n) (hk : ¬ (lenF n ≠ 0 ∧ lenF n ≤ k ∧ (k = 1 ∨ k = 2 ∨ k = 4 ∨ k = 8))) (hk1 : -9223372036854775808 ≤ k) (hk2 : k ≤ 9223372036854775807) :
    Calls Try.prog 30 #[.slice A m c, .int .u64 n, .int .i64 k] w fun e w' => e = .returned (.tuple #[.slice none 0 0, .int .i64 2]) ∧ w = w' := by
  by_cases hok : k = 1 ∨ k = 2 ∨ k = 4 ∨ k = 8
  · obtain ⟨j, rfl⟩ := Int.eq_ofNat_of_zero_le (show 0 ≤ k from by omega)
    have hj : okSize j := by unfold okSize; omega
    have hs := lenF_spec n
    have hlen : lenF n = 0 ∨ (j : Int) < lenF n := by omega
    clear hk hok
    obtain ⟨v, hv⟩ : ∃ v, v = lenF n := ⟨_, rfl⟩
    rw [← hv] at hs hlen
    have hvb : 0 ≤ v ∧ v ≤ 8 := by omega
    have HV := Lib.hid hv
    clear hv hs
    rcases hlen with hlen | hlen
    · subst hlen
      go_enter Try.func30, Try.ntmps30
      go_wp2_with (first | (go_at_call 26; refine (len_any n _ h0).mono ?_; rintro e w' ⟨rfl, rfl⟩; rw [← HV.out]) | (go_at_call 64; refine (mark_ok j _ hj).mono ?_; rintro e w' ⟨rfl, rfl⟩))
      go_ret2
      exact ⟨rfl, rfl⟩
    · by_cases hv0 : v = 0
      · subst hv0
        go_enter Try.func30, Try.ntmps30
        go_wp2_with (first | (go_at_call 26; refine (len_any n _ h0).mono ?_; rintro e w' ⟨rfl, rfl⟩; rw [← HV.out]) | (go_at_call 64; refine (mark_ok j _ hj).mono ?_; rintro e w' ⟨rfl, rfl⟩))
        go_ret2
        exact ⟨rfl, rfl⟩
      · have hv1 : (v == 0) = false := by simpa using hv0
        go_enter Try.func30, Try.ntmps30
        go_wp2_with (first | (go_at_call 26; refine (len_any n _ h0).mono ?_; rintro e w' ⟨rfl, rfl⟩; rw [← HV.out]) | (go_at_call 64; refine (mark_ok j _ hj).mono ?_; rintro e w' ⟨rfl, rfl⟩))
        go_ret2
        exact ⟨rfl, rfl⟩
  · clear hk
    go_enter Try.func30, Try.ntmps30
    go_wp2_with (first | (go_at_call 26; refine (len_any n _ h0).mono ?_; rintro e w' ⟨rfl, rfl⟩) | (go_at_call 64; refine (mark_not k _ (by omega) (by omega) (by omega) (by omega)).mono ?_; rintro e w' ⟨rfl, rfl⟩))
    go_ret2
    exact ⟨rfl, rfl⟩

set_option maxHeartbeats 1000000 in
theorem wide_ok (A : Option Addr) (m c : Nat) (l : List UInt8) (n : Int) (k : Nat) (B : Nat) (w : World) (hr : Rd u8v w B A l) (hl : l.length = m) (hB : B ≤ w.heap.size) (hk : okSize k) (h0 : 0 ≤ n) (h1 : lenF n ≠ 0) (h2 : lenF n ≤ k)
    (hm : m ≤ 70368744177664) :
    Calls Try.prog 30 #[.slice A m c, .int .u64 n, .int .i64 k] w fun e w' => ∃ A' c', e = .returned (.tuple #[.slice A' (m + k) c', .int .i64 0]) ∧
      Own u8v 5 w' w.heap.size (.slice A' (m + k) c') (l ++ wideF n k) ∧ Below w.heap.size w w' ∧ A' ≠ none := by
  have hk8 : 1 ≤ k ∧ k ≤ 8 := by rcases hk with rfl | rfl | rfl | rfl <;> omega
  obtain ⟨hk1, hk8⟩ := hk8
  have h1' := h1
  have h2' := h2
  obtain ⟨v, hv⟩ : ∃ v, v = lenF n := ⟨_, rfl⟩
  rw [← hv] at h1 h2
  have hv0 : (v == 0) = false := by simpa using h1
  have HV := Lib.hid hv
  have HK := Lib.hid hk
  have HL := Lib.hid hl
  have H1 := Lib.hid h1'
  have H2 := Lib.hid h2'
  clear hv hk h1 hl h1' h2'
  go_enter Try.func30, Try.ntmps30
  go_wp2_with (first | (go_at_call 26; refine (len_any n _ h0).mono ?_; rintro e w' ⟨rfl, rfl⟩; rw [← HV.out]) | (go_at_call 64; refine (mark_ok k _ HK.out).mono ?_; rintro e w' ⟨rfl, rfl⟩) | (at_make; refine wpList_mkL _ rfl (.tmp 31) (.tmp 35) _ rfl 5 (.int .u8 0) 1 rowB u8v (0 : UInt8) rfl w.heap.size _ _ m (m + k) _ _ rfl rfl rfl (by simp) (by omega) (by omega) (by omega) (Nat.le_refl _) ?_; intro w1 hown1 hg1 hs1) | (with_reducible refine wpList_cpL _ rfl (.tmp 37) (.tmp 38) _ _ rfl 5 (.int .u8 0) 1 rowB u8v u8v_one w.heap.size (.slice (some ⟨w.heap.size, 0, none⟩) m (m + k)) (List.replicate m 0) ?ho _ _ _ rfl B _ _ _ rfl l ?hrd ?hlm w.heap.size 0 rfl ?hpos ?hfit l ?hsp ?_))
  case ho => exact hown1
  case hrd => exact hr.grown hg1 hB
  case hlm => exact HL.out
  case hfit => simp
  case hsp =>
    have e : Nat.min m m = m := Nat.min_self m
    rw [e, List.take_of_length_le (by rw [HL.out]; exact Nat.le_refl _)]
    simp [splice, HL.out]
  intro w2 hown2 hgr2 hs2
  have hb1 := below_new hg1
  have hb2 : Below w.heap.size w w2 := hgr2.below hb1 hown1.lt (by omega)
  have HO := Lib.hid hown2
  have HB2 := Lib.hid hb2
  clear hown1 hown2 hgr2 hg1 hb1 hb2 hr
  have hbase : w.heap.size ≤ w2.heap.size := by omega
  go_wp2_with (go_at_call 65; refine (attach_any _ m (m + k) l n k w.heap.size _ HO.out HK.out h0 H1.out H2.out (by omega) hbase).mono ?_; rintro e w3 ⟨A3, c3, rfl, hown3, hgr3, hA3⟩)
  go_ret2
  exact ⟨A3, c3, rfl, hown3, hgr3.below HB2.out HO.out.lt hbase, hA3⟩
end Go.Proofs.Ytmpnhiehkiiepaa
