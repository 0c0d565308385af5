/-
  Contracts of slices.Equal at numbers, bytes.Equal, event's Same and Num. No condition.
-/
import Derived.Test.YtmpnhiehkiiepaaEvC
import Derived.Test.YtmpnhiehkiiepaaStr
import Derived.Deep.QuietTactic
import Derived.BigQuiet
import Derived.IntWalk
namespace Go.Proofs.Ytmpnhiehkiiepaa
open Go.RowKit

set_option maxHeartbeats 1000000 in
theorem equal_nums (A : Option Addr) (n c : Nat) (B : Option Addr) (m d : Nat) (ns ms : List Int) (w : World) (hr : Rd u64v w w.heap.size A ns) (hn : ns.length = n) (hs : Rd u64v w w.heap.size B ms) (hm : ms.length = m) (hn63 : n ≤ 9223372036854775807) :
    Calls Try.prog 67 #[.slice A n c, .slice B m d] w fun e w' => e = .returned (.bool (decide (ns = ms))) ∧ Below w.heap.size w w' := by
  obtain ⟨z, hz⟩ : ∃ z, z = decide (ns = ms) := ⟨_, rfl⟩
  rw [← hz]
  have HZ := Lib.hid hz
  have HR := Lib.hid hr
  have HS := Lib.hid hs
  have HN := Lib.hid hn
  have HM := Lib.hid hm
  clear hz hr hs hn hm
  by_cases hnm : n = m
  · subst hnm
    go_enter Try.func67, Try.ntmps67
    go_wp2
    go_loopw [13] (fun i wr => ∃ j : Nat, j ≤ n ∧ i = .int .i64 j ∧ Hid (ns.take j = ms.take j) ∧ Hid (Below w.heap.size w wr)) (fun i _ => n - (intOf i).toNat)
    case atStart => exact ⟨0, by omega, rfl, by simp [Hid], Below.refl _ _⟩
    case round =>
      obtain ⟨j, hj, rfl, HJ, HB⟩ := hrel
      by_cases hlt : j < n
      · have hjl : j < ns.length := by have := HN.out; omega
        have hjm : j < ms.length := by have := HM.out; omega
        have hji : (j : Int) < (n : Int) := by omega
        obtain ⟨b1, o1, hA, -, c1⟩ := (HR.out.below HB.out (Nat.le_refl _)).at_ hjl
        obtain ⟨b2, o2, hB, -, c2⟩ := (HS.out.below HB.out (Nat.le_refl _)).at_ hjm
        subst hA
        subst hB
        obtain ⟨x, hx⟩ : ∃ x, x = ns[j] := ⟨_, rfl⟩
        obtain ⟨y, hy⟩ : ∃ y, y = ms[j] := ⟨_, rfl⟩
        rw [← hx] at c1
        rw [← hy] at c2
        have HX := Lib.hid hx
        have HY := Lib.hid hy
        clear hx hy
        unfold u64v at c1 c2
        go_wp2_with fail
        go_quiet (fail)
        by_cases hxy : x = y
        · subst hxy
          go_wp2_with fail
          case roundEnd =>
            refine ⟨⟨j + 1, by omega, rfl, Lib.hid ?_, below_drewn HB.out _⟩, ?_⟩
            · rw [List.take_succ_eq_append_getElem hjl, List.take_succ_eq_append_getElem hjm, HJ.out, ← HX.out, ← HY.out]
            · show _ - (((j : Int) + 1).toNat) < _ - ((j : Int).toNat)
              omega
        · go_wp2_with fail
          obtain rfl : z = false := by
            rw [HZ.out, decide_eq_false_iff_not]
            intro h
            apply hxy
            rw [HX.out, HY.out]
            simp only [h]
          exact bodyPost_ret (results_tmp rfl _ _ _) rfl ⟨rfl, below_drewn HB.out _⟩
      · obtain rfl : j = n := by omega
        go_wp2_with fail
        obtain rfl : z = true := by
          rw [HZ.out, decide_eq_true_iff]
          have h := HJ.out
          rwa [List.take_of_length_le (by rw [HN.out]; exact Nat.le_refl _), List.take_of_length_le (by rw [HM.out]; exact Nat.le_refl _)] at h
        exact bodyPost_ret (results_tmp rfl _ _ _) rfl ⟨rfl, HB.out⟩
  · have hnmi : ¬ (n : Int) = (m : Int) := by omega
    obtain rfl : z = false := by
      rw [HZ.out, decide_eq_false_iff_not]
      intro h
      exact hnm (by rw [← HN.out, ← HM.out, h])
    go_enter Try.func67, Try.ntmps67
    go_wp2
    exact bodyPost_ret (results_tmp rfl _ _ _) rfl ⟨rfl, Below.refl _ _⟩

theorem equal_bytes (A : Option Addr) (n c : Nat) (B : Option Addr) (m d : Nat) (bs cs : List UInt8) (w : World) (hr : Rd u8v w w.heap.size A bs) (hn : bs.length = n) (hs : Rd u8v w w.heap.size B cs) (hm : cs.length = m) :
    Calls Try.prog 68 #[.slice A n c, .slice B m d] w fun e w' => e = .returned (.bool (decide (bs = cs))) ∧ w = w' := by
  have h1 := str_of hr hn c
  have h2 := str_of hs hm d
  have hbc : (bs == cs) = decide (bs = cs) := by rw [Bool.eq_iff_iff]; simp
  clear hr hs hn hm
  go_enter Try.func68, Try.ntmps68
  go_wp2
  rw [← hbc]
  exact bodyPost_ret (results_tmp rfl _ _ _) rfl ⟨rfl, rfl⟩

set_option maxHeartbeats 1000000 in
theorem same_any (k1 t1 : Int) (A : Option Addr) (n c : Nat) (B : Option Addr) (m d : Nat) (k2 t2 : Int) (A2 : Option Addr) (n2 c2 : Nat) (B2 : Option Addr) (m2 d2 : Nat) (ns ns2 : List Int) (bs bs2 : List UInt8) (w : World)
    (hr : Rd u64v w w.heap.size A ns) (hn : ns.length = n) (hs : Rd u8v w w.heap.size B bs) (hm : bs.length = m) (hr2 : Rd u64v w w.heap.size A2 ns2) (hn2 : ns2.length = n2) (hs2 : Rd u8v w w.heap.size B2 bs2) (hm2 : bs2.length = m2) (hn63 : n ≤ 9223372036854775807) :
    Calls Try.prog 42 #[.agg #[.int .u8 k1, .int .u64 t1, .slice A n c, .slice B m d], .agg #[.int .u8 k2, .int .u64 t2, .slice A2 n2 c2, .slice B2 m2 d2]] w fun e w' =>
      e = .returned (.bool (decide (k1 = k2 ∧ t1 = t2 ∧ ns = ns2 ∧ bs = bs2))) ∧ Below w.heap.size w w' := by
  obtain ⟨z, hz⟩ : ∃ z, z = decide (k1 = k2 ∧ t1 = t2 ∧ ns = ns2 ∧ bs = bs2) := ⟨_, rfl⟩
  rw [← hz]
  have HZ := Lib.hid hz
  have HR := Lib.hid hr
  have HS := Lib.hid hs
  have HN := Lib.hid hn
  have HM := Lib.hid hm
  have HR2 := Lib.hid hr2
  have HS2 := Lib.hid hs2
  have HN2 := Lib.hid hn2
  have HM2 := Lib.hid hm2
  clear hz hr hs hn hm hr2 hs2 hn2 hm2
  have HW : Hid (Below w.heap.size w ((w.alloc (.cells #[.int .u8 k1, .int .u64 t1, .slice A n c, .slice B m d] 63)).alloc (.cells #[.int .u8 k2, .int .u64 t2, .slice A2 n2 c2, .slice B2 m2 d2] 63))) :=
    ((Below.refl w.heap.size w).alloc (Nat.le_refl _) _).alloc (by simp) _
  by_cases hk : k1 = k2
  · by_cases ht : t1 = t2
    · subst hk
      subst ht
      obtain ⟨u, hu⟩ : ∃ u, u = decide (ns = ns2) := ⟨_, rfl⟩
      have HU := Lib.hid hu
      clear hu
      cases u
      · obtain rfl : z = false := by
          rw [HZ.out, decide_eq_false_iff_not]
          rintro ⟨_, _, h, _⟩
          exact absurd h (of_decide_eq_false HU.out.symm)
        go_enter Try.func42, Try.ntmps42
        go_wp2_with (go_at_call 67; refine (equal_nums A n c A2 n2 c2 ns ns2 _ ((HR.out.below HW.out (Nat.le_refl _)).more HW.out.size) HN.out ((HR2.out.below HW.out (Nat.le_refl _)).more HW.out.size) HN2.out hn63).mono ?_; rintro e w1 ⟨rfl, hb1⟩; rw [← HU.out]; have HB1 : Hid (Below w.heap.size w w1) := below_then HW.out hb1; clear hb1)
        exact bodyPost_ret (results_tmp rfl _ _ _) rfl ⟨rfl, HB1.out⟩
      · obtain ⟨v, hv⟩ : ∃ v, v = decide (bs = bs2) := ⟨_, rfl⟩
        obtain rfl : z = v := by
          rw [HZ.out, hv]
          have := of_decide_eq_true HU.out.symm
          simp [this]
        have HV := Lib.hid hv
        clear hv
        go_enter Try.func42, Try.ntmps42
        go_wp2_with (first
          | (go_at_call 67; refine (equal_nums A n c A2 n2 c2 ns ns2 _ ((HR.out.below HW.out (Nat.le_refl _)).more HW.out.size) HN.out ((HR2.out.below HW.out (Nat.le_refl _)).more HW.out.size) HN2.out hn63).mono ?_; rintro e w1 ⟨rfl, hb1⟩; rw [← HU.out]; have hE1 := ((Blk.new w 63 #[.int .u8 k1, .int .u64 t1, .slice A n c, .slice B m d]).alloc _).call hb1; have hF1 := (Blk.new_ (w.alloc (.cells #[.int .u8 k1, .int .u64 t1, .slice A n c, .slice B m d] 63)) 63 #[.int .u8 k1, .int .u64 t1, .slice A2 n2 c2, .slice B2 m2 d2] (w.heap.size + 1) (by simp)).call hb1; have e3 := hE1.cell 3; have f3 := hF1.cell 3; have HB1 : Hid (Below w.heap.size w w1) := below_then HW.out hb1; clear hb1 hE1 hF1)
          | (go_at_call 68; refine (equal_bytes B m d B2 m2 d2 bs bs2 _ ((HS.out.below HB1.out (Nat.le_refl _)).more HB1.out.size) HM.out ((HS2.out.below HB1.out (Nat.le_refl _)).more HB1.out.size) HM2.out).mono ?_; rintro e w2 ⟨rfl, rfl⟩; rw [← HV.out]))
        exact bodyPost_ret (results_tmp rfl _ _ _) rfl ⟨rfl, HB1.out⟩
    · obtain rfl : z = false := by
        rw [HZ.out, decide_eq_false_iff_not]
        rintro ⟨_, h, _⟩
        exact ht h
      subst hk
      go_enter Try.func42, Try.ntmps42
      go_wp2
      exact bodyPost_ret (results_tmp rfl _ _ _) rfl ⟨rfl, HW.out⟩
  · obtain rfl : z = false := by
      rw [HZ.out, decide_eq_false_iff_not]
      rintro ⟨h, _⟩
      exact hk h
    go_enter Try.func42, Try.ntmps42
    go_wp2
    exact bodyPost_ret (results_tmp rfl _ _ _) rfl ⟨rfl, HW.out⟩

/-- One of the numbers; 0: there is none. -/
def numF (ns : List Int) (i : Int) : Int := if 0 ≤ i ∧ i < ns.length then ns.getD i.toNat 0 else 0
set_option maxHeartbeats 1000000 in
theorem num_any (k t : Int) (A : Option Addr) (n c : Nat) (B : Option Addr) (m d : Nat) (i : Int) (ns : List Int) (w : World) (hr : Rd u64v w w.heap.size A ns) (hn : ns.length = n) :
    Calls Try.prog 43 #[.agg #[.int .u8 k, .int .u64 t, .slice A n c, .slice B m d], .int .i64 i] w fun e w' => e = .returned (.int .u64 (numF ns i)) ∧ Below w.heap.size w w' := by
  unfold numF
  rw [hn]
  by_cases h0 : 0 ≤ i
  · obtain ⟨j, rfl⟩ := Int.eq_ofNat_of_zero_le h0
    by_cases h1 : (j : Int) < n
    · rw [if_pos ⟨h0, h1⟩, Int.toNat_natCast]
      have hjl : j < ns.length := by omega
      obtain ⟨b1, o1, hA, hlt, c1⟩ := hr.at_ hjl
      subst hA
      have c2 := (World.cell?_alloc_lt w (.cells #[.int .u8 k, .int .u64 t, .slice (some ⟨b1, o1, none⟩) n c, .slice B m d] 63) ⟨b1, o1 + j, none⟩ hlt).trans c1
      obtain ⟨x, hx⟩ : ∃ x, x = ns[j] := ⟨_, rfl⟩
      have hg : ns.getD j 0 = x := by rw [hx]; simp [List.getD, hjl]
      rw [hg]
      rw [← hx] at c2
      clear hx c1 hg
      unfold u64v at c2
      go_enter Try.func43, Try.ntmps43
      go_wp2
      exact bodyPost_ret (results_tmp rfl _ _ _) rfl ⟨rfl, (Below.refl _ _).alloc (Nat.le_refl _) _⟩
    · rw [if_neg (fun h => h1 h.2)]
      clear hr
      go_enter Try.func43, Try.ntmps43
      go_wp2
      exact bodyPost_ret (results_tmp rfl _ _ _) rfl ⟨rfl, (Below.refl _ _).alloc (Nat.le_refl _) _⟩
  · rw [if_neg (fun h => h0 h.1)]
    clear hr
    go_enter Try.func43, Try.ntmps43
    go_wp2
    exact bodyPost_ret (results_tmp rfl _ _ _) rfl ⟨rfl, (Below.refl _ _).alloc (Nat.le_refl _) _⟩
end Go.Proofs.Ytmpnhiehkiiepaa
