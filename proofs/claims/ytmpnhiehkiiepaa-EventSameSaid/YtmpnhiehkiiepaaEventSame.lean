/-
  binnaclelaw24.EventSame returns true. No condition.
-/
import Derived.Test.YtmpnhiehkiiepaaEvT
import Derived.Deep.DeepCutAuto
import Derived.Deep.CutBlock
namespace Go.Proofs.Ytmpnhiehkiiepaa
open Go.RowKit

set_option maxRecDepth 100000 in
set_option maxHeartbeats 2000000 in
theorem walk_same (k : Nat) (t : Int) (A : Option Addr) (n c : Nat) (B : Option Addr) (m d : Nat) (ns : List Int) (bs : List UInt8) (k2 : Nat) (t2 : Int) (A2 : Option Addr) (n2 c2 : Nat) (B2 : Option Addr) (m2 d2 : Nat) (ns2 : List Int) (bs2 : List UInt8) (j : Nat) (i : Int) (w : World)
    (hr : Rd u64v w w.heap.size A ns) (hn : ns.length = n) (hs : Rd u8v w w.heap.size B bs) (hm : bs.length = m) (hr2 : Rd u64v w w.heap.size A2 ns2) (hn2 : ns2.length = n2) (hs2 : Rd u8v w w.heap.size B2 bs2) (hm2 : bs2.length = m2) (hk : k < 256) (hj : j < 256)
    (ht0 : 0 ≤ t) (ht1 : t ≤ 18446744073709551615) (hns : ∀ x ∈ ns, 0 ≤ x ∧ x ≤ 18446744073709551615) :
    Calls Try.prog 11 #[.agg #[.int .u8 k, .int .u64 t, .slice A n c, .slice B m d], .agg #[.int .u8 k2, .int .u64 t2, .slice A2 n2 c2, .slice B2 m2 d2], .int .u8 j, .int .i64 i] w fun e w' => e = .returned (.bool true) ∧ Below w.heap.size w w' := by
  have HR := Lib.hid hr
  have HN := Lib.hid hn
  have HS := Lib.hid hs
  have HM := Lib.hid hm
  have HR2 := Lib.hid hr2
  have HN2 := Lib.hid hn2
  have HS2 := Lib.hid hs2
  have HM2 := Lib.hid hm2
  have HNS := Lib.hid hns
  clear hr hn hs hm hns hr2 hn2 hs2 hm2
  obtain ⟨lt, hlt⟩ : ∃ lt, lt = lightF [⟨k, t, A, n, c, B, m, d⟩, ⟨k2, t2, A2, n2, c2, B2, m2, d2⟩] := ⟨_, rfl⟩
  have HLT := Lib.hid hlt
  clear hlt
  cases lt
  · go_enter Try.func11, Try.ntmps11
    go_wp2_with (first
      | (go_at_call 20; refine (awake24 _).mono ?_; rintro e w1 ⟨rfl, hb1⟩; have hE1 := ((Blk.new w 63 #[.int .u8 k, .int .u64 t, .slice A n c, .slice B m d]).alloc _).call hb1; have hF1 := (Blk.new_ (w.alloc (.cells #[.int .u8 k, .int .u64 t, .slice A n c, .slice B m d] 63)) 63 #[.int .u8 k2, .int .u64 t2, .slice A2 n2 c2, .slice B2 m2 d2] (w.heap.size + 1) (by simp)).call hb1; have a0 := hE1.cell 0; have a1 := hE1.cell 1; have a2 := hE1.cell 2; have a3 := hE1.cell 3; have b0 := hF1.cell 0; have b1 := hF1.cell 1; have b2 := hF1.cell 2; have b3 := hF1.cell 3; have HB1 : Hid (Below w.heap.size w w1) := below_then (((Below.refl w.heap.size w).alloc (Nat.le_refl _) _).alloc (by simp) _) hb1; clear hb1 hE1 hF1)
      | (go_at_call 34; refine (light_two k t A n c B m d k2 t2 A2 n2 c2 B2 m2 d2 _ HLT.out.symm rfl).mono ?_; rintro e w2 ⟨rfl, hb2⟩; have HB2 : Hid (Below w.heap.size w w2) := below_then (below_alloc HB1.out (Nat.le_refl _) _) hb2; clear hb2))
    exact bodyPost_ret (results_tmp rfl _ _ _) rfl ⟨rfl, HB2.out⟩
  · have hlim : (n ≤ 30 ∧ m ≤ 100) ∧ (n2 ≤ 30 ∧ m2 ≤ 100) := by
      have := HLT.out
      simp [lightF] at this
      exact this
    go_enter Try.func11, Try.ntmps11
    go_upto_block 0 with (first
      | (go_at_call 20; refine (awake24 _).mono ?_; rintro e w1 ⟨rfl, hb1⟩; have hE1 := ((Blk.new w 63 #[.int .u8 k, .int .u64 t, .slice A n c, .slice B m d]).alloc _).call hb1; have hF1 := (Blk.new_ (w.alloc (.cells #[.int .u8 k, .int .u64 t, .slice A n c, .slice B m d] 63)) 63 #[.int .u8 k2, .int .u64 t2, .slice A2 n2 c2, .slice B2 m2 d2] (w.heap.size + 1) (by simp)).call hb1; have a0 := hE1.cell 0; have a1 := hE1.cell 1; have a2 := hE1.cell 2; have a3 := hE1.cell 3; have b0 := hF1.cell 0; have b1 := hF1.cell 1; have b2 := hF1.cell 2; have b3 := hF1.cell 3; have HB1 : Hid (Below w.heap.size w w1) := below_then (((Below.refl w.heap.size w).alloc (Nat.le_refl _) _).alloc (by simp) _) hb1; have HE1 := Lib.hid hE1; have HF1 := Lib.hid hF1; clear hb1 hE1 hF1)
      | (go_at_call 34; refine (light_two k t A n c B m d k2 t2 A2 n2 c2 B2 m2 d2 _ HLT.out.symm rfl).mono ?_; rintro e w2 ⟨rfl, hb2⟩; have hE2 := HE1.out.over hb2; have hF2 := HF1.out.over hb2; clear a0 a1 a2 a3 b0 b1 b2 b3; have a0 := hE2.cell 0; have a1 := hE2.cell 1; have a2 := hE2.cell 2; have a3 := hE2.cell 3; have HB2 : Hid (Below w.heap.size w w2) := below_then (below_alloc HB1.out (Nat.le_refl _) _) hb2; have HE2 := Lib.hid hE2; have HF2 := Lib.hid hF2; clear hb2 hE2 hF2)
      | (go_at_call 41; refine (clone_any k t A n c B m d ns bs w2 ((HR.out.below HB2.out (Nat.le_refl _)).more HB2.out.size) HN.out ((HS.out.below HB2.out (Nat.le_refl _)).more HB2.out.size) HM.out (by omega) (by omega)).mono ?_; rintro e w3 ⟨A3, c3, B3, d3, rfl, ho3, hp3, hA3, hB3, hap3, hb3⟩; have hes := esc_mk (cv := #[.int .u8 k, .int .u64 t, .slice A3 n c3, .slice B3 m d3]) HE2.out HF2.out HB2.out hb3 ho3 hp3; clear a0 a1 a2 a3; have a0 := hes.ea.cell 0; have a1 := hes.ea.cell 1; have a2 := hes.ea.cell 2; have a3 := hes.ea.cell 3; have HA3 := Lib.hid hA3; have HES := Lib.hid hes; clear hes ho3 hp3 hA3 hB3 hap3 hb3)
      | (go_at_call 42; refine (same_any k t A n c B m d k t A3 n c3 B3 m d3 ns ns bs bs _ ((HR.out.below HES.out.bl (Nat.le_refl _)).more HES.out.bl.size) HN.out ((HS.out.below HES.out.bl (Nat.le_refl _)).more HES.out.bl.size) HM.out HES.out.nc.rd HN.out HES.out.bc.rd HM.out (by omega)).mono ?_; rintro e w4 ⟨rfl, hb4⟩; rw [decide_eq_true (p := (k : Int) = k ∧ t = t ∧ ns = ns ∧ bs = bs) ⟨rfl, rfl, rfl, rfl⟩]; have hes := HES.out.call hb4; clear a0 a1 a2 a3; have a0 := hes.ea.cell 0; have a1 := hes.ea.cell 1; have a2 := hes.ea.cell 2; have a3 := hes.ea.cell 3; have HES4 := Lib.hid hes; clear hes hb4)
      | (go_at_call 41; refine (clone_any k t A n c B m d ns bs w4 ((HR.out.below HES4.out.bl (Nat.le_refl _)).more HES4.out.bl.size) HN.out ((HS.out.below HES4.out.bl (Nat.le_refl _)).more HES4.out.bl.size) HM.out (by omega) (by omega)).mono ?_; rintro e w5 ⟨A5, c5, B5, d5, rfl, ho5, hp5, hA5, hB5, hap5, hb5⟩; have HES5 := Lib.hid (fun dv => est_mk (dv := dv) HES4.out hb5 ho5 hp5); clear ho5 hp5 hA5 hB5 hap5 hb5 a0 a1 a2 a3))
    go_cut [] from 29 to 57 (fun wc => ∃ (k4 t4 : Int) (A4 : Option Addr) (n4 c4 : Nat) (B4 : Option Addr) (m4 d4 : Nat) (ns4 : List Int) (bs4 : List UInt8),
      Hid (ESt w wc #[.int .u8 k, .int .u64 t, .slice A n c, .slice B m d] #[.int .u8 k2, .int .u64 t2, .slice A2 n2 c2, .slice B2 m2 d2] #[.int .u8 k, .int .u64 t, .slice A3 n c3, .slice B3 m d3] #[.int .u8 k4, .int .u64 t4, .slice A4 n4 c4, .slice B4 m4 d4] w3.heap.size w5.heap.size (.slice A3 n c3) (.slice B3 m d3) (.slice A4 n4 c4) (.slice B4 m4 d4) ns bs ns4 bs4) ∧ Hid (¬ ((k : Int) = k4 ∧ t = t4 ∧ ns = ns4 ∧ bs = bs4)))
    case first =>
      rcases (show (j : Int) % 4 = 0 ∨ (j : Int) % 4 = 1 ∨ (j : Int) % 4 = 2 ∨ (j : Int) % 4 = 3 from by omega) with h | h | h | h
      · go_wp2_with fail
        go_meet
        case rel =>
          refine ⟨_, _, _, _, _, _, _, _, _, _, Lib.hid (HES5.out _), Lib.hid ?_⟩
          rintro ⟨_, h2, _⟩
          rw [show IntKind.u64.wrap (t + 1) = (t + 1) % 18446744073709551616 from by simp [IntKind.wrap, IntKind.signed, IntKind.bits]] at h2
          omega
      · have hse := HES5.out #[.int .u8 k, .int .u64 t, .slice A5 n c5, .slice B5 m d5]
        have HNX := Lib.hid (show Rd u64v (((w5.alloc (.cells #[.int .u8 k, .int .u64 t, .slice A5 n c5, .slice B5 m d5] 63))).alloc (.cells #[.int .u64 j] 25)) (w5.heap.size + 1 + 1) (some ⟨w5.heap.size + 1, 0, none⟩) [(j : Int)] from Rd.new_ u64v _ _ _ _ _ (by simp) rfl)
        have HSE := Lib.hid hse
        clear hse
        go_wp2_with (at_builtin; go_loud (refine wpList_appL _ rfl (.tmp 44) (.tmp 47) _ rfl 25 (.int .u64 0) 8 rowL u64v u64v_one w.heap.size _ ns rfl (HSE.out.nd.alloc _) (w5.heap.size + 1 + 1) _ 1 1 [(j : Int)] rfl HNX.out rfl _ (n + 1) rfl (by have := HN.out; simp; omega) (by omega) (by omega) (by have := HSE.out.bl.size; simp at this ⊢; omega) ?_); intro A6 c6 w6 hown6 (hgr6 : Grow _ _ (.slice A5 n c5) _) hc6 hA6; have hst := HSE.out.growN hgr6 hown6; have y2 := hst.ed.cell 2; have f2 := hst.ed.free 2; have HST := Lib.hid (hst.setd 2 (.slice A6 (n + 1) c6)); clear hst hown6 hgr6 hA6)
        go_meet
        case rel =>
          refine ⟨k, t, A6, n + 1, c6, B5, m, d5, _, bs, HST, Lib.hid ?_⟩
          rintro ⟨_, _, h2, _⟩
          have := congrArg List.length h2
          simp at this
      · have hse := HES5.out #[.int .u8 k, .int .u64 t, .slice A5 n c5, .slice B5 m d5]
        have HNX := Lib.hid (show Rd u8v (((w5.alloc (.cells #[.int .u8 k, .int .u64 t, .slice A5 n c5, .slice B5 m d5] 63))).alloc (.cells #[.int .u8 j] 5)) (w5.heap.size + 1 + 1) (some ⟨w5.heap.size + 1, 0, none⟩) [UInt8.ofNat j] from Rd.new_ u8v _ _ _ _ _ (by simp) (by simp [u8v]; omega))
        have HSE := Lib.hid hse
        clear hse
        go_wp2_with (at_builtin; go_loud (refine wpList_appL _ rfl (.tmp 53) (.tmp 55) _ rfl 5 (.int .u8 0) 1 rowB u8v u8v_cell w.heap.size _ bs rfl (HSE.out.bd.alloc _) (w5.heap.size + 1 + 1) _ 1 1 [UInt8.ofNat j] rfl HNX.out rfl _ (m + 1) rfl (by have := HM.out; simp; omega) (by omega) (by omega) (by have := HSE.out.bl.size; simp at this ⊢; omega) ?_); intro A6 c6 w6 hown6 (hgr6 : Grow _ _ (.slice B5 m d5) _) hc6 hA6; have hst := HSE.out.growB hgr6 hown6; have y3 := hst.ed.cell 3; have f3 := hst.ed.free 3; have HST := Lib.hid (hst.setd 3 (.slice A6 (m + 1) c6)); clear hst hown6 hgr6 hA6)
        go_meet
        case rel =>
          refine ⟨k, t, A5, n, c5, A6, m + 1, c6, ns, _, HST, Lib.hid ?_⟩
          rintro ⟨_, _, _, h2⟩
          have := congrArg List.length h2
          simp at this
      · go_wp2_with fail
        go_meet
        case rel =>
          refine ⟨_, _, _, _, _, _, _, _, _, _, Lib.hid (HES5.out _), Lib.hid ?_⟩
          rintro ⟨h2, _⟩
          omega
    case rest =>
      obtain ⟨k4, t4, A4, n4, c4, B4, m4, d4, ns4, bs4, HST, HNE⟩ := hcut
      clear HES5 HES4 HES HE2 HF2 HE1 HF1 HB1 HB2
      have a0 := HST.out.ea.cell 0
      have a1 := HST.out.ea.cell 1
      have a2 := HST.out.ea.cell 2
      have a3 := HST.out.ea.cell 3
      have b0 := HST.out.eb.cell 0
      have b1 := HST.out.eb.cell 1
      have b2 := HST.out.eb.cell 2
      have b3 := HST.out.eb.cell 3
      have cc2 := HST.out.ec.cell 2
      have hsa := str_of (HS.out.below HST.out.bl (Nat.le_refl _)) HM.out d
      have hsb := str_of (HS2.out.below HST.out.bl (Nat.le_refl _)) HM2.out d2
      go_upto_region 17 with fail
      obtain ⟨sm, hsm⟩ : ∃ sm, sm = decide ((k : Int) = k2 ∧ t = t2 ∧ bs = bs2 ∧ n = n2) := ⟨_, rfl⟩
      have HSM := Lib.hid hsm
      clear hsm
      go_cut [11] from 58 to 87 (fun s wx => s = .bool sm ∧ wx = wc)
      case first =>
        by_cases h1 : k = k2
        · subst h1
          by_cases h2 : t = t2
          · subst h2
            by_cases h3 : bs = bs2
            · subst h3
              by_cases h4 : n = n2
              · subst h4
                obtain rfl : sm = true := by rw [HSM.out, decide_eq_true_iff]; exact ⟨rfl, rfl, rfl, rfl⟩
                clear HSM
                go_wp2_with fail
                go_meet
                case rel => exact ⟨rfl, rfl⟩
              · obtain rfl : sm = false := by rw [HSM.out, decide_eq_false_iff_not]; exact fun h => h4 h.2.2.2
                clear HSM
                have h4i : ((n : Int) == (n2 : Int)) = false := by simp; omega
                go_wp2_with fail
                go_meet
                case rel => exact ⟨rfl, rfl⟩
            · obtain rfl : sm = false := by rw [HSM.out, decide_eq_false_iff_not]; exact fun h => h3 h.2.2.1
              clear HSM
              have h3b : (bs == bs2) = false := by simpa using h3
              go_wp2_with fail
              go_meet
              case rel => exact ⟨rfl, rfl⟩
          · obtain rfl : sm = false := by rw [HSM.out, decide_eq_false_iff_not]; exact fun h => h2 h.2.1
            clear HSM
            go_wp2_with fail
            go_meet
            case rel => exact ⟨rfl, rfl⟩
        · obtain rfl : sm = false := by rw [HSM.out, decide_eq_false_iff_not]; exact fun h => h1 (by omega)
          clear HSM
          have h1i : ¬ (k : Int) = (k2 : Int) := by omega
          go_wp2_with fail
          go_meet
          case rel => exact ⟨rfl, rfl⟩
      case rest =>
        obtain ⟨rfl, rfl⟩ := hcut
        go_upto_block 1 with fail
        obtain ⟨z, hz⟩ : ∃ z, z = decide ((k : Int) = k2 ∧ t = t2 ∧ ns = ns2 ∧ bs = bs2) := ⟨_, rfl⟩
        have HZ := Lib.hid hz
        clear hz
        go_cut [11, 12] from 88 to 108 (fun s _ wx => s = .bool z ∧ Hid (ESt w wx #[.int .u8 k, .int .u64 t, .slice A n c, .slice B m d] #[.int .u8 k2, .int .u64 t2, .slice A2 n2 c2, .slice B2 m2 d2] #[.int .u8 k, .int .u64 t, .slice A3 n c3, .slice B3 m d3] #[.int .u8 k4, .int .u64 t4, .slice A4 n4 c4, .slice B4 m4 d4] w3.heap.size w5.heap.size (.slice A3 n c3) (.slice B3 m d3) (.slice A4 n4 c4) (.slice B4 m4 d4) ns bs ns4 bs4))
        case first =>
          go_wp2_with fail
          go_loopw [11, 12] (fun s jv wr => ∃ (p : Nat) (sv : Bool), p ≤ n ∧ s = .bool sv ∧ jv = .int .i64 p ∧ Hid (sv = (sm && decide (ns.take p = ns2.take p))) ∧ Hid (ESt w wr #[.int .u8 k, .int .u64 t, .slice A n c, .slice B m d] #[.int .u8 k2, .int .u64 t2, .slice A2 n2 c2, .slice B2 m2 d2] #[.int .u8 k, .int .u64 t, .slice A3 n c3, .slice B3 m d3] #[.int .u8 k4, .int .u64 t4, .slice A4 n4 c4, .slice B4 m4 d4] w3.heap.size w5.heap.size (.slice A3 n c3) (.slice B3 m d3) (.slice A4 n4 c4) (.slice B4 m4 d4) ns bs ns4 bs4)) (fun _ jv _ => n - (intOf jv).toNat)
          case atStart => exact ⟨0, sm, by omega, rfl, rfl, by simp [Hid], HST⟩
          case round =>
            clear HST a0 a1 a2 a3 b0 b1 b2 b3 cc2 hsa hsb
            obtain ⟨p, sv, hp, rfl, rfl, HSV, HST⟩ := hrel
            have a2 := HST.out.ea.cell 2
            have b2 := HST.out.eb.cell 2
            cases sv
            · obtain rfl : z = false := by
                rw [HZ.out, decide_eq_false_iff_not]
                rintro ⟨h1, h2, h3, h4⟩
                have h5 := HSV.out
                have h6 : n = n2 := by rw [← HN.out, ← HN2.out, h3]
                rw [HSM.out, decide_eq_true (p := (k : Int) = k2 ∧ t = t2 ∧ bs = bs2 ∧ n = n2) ⟨h1, h2, h4, h6⟩, h3] at h5
                simp at h5
              go_wp2_with fail
              go_meet
              case rel => exact ⟨rfl, HST⟩
            · obtain ⟨rfl, htk⟩ : sm = true ∧ ns.take p = ns2.take p := by
                have := HSV.out.symm
                simpa using this
              have hn2 : n = n2 := by have := HSM.out.symm; simp at this; omega
              by_cases hpn : p < n
              · have hpl : p < ns.length := by have := HN.out; omega
                have hpl2 : p < ns2.length := by have := HN2.out; omega
                have hpi : (p : Int) < (n : Int) := by omega
                have hpi2 : (p : Int) < (n2 : Int) := by omega
                obtain ⟨g1, o1, hA1, -, q1⟩ := (HR.out.below HST.out.bl (Nat.le_refl _)).at_ hpl
                obtain ⟨g2, o2, hA2, -, q2⟩ := (HR2.out.below HST.out.bl (Nat.le_refl _)).at_ hpl2
                subst hA1
                subst hA2
                obtain ⟨x, hx⟩ : ∃ x, x = ns[p] := ⟨_, rfl⟩
                obtain ⟨y, hy⟩ : ∃ y, y = ns2[p] := ⟨_, rfl⟩
                rw [← hx] at q1
                rw [← hy] at q2
                have HX := Lib.hid hx
                have HY := Lib.hid hy
                have HTK := Lib.hid htk
                clear hx hy htk hn2
                unfold u64v at q1 q2
                go_wp2_with fail
                go_quiet (fail)
                go_wp2_with fail
                case roundEnd =>
                  refine ⟨⟨p + 1, (x == y), by omega, rfl, rfl, Lib.hid ?_, HST.out.call (below_drewn (Below.refl _ _) _)⟩, ?_⟩
                  · rw [List.take_succ_eq_append_getElem hpl, List.take_succ_eq_append_getElem hpl2, HTK.out, ← HX.out, ← HY.out]
                    rw [Bool.eq_iff_iff]
                    simp
                  · show _ - (((p : Int) + 1).toNat) < _ - ((p : Int).toNat)
                    omega
              · obtain rfl : z = true := by
                  have h5 := HSM.out.symm
                  simp only [decide_eq_true_eq] at h5
                  rw [HZ.out, decide_eq_true_iff]
                  refine ⟨h5.1, h5.2.1, ?_, h5.2.2.1⟩
                  rwa [List.take_of_length_le (by rw [HN.out]; omega), List.take_of_length_le (by rw [HN2.out]; omega)] at htk
                clear htk
                obtain rfl : p = n := by omega
                go_wp2_with fail
                go_meet
                case rel => exact ⟨rfl, HST⟩
        case rest =>
          obtain ⟨rfl, HST2⟩ := hcut
          clear HST a0 a1 a2 a3 b0 b1 b2 b3 cc2 hsa hsb HSM
          obtain ⟨v, hv⟩ : ∃ v, v = numF ns i := ⟨_, rfl⟩
          have HV := Lib.hid hv
          clear hv
          have hcase : (i < 0 ∧ v = 0) ∨ (0 ≤ i ∧ (n : Int) ≤ i ∧ v = 0) ∨ ∃ p : Nat, i = p ∧ p < n ∧ ∃ g1 o1, A = some ⟨g1, o1, none⟩ ∧ wc.cell? ⟨g1, o1 + p, none⟩ = some (.int .u64 v) := by
            have hv := HV.out
            unfold numF at hv
            rcases Int.lt_or_le i 0 with h | h
            · left; exact ⟨h, by rw [hv, if_neg (by omega)]⟩
            · right
              rcases Int.lt_or_le i n with h2 | h2
              · right
                obtain ⟨p, rfl⟩ := Int.eq_ofNat_of_zero_le h
                have hpl : p < ns.length := by have := HN.out; omega
                obtain ⟨g1, o1, hA1, -, q1⟩ := (HR.out.below HST2.out.bl (Nat.le_refl _)).at_ hpl
                refine ⟨p, rfl, by omega, g1, o1, hA1, ?_⟩
                rw [q1, hv, if_pos ⟨h, by rw [HN.out]; exact h2⟩]
                simp [u64v, List.getD, hpl]
              · left; exact ⟨h, h2, by rw [hv, if_neg (by rw [HN.out]; omega)]⟩
          by_cases hn0 : n = 0
          · subst hn0
            have a0 := HST2.out.ea.cell 0
            have a1 := HST2.out.ea.cell 1
            have a2 := HST2.out.ea.cell 2
            have a3 := HST2.out.ea.cell 3
            have cc2 := HST2.out.ec.cell 2
            have dd0 := HST2.out.ed.cell 0
            have dd1 := HST2.out.ed.cell 1
            have dd2 := HST2.out.ed.cell 2
            have dd3 := HST2.out.ed.cell 3
            rcases hcase with ⟨hi, rfl⟩ | ⟨hi, hi2, rfl⟩ | ⟨p, rfl, hp, g1, o1, rfl, hcell⟩
            · go_wp2_with (first
                | (go_at_call 43; refine (num_any k t A 0 c B m d i ns _ ((HR.out.below H8.out.bl (Nat.le_refl _)).more H8.out.bl.size) HN.out).mono ?_; rintro e w9 ⟨rfl, hb⟩; rw [← HV.out]; have H9 : Hid (Below w.heap.size w w9) := below_then H8.out.bl hb; clear hb)
                | (go_at_call 42; refine (same_any k t A 0 c B m d k2 t2 A2 n2 c2 B2 m2 d2 ns ns2 bs bs2 _ ((HR.out.below H7.out.bl (Nat.le_refl _)).more H7.out.bl.size) HN.out ((HS.out.below H7.out.bl (Nat.le_refl _)).more H7.out.bl.size) HM.out ((HR2.out.below H7.out.bl (Nat.le_refl _)).more H7.out.bl.size) HN2.out ((HS2.out.below H7.out.bl (Nat.le_refl _)).more H7.out.bl.size) HM2.out (by omega)).mono ?_; rintro e w8 ⟨rfl, hb⟩; rw [← HZ.out]; have hst := H7.out.call hb; clear a0 a1 a2 a3 b0 b1 b2 b3; have a0 := hst.ea.cell 0; have a1 := hst.ea.cell 1; have a2 := hst.ea.cell 2; have a3 := hst.ea.cell 3;  have H8 := Lib.hid hst; clear hst hb)
                | (go_at_call 42; refine (same_any k t A 0 c B m d k4 t4 A4 n4 c4 B4 m4 d4 ns ns4 bs bs4 _ ((HR.out.below HST2.out.bl (Nat.le_refl _)).more HST2.out.bl.size) HN.out ((HS.out.below HST2.out.bl (Nat.le_refl _)).more HST2.out.bl.size) HM.out HST2.out.nd.rd HST2.out.nd.cap.1 HST2.out.bd.rd HST2.out.bd.cap.1 (by omega)).mono ?_; rintro e w7 ⟨rfl, hb⟩; rw [decide_eq_false HNE.out]; have hst := HST2.out.call hb; clear a0 a1 a2 a3 dd0 dd1 dd2 dd3 cc2; have a0 := hst.ea.cell 0; have a1 := hst.ea.cell 1; have a2 := hst.ea.cell 2; have a3 := hst.ea.cell 3; have b0 := hst.eb.cell 0; have b1 := hst.eb.cell 1; have b2 := hst.eb.cell 2; have b3 := hst.eb.cell 3; have H7 := Lib.hid hst; clear hst hb))
              exact bodyPost_ret (results_tmp rfl _ _ _) rfl ⟨rfl, H9.out⟩
            · go_wp2_with (first
                | (go_at_call 43; refine (num_any k t A 0 c B m d i ns _ ((HR.out.below H8.out.bl (Nat.le_refl _)).more H8.out.bl.size) HN.out).mono ?_; rintro e w9 ⟨rfl, hb⟩; rw [← HV.out]; have H9 : Hid (Below w.heap.size w w9) := below_then H8.out.bl hb; clear hb)
                | (go_at_call 42; refine (same_any k t A 0 c B m d k2 t2 A2 n2 c2 B2 m2 d2 ns ns2 bs bs2 _ ((HR.out.below H7.out.bl (Nat.le_refl _)).more H7.out.bl.size) HN.out ((HS.out.below H7.out.bl (Nat.le_refl _)).more H7.out.bl.size) HM.out ((HR2.out.below H7.out.bl (Nat.le_refl _)).more H7.out.bl.size) HN2.out ((HS2.out.below H7.out.bl (Nat.le_refl _)).more H7.out.bl.size) HM2.out (by omega)).mono ?_; rintro e w8 ⟨rfl, hb⟩; rw [← HZ.out]; have hst := H7.out.call hb; clear a0 a1 a2 a3 b0 b1 b2 b3; have a0 := hst.ea.cell 0; have a1 := hst.ea.cell 1; have a2 := hst.ea.cell 2; have a3 := hst.ea.cell 3;  have H8 := Lib.hid hst; clear hst hb)
                | (go_at_call 42; refine (same_any k t A 0 c B m d k4 t4 A4 n4 c4 B4 m4 d4 ns ns4 bs bs4 _ ((HR.out.below HST2.out.bl (Nat.le_refl _)).more HST2.out.bl.size) HN.out ((HS.out.below HST2.out.bl (Nat.le_refl _)).more HST2.out.bl.size) HM.out HST2.out.nd.rd HST2.out.nd.cap.1 HST2.out.bd.rd HST2.out.bd.cap.1 (by omega)).mono ?_; rintro e w7 ⟨rfl, hb⟩; rw [decide_eq_false HNE.out]; have hst := HST2.out.call hb; clear a0 a1 a2 a3 dd0 dd1 dd2 dd3 cc2; have a0 := hst.ea.cell 0; have a1 := hst.ea.cell 1; have a2 := hst.ea.cell 2; have a3 := hst.ea.cell 3; have b0 := hst.eb.cell 0; have b1 := hst.eb.cell 1; have b2 := hst.eb.cell 2; have b3 := hst.eb.cell 3; have H7 := Lib.hid hst; clear hst hb))
              exact bodyPost_ret (results_tmp rfl _ _ _) rfl ⟨rfl, H9.out⟩
            · omega
          · obtain ⟨g, hA3, -, -⟩ := HST2.out.nc.form (by omega)
            subst hA3
            have hn0' : 0 < ns.length := by have := HN.out; omega
            have hni : (0 : Int) < (n : Int) := by omega
            have y0 := HST2.out.nc.cell 0 hn0'
            have fy := HST2.out.nc.free 0
            obtain ⟨x, hx⟩ : ∃ x, x = ns[0] := ⟨_, rfl⟩
            have hxb : 0 ≤ x ∧ x ≤ 18446744073709551615 := by rw [hx]; exact HNS.out _ (List.getElem_mem hn0')
            rw [← hx] at y0
            unfold u64v at y0
            obtain ⟨y, hy⟩ : ∃ y, y = IntKind.u64.wrap (x + 1) := ⟨_, rfl⟩
            have HSC := Lib.hid (HST2.out.setc y)
            have HNC : Hid (¬ ((k : Int) = k ∧ t = t ∧ ns = ns.set 0 y ∧ bs = bs)) := by
              rintro ⟨_, _, h, _⟩
              have h2 : ns[0]? = (ns.set 0 y)[0]? := by rw [← h]
              rw [List.getElem?_set_self hn0', List.getElem?_eq_getElem hn0', ← hx] at h2
              injection h2 with h2
              rw [hy, show IntKind.u64.wrap (x + 1) = (x + 1) % 18446744073709551616 from by simp [IntKind.wrap, IntKind.signed, IntKind.bits]] at h2
              omega
            clear hx
            subst hy
            unfold u64v at HSC
            have a0 := HST2.out.ea.cell 0
            have a1 := HST2.out.ea.cell 1
            have a2 := HST2.out.ea.cell 2
            have a3 := HST2.out.ea.cell 3
            have cc2 := HST2.out.ec.cell 2
            have ma0 := HSC.out.ea.cell 0
            have ma1 := HSC.out.ea.cell 1
            have ma2 := HSC.out.ea.cell 2
            have ma3 := HSC.out.ea.cell 3
            have mc0 := HSC.out.ec.cell 0
            have mc1 := HSC.out.ec.cell 1
            have mc2 := HSC.out.ec.cell 2
            have mc3 := HSC.out.ec.cell 3
            rcases hcase with ⟨hi, rfl⟩ | ⟨hi, hi2, rfl⟩ | ⟨p, rfl, hp, g1, o1, rfl, hcell⟩
            · go_wp2_with (first
                | (go_at_call 43; refine (num_any k t A n c B m d i ns _ ((HR.out.below H8.out.bl (Nat.le_refl _)).more H8.out.bl.size) HN.out).mono ?_; rintro e w9 ⟨rfl, hb⟩; rw [← HV.out]; have H9 : Hid (Below w.heap.size w w9) := below_then H8.out.bl hb; clear hb)
                | (go_at_call 42; refine (same_any k t A n c B m d k2 t2 A2 n2 c2 B2 m2 d2 ns ns2 bs bs2 _ ((HR.out.below H7.out.bl (Nat.le_refl _)).more H7.out.bl.size) HN.out ((HS.out.below H7.out.bl (Nat.le_refl _)).more H7.out.bl.size) HM.out ((HR2.out.below H7.out.bl (Nat.le_refl _)).more H7.out.bl.size) HN2.out ((HS2.out.below H7.out.bl (Nat.le_refl _)).more H7.out.bl.size) HM2.out (by omega)).mono ?_; rintro e w8 ⟨rfl, hb⟩; rw [← HZ.out]; have hst := H7.out.call hb; clear a0 a1 a2 a3 b0 b1 b2 b3; have a0 := hst.ea.cell 0; have a1 := hst.ea.cell 1; have a2 := hst.ea.cell 2; have a3 := hst.ea.cell 3;  have H8 := Lib.hid hst; clear hst hb)
                | (go_at_call 42; refine (same_any k t A n c B m d k4 t4 A4 n4 c4 B4 m4 d4 ns ns4 bs bs4 _ ((HR.out.below H6.out.bl (Nat.le_refl _)).more H6.out.bl.size) HN.out ((HS.out.below H6.out.bl (Nat.le_refl _)).more H6.out.bl.size) HM.out H6.out.nd.rd H6.out.nd.cap.1 H6.out.bd.rd H6.out.bd.cap.1 (by omega)).mono ?_; rintro e w7 ⟨rfl, hb⟩; rw [decide_eq_false HNE.out]; have hst := H6.out.call hb; clear a0 a1 a2 a3 dd0 dd1 dd2 dd3; have a0 := hst.ea.cell 0; have a1 := hst.ea.cell 1; have a2 := hst.ea.cell 2; have a3 := hst.ea.cell 3; have b0 := hst.eb.cell 0; have b1 := hst.eb.cell 1; have b2 := hst.eb.cell 2; have b3 := hst.eb.cell 3; have H7 := Lib.hid hst; clear hst hb)
                | (go_at_call 42; refine (same_any k t A n c B m d k t (some ⟨g, 0, none⟩) n c3 B3 m d3 ns (ns.set 0 (IntKind.u64.wrap (x + 1))) bs bs _ ((HR.out.below HSC.out.bl (Nat.le_refl _)).more HSC.out.bl.size) HN.out ((HS.out.below HSC.out.bl (Nat.le_refl _)).more HSC.out.bl.size) HM.out HSC.out.nc.rd (by simp; exact HN.out) HSC.out.bc.rd HM.out (by omega)).mono ?_; rintro e w6 ⟨rfl, hb⟩; rw [decide_eq_false (p := (k : Int) = k ∧ t = t ∧ ns = ns.set 0 (IntKind.u64.wrap (x + 1)) ∧ bs = bs) HNC.out]; have hst := HSC.out.call hb; clear a0 a1 a2 a3 cc2 ma0 ma1 ma2 ma3 mc0 mc1 mc2 mc3; have a0 := hst.ea.cell 0; have a1 := hst.ea.cell 1; have a2 := hst.ea.cell 2; have a3 := hst.ea.cell 3; have dd0 := hst.ed.cell 0; have dd1 := hst.ed.cell 1; have dd2 := hst.ed.cell 2; have dd3 := hst.ed.cell 3; have H6 := Lib.hid hst; clear hst hb))
              exact bodyPost_ret (results_tmp rfl _ _ _) rfl ⟨rfl, H9.out⟩
            · go_wp2_with (first
                | (go_at_call 43; refine (num_any k t A n c B m d i ns _ ((HR.out.below H8.out.bl (Nat.le_refl _)).more H8.out.bl.size) HN.out).mono ?_; rintro e w9 ⟨rfl, hb⟩; rw [← HV.out]; have H9 : Hid (Below w.heap.size w w9) := below_then H8.out.bl hb; clear hb)
                | (go_at_call 42; refine (same_any k t A n c B m d k2 t2 A2 n2 c2 B2 m2 d2 ns ns2 bs bs2 _ ((HR.out.below H7.out.bl (Nat.le_refl _)).more H7.out.bl.size) HN.out ((HS.out.below H7.out.bl (Nat.le_refl _)).more H7.out.bl.size) HM.out ((HR2.out.below H7.out.bl (Nat.le_refl _)).more H7.out.bl.size) HN2.out ((HS2.out.below H7.out.bl (Nat.le_refl _)).more H7.out.bl.size) HM2.out (by omega)).mono ?_; rintro e w8 ⟨rfl, hb⟩; rw [← HZ.out]; have hst := H7.out.call hb; clear a0 a1 a2 a3 b0 b1 b2 b3; have a0 := hst.ea.cell 0; have a1 := hst.ea.cell 1; have a2 := hst.ea.cell 2; have a3 := hst.ea.cell 3;  have H8 := Lib.hid hst; clear hst hb)
                | (go_at_call 42; refine (same_any k t A n c B m d k4 t4 A4 n4 c4 B4 m4 d4 ns ns4 bs bs4 _ ((HR.out.below H6.out.bl (Nat.le_refl _)).more H6.out.bl.size) HN.out ((HS.out.below H6.out.bl (Nat.le_refl _)).more H6.out.bl.size) HM.out H6.out.nd.rd H6.out.nd.cap.1 H6.out.bd.rd H6.out.bd.cap.1 (by omega)).mono ?_; rintro e w7 ⟨rfl, hb⟩; rw [decide_eq_false HNE.out]; have hst := H6.out.call hb; clear a0 a1 a2 a3 dd0 dd1 dd2 dd3; have a0 := hst.ea.cell 0; have a1 := hst.ea.cell 1; have a2 := hst.ea.cell 2; have a3 := hst.ea.cell 3; have b0 := hst.eb.cell 0; have b1 := hst.eb.cell 1; have b2 := hst.eb.cell 2; have b3 := hst.eb.cell 3; have H7 := Lib.hid hst; clear hst hb)
                | (go_at_call 42; refine (same_any k t A n c B m d k t (some ⟨g, 0, none⟩) n c3 B3 m d3 ns (ns.set 0 (IntKind.u64.wrap (x + 1))) bs bs _ ((HR.out.below HSC.out.bl (Nat.le_refl _)).more HSC.out.bl.size) HN.out ((HS.out.below HSC.out.bl (Nat.le_refl _)).more HSC.out.bl.size) HM.out HSC.out.nc.rd (by simp; exact HN.out) HSC.out.bc.rd HM.out (by omega)).mono ?_; rintro e w6 ⟨rfl, hb⟩; rw [decide_eq_false (p := (k : Int) = k ∧ t = t ∧ ns = ns.set 0 (IntKind.u64.wrap (x + 1)) ∧ bs = bs) HNC.out]; have hst := HSC.out.call hb; clear a0 a1 a2 a3 cc2 ma0 ma1 ma2 ma3 mc0 mc1 mc2 mc3; have a0 := hst.ea.cell 0; have a1 := hst.ea.cell 1; have a2 := hst.ea.cell 2; have a3 := hst.ea.cell 3; have dd0 := hst.ed.cell 0; have dd1 := hst.ed.cell 1; have dd2 := hst.ed.cell 2; have dd3 := hst.ed.cell 3; have H6 := Lib.hid hst; clear hst hb))
              exact bodyPost_ret (results_tmp rfl _ _ _) rfl ⟨rfl, H9.out⟩
            · have hpi : (p : Int) < (n : Int) := by omega
              have hp0 : (0 : Int) ≤ (p : Int) := by omega
              go_wp2_with (first
                | (go_at_call 43; refine (num_any k t (some ⟨g1, o1, none⟩) n c B m d p ns _ ((HR.out.below H8.out.bl (Nat.le_refl _)).more H8.out.bl.size) HN.out).mono ?_; rintro e w9 ⟨rfl, hb⟩; rw [← HV.out]; have H9 : Hid (Below w.heap.size w w9) := below_then H8.out.bl hb; clear hb)
                | (go_at_call 42; refine (same_any k t (some ⟨g1, o1, none⟩) n c B m d k2 t2 A2 n2 c2 B2 m2 d2 ns ns2 bs bs2 _ ((HR.out.below H7.out.bl (Nat.le_refl _)).more H7.out.bl.size) HN.out ((HS.out.below H7.out.bl (Nat.le_refl _)).more H7.out.bl.size) HM.out ((HR2.out.below H7.out.bl (Nat.le_refl _)).more H7.out.bl.size) HN2.out ((HS2.out.below H7.out.bl (Nat.le_refl _)).more H7.out.bl.size) HM2.out (by omega)).mono ?_; rintro e w8 ⟨rfl, hb⟩; rw [← HZ.out]; have hst := H7.out.call hb; clear a0 a1 a2 a3 b0 b1 b2 b3; have a0 := hst.ea.cell 0; have a1 := hst.ea.cell 1; have a2 := hst.ea.cell 2; have a3 := hst.ea.cell 3;  have H8 := Lib.hid hst; clear hst hb)
                | (go_at_call 42; refine (same_any k t (some ⟨g1, o1, none⟩) n c B m d k4 t4 A4 n4 c4 B4 m4 d4 ns ns4 bs bs4 _ ((HR.out.below H6.out.bl (Nat.le_refl _)).more H6.out.bl.size) HN.out ((HS.out.below H6.out.bl (Nat.le_refl _)).more H6.out.bl.size) HM.out H6.out.nd.rd H6.out.nd.cap.1 H6.out.bd.rd H6.out.bd.cap.1 (by omega)).mono ?_; rintro e w7 ⟨rfl, hb⟩; rw [decide_eq_false HNE.out]; have hst := H6.out.call hb; clear a0 a1 a2 a3 dd0 dd1 dd2 dd3; have a0 := hst.ea.cell 0; have a1 := hst.ea.cell 1; have a2 := hst.ea.cell 2; have a3 := hst.ea.cell 3; have b0 := hst.eb.cell 0; have b1 := hst.eb.cell 1; have b2 := hst.eb.cell 2; have b3 := hst.eb.cell 3; have H7 := Lib.hid hst; clear hst hb)
                | (go_at_call 42; refine (same_any k t (some ⟨g1, o1, none⟩) n c B m d k t (some ⟨g, 0, none⟩) n c3 B3 m d3 ns (ns.set 0 (IntKind.u64.wrap (x + 1))) bs bs _ ((HR.out.below HSC.out.bl (Nat.le_refl _)).more HSC.out.bl.size) HN.out ((HS.out.below HSC.out.bl (Nat.le_refl _)).more HSC.out.bl.size) HM.out HSC.out.nc.rd (by simp; exact HN.out) HSC.out.bc.rd HM.out (by omega)).mono ?_; rintro e w6 ⟨rfl, hb⟩; rw [decide_eq_false (p := (k : Int) = k ∧ t = t ∧ ns = ns.set 0 (IntKind.u64.wrap (x + 1)) ∧ bs = bs) HNC.out]; have hst := HSC.out.call hb; clear a0 a1 a2 a3 cc2 ma0 ma1 ma2 ma3 mc0 mc1 mc2 mc3; have a0 := hst.ea.cell 0; have a1 := hst.ea.cell 1; have a2 := hst.ea.cell 2; have a3 := hst.ea.cell 3; have dd0 := hst.ed.cell 0; have dd1 := hst.ed.cell 1; have dd2 := hst.ed.cell 2; have dd3 := hst.ed.cell 3; have H6 := Lib.hid hst; clear hst hb))
              exact bodyPost_ret (results_tmp rfl _ _ _) rfl ⟨rfl, H9.out⟩
end Go.Proofs.Ytmpnhiehkiiepaa
