/-
  binnaclelaw10.ParamSame returns true. No condition.
-/
import Derived.Test.YtmpnhiehkiiepaaPt
import Derived.Test.YtmpnhiehkiiepaaEq9
import Derived.Test.YtmpnhiehkiiepaaPz
import Derived.Deep.CutBlock
import Derived.Deep.DeepCutAuto
import Derived.Test.YtmpnhiehkiiepaaRegion
namespace Go.Proofs.Ytmpnhiehkiiepaa
open Go.RowKit

set_option maxRecDepth 100000 in
set_option maxHeartbeats 40000000 in
theorem walk_psame (x0 x1 x2 x3 x4 x5 x6 x7 x8 y0 y1 y2 y3 y4 y5 y6 y7 y8 : Int) (A : Option Addr) (n c : Nat) (B : Option Addr) (m d : Nat) (bs cs : List UInt8) (j : Nat) (w : World) (hr : Rd u8v w w.heap.size A bs) (hn : bs.length = n) (hs : Rd u8v w w.heap.size B cs) (hm : cs.length = m) (hj : j < 256) (hx : 0 ≤ x0 ∧ 0 ≤ x4 ∧ 0 ≤ x8) :
    Calls Try.prog 12 #[.agg #[.int .u64 x0, .int .u64 x1, .int .u64 x2, .int .u64 x3, .int .u64 x4, .int .u64 x5, .int .u64 x6, .int .u64 x7, .int .u64 x8, .slice A n c], .agg #[.int .u64 y0, .int .u64 y1, .int .u64 y2, .int .u64 y3, .int .u64 y4, .int .u64 y5, .int .u64 y6, .int .u64 y7, .int .u64 y8, .slice B m d], .int .u8 j] w fun e w' => e = .returned (.bool true) ∧ Below w.heap.size w w' := by
  have HR := Lib.hid hr
  have HN := Lib.hid hn
  have HS := Lib.hid hs
  have HM := Lib.hid hm
  have HX := Lib.hid hx
  clear hr hn hs hm hx
  by_cases hbig : 100 < n ∨ 100 < m
  case pos =>
    rcases hbig with hbig | hbig
    · have hbi : (100 : Int) < (n : Int) := by omega
      go_enter Try.func12, Try.ntmps12
      go_wp2_with (go_at_call 44; refine (awake10 _).mono ?_; rintro e w1 ⟨rfl, hb1⟩; have hE1 := ((Blk.new w 83 #[.int .u64 x0, .int .u64 x1, .int .u64 x2, .int .u64 x3, .int .u64 x4, .int .u64 x5, .int .u64 x6, .int .u64 x7, .int .u64 x8, .slice A n c]).alloc (.cells #[.int .u64 y0, .int .u64 y1, .int .u64 y2, .int .u64 y3, .int .u64 y4, .int .u64 y5, .int .u64 y6, .int .u64 y7, .int .u64 y8, .slice B m d] 83)).call hb1; have hF1 := (Blk.new_ (w.alloc (.cells #[.int .u64 x0, .int .u64 x1, .int .u64 x2, .int .u64 x3, .int .u64 x4, .int .u64 x5, .int .u64 x6, .int .u64 x7, .int .u64 x8, .slice A n c] 83)) 83 #[.int .u64 y0, .int .u64 y1, .int .u64 y2, .int .u64 y3, .int .u64 y4, .int .u64 y5, .int .u64 y6, .int .u64 y7, .int .u64 y8, .slice B m d] (w.heap.size + 1) (by simp)).call hb1; have a0 := hE1.cell 0; have a1 := hE1.cell 1; have a2 := hE1.cell 2; have a3 := hE1.cell 3; have a4 := hE1.cell 4; have a5 := hE1.cell 5; have a6 := hE1.cell 6; have a7 := hE1.cell 7; have a8 := hE1.cell 8; have a9 := hE1.cell 9; have aa9 := (fun (o o2 : Obj) => ((hE1.alloc o).alloc o2).cell 9); have bb9 := hF1.cell 9; have HB1 : Hid (Below w.heap.size w w1) := below_then (((Below.refl w.heap.size w).alloc (Nat.le_refl _) _).alloc (by simp) _) hb1; have HE1 := Lib.hid hE1; have HF1 := Lib.hid hF1; clear hb1 hE1 hF1)
      exact bodyPost_ret (results_tmp rfl _ _ _) rfl ⟨rfl, HB1.out⟩
    · by_cases h2 : 100 < n
      · have hbi : (100 : Int) < (n : Int) := by omega
        go_enter Try.func12, Try.ntmps12
        go_wp2_with (go_at_call 44; refine (awake10 _).mono ?_; rintro e w1 ⟨rfl, hb1⟩; have hE1 := ((Blk.new w 83 #[.int .u64 x0, .int .u64 x1, .int .u64 x2, .int .u64 x3, .int .u64 x4, .int .u64 x5, .int .u64 x6, .int .u64 x7, .int .u64 x8, .slice A n c]).alloc (.cells #[.int .u64 y0, .int .u64 y1, .int .u64 y2, .int .u64 y3, .int .u64 y4, .int .u64 y5, .int .u64 y6, .int .u64 y7, .int .u64 y8, .slice B m d] 83)).call hb1; have hF1 := (Blk.new_ (w.alloc (.cells #[.int .u64 x0, .int .u64 x1, .int .u64 x2, .int .u64 x3, .int .u64 x4, .int .u64 x5, .int .u64 x6, .int .u64 x7, .int .u64 x8, .slice A n c] 83)) 83 #[.int .u64 y0, .int .u64 y1, .int .u64 y2, .int .u64 y3, .int .u64 y4, .int .u64 y5, .int .u64 y6, .int .u64 y7, .int .u64 y8, .slice B m d] (w.heap.size + 1) (by simp)).call hb1; have a0 := hE1.cell 0; have a1 := hE1.cell 1; have a2 := hE1.cell 2; have a3 := hE1.cell 3; have a4 := hE1.cell 4; have a5 := hE1.cell 5; have a6 := hE1.cell 6; have a7 := hE1.cell 7; have a8 := hE1.cell 8; have a9 := hE1.cell 9; have aa9 := (fun (o o2 : Obj) => ((hE1.alloc o).alloc o2).cell 9); have bb9 := hF1.cell 9; have HB1 : Hid (Below w.heap.size w w1) := below_then (((Below.refl w.heap.size w).alloc (Nat.le_refl _) _).alloc (by simp) _) hb1; have HE1 := Lib.hid hE1; have HF1 := Lib.hid hF1; clear hb1 hE1 hF1)
        exact bodyPost_ret (results_tmp rfl _ _ _) rfl ⟨rfl, HB1.out⟩
      · have hbi : ¬ (100 : Int) < (n : Int) := by omega
        have hbi2 : (100 : Int) < (m : Int) := by omega
        go_enter Try.func12, Try.ntmps12
        go_wp2_with (go_at_call 44; refine (awake10 _).mono ?_; rintro e w1 ⟨rfl, hb1⟩; have hE1 := ((Blk.new w 83 #[.int .u64 x0, .int .u64 x1, .int .u64 x2, .int .u64 x3, .int .u64 x4, .int .u64 x5, .int .u64 x6, .int .u64 x7, .int .u64 x8, .slice A n c]).alloc (.cells #[.int .u64 y0, .int .u64 y1, .int .u64 y2, .int .u64 y3, .int .u64 y4, .int .u64 y5, .int .u64 y6, .int .u64 y7, .int .u64 y8, .slice B m d] 83)).call hb1; have hF1 := (Blk.new_ (w.alloc (.cells #[.int .u64 x0, .int .u64 x1, .int .u64 x2, .int .u64 x3, .int .u64 x4, .int .u64 x5, .int .u64 x6, .int .u64 x7, .int .u64 x8, .slice A n c] 83)) 83 #[.int .u64 y0, .int .u64 y1, .int .u64 y2, .int .u64 y3, .int .u64 y4, .int .u64 y5, .int .u64 y6, .int .u64 y7, .int .u64 y8, .slice B m d] (w.heap.size + 1) (by simp)).call hb1; have a0 := hE1.cell 0; have a1 := hE1.cell 1; have a2 := hE1.cell 2; have a3 := hE1.cell 3; have a4 := hE1.cell 4; have a5 := hE1.cell 5; have a6 := hE1.cell 6; have a7 := hE1.cell 7; have a8 := hE1.cell 8; have a9 := hE1.cell 9; have aa9 := (fun (o o2 : Obj) => ((hE1.alloc o).alloc o2).cell 9); have bb9 := hF1.cell 9; have HB1 : Hid (Below w.heap.size w w1) := below_then (((Below.refl w.heap.size w).alloc (Nat.le_refl _) _).alloc (by simp) _) hb1; have HE1 := Lib.hid hE1; have HF1 := Lib.hid hF1; clear hb1 hE1 hF1)
        exact bodyPost_ret (results_tmp rfl _ _ _) rfl ⟨rfl, HB1.out⟩
  case neg =>
    obtain ⟨hn1, hm1⟩ : n ≤ 100 ∧ m ≤ 100 := by omega
    have hbi : ¬ (100 : Int) < (n : Int) := by omega
    have hbi2 : ¬ (100 : Int) < (m : Int) := by omega
    clear hbig
    go_enter Try.func12, Try.ntmps12
    go_upto_block 0 with (first
      | (go_at_call 44; refine (awake10 _).mono ?_; rintro e w1 ⟨rfl, hb1⟩; have hE1 := ((Blk.new w 83 #[.int .u64 x0, .int .u64 x1, .int .u64 x2, .int .u64 x3, .int .u64 x4, .int .u64 x5, .int .u64 x6, .int .u64 x7, .int .u64 x8, .slice A n c]).alloc (.cells #[.int .u64 y0, .int .u64 y1, .int .u64 y2, .int .u64 y3, .int .u64 y4, .int .u64 y5, .int .u64 y6, .int .u64 y7, .int .u64 y8, .slice B m d] 83)).call hb1; have hF1 := (Blk.new_ (w.alloc (.cells #[.int .u64 x0, .int .u64 x1, .int .u64 x2, .int .u64 x3, .int .u64 x4, .int .u64 x5, .int .u64 x6, .int .u64 x7, .int .u64 x8, .slice A n c] 83)) 83 #[.int .u64 y0, .int .u64 y1, .int .u64 y2, .int .u64 y3, .int .u64 y4, .int .u64 y5, .int .u64 y6, .int .u64 y7, .int .u64 y8, .slice B m d] (w.heap.size + 1) (by simp)).call hb1; have a0 := hE1.cell 0; have a1 := hE1.cell 1; have a2 := hE1.cell 2; have a3 := hE1.cell 3; have a4 := hE1.cell 4; have a5 := hE1.cell 5; have a6 := hE1.cell 6; have a7 := hE1.cell 7; have a8 := hE1.cell 8; have a9 := hE1.cell 9; have aa9 := (fun (o o2 : Obj) => ((hE1.alloc o).alloc o2).cell 9); have bb9 := hF1.cell 9; have HB1 : Hid (Below w.heap.size w w1) := below_then (((Below.refl w.heap.size w).alloc (Nat.le_refl _) _).alloc (by simp) _) hb1; have HE1 := Lib.hid hE1; have HF1 := Lib.hid hF1; clear hb1 hE1 hF1)
      | (at_builtin; refine wpList_appL _ rfl (.tmp 22) (.tmp 24) _ rfl 5 (.int .u8 0) 1 rowB u8v u8v_cell w.heap.size _ [] rfl (Own.empty u8v 5 (w1.alloc (.cells #[.int .u64 x0, .int .u64 x1, .int .u64 x2, .int .u64 x3, .int .u64 x4, .int .u64 x5, .int .u64 x6, .int .u64 x7, .int .u64 x8, .slice A n c] 83)) w.heap.size (w1.heap.size + 1) (by simp) (by have := HB1.out.size; omega)) w.heap.size _ n c bs rfl (((HR.out.below HB1.out (Nat.le_refl _)).alloc HB1.out.size _).alloc (by have := HB1.out.size; simp; omega) _) HN.out bs n rfl HN.out (by omega) (by omega) (by have := HB1.out.size; simp; omega) ?_; intro A3 c3 w2 hown2 (hgr2 : Grow _ _ (.slice (some ⟨w1.heap.size + 1, 0, none⟩) 0 0) _) hc3 hA3; have hlt1 := HE1.out.lt; have hlt2 := HF1.out.lt; have hE2 := ((HE1.out.alloc (.cells #[.int .u64 x0, .int .u64 x1, .int .u64 x2, .int .u64 x3, .int .u64 x4, .int .u64 x5, .int .u64 x6, .int .u64 x7, .int .u64 x8, .slice A n c] 83)).alloc (.cells #[] 5)).grown hgr2.by_ (by simp [Value.ownBlock]; omega); have hF2 := ((HF1.out.alloc (.cells #[.int .u64 x0, .int .u64 x1, .int .u64 x2, .int .u64 x3, .int .u64 x4, .int .u64 x5, .int .u64 x6, .int .u64 x7, .int .u64 x8, .slice A n c] 83)).alloc (.cells #[] 5)).grown hgr2.by_ (by simp [Value.ownBlock]; omega); have hQ2 := ((Blk.new w1 83 #[.int .u64 x0, .int .u64 x1, .int .u64 x2, .int .u64 x3, .int .u64 x4, .int .u64 x5, .int .u64 x6, .int .u64 x7, .int .u64 x8, .slice A n c]).alloc (.cells #[] 5)).grown hgr2.by_ (by simp [Value.ownBlock]); have q9 := hQ2.cell 9; have fq9 := hQ2.free 9; clear a0 a1 a2 a3 a4 a5 a6 a7 a8 a9 bb9 aa9; have q0 := hQ2.cell 0; have q1 := hQ2.cell 1; have q2 := hQ2.cell 2; have q3 := hQ2.cell 3; have q4 := hQ2.cell 4; have q5 := hQ2.cell 5; have q6 := hQ2.cell 6; have q7 := hQ2.cell 7; have q8 := hQ2.cell 8; have HMK := Lib.hid (fun rv => pst_mk hE2 hF2 hQ2 (by omega) hown2 (hgr2.below ((HB1.out.alloc HB1.out.size _).alloc (by have := HB1.out.size; simp; omega) _) (ownBlock_ge (by have := HB1.out.size; simp; omega)) (by have := HB1.out.size; simp; omega)) rv); have HLT := Lib.hid hlt2; have HLQ := Lib.hid hQ2.lt; clear hown2 hgr2 hA3 hE2 hF2 hQ2 hlt1 hlt2))
    go_cut [] from 28 to 53 (fun wc => ∃ (u0 u1 u2 u3 u4 u5 u6 u7 u8 : Int) (A4 : Option Addr) (n4 c4 : Nat) (bs4 : List UInt8), Hid (PSt w wc #[.int .u64 x0, .int .u64 x1, .int .u64 x2, .int .u64 x3, .int .u64 x4, .int .u64 x5, .int .u64 x6, .int .u64 x7, .int .u64 x8, .slice A n c] #[.int .u64 y0, .int .u64 y1, .int .u64 y2, .int .u64 y3, .int .u64 y4, .int .u64 y5, .int .u64 y6, .int .u64 y7, .int .u64 y8, .slice B m d] #[.int .u64 x0, .int .u64 x1, .int .u64 x2, .int .u64 x3, .int .u64 x4, .int .u64 x5, .int .u64 x6, .int .u64 x7, .int .u64 x8, .slice A3 n c3] #[.int .u64 u0, .int .u64 u1, .int .u64 u2, .int .u64 u3, .int .u64 u4, .int .u64 u5, .int .u64 u6, .int .u64 u7, .int .u64 u8, .slice A4 n4 c4] w1.heap.size w2.heap.size A3 bs A4 bs4) ∧ Hid (bs4.length = n4) ∧ Hid (¬ (x0 = u0 ∧ x1 = u1 ∧ x2 = u2 ∧ x3 = u3 ∧ x4 = u4 ∧ x5 = u5 ∧ x6 = u6 ∧ x7 = u7 ∧ x8 = u8 ∧ bs = bs4)))
    case first =>
      rcases (show (j : Int) % 4 = 0 ∨ (j : Int) % 4 = 1 ∨ (j : Int) % 4 = 2 ∨ (j : Int) % 4 = 3 from by omega) with h | h | h | h
      · go_wp2_with fail
        go_meet
        case rel =>
          refine ⟨_, _, _, _, _, _, _, _, _, _, _, _, bs, Lib.hid ((HMK.out _).1), HN, Lib.hid ?_⟩
          have hx := HX.out.1
          rintro ⟨h2, _⟩
          rw [show IntKind.u64.wrap (x0 + 1) = (x0 + 1) % 18446744073709551616 from by simp [IntKind.wrap, IntKind.signed, IntKind.bits]] at h2
          omega
      · go_wp2_with fail
        go_meet
        case rel =>
          refine ⟨_, _, _, _, _, _, _, _, _, _, _, _, bs, Lib.hid ((HMK.out _).1), HN, Lib.hid ?_⟩
          have hx := HX.out.2.2
          rintro ⟨_, _, _, _, _, _, _, _, h2, _⟩
          rw [show IntKind.u64.wrap (x8 + 1) = (x8 + 1) % 18446744073709551616 from by simp [IntKind.wrap, IntKind.signed, IntKind.bits]] at h2
          omega
      · go_wp2_with fail
        go_meet
        case rel =>
          refine ⟨_, _, _, _, _, _, _, _, _, _, _, _, bs, Lib.hid ((HMK.out _).1), HN, Lib.hid ?_⟩
          have hx := HX.out.2.1
          rintro ⟨_, _, _, _, h2, _⟩
          rw [show IntKind.u64.wrap (x4 + 1) = (x4 + 1) % 18446744073709551616 from by simp [IntKind.wrap, IntKind.signed, IntKind.bits]] at h2
          omega
      · have hmk := HMK.out #[.int .u64 x0, .int .u64 x1, .int .u64 x2, .int .u64 x3, .int .u64 x4, .int .u64 x5, .int .u64 x6, .int .u64 x7, .int .u64 x8, .slice A3 n c3]
        have HNX := Lib.hid (show Rd u8v (((w2.setCell ⟨w1.heap.size, 9, none⟩ (.slice A3 n c3)).alloc (.cells #[.int .u64 x0, .int .u64 x1, .int .u64 x2, .int .u64 x3, .int .u64 x4, .int .u64 x5, .int .u64 x6, .int .u64 x7, .int .u64 x8, .slice A3 n c3] 83)).alloc (.cells #[.int .u8 j] 5)) (w2.heap.size + 1 + 1) (some ⟨w2.heap.size + 1, 0, none⟩) [UInt8.ofNat j] from Rd.newg u8v _ _ _ _ _ (by simp [World.setCell]) (by simp [u8v]; omega))
        have HM2 := Lib.hid hmk
        have hlt3 := hmk.1.eq_.lt
        clear hmk
        go_wp2_with (at_builtin; go_loud (refine wpList_appK _ rfl (.tmp 31) (.tmp 33) _ rfl 5 (.int .u8 0) 1 rowB u8v u8v_cell w.heap.size A3 n c3 bs rfl (HM2.out.2.alloc _) (w2.heap.size + 1 + 1) _ 1 1 [UInt8.ofNat j] rfl HNX.out rfl (n + 1) rfl (by omega) (by omega) (by have := HM2.out.1.bl.size; simp [World.setCell] at this ⊢; omega) ?_); intro A6 c6 w6 hown6 (hgr6 : Grow _ _ (.slice A3 n c3) _) hk6; have hst := pst_app HM2.out.1 HM2.out.2 hgr6 hown6 hk6; have y9 := hst.er.cell 9; have f9 := hst.er.free 9; have HST := Lib.hid (pst_set hst (by have := HLT.out; omega) HLQ.out hown6 (by have h9 := HM2.out.2.blk_ne HM2.out.1.er (by decide); cases A3 <;> exact h9)); clear hst hown6 hgr6 hk6)
        go_meet
        case rel =>
          refine ⟨_, _, _, _, _, _, _, _, _, _, n + 1, _, _, HST, Lib.hid (by rw [List.length_append, HN.out]; rfl), Lib.hid ?_⟩
          rintro ⟨_, _, _, _, _, _, _, _, _, h2⟩
          have := congrArg List.length h2
          simp at this
    case rest =>
      obtain ⟨u0, u1, u2, u3, u4, u5, u6, u7, u8, A4, n4, c4, bs4, HST, HN4, HNE⟩ := hcut
      clear HMK
      go_upto_region 16 with fail
      obtain ⟨z, hz⟩ : ∃ z, z = decide (x0 = y0 ∧ x1 = y1 ∧ x2 = y2 ∧ x3 = y3 ∧ x4 = y4 ∧ x5 = y5 ∧ x6 = y6 ∧ x7 = y7 ∧ x8 = y8 ∧ bs = cs) := ⟨_, rfl⟩
      obtain ⟨nb, hnb⟩ : ∃ nb, nb = ([x0, x1, x2, x3, x4, x5, x6, x7, x8] == [y0, y1, y2, y3, y4, y5, y6, y7, y8]) := ⟨_, rfl⟩
      have hzz : z = (nb && (bs == cs)) := by
        rw [hz, hnb, Bool.eq_iff_iff]
        simp [and_assoc]
      have heq : ∀ W : World, (binOp .eql 85 (.agg #[.int .u64 x0, .int .u64 x1, .int .u64 x2, .int .u64 x3, .int .u64 x4, .int .u64 x5, .int .u64 x6, .int .u64 x7, .int .u64 x8]) (.agg #[.int .u64 y0, .int .u64 y1, .int .u64 y2, .int .u64 y3, .int .u64 y4, .int .u64 y5, .int .u64 y6, .int .u64 y7, .int .u64 y8])).run Try.prog W = .ok (.bool nb) W := fun W => by
        rw [hnb]
        exact eql_nine [x0, x1, x2, x3, x4, x5, x6, x7, x8] [y0, y1, y2, y3, y4, y5, y6, y7, y8] rfl rfl W
      have HZ := Lib.hid hz
      clear hz hnb
      have HTT := Lib.hid (show true = decide (x0 = x0 ∧ x1 = x1 ∧ x2 = x2 ∧ x3 = x3 ∧ x4 = x4 ∧ x5 = x5 ∧ x6 = x6 ∧ x7 = x7 ∧ x8 = x8 ∧ bs = bs) from by simp)
      have HFF := Lib.hid (show false = decide (x0 = u0 ∧ x1 = u1 ∧ x2 = u2 ∧ x3 = u3 ∧ x4 = u4 ∧ x5 = u5 ∧ x6 = u6 ∧ x7 = u7 ∧ x8 = u8 ∧ bs = bs4) from (decide_eq_false HNE.out).symm)
      have HSTd := Lib.hid (HST.out.call (Below.drew (Below.refl _ _)))
      obtain ⟨sq, hsq⟩ : ∃ sq, sq = (bs == cs) := ⟨_, rfl⟩
      rw [← hsq] at hzz
      cases nb
      · obtain rfl : z = false := hzz
        clear hsq
        refine reg_start (S := fun w' => Ext [] (wc) w') #[false, false, false, false, false, false, false, false, false, false, false, false, false, false, false, false, false, false, false, false, false, false, false, false, false, false, false, false, false, false] rfl rfl (by kernel_rfl) ((Ext.refl [] _).drew) ?_
        have hH : Ext [] (wc) (wc).drew := (Ext.refl [] _).drew
        refine reg_take 0 54 #[true, false, false, false, false, false, false, false, false, false, false, false, false, false, false, false, false, false, false, false, false, false, false, false, false, false, false, false, false, false] (v := ?_) rfl rfl (by kernel_rfl) (by kernel_rfl) (by kernel_rfl) (fun _ _ _ h => h) (by kernel_rfl) hH (Or.inl ⟨by rfl, fun w' hS => ?_⟩) ?_
        rotate_left
        · (have hS0 := hS; have hpc := pst_cells (HST.out.call hS0.below0); go_simp; try with_reducible rfl)
        simp only [List.setIfInBounds_toArray, List.set_cons_zero, List.set_cons_succ]
        refine reg_take 1 55 #[true, true, false, false, false, false, false, false, false, false, false, false, false, false, false, false, false, false, false, false, false, false, false, false, false, false, false, false, false, false] (v := ?_) rfl rfl (by kernel_rfl) (by kernel_rfl) (by kernel_rfl) (fun _ _ _ h => h) (by kernel_rfl) hH (Or.inl ⟨by rfl, fun w' hS => ?_⟩) ?_
        rotate_left
        · (have hS0 := hS; have hpc := pst_cells (HST.out.call hS0.below0); go_simp; try with_reducible rfl)
        simp only [List.setIfInBounds_toArray, List.set_cons_zero, List.set_cons_succ]
        refine reg_call 2 #[true, true, true, false, false, false, false, false, false, false, false, false, false, false, false, false, false, false, false, false, false, false, false, false, false, false, false, false, false, false] rfl (by kernel_rfl) (by rfl) (by kernel_rfl) (fun K hK => ?_)
        go_simp
        go_wp2_with (go_at_call 45; refine (psame_z x0 x1 x2 x3 x4 x5 x6 x7 x8 x0 x1 x2 x3 x4 x5 x6 x7 x8 A n c A3 n c3 bs bs _ true HTT.out ((HR.out.below HSTd.out.bl (Nat.le_refl _)).more HSTd.out.bl.size) HN.out HSTd.out.rq HN.out).mono ?_; rintro e w6 ⟨rfl, hb⟩; have H6 := Lib.hid (HSTd.out.call hb); have HX6 := Lib.hid (((Ext.refl [] wc).drew).trans (Ext.of_below hb [])); clear hb)
        refine hK.out (fun w' => Ext [] w6 w') (fun w' h => (HX6.out).trans h) _ _ (HX6.out) ?_
        clear hK K hH
        have hH := Ext.refl [] w6
        try simp only [Act.put, List.setIfInBounds_toArray, List.set_cons_zero, List.set_cons_succ]
        refine reg_take 3 57 #[true, true, true, true, false, false, false, false, false, false, false, false, false, false, false, false, false, false, false, false, false, false, false, false, false, false, false, false, false, false] (v := ?_) rfl rfl (by kernel_rfl) (by kernel_rfl) (by kernel_rfl) (fun _ _ _ h => h) (by kernel_rfl) hH (Or.inl ⟨by rfl, fun w' hS => ?_⟩) ?_
        rotate_left
        · (go_simp; try with_reducible rfl)
        simp only [List.setIfInBounds_toArray, List.set_cons_zero, List.set_cons_succ]
        refine reg_take 4 58 #[true, true, true, true, true, false, false, false, false, false, false, false, false, false, false, false, false, false, false, false, false, false, false, false, false, false, false, false, false, false] (v := ?_) rfl rfl (by kernel_rfl) (by kernel_rfl) (by kernel_rfl) (fun _ _ _ h => h) (by kernel_rfl) hH (Or.inl ⟨by rfl, fun w' hS => ?_⟩) ?_
        rotate_left
        · (have hS0 := (HX6.out).trans hS; have hpc := pst_cells (HST.out.call hS0.below0); go_simp; try with_reducible rfl)
        simp only [List.setIfInBounds_toArray, List.set_cons_zero, List.set_cons_succ]
        refine reg_take 5 59 #[true, true, true, true, true, true, false, false, false, false, false, false, false, false, false, false, false, false, false, false, false, false, false, false, false, false, false, false, false, false] (v := ?_) rfl rfl (by kernel_rfl) (by kernel_rfl) (by kernel_rfl) (fun _ _ _ h => h) (by kernel_rfl) hH (Or.inl ⟨by rfl, fun w' hS => ?_⟩) ?_
        rotate_left
        · (have hS0 := (HX6.out).trans hS; have hpc := pst_cells (HST.out.call hS0.below0); go_simp; try with_reducible rfl)
        simp only [List.setIfInBounds_toArray, List.set_cons_zero, List.set_cons_succ]
        refine reg_call 6 #[true, true, true, true, true, true, true, false, false, false, false, false, false, false, false, false, false, false, false, false, false, false, false, false, false, false, false, false, false, false] rfl (by kernel_rfl) (by rfl) (by kernel_rfl) (fun K hK => ?_)
        go_simp
        go_wp2_with (go_at_call 45; refine (psame_z x0 x1 x2 x3 x4 x5 x6 x7 x8 u0 u1 u2 u3 u4 u5 u6 u7 u8 A n c A4 n4 c4 bs bs4 _ false HFF.out ((HR.out.below H6.out.bl (Nat.le_refl _)).more H6.out.bl.size) HN.out H6.out.rr HN4.out).mono ?_; rintro e w7 ⟨rfl, hb⟩; have H7 := Lib.hid (H6.out.call hb); have HX7 := Lib.hid (Ext.of_below hb []); clear hb)
        refine hK.out (fun w' => Ext [] w7 w') (fun w' h => (HX7.out).trans h) _ _ (HX7.out) ?_
        clear hK K hH
        have hH := Ext.refl [] w7
        try simp only [Act.put, List.setIfInBounds_toArray, List.set_cons_zero, List.set_cons_succ]
        refine reg_take 7 61 #[true, true, true, true, true, true, true, true, false, false, false, false, false, false, false, false, false, false, false, false, false, false, false, false, false, false, false, false, false, false] (v := ?_) rfl rfl (by kernel_rfl) (by kernel_rfl) (by kernel_rfl) (fun _ _ _ h => h) (by kernel_rfl) hH (Or.inl ⟨by rfl, fun w' hS => ?_⟩) ?_
        rotate_left
        · (go_simp; try with_reducible rfl)
        simp only [List.setIfInBounds_toArray, List.set_cons_zero, List.set_cons_succ]
        refine reg_take 8 62 #[true, true, true, true, true, true, true, true, true, false, false, false, false, false, false, false, false, false, false, false, false, false, false, false, false, false, false, false, false, false] (v := ?_) rfl rfl (by kernel_rfl) (by kernel_rfl) (by kernel_rfl) (fun _ _ _ h => h) (by kernel_rfl) hH (Or.inl ⟨by rfl, fun w' hS => ?_⟩) ?_
        rotate_left
        · (go_simp; try with_reducible rfl)
        simp only [List.setIfInBounds_toArray, List.set_cons_zero, List.set_cons_succ]
        refine reg_take 9 63 #[true, true, true, true, true, true, true, true, true, true, false, false, false, false, false, false, false, false, false, false, false, false, false, false, false, false, false, false, false, false] (v := ?_) rfl rfl (by kernel_rfl) (by kernel_rfl) (by kernel_rfl) (fun _ _ _ h => h) (by kernel_rfl) hH (Or.inl ⟨by rfl, fun w' hS => ?_⟩) ?_
        rotate_left
        · (go_simp; try with_reducible rfl)
        simp only [List.setIfInBounds_toArray, List.set_cons_zero, List.set_cons_succ]
        refine reg_take 10 64 #[true, true, true, true, true, true, true, true, true, true, true, false, false, false, false, false, false, false, false, false, false, false, false, false, false, false, false, false, false, false] (v := ?_) rfl rfl (by kernel_rfl) (by kernel_rfl) (by kernel_rfl) (fun _ _ _ h => h) (by kernel_rfl) hH (Or.inl ⟨by rfl, fun w' hS => ?_⟩) ?_
        rotate_left
        · (have hS0 := ((HX6.out).trans (HX7.out)).trans hS; have hpc := pst_cells (HST.out.call hS0.below0); go_simp; try with_reducible rfl)
        simp only [List.setIfInBounds_toArray, List.set_cons_zero, List.set_cons_succ]
        refine reg_take 11 65 #[true, true, true, true, true, true, true, true, true, true, true, true, false, false, false, false, false, false, false, false, false, false, false, false, false, false, false, false, false, false] (v := ?_) rfl rfl (by kernel_rfl) (by kernel_rfl) (by kernel_rfl) (fun _ _ _ h => h) (by kernel_rfl) hH (Or.inl ⟨by rfl, fun w' hS => ?_⟩) ?_
        rotate_left
        · (have hS0 := ((HX6.out).trans (HX7.out)).trans hS; have hpc := pst_cells (HST.out.call hS0.below0); go_simp; try with_reducible rfl)
        simp only [List.setIfInBounds_toArray, List.set_cons_zero, List.set_cons_succ]
        refine reg_take 13 67 #[true, true, true, true, true, true, true, true, true, true, true, true, false, true, false, false, false, false, false, false, false, false, false, false, false, false, false, false, false, false] (v := ?_) rfl rfl (by kernel_rfl) (by kernel_rfl) (by kernel_rfl) (fun _ _ _ h => h) (by kernel_rfl) hH (Or.inl ⟨by rfl, fun w' hS => ?_⟩) ?_
        rotate_left
        · (have hS0 := ((HX6.out).trans (HX7.out)).trans hS; have hpc := pst_cells (HST.out.call hS0.below0); go_simp; try with_reducible rfl)
        simp only [List.setIfInBounds_toArray, List.set_cons_zero, List.set_cons_succ]
        refine reg_take 15 69 #[true, true, true, true, true, true, true, true, true, true, true, true, false, true, false, true, false, false, false, false, false, false, false, false, false, false, false, false, false, false] (v := ?_) rfl rfl (by kernel_rfl) (by kernel_rfl) (by kernel_rfl) (fun _ _ _ h => h) (by kernel_rfl) hH (Or.inl ⟨by rfl, fun w' hS => ?_⟩) ?_
        rotate_left
        · (have hS0 := ((HX6.out).trans (HX7.out)).trans hS; have hpc := pst_cells (HST.out.call hS0.below0); go_simp; try with_reducible rfl)
        simp only [List.setIfInBounds_toArray, List.set_cons_zero, List.set_cons_succ]
        refine reg_call 12 #[true, true, true, true, true, true, true, true, true, true, true, true, true, true, false, true, false, false, false, false, false, false, false, false, false, false, false, false, false, false] rfl (by kernel_rfl) (by rfl) (by kernel_rfl) (fun K hK => ?_)
        go_simp
        go_wp2_with (go_at_call 45; refine (psame_z x0 x1 x2 x3 x4 x5 x6 x7 x8 y0 y1 y2 y3 y4 y5 y6 y7 y8 A n c B m d bs cs _ _ HZ.out ((HR.out.below H7.out.bl (Nat.le_refl _)).more H7.out.bl.size) HN.out ((HS.out.below H7.out.bl (Nat.le_refl _)).more H7.out.bl.size) HM.out).mono ?_; rintro e w8 ⟨rfl, hb⟩; have H8 := Lib.hid (H7.out.call hb); have HX8 := Lib.hid (Ext.of_below hb []); clear hb)
        refine hK.out (fun w' => Ext [] w8 w') (fun w' h => (HX8.out).trans h) _ _ (HX8.out) ?_
        clear hK K hH
        have hH := Ext.refl [] w8
        try simp only [Act.put, List.setIfInBounds_toArray, List.set_cons_zero, List.set_cons_succ]
        refine reg_call 14 #[true, true, true, true, true, true, true, true, true, true, true, true, true, true, true, true, false, false, false, false, false, false, false, false, false, false, false, false, false, false] rfl (by kernel_rfl) (by rfl) (by kernel_rfl) (fun K hK => ?_)
        go_simp
        go_wp2_with (go_at_call 46; refine (nums_any x0 x1 x2 x3 x4 x5 x6 x7 x8 A n c _).mono ?_; rintro e w9 ⟨rfl, hb⟩; have H9 := Lib.hid (H8.out.call hb); have HX9 := Lib.hid (Ext.of_below hb []); clear hb)
        refine hK.out (fun w' => Ext [] w9 w') (fun w' h => (HX9.out).trans h) _ _ (HX9.out) ?_
        clear hK K hH
        have hH := Ext.refl [] w9
        try simp only [Act.put, List.setIfInBounds_toArray, List.set_cons_zero, List.set_cons_succ]
        refine reg_call 16 #[true, true, true, true, true, true, true, true, true, true, true, true, true, true, true, true, true, false, false, false, false, false, false, false, false, false, false, false, false, false] rfl (by kernel_rfl) (by rfl) (by kernel_rfl) (fun K hK => ?_)
        go_simp
        go_wp2_with (go_at_call 46; refine (nums_any y0 y1 y2 y3 y4 y5 y6 y7 y8 B m d _).mono ?_; rintro e w10 ⟨rfl, hb⟩; have H10 := Lib.hid (H9.out.call hb); have HX10 := Lib.hid (Ext.of_below hb []); clear hb)
        refine hK.out (fun w' => Ext [] w10 w') (fun w' h => (HX10.out).trans h) _ _ (HX10.out) ?_
        clear hK K hH
        have hH := Ext.refl [] w10
        try simp only [Act.put, List.setIfInBounds_toArray, List.set_cons_zero, List.set_cons_succ]
        refine reg_take 17 71 #[true, true, true, true, true, true, true, true, true, true, true, true, true, true, true, true, true, true, false, false, false, false, false, false, false, false, false, false, false, false] (v := ?_) rfl rfl (by kernel_rfl) (by kernel_rfl) (by kernel_rfl) (fun _ _ _ h => h) (by kernel_rfl) hH (Or.inl ⟨by rfl, fun w' hS => ?_⟩) ?_
        rotate_left
        · (go_simp; try with_reducible rfl)
        simp only [List.setIfInBounds_toArray, List.set_cons_zero, List.set_cons_succ]
        refine reg_take 18 72 #[true, true, true, true, true, true, true, true, true, true, true, true, true, true, true, true, true, true, true, false, false, false, false, false, false, false, false, false, false, false] (v := ?_) rfl rfl (by kernel_rfl) (by kernel_rfl) (by kernel_rfl) (fun _ _ _ h => h) (by kernel_rfl) hH (Or.inl ⟨by rfl, fun w' hS => ?_⟩) ?_
        rotate_left
        · (go_simp; try with_reducible rfl)
        simp only [List.setIfInBounds_toArray, List.set_cons_zero, List.set_cons_succ]
        refine reg_take 19 73 #[true, true, true, true, true, true, true, true, true, true, true, true, true, true, true, true, true, true, true, true, false, false, false, false, false, false, false, false, false, false] (v := undef) rfl rfl (by kernel_rfl) (by kernel_rfl) (by kernel_rfl) (fun _ _ _ h => h) (by kernel_rfl) hH (Or.inr ⟨by rfl, rfl⟩) ?_
        simp only [List.setIfInBounds_toArray, List.set_cons_zero, List.set_cons_succ]
        refine reg_take 20 74 #[true, true, true, true, true, true, true, true, true, true, true, true, true, true, true, true, true, true, true, true, true, false, false, false, false, false, false, false, false, false] (v := undef) rfl rfl (by kernel_rfl) (by kernel_rfl) (by kernel_rfl) (fun _ _ _ h => h) (by kernel_rfl) hH (Or.inr ⟨by rfl, rfl⟩) ?_
        simp only [List.setIfInBounds_toArray, List.set_cons_zero, List.set_cons_succ]
        refine reg_take 21 75 #[true, true, true, true, true, true, true, true, true, true, true, true, true, true, true, true, true, true, true, true, true, true, false, false, false, false, false, false, false, false] (v := undef) rfl rfl (by kernel_rfl) (by kernel_rfl) (by kernel_rfl) (fun _ _ _ h => h) (by kernel_rfl) hH (Or.inr ⟨by rfl, rfl⟩) ?_
        simp only [List.setIfInBounds_toArray, List.set_cons_zero, List.set_cons_succ]
        refine reg_take 22 76 #[true, true, true, true, true, true, true, true, true, true, true, true, true, true, true, true, true, true, true, true, true, true, true, false, false, false, false, false, false, false] (v := undef) rfl rfl (by kernel_rfl) (by kernel_rfl) (by kernel_rfl) (fun _ _ _ h => h) (by kernel_rfl) hH (Or.inr ⟨by rfl, rfl⟩) ?_
        simp only [List.setIfInBounds_toArray, List.set_cons_zero, List.set_cons_succ]
        refine reg_take 23 77 #[true, true, true, true, true, true, true, true, true, true, true, true, true, true, true, true, true, true, true, true, true, true, true, true, false, false, false, false, false, false] (v := undef) rfl rfl (by kernel_rfl) (by kernel_rfl) (by kernel_rfl) (fun _ _ _ h => h) (by kernel_rfl) hH (Or.inr ⟨by rfl, rfl⟩) ?_
        simp only [List.setIfInBounds_toArray, List.set_cons_zero, List.set_cons_succ]
        refine reg_take 24 78 #[true, true, true, true, true, true, true, true, true, true, true, true, true, true, true, true, true, true, true, true, true, true, true, true, true, false, false, false, false, false] (v := undef) rfl rfl (by kernel_rfl) (by kernel_rfl) (by kernel_rfl) (fun _ _ _ h => h) (by kernel_rfl) hH (Or.inr ⟨by rfl, rfl⟩) ?_
        simp only [List.setIfInBounds_toArray, List.set_cons_zero, List.set_cons_succ]
        refine reg_take 25 79 #[true, true, true, true, true, true, true, true, true, true, true, true, true, true, true, true, true, true, true, true, true, true, true, true, true, true, false, false, false, false] (v := undef) rfl rfl (by kernel_rfl) (by kernel_rfl) (by kernel_rfl) (fun _ _ _ h => h) (by kernel_rfl) hH (Or.inr ⟨by rfl, rfl⟩) ?_
        simp only [List.setIfInBounds_toArray, List.set_cons_zero, List.set_cons_succ]
        refine reg_take 26 80 #[true, true, true, true, true, true, true, true, true, true, true, true, true, true, true, true, true, true, true, true, true, true, true, true, true, true, true, false, false, false] (v := ?_) rfl rfl (by kernel_rfl) (by kernel_rfl) (by kernel_rfl) (fun _ _ _ h => h) (by kernel_rfl) hH (Or.inl ⟨by rfl, fun w' hS => ?_⟩) ?_
        rotate_left
        · (go_simp; try with_reducible rfl)
        simp only [List.setIfInBounds_toArray, List.set_cons_zero, List.set_cons_succ]
        refine reg_take 27 81 #[true, true, true, true, true, true, true, true, true, true, true, true, true, true, true, true, true, true, true, true, true, true, true, true, true, true, true, true, false, false] (v := ?_) rfl rfl (by kernel_rfl) (by kernel_rfl) (by kernel_rfl) (fun _ _ _ h => h) (by kernel_rfl) hH (Or.inl ⟨by rfl, fun w' hS => ?_⟩) ?_
        rotate_left
        · (go_simp; try with_reducible rfl)
        simp only [List.setIfInBounds_toArray, List.set_cons_zero, List.set_cons_succ]
        refine reg_take 28 82 #[true, true, true, true, true, true, true, true, true, true, true, true, true, true, true, true, true, true, true, true, true, true, true, true, true, true, true, true, true, false] (v := ?_) rfl rfl (by kernel_rfl) (by kernel_rfl) (by kernel_rfl) (fun _ _ _ h => h) (by kernel_rfl) hH (Or.inl ⟨by rfl, fun w' hS => ?_⟩) ?_
        rotate_left
        · (go_simp; try with_reducible rfl)
        simp only [List.setIfInBounds_toArray, List.set_cons_zero, List.set_cons_succ]
        refine reg_take 29 6 #[true, true, true, true, true, true, true, true, true, true, true, true, true, true, true, true, true, true, true, true, true, true, true, true, true, true, true, true, true, true] (v := ?_) rfl rfl (by kernel_rfl) (by kernel_rfl) (by kernel_rfl) (fun _ _ _ h => h) (by kernel_rfl) hH (Or.inl ⟨by rfl, fun w' hS => ?_⟩) ?_
        rotate_left
        · (go_simp; try with_reducible rfl)
        simp only [List.setIfInBounds_toArray, List.set_cons_zero, List.set_cons_succ]
        refine reg_done (by kernel_rfl) ?_
        all_goals go_wp2_with fail
        all_goals exact bodyPost_ret (results_tmp rfl _ _ _) rfl ⟨rfl, H10.out.bl⟩
      · obtain rfl : z = sq := hzz
        cases z
        · have hbb : (bs == cs) = false := hsq.symm
          clear hsq
          refine reg_start (S := fun w' => Ext [] (wc) w') #[false, false, false, false, false, false, false, false, false, false, false, false, false, false, false, false, false, false, false, false, false, false, false, false, false, false, false, false, false, false] rfl rfl (by kernel_rfl) ((Ext.refl [] _).drew) ?_
          have hH : Ext [] (wc) (wc).drew := (Ext.refl [] _).drew
          refine reg_take 0 54 #[true, false, false, false, false, false, false, false, false, false, false, false, false, false, false, false, false, false, false, false, false, false, false, false, false, false, false, false, false, false] (v := ?_) rfl rfl (by kernel_rfl) (by kernel_rfl) (by kernel_rfl) (fun _ _ _ h => h) (by kernel_rfl) hH (Or.inl ⟨by rfl, fun w' hS => ?_⟩) ?_
          rotate_left
          · (have hS0 := hS; have hpc := pst_cells (HST.out.call hS0.below0); go_simp; try with_reducible rfl)
          simp only [List.setIfInBounds_toArray, List.set_cons_zero, List.set_cons_succ]
          refine reg_take 1 55 #[true, true, false, false, false, false, false, false, false, false, false, false, false, false, false, false, false, false, false, false, false, false, false, false, false, false, false, false, false, false] (v := ?_) rfl rfl (by kernel_rfl) (by kernel_rfl) (by kernel_rfl) (fun _ _ _ h => h) (by kernel_rfl) hH (Or.inl ⟨by rfl, fun w' hS => ?_⟩) ?_
          rotate_left
          · (have hS0 := hS; have hpc := pst_cells (HST.out.call hS0.below0); go_simp; try with_reducible rfl)
          simp only [List.setIfInBounds_toArray, List.set_cons_zero, List.set_cons_succ]
          refine reg_call 2 #[true, true, true, false, false, false, false, false, false, false, false, false, false, false, false, false, false, false, false, false, false, false, false, false, false, false, false, false, false, false] rfl (by kernel_rfl) (by rfl) (by kernel_rfl) (fun K hK => ?_)
          go_simp
          go_wp2_with (go_at_call 45; refine (psame_z x0 x1 x2 x3 x4 x5 x6 x7 x8 x0 x1 x2 x3 x4 x5 x6 x7 x8 A n c A3 n c3 bs bs _ true HTT.out ((HR.out.below HSTd.out.bl (Nat.le_refl _)).more HSTd.out.bl.size) HN.out HSTd.out.rq HN.out).mono ?_; rintro e w6 ⟨rfl, hb⟩; have H6 := Lib.hid (HSTd.out.call hb); have HX6 := Lib.hid (((Ext.refl [] wc).drew).trans (Ext.of_below hb [])); clear hb)
          refine hK.out (fun w' => Ext [] w6 w') (fun w' h => (HX6.out).trans h) _ _ (HX6.out) ?_
          clear hK K hH
          have hH := Ext.refl [] w6
          try simp only [Act.put, List.setIfInBounds_toArray, List.set_cons_zero, List.set_cons_succ]
          refine reg_take 3 57 #[true, true, true, true, false, false, false, false, false, false, false, false, false, false, false, false, false, false, false, false, false, false, false, false, false, false, false, false, false, false] (v := ?_) rfl rfl (by kernel_rfl) (by kernel_rfl) (by kernel_rfl) (fun _ _ _ h => h) (by kernel_rfl) hH (Or.inl ⟨by rfl, fun w' hS => ?_⟩) ?_
          rotate_left
          · (go_simp; try with_reducible rfl)
          simp only [List.setIfInBounds_toArray, List.set_cons_zero, List.set_cons_succ]
          refine reg_take 4 58 #[true, true, true, true, true, false, false, false, false, false, false, false, false, false, false, false, false, false, false, false, false, false, false, false, false, false, false, false, false, false] (v := ?_) rfl rfl (by kernel_rfl) (by kernel_rfl) (by kernel_rfl) (fun _ _ _ h => h) (by kernel_rfl) hH (Or.inl ⟨by rfl, fun w' hS => ?_⟩) ?_
          rotate_left
          · (have hS0 := (HX6.out).trans hS; have hpc := pst_cells (HST.out.call hS0.below0); go_simp; try with_reducible rfl)
          simp only [List.setIfInBounds_toArray, List.set_cons_zero, List.set_cons_succ]
          refine reg_take 5 59 #[true, true, true, true, true, true, false, false, false, false, false, false, false, false, false, false, false, false, false, false, false, false, false, false, false, false, false, false, false, false] (v := ?_) rfl rfl (by kernel_rfl) (by kernel_rfl) (by kernel_rfl) (fun _ _ _ h => h) (by kernel_rfl) hH (Or.inl ⟨by rfl, fun w' hS => ?_⟩) ?_
          rotate_left
          · (have hS0 := (HX6.out).trans hS; have hpc := pst_cells (HST.out.call hS0.below0); go_simp; try with_reducible rfl)
          simp only [List.setIfInBounds_toArray, List.set_cons_zero, List.set_cons_succ]
          refine reg_call 6 #[true, true, true, true, true, true, true, false, false, false, false, false, false, false, false, false, false, false, false, false, false, false, false, false, false, false, false, false, false, false] rfl (by kernel_rfl) (by rfl) (by kernel_rfl) (fun K hK => ?_)
          go_simp
          go_wp2_with (go_at_call 45; refine (psame_z x0 x1 x2 x3 x4 x5 x6 x7 x8 u0 u1 u2 u3 u4 u5 u6 u7 u8 A n c A4 n4 c4 bs bs4 _ false HFF.out ((HR.out.below H6.out.bl (Nat.le_refl _)).more H6.out.bl.size) HN.out H6.out.rr HN4.out).mono ?_; rintro e w7 ⟨rfl, hb⟩; have H7 := Lib.hid (H6.out.call hb); have HX7 := Lib.hid (Ext.of_below hb []); clear hb)
          refine hK.out (fun w' => Ext [] w7 w') (fun w' h => (HX7.out).trans h) _ _ (HX7.out) ?_
          clear hK K hH
          have hH := Ext.refl [] w7
          try simp only [Act.put, List.setIfInBounds_toArray, List.set_cons_zero, List.set_cons_succ]
          refine reg_take 7 61 #[true, true, true, true, true, true, true, true, false, false, false, false, false, false, false, false, false, false, false, false, false, false, false, false, false, false, false, false, false, false] (v := ?_) rfl rfl (by kernel_rfl) (by kernel_rfl) (by kernel_rfl) (fun _ _ _ h => h) (by kernel_rfl) hH (Or.inl ⟨by rfl, fun w' hS => ?_⟩) ?_
          rotate_left
          · (go_simp; try with_reducible rfl)
          simp only [List.setIfInBounds_toArray, List.set_cons_zero, List.set_cons_succ]
          refine reg_take 8 62 #[true, true, true, true, true, true, true, true, true, false, false, false, false, false, false, false, false, false, false, false, false, false, false, false, false, false, false, false, false, false] (v := ?_) rfl rfl (by kernel_rfl) (by kernel_rfl) (by kernel_rfl) (fun _ _ _ h => h) (by kernel_rfl) hH (Or.inl ⟨by rfl, fun w' hS => ?_⟩) ?_
          rotate_left
          · (go_simp; try with_reducible rfl)
          simp only [List.setIfInBounds_toArray, List.set_cons_zero, List.set_cons_succ]
          refine reg_take 9 63 #[true, true, true, true, true, true, true, true, true, true, false, false, false, false, false, false, false, false, false, false, false, false, false, false, false, false, false, false, false, false] (v := ?_) rfl rfl (by kernel_rfl) (by kernel_rfl) (by kernel_rfl) (fun _ _ _ h => h) (by kernel_rfl) hH (Or.inl ⟨by rfl, fun w' hS => ?_⟩) ?_
          rotate_left
          · (go_simp; try with_reducible rfl)
          simp only [List.setIfInBounds_toArray, List.set_cons_zero, List.set_cons_succ]
          refine reg_take 10 64 #[true, true, true, true, true, true, true, true, true, true, true, false, false, false, false, false, false, false, false, false, false, false, false, false, false, false, false, false, false, false] (v := ?_) rfl rfl (by kernel_rfl) (by kernel_rfl) (by kernel_rfl) (fun _ _ _ h => h) (by kernel_rfl) hH (Or.inl ⟨by rfl, fun w' hS => ?_⟩) ?_
          rotate_left
          · (have hS0 := ((HX6.out).trans (HX7.out)).trans hS; have hpc := pst_cells (HST.out.call hS0.below0); go_simp; try with_reducible rfl)
          simp only [List.setIfInBounds_toArray, List.set_cons_zero, List.set_cons_succ]
          refine reg_take 11 65 #[true, true, true, true, true, true, true, true, true, true, true, true, false, false, false, false, false, false, false, false, false, false, false, false, false, false, false, false, false, false] (v := ?_) rfl rfl (by kernel_rfl) (by kernel_rfl) (by kernel_rfl) (fun _ _ _ h => h) (by kernel_rfl) hH (Or.inl ⟨by rfl, fun w' hS => ?_⟩) ?_
          rotate_left
          · (have hS0 := ((HX6.out).trans (HX7.out)).trans hS; have hpc := pst_cells (HST.out.call hS0.below0); go_simp; try with_reducible rfl)
          simp only [List.setIfInBounds_toArray, List.set_cons_zero, List.set_cons_succ]
          refine reg_take 13 67 #[true, true, true, true, true, true, true, true, true, true, true, true, false, true, false, false, false, false, false, false, false, false, false, false, false, false, false, false, false, false] (v := ?_) rfl rfl (by kernel_rfl) (by kernel_rfl) (by kernel_rfl) (fun _ _ _ h => h) (by kernel_rfl) hH (Or.inl ⟨by rfl, fun w' hS => ?_⟩) ?_
          rotate_left
          · (have hS0 := ((HX6.out).trans (HX7.out)).trans hS; have hpc := pst_cells (HST.out.call hS0.below0); go_simp; try with_reducible rfl)
          simp only [List.setIfInBounds_toArray, List.set_cons_zero, List.set_cons_succ]
          refine reg_take 15 69 #[true, true, true, true, true, true, true, true, true, true, true, true, false, true, false, true, false, false, false, false, false, false, false, false, false, false, false, false, false, false] (v := ?_) rfl rfl (by kernel_rfl) (by kernel_rfl) (by kernel_rfl) (fun _ _ _ h => h) (by kernel_rfl) hH (Or.inl ⟨by rfl, fun w' hS => ?_⟩) ?_
          rotate_left
          · (have hS0 := ((HX6.out).trans (HX7.out)).trans hS; have hpc := pst_cells (HST.out.call hS0.below0); go_simp; try with_reducible rfl)
          simp only [List.setIfInBounds_toArray, List.set_cons_zero, List.set_cons_succ]
          refine reg_call 12 #[true, true, true, true, true, true, true, true, true, true, true, true, true, true, false, true, false, false, false, false, false, false, false, false, false, false, false, false, false, false] rfl (by kernel_rfl) (by rfl) (by kernel_rfl) (fun K hK => ?_)
          go_simp
          go_wp2_with (go_at_call 45; refine (psame_z x0 x1 x2 x3 x4 x5 x6 x7 x8 y0 y1 y2 y3 y4 y5 y6 y7 y8 A n c B m d bs cs _ _ HZ.out ((HR.out.below H7.out.bl (Nat.le_refl _)).more H7.out.bl.size) HN.out ((HS.out.below H7.out.bl (Nat.le_refl _)).more H7.out.bl.size) HM.out).mono ?_; rintro e w8 ⟨rfl, hb⟩; have H8 := Lib.hid (H7.out.call hb); have HX8 := Lib.hid (Ext.of_below hb []); clear hb)
          refine hK.out (fun w' => Ext [] w8 w') (fun w' h => (HX8.out).trans h) _ _ (HX8.out) ?_
          clear hK K hH
          have hH := Ext.refl [] w8
          try simp only [Act.put, List.setIfInBounds_toArray, List.set_cons_zero, List.set_cons_succ]
          refine reg_call 14 #[true, true, true, true, true, true, true, true, true, true, true, true, true, true, true, true, false, false, false, false, false, false, false, false, false, false, false, false, false, false] rfl (by kernel_rfl) (by rfl) (by kernel_rfl) (fun K hK => ?_)
          go_simp
          go_wp2_with (go_at_call 46; refine (nums_any x0 x1 x2 x3 x4 x5 x6 x7 x8 A n c _).mono ?_; rintro e w9 ⟨rfl, hb⟩; have H9 := Lib.hid (H8.out.call hb); have HX9 := Lib.hid (Ext.of_below hb []); clear hb)
          refine hK.out (fun w' => Ext [] w9 w') (fun w' h => (HX9.out).trans h) _ _ (HX9.out) ?_
          clear hK K hH
          have hH := Ext.refl [] w9
          try simp only [Act.put, List.setIfInBounds_toArray, List.set_cons_zero, List.set_cons_succ]
          refine reg_call 16 #[true, true, true, true, true, true, true, true, true, true, true, true, true, true, true, true, true, false, false, false, false, false, false, false, false, false, false, false, false, false] rfl (by kernel_rfl) (by rfl) (by kernel_rfl) (fun K hK => ?_)
          go_simp
          go_wp2_with (go_at_call 46; refine (nums_any y0 y1 y2 y3 y4 y5 y6 y7 y8 B m d _).mono ?_; rintro e w10 ⟨rfl, hb⟩; have H10 := Lib.hid (H9.out.call hb); have HX10 := Lib.hid (Ext.of_below hb []); clear hb)
          refine hK.out (fun w' => Ext [] w10 w') (fun w' h => (HX10.out).trans h) _ _ (HX10.out) ?_
          clear hK K hH
          have hH := Ext.refl [] w10
          try simp only [Act.put, List.setIfInBounds_toArray, List.set_cons_zero, List.set_cons_succ]
          refine reg_take 17 71 #[true, true, true, true, true, true, true, true, true, true, true, true, true, true, true, true, true, true, false, false, false, false, false, false, false, false, false, false, false, false] (v := ?_) rfl rfl (by kernel_rfl) (by kernel_rfl) (by kernel_rfl) (fun _ _ _ h => h) (by kernel_rfl) hH (Or.inl ⟨by rfl, fun w' hS => ?_⟩) ?_
          rotate_left
          · (go_simp; try with_reducible rfl)
          simp only [List.setIfInBounds_toArray, List.set_cons_zero, List.set_cons_succ]
          refine reg_take 18 72 #[true, true, true, true, true, true, true, true, true, true, true, true, true, true, true, true, true, true, true, false, false, false, false, false, false, false, false, false, false, false] (v := ?_) rfl rfl (by kernel_rfl) (by kernel_rfl) (by kernel_rfl) (fun _ _ _ h => h) (by kernel_rfl) hH (Or.inl ⟨by rfl, fun w' hS => ?_⟩) ?_
          rotate_left
          · (go_simp; try with_reducible rfl)
          simp only [List.setIfInBounds_toArray, List.set_cons_zero, List.set_cons_succ]
          refine reg_take 19 73 #[true, true, true, true, true, true, true, true, true, true, true, true, true, true, true, true, true, true, true, true, false, false, false, false, false, false, false, false, false, false] (v := ?_) rfl rfl (by kernel_rfl) (by kernel_rfl) (by kernel_rfl) (fun _ _ _ h => h) (by kernel_rfl) hH (Or.inl ⟨by rfl, fun w' hS => ?_⟩) ?_
          rotate_left
          · (go_simp; try with_reducible rfl)
          simp only [List.setIfInBounds_toArray, List.set_cons_zero, List.set_cons_succ]
          refine reg_take 20 74 #[true, true, true, true, true, true, true, true, true, true, true, true, true, true, true, true, true, true, true, true, true, false, false, false, false, false, false, false, false, false] (v := ?_) rfl rfl (by kernel_rfl) (by kernel_rfl) (by kernel_rfl) (fun _ _ _ h => h) (by kernel_rfl) hH (Or.inl ⟨by rfl, fun w' hS => ?_⟩) ?_
          rotate_left
          · (have hS0 := (((((HX6.out).trans (HX7.out)).trans (HX8.out)).trans (HX9.out)).trans (HX10.out)).trans hS; have hpc := pst_cells (HST.out.call hS0.below0); go_simp; try with_reducible rfl)
          simp only [List.setIfInBounds_toArray, List.set_cons_zero, List.set_cons_succ]
          refine reg_take 21 75 #[true, true, true, true, true, true, true, true, true, true, true, true, true, true, true, true, true, true, true, true, true, true, false, false, false, false, false, false, false, false] (v := ?_) rfl rfl (by kernel_rfl) (by kernel_rfl) (by kernel_rfl) (fun _ _ _ h => h) (by kernel_rfl) hH (Or.inl ⟨by rfl, fun w' hS => ?_⟩) ?_
          rotate_left
          · (have hS0 := (((((HX6.out).trans (HX7.out)).trans (HX8.out)).trans (HX9.out)).trans (HX10.out)).trans hS; have hcv := str_of ((HR.out.below (HST.out.call hS0.below0).bl (Nat.le_refl _)).more (HST.out.call hS0.below0).bl.size) HN.out c; go_simp; try with_reducible rfl)
          simp only [List.setIfInBounds_toArray, List.set_cons_zero, List.set_cons_succ]
          refine reg_take 22 76 #[true, true, true, true, true, true, true, true, true, true, true, true, true, true, true, true, true, true, true, true, true, true, true, false, false, false, false, false, false, false] (v := ?_) rfl rfl (by kernel_rfl) (by kernel_rfl) (by kernel_rfl) (fun _ _ _ h => h) (by kernel_rfl) hH (Or.inl ⟨by rfl, fun w' hS => ?_⟩) ?_
          rotate_left
          · (go_simp; try with_reducible rfl)
          simp only [List.setIfInBounds_toArray, List.set_cons_zero, List.set_cons_succ]
          refine reg_take 23 77 #[true, true, true, true, true, true, true, true, true, true, true, true, true, true, true, true, true, true, true, true, true, true, true, true, false, false, false, false, false, false] (v := ?_) rfl rfl (by kernel_rfl) (by kernel_rfl) (by kernel_rfl) (fun _ _ _ h => h) (by kernel_rfl) hH (Or.inl ⟨by rfl, fun w' hS => ?_⟩) ?_
          rotate_left
          · (have hS0 := (((((HX6.out).trans (HX7.out)).trans (HX8.out)).trans (HX9.out)).trans (HX10.out)).trans hS; have hpc := pst_cells (HST.out.call hS0.below0); go_simp; try with_reducible rfl)
          simp only [List.setIfInBounds_toArray, List.set_cons_zero, List.set_cons_succ]
          refine reg_take 24 78 #[true, true, true, true, true, true, true, true, true, true, true, true, true, true, true, true, true, true, true, true, true, true, true, true, true, false, false, false, false, false] (v := ?_) rfl rfl (by kernel_rfl) (by kernel_rfl) (by kernel_rfl) (fun _ _ _ h => h) (by kernel_rfl) hH (Or.inl ⟨by rfl, fun w' hS => ?_⟩) ?_
          rotate_left
          · (have hS0 := (((((HX6.out).trans (HX7.out)).trans (HX8.out)).trans (HX9.out)).trans (HX10.out)).trans hS; have hcv := str_of ((HS.out.below (HST.out.call hS0.below0).bl (Nat.le_refl _)).more (HST.out.call hS0.below0).bl.size) HM.out d; go_simp; try with_reducible rfl)
          simp only [List.setIfInBounds_toArray, List.set_cons_zero, List.set_cons_succ]
          refine reg_take 25 79 #[true, true, true, true, true, true, true, true, true, true, true, true, true, true, true, true, true, true, true, true, true, true, true, true, true, true, false, false, false, false] (v := ?_) rfl rfl (by kernel_rfl) (by kernel_rfl) (by kernel_rfl) (fun _ _ _ h => h) (by kernel_rfl) hH (Or.inl ⟨by rfl, fun w' hS => ?_⟩) ?_
          rotate_left
          · (go_simp; try with_reducible rfl)
          simp only [List.setIfInBounds_toArray, List.set_cons_zero, List.set_cons_succ]
          refine reg_take 26 80 #[true, true, true, true, true, true, true, true, true, true, true, true, true, true, true, true, true, true, true, true, true, true, true, true, true, true, true, false, false, false] (v := ?_) rfl rfl (by kernel_rfl) (by kernel_rfl) (by kernel_rfl) (fun _ _ _ h => h) (by kernel_rfl) hH (Or.inl ⟨by rfl, fun w' hS => ?_⟩) ?_
          rotate_left
          · (go_simp; try with_reducible rfl)
          simp only [List.setIfInBounds_toArray, List.set_cons_zero, List.set_cons_succ]
          refine reg_take 27 81 #[true, true, true, true, true, true, true, true, true, true, true, true, true, true, true, true, true, true, true, true, true, true, true, true, true, true, true, true, false, false] (v := ?_) rfl rfl (by kernel_rfl) (by kernel_rfl) (by kernel_rfl) (fun _ _ _ h => h) (by kernel_rfl) hH (Or.inl ⟨by rfl, fun w' hS => ?_⟩) ?_
          rotate_left
          · (go_simp; try with_reducible rfl)
          simp only [List.setIfInBounds_toArray, List.set_cons_zero, List.set_cons_succ]
          refine reg_take 28 82 #[true, true, true, true, true, true, true, true, true, true, true, true, true, true, true, true, true, true, true, true, true, true, true, true, true, true, true, true, true, false] (v := ?_) rfl rfl (by kernel_rfl) (by kernel_rfl) (by kernel_rfl) (fun _ _ _ h => h) (by kernel_rfl) hH (Or.inl ⟨by rfl, fun w' hS => ?_⟩) ?_
          rotate_left
          · (go_simp; try with_reducible rfl)
          simp only [List.setIfInBounds_toArray, List.set_cons_zero, List.set_cons_succ]
          refine reg_take 29 6 #[true, true, true, true, true, true, true, true, true, true, true, true, true, true, true, true, true, true, true, true, true, true, true, true, true, true, true, true, true, true] (v := ?_) rfl rfl (by kernel_rfl) (by kernel_rfl) (by kernel_rfl) (fun _ _ _ h => h) (by kernel_rfl) hH (Or.inl ⟨by rfl, fun w' hS => ?_⟩) ?_
          rotate_left
          · (go_simp; try with_reducible rfl)
          simp only [List.setIfInBounds_toArray, List.set_cons_zero, List.set_cons_succ]
          refine reg_done (by kernel_rfl) ?_
          all_goals go_wp2_with fail
          all_goals exact bodyPost_ret (results_tmp rfl _ _ _) rfl ⟨rfl, H10.out.bl⟩
        · have hbb : (bs == cs) = true := hsq.symm
          clear hsq
          refine reg_start (S := fun w' => Ext [] (wc) w') #[false, false, false, false, false, false, false, false, false, false, false, false, false, false, false, false, false, false, false, false, false, false, false, false, false, false, false, false, false, false] rfl rfl (by kernel_rfl) ((Ext.refl [] _).drew) ?_
          have hH : Ext [] (wc) (wc).drew := (Ext.refl [] _).drew
          refine reg_take 0 54 #[true, false, false, false, false, false, false, false, false, false, false, false, false, false, false, false, false, false, false, false, false, false, false, false, false, false, false, false, false, false] (v := ?_) rfl rfl (by kernel_rfl) (by kernel_rfl) (by kernel_rfl) (fun _ _ _ h => h) (by kernel_rfl) hH (Or.inl ⟨by rfl, fun w' hS => ?_⟩) ?_
          rotate_left
          · (have hS0 := hS; have hpc := pst_cells (HST.out.call hS0.below0); go_simp; try with_reducible rfl)
          simp only [List.setIfInBounds_toArray, List.set_cons_zero, List.set_cons_succ]
          refine reg_take 1 55 #[true, true, false, false, false, false, false, false, false, false, false, false, false, false, false, false, false, false, false, false, false, false, false, false, false, false, false, false, false, false] (v := ?_) rfl rfl (by kernel_rfl) (by kernel_rfl) (by kernel_rfl) (fun _ _ _ h => h) (by kernel_rfl) hH (Or.inl ⟨by rfl, fun w' hS => ?_⟩) ?_
          rotate_left
          · (have hS0 := hS; have hpc := pst_cells (HST.out.call hS0.below0); go_simp; try with_reducible rfl)
          simp only [List.setIfInBounds_toArray, List.set_cons_zero, List.set_cons_succ]
          refine reg_call 2 #[true, true, true, false, false, false, false, false, false, false, false, false, false, false, false, false, false, false, false, false, false, false, false, false, false, false, false, false, false, false] rfl (by kernel_rfl) (by rfl) (by kernel_rfl) (fun K hK => ?_)
          go_simp
          go_wp2_with (go_at_call 45; refine (psame_z x0 x1 x2 x3 x4 x5 x6 x7 x8 x0 x1 x2 x3 x4 x5 x6 x7 x8 A n c A3 n c3 bs bs _ true HTT.out ((HR.out.below HSTd.out.bl (Nat.le_refl _)).more HSTd.out.bl.size) HN.out HSTd.out.rq HN.out).mono ?_; rintro e w6 ⟨rfl, hb⟩; have H6 := Lib.hid (HSTd.out.call hb); have HX6 := Lib.hid (((Ext.refl [] wc).drew).trans (Ext.of_below hb [])); clear hb)
          refine hK.out (fun w' => Ext [] w6 w') (fun w' h => (HX6.out).trans h) _ _ (HX6.out) ?_
          clear hK K hH
          have hH := Ext.refl [] w6
          try simp only [Act.put, List.setIfInBounds_toArray, List.set_cons_zero, List.set_cons_succ]
          refine reg_take 3 57 #[true, true, true, true, false, false, false, false, false, false, false, false, false, false, false, false, false, false, false, false, false, false, false, false, false, false, false, false, false, false] (v := ?_) rfl rfl (by kernel_rfl) (by kernel_rfl) (by kernel_rfl) (fun _ _ _ h => h) (by kernel_rfl) hH (Or.inl ⟨by rfl, fun w' hS => ?_⟩) ?_
          rotate_left
          · (go_simp; try with_reducible rfl)
          simp only [List.setIfInBounds_toArray, List.set_cons_zero, List.set_cons_succ]
          refine reg_take 4 58 #[true, true, true, true, true, false, false, false, false, false, false, false, false, false, false, false, false, false, false, false, false, false, false, false, false, false, false, false, false, false] (v := ?_) rfl rfl (by kernel_rfl) (by kernel_rfl) (by kernel_rfl) (fun _ _ _ h => h) (by kernel_rfl) hH (Or.inl ⟨by rfl, fun w' hS => ?_⟩) ?_
          rotate_left
          · (have hS0 := (HX6.out).trans hS; have hpc := pst_cells (HST.out.call hS0.below0); go_simp; try with_reducible rfl)
          simp only [List.setIfInBounds_toArray, List.set_cons_zero, List.set_cons_succ]
          refine reg_take 5 59 #[true, true, true, true, true, true, false, false, false, false, false, false, false, false, false, false, false, false, false, false, false, false, false, false, false, false, false, false, false, false] (v := ?_) rfl rfl (by kernel_rfl) (by kernel_rfl) (by kernel_rfl) (fun _ _ _ h => h) (by kernel_rfl) hH (Or.inl ⟨by rfl, fun w' hS => ?_⟩) ?_
          rotate_left
          · (have hS0 := (HX6.out).trans hS; have hpc := pst_cells (HST.out.call hS0.below0); go_simp; try with_reducible rfl)
          simp only [List.setIfInBounds_toArray, List.set_cons_zero, List.set_cons_succ]
          refine reg_call 6 #[true, true, true, true, true, true, true, false, false, false, false, false, false, false, false, false, false, false, false, false, false, false, false, false, false, false, false, false, false, false] rfl (by kernel_rfl) (by rfl) (by kernel_rfl) (fun K hK => ?_)
          go_simp
          go_wp2_with (go_at_call 45; refine (psame_z x0 x1 x2 x3 x4 x5 x6 x7 x8 u0 u1 u2 u3 u4 u5 u6 u7 u8 A n c A4 n4 c4 bs bs4 _ false HFF.out ((HR.out.below H6.out.bl (Nat.le_refl _)).more H6.out.bl.size) HN.out H6.out.rr HN4.out).mono ?_; rintro e w7 ⟨rfl, hb⟩; have H7 := Lib.hid (H6.out.call hb); have HX7 := Lib.hid (Ext.of_below hb []); clear hb)
          refine hK.out (fun w' => Ext [] w7 w') (fun w' h => (HX7.out).trans h) _ _ (HX7.out) ?_
          clear hK K hH
          have hH := Ext.refl [] w7
          try simp only [Act.put, List.setIfInBounds_toArray, List.set_cons_zero, List.set_cons_succ]
          refine reg_take 7 61 #[true, true, true, true, true, true, true, true, false, false, false, false, false, false, false, false, false, false, false, false, false, false, false, false, false, false, false, false, false, false] (v := ?_) rfl rfl (by kernel_rfl) (by kernel_rfl) (by kernel_rfl) (fun _ _ _ h => h) (by kernel_rfl) hH (Or.inl ⟨by rfl, fun w' hS => ?_⟩) ?_
          rotate_left
          · (go_simp; try with_reducible rfl)
          simp only [List.setIfInBounds_toArray, List.set_cons_zero, List.set_cons_succ]
          refine reg_take 8 62 #[true, true, true, true, true, true, true, true, true, false, false, false, false, false, false, false, false, false, false, false, false, false, false, false, false, false, false, false, false, false] (v := ?_) rfl rfl (by kernel_rfl) (by kernel_rfl) (by kernel_rfl) (fun _ _ _ h => h) (by kernel_rfl) hH (Or.inl ⟨by rfl, fun w' hS => ?_⟩) ?_
          rotate_left
          · (go_simp; try with_reducible rfl)
          simp only [List.setIfInBounds_toArray, List.set_cons_zero, List.set_cons_succ]
          refine reg_take 9 63 #[true, true, true, true, true, true, true, true, true, true, false, false, false, false, false, false, false, false, false, false, false, false, false, false, false, false, false, false, false, false] (v := ?_) rfl rfl (by kernel_rfl) (by kernel_rfl) (by kernel_rfl) (fun _ _ _ h => h) (by kernel_rfl) hH (Or.inl ⟨by rfl, fun w' hS => ?_⟩) ?_
          rotate_left
          · (go_simp; try with_reducible rfl)
          simp only [List.setIfInBounds_toArray, List.set_cons_zero, List.set_cons_succ]
          refine reg_take 10 64 #[true, true, true, true, true, true, true, true, true, true, true, false, false, false, false, false, false, false, false, false, false, false, false, false, false, false, false, false, false, false] (v := ?_) rfl rfl (by kernel_rfl) (by kernel_rfl) (by kernel_rfl) (fun _ _ _ h => h) (by kernel_rfl) hH (Or.inl ⟨by rfl, fun w' hS => ?_⟩) ?_
          rotate_left
          · (have hS0 := ((HX6.out).trans (HX7.out)).trans hS; have hpc := pst_cells (HST.out.call hS0.below0); go_simp; try with_reducible rfl)
          simp only [List.setIfInBounds_toArray, List.set_cons_zero, List.set_cons_succ]
          refine reg_take 11 65 #[true, true, true, true, true, true, true, true, true, true, true, true, false, false, false, false, false, false, false, false, false, false, false, false, false, false, false, false, false, false] (v := ?_) rfl rfl (by kernel_rfl) (by kernel_rfl) (by kernel_rfl) (fun _ _ _ h => h) (by kernel_rfl) hH (Or.inl ⟨by rfl, fun w' hS => ?_⟩) ?_
          rotate_left
          · (have hS0 := ((HX6.out).trans (HX7.out)).trans hS; have hpc := pst_cells (HST.out.call hS0.below0); go_simp; try with_reducible rfl)
          simp only [List.setIfInBounds_toArray, List.set_cons_zero, List.set_cons_succ]
          refine reg_take 13 67 #[true, true, true, true, true, true, true, true, true, true, true, true, false, true, false, false, false, false, false, false, false, false, false, false, false, false, false, false, false, false] (v := ?_) rfl rfl (by kernel_rfl) (by kernel_rfl) (by kernel_rfl) (fun _ _ _ h => h) (by kernel_rfl) hH (Or.inl ⟨by rfl, fun w' hS => ?_⟩) ?_
          rotate_left
          · (have hS0 := ((HX6.out).trans (HX7.out)).trans hS; have hpc := pst_cells (HST.out.call hS0.below0); go_simp; try with_reducible rfl)
          simp only [List.setIfInBounds_toArray, List.set_cons_zero, List.set_cons_succ]
          refine reg_take 15 69 #[true, true, true, true, true, true, true, true, true, true, true, true, false, true, false, true, false, false, false, false, false, false, false, false, false, false, false, false, false, false] (v := ?_) rfl rfl (by kernel_rfl) (by kernel_rfl) (by kernel_rfl) (fun _ _ _ h => h) (by kernel_rfl) hH (Or.inl ⟨by rfl, fun w' hS => ?_⟩) ?_
          rotate_left
          · (have hS0 := ((HX6.out).trans (HX7.out)).trans hS; have hpc := pst_cells (HST.out.call hS0.below0); go_simp; try with_reducible rfl)
          simp only [List.setIfInBounds_toArray, List.set_cons_zero, List.set_cons_succ]
          refine reg_call 12 #[true, true, true, true, true, true, true, true, true, true, true, true, true, true, false, true, false, false, false, false, false, false, false, false, false, false, false, false, false, false] rfl (by kernel_rfl) (by rfl) (by kernel_rfl) (fun K hK => ?_)
          go_simp
          go_wp2_with (go_at_call 45; refine (psame_z x0 x1 x2 x3 x4 x5 x6 x7 x8 y0 y1 y2 y3 y4 y5 y6 y7 y8 A n c B m d bs cs _ _ HZ.out ((HR.out.below H7.out.bl (Nat.le_refl _)).more H7.out.bl.size) HN.out ((HS.out.below H7.out.bl (Nat.le_refl _)).more H7.out.bl.size) HM.out).mono ?_; rintro e w8 ⟨rfl, hb⟩; have H8 := Lib.hid (H7.out.call hb); have HX8 := Lib.hid (Ext.of_below hb []); clear hb)
          refine hK.out (fun w' => Ext [] w8 w') (fun w' h => (HX8.out).trans h) _ _ (HX8.out) ?_
          clear hK K hH
          have hH := Ext.refl [] w8
          try simp only [Act.put, List.setIfInBounds_toArray, List.set_cons_zero, List.set_cons_succ]
          refine reg_call 14 #[true, true, true, true, true, true, true, true, true, true, true, true, true, true, true, true, false, false, false, false, false, false, false, false, false, false, false, false, false, false] rfl (by kernel_rfl) (by rfl) (by kernel_rfl) (fun K hK => ?_)
          go_simp
          go_wp2_with (go_at_call 46; refine (nums_any x0 x1 x2 x3 x4 x5 x6 x7 x8 A n c _).mono ?_; rintro e w9 ⟨rfl, hb⟩; have H9 := Lib.hid (H8.out.call hb); have HX9 := Lib.hid (Ext.of_below hb []); clear hb)
          refine hK.out (fun w' => Ext [] w9 w') (fun w' h => (HX9.out).trans h) _ _ (HX9.out) ?_
          clear hK K hH
          have hH := Ext.refl [] w9
          try simp only [Act.put, List.setIfInBounds_toArray, List.set_cons_zero, List.set_cons_succ]
          refine reg_call 16 #[true, true, true, true, true, true, true, true, true, true, true, true, true, true, true, true, true, false, false, false, false, false, false, false, false, false, false, false, false, false] rfl (by kernel_rfl) (by rfl) (by kernel_rfl) (fun K hK => ?_)
          go_simp
          go_wp2_with (go_at_call 46; refine (nums_any y0 y1 y2 y3 y4 y5 y6 y7 y8 B m d _).mono ?_; rintro e w10 ⟨rfl, hb⟩; have H10 := Lib.hid (H9.out.call hb); have HX10 := Lib.hid (Ext.of_below hb []); clear hb)
          refine hK.out (fun w' => Ext [] w10 w') (fun w' h => (HX10.out).trans h) _ _ (HX10.out) ?_
          clear hK K hH
          have hH := Ext.refl [] w10
          try simp only [Act.put, List.setIfInBounds_toArray, List.set_cons_zero, List.set_cons_succ]
          refine reg_take 17 71 #[true, true, true, true, true, true, true, true, true, true, true, true, true, true, true, true, true, true, false, false, false, false, false, false, false, false, false, false, false, false] (v := ?_) rfl rfl (by kernel_rfl) (by kernel_rfl) (by kernel_rfl) (fun _ _ _ h => h) (by kernel_rfl) hH (Or.inl ⟨by rfl, fun w' hS => ?_⟩) ?_
          rotate_left
          · (go_simp; try with_reducible rfl)
          simp only [List.setIfInBounds_toArray, List.set_cons_zero, List.set_cons_succ]
          refine reg_take 18 72 #[true, true, true, true, true, true, true, true, true, true, true, true, true, true, true, true, true, true, true, false, false, false, false, false, false, false, false, false, false, false] (v := ?_) rfl rfl (by kernel_rfl) (by kernel_rfl) (by kernel_rfl) (fun _ _ _ h => h) (by kernel_rfl) hH (Or.inl ⟨by rfl, fun w' hS => ?_⟩) ?_
          rotate_left
          · (go_simp; try with_reducible rfl)
          simp only [List.setIfInBounds_toArray, List.set_cons_zero, List.set_cons_succ]
          refine reg_take 19 73 #[true, true, true, true, true, true, true, true, true, true, true, true, true, true, true, true, true, true, true, true, false, false, false, false, false, false, false, false, false, false] (v := ?_) rfl rfl (by kernel_rfl) (by kernel_rfl) (by kernel_rfl) (fun _ _ _ h => h) (by kernel_rfl) hH (Or.inl ⟨by rfl, fun w' hS => ?_⟩) ?_
          rotate_left
          · (go_simp; try with_reducible rfl)
          simp only [List.setIfInBounds_toArray, List.set_cons_zero, List.set_cons_succ]
          refine reg_take 20 74 #[true, true, true, true, true, true, true, true, true, true, true, true, true, true, true, true, true, true, true, true, true, false, false, false, false, false, false, false, false, false] (v := ?_) rfl rfl (by kernel_rfl) (by kernel_rfl) (by kernel_rfl) (fun _ _ _ h => h) (by kernel_rfl) hH (Or.inl ⟨by rfl, fun w' hS => ?_⟩) ?_
          rotate_left
          · (have hS0 := (((((HX6.out).trans (HX7.out)).trans (HX8.out)).trans (HX9.out)).trans (HX10.out)).trans hS; have hpc := pst_cells (HST.out.call hS0.below0); go_simp; try with_reducible rfl)
          simp only [List.setIfInBounds_toArray, List.set_cons_zero, List.set_cons_succ]
          refine reg_take 21 75 #[true, true, true, true, true, true, true, true, true, true, true, true, true, true, true, true, true, true, true, true, true, true, false, false, false, false, false, false, false, false] (v := ?_) rfl rfl (by kernel_rfl) (by kernel_rfl) (by kernel_rfl) (fun _ _ _ h => h) (by kernel_rfl) hH (Or.inl ⟨by rfl, fun w' hS => ?_⟩) ?_
          rotate_left
          · (have hS0 := (((((HX6.out).trans (HX7.out)).trans (HX8.out)).trans (HX9.out)).trans (HX10.out)).trans hS; have hcv := str_of ((HR.out.below (HST.out.call hS0.below0).bl (Nat.le_refl _)).more (HST.out.call hS0.below0).bl.size) HN.out c; go_simp; try with_reducible rfl)
          simp only [List.setIfInBounds_toArray, List.set_cons_zero, List.set_cons_succ]
          refine reg_take 22 76 #[true, true, true, true, true, true, true, true, true, true, true, true, true, true, true, true, true, true, true, true, true, true, true, false, false, false, false, false, false, false] (v := ?_) rfl rfl (by kernel_rfl) (by kernel_rfl) (by kernel_rfl) (fun _ _ _ h => h) (by kernel_rfl) hH (Or.inl ⟨by rfl, fun w' hS => ?_⟩) ?_
          rotate_left
          · (go_simp; try with_reducible rfl)
          simp only [List.setIfInBounds_toArray, List.set_cons_zero, List.set_cons_succ]
          refine reg_take 23 77 #[true, true, true, true, true, true, true, true, true, true, true, true, true, true, true, true, true, true, true, true, true, true, true, true, false, false, false, false, false, false] (v := ?_) rfl rfl (by kernel_rfl) (by kernel_rfl) (by kernel_rfl) (fun _ _ _ h => h) (by kernel_rfl) hH (Or.inl ⟨by rfl, fun w' hS => ?_⟩) ?_
          rotate_left
          · (have hS0 := (((((HX6.out).trans (HX7.out)).trans (HX8.out)).trans (HX9.out)).trans (HX10.out)).trans hS; have hpc := pst_cells (HST.out.call hS0.below0); go_simp; try with_reducible rfl)
          simp only [List.setIfInBounds_toArray, List.set_cons_zero, List.set_cons_succ]
          refine reg_take 24 78 #[true, true, true, true, true, true, true, true, true, true, true, true, true, true, true, true, true, true, true, true, true, true, true, true, true, false, false, false, false, false] (v := ?_) rfl rfl (by kernel_rfl) (by kernel_rfl) (by kernel_rfl) (fun _ _ _ h => h) (by kernel_rfl) hH (Or.inl ⟨by rfl, fun w' hS => ?_⟩) ?_
          rotate_left
          · (have hS0 := (((((HX6.out).trans (HX7.out)).trans (HX8.out)).trans (HX9.out)).trans (HX10.out)).trans hS; have hcv := str_of ((HS.out.below (HST.out.call hS0.below0).bl (Nat.le_refl _)).more (HST.out.call hS0.below0).bl.size) HM.out d; go_simp; try with_reducible rfl)
          simp only [List.setIfInBounds_toArray, List.set_cons_zero, List.set_cons_succ]
          refine reg_take 25 79 #[true, true, true, true, true, true, true, true, true, true, true, true, true, true, true, true, true, true, true, true, true, true, true, true, true, true, false, false, false, false] (v := ?_) rfl rfl (by kernel_rfl) (by kernel_rfl) (by kernel_rfl) (fun _ _ _ h => h) (by kernel_rfl) hH (Or.inl ⟨by rfl, fun w' hS => ?_⟩) ?_
          rotate_left
          · (go_simp; try with_reducible rfl)
          simp only [List.setIfInBounds_toArray, List.set_cons_zero, List.set_cons_succ]
          refine reg_take 26 80 #[true, true, true, true, true, true, true, true, true, true, true, true, true, true, true, true, true, true, true, true, true, true, true, true, true, true, true, false, false, false] (v := ?_) rfl rfl (by kernel_rfl) (by kernel_rfl) (by kernel_rfl) (fun _ _ _ h => h) (by kernel_rfl) hH (Or.inl ⟨by rfl, fun w' hS => ?_⟩) ?_
          rotate_left
          · (go_simp; try with_reducible rfl)
          simp only [List.setIfInBounds_toArray, List.set_cons_zero, List.set_cons_succ]
          refine reg_take 27 81 #[true, true, true, true, true, true, true, true, true, true, true, true, true, true, true, true, true, true, true, true, true, true, true, true, true, true, true, true, false, false] (v := ?_) rfl rfl (by kernel_rfl) (by kernel_rfl) (by kernel_rfl) (fun _ _ _ h => h) (by kernel_rfl) hH (Or.inl ⟨by rfl, fun w' hS => ?_⟩) ?_
          rotate_left
          · (go_simp; try with_reducible rfl)
          simp only [List.setIfInBounds_toArray, List.set_cons_zero, List.set_cons_succ]
          refine reg_take 28 82 #[true, true, true, true, true, true, true, true, true, true, true, true, true, true, true, true, true, true, true, true, true, true, true, true, true, true, true, true, true, false] (v := ?_) rfl rfl (by kernel_rfl) (by kernel_rfl) (by kernel_rfl) (fun _ _ _ h => h) (by kernel_rfl) hH (Or.inl ⟨by rfl, fun w' hS => ?_⟩) ?_
          rotate_left
          · (go_simp; try with_reducible rfl)
          simp only [List.setIfInBounds_toArray, List.set_cons_zero, List.set_cons_succ]
          refine reg_take 29 6 #[true, true, true, true, true, true, true, true, true, true, true, true, true, true, true, true, true, true, true, true, true, true, true, true, true, true, true, true, true, true] (v := ?_) rfl rfl (by kernel_rfl) (by kernel_rfl) (by kernel_rfl) (fun _ _ _ h => h) (by kernel_rfl) hH (Or.inl ⟨by rfl, fun w' hS => ?_⟩) ?_
          rotate_left
          · (go_simp; try with_reducible rfl)
          simp only [List.setIfInBounds_toArray, List.set_cons_zero, List.set_cons_succ]
          refine reg_done (by kernel_rfl) ?_
          all_goals go_wp2_with fail
          all_goals exact bodyPost_ret (results_tmp rfl _ _ _) rfl ⟨rfl, H10.out.bl⟩
end Go.Proofs.Ytmpnhiehkiiepaa
