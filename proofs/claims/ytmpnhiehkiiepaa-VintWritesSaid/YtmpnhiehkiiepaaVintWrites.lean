/-
  binnaclelaw01.VintWrites returns true. No condition.
-/
import Derived.Test.YtmpnhiehkiiepaaVintTakes
import Derived.Test.YtmpnhiehkiiepaaVwr
namespace Go.Proofs.Ytmpnhiehkiiepaa
open Go.RowKit

set_option maxRecDepth 100000 in
set_option maxHeartbeats 1000000 in
theorem writes_big (A1 A2 : Option Addr) (m1 c1 m2 c2 : Nat) (x : Int) (w : World) (hm1 : m1 ≤ 9223372036854775807) (hm2 : m2 ≤ 9223372036854775807) (hbig : 40 < m1 ∨ 300 < m2) :
    Calls Try.prog 10 #[.slice A1 m1 c1, .slice A2 m2 c2, .int .u8 x] w fun e w' => e = .returned (.bool true) ∧ Below w.heap.size w w' := by
  by_cases h1 : 40 < m1
  · clear hbig
    go_enter Try.func10, Try.ntmps10
    go_wp2_with (go_at_call 25; refine (awake01 _).mono ?_; rintro e w1 ⟨rfl, hb1⟩)
    go_ret
    exact ⟨rfl, by assumption⟩
  · have h2 : 300 < m2 := by omega
    clear hbig
    go_enter Try.func10, Try.ntmps10
    go_wp2_with (go_at_call 25; refine (awake01 _).mono ?_; rintro e w1 ⟨rfl, hb1⟩)
    go_ret
    exact ⟨rfl, by assumption⟩

/-- What stands between two parts. -/
def WSt (w wr : World) (b : Nat) (P : Array Value) (bd : Bool) (v8 : Value) (acc : List UInt8) (v : Value) (accw : List UInt8) (N : Nat) : Prop :=
  Wr wr b w.heap.size v accw (if bd then 2 else 0) ∧ Own u8v 5 wr w.heap.size v8 acc ∧ Apart v8 v ∧ Below w.heap.size w wr ∧ Blk wr (b + 1 + 1) 61 P ∧ (bd = false → acc = accw) ∧ acc.length ≤ N ∧ accw.length ≤ N
/-- What stands within a part, i of its numbers put. -/
def WIn (w wr : World) (b : Nat) (P : Array Value) (v8 : Value) (acc acc0 : List UInt8) (v : Value) (l2 : List UInt8) (err : Int) (pj : List Int) (i N : Nat) : Prop :=
  Wr wr b w.heap.size v l2 err ∧ Own u8v 5 wr w.heap.size v8 acc ∧ Apart v8 v ∧ Below w.heap.size w wr ∧ Blk wr (b + 1 + 1) 61 P ∧ wInts acc0 pj = wInts acc (pj.drop i) ∧ acc.length ≤ N + 8 * i ∧ l2.length ≤ N + 320

set_option maxRecDepth 100000 in
set_option maxHeartbeats 4000000 in
theorem writes_small (A1 A2 : Option Addr) (m1 c1 m2 c2 : Nat) (x : Int) (l1 : List Int) (l2 : List UInt8) (w : World) (hm1 : m1 ≤ 40) (hm2 : m2 ≤ 300) (hc1 : m1 ≤ c1) (_hc1m : c1 ≤ 9223372036854775807) (hx0 : 0 ≤ x) (hx1 : x < 256)
    (hr1 : Rd u64v w w.heap.size A1 l1) (hl1 : l1.length = m1) (hn1 : ∀ n ∈ l1, 0 ≤ n) (hr2 : Rd u8v w w.heap.size A2 l2) (hl2 : l2.length = m2) :
    Calls Try.prog 10 #[.slice A1 m1 c1, .slice A2 m2 c2, .int .u8 x] w fun e w' => e = .returned (.bool true) ∧ Below w.heap.size w w' := by
  have HR1 := Lib.hid hr1
  have HR2 := Lib.hid hr2
  have HL1 := Lib.hid hl1
  have HL2 := Lib.hid hl2
  have HN1 := Lib.hid hn1
  clear hr1 hr2 hl1 hl2 hn1
  obtain ⟨k, hk⟩ := Int.eq_ofNat_of_zero_le (show 0 ≤ x % ((m1 : Int) + 1) from Int.emod_nonneg _ (by omega))
  have hk1 : k ≤ m1 := by have := Int.emod_lt_of_pos x (show (0 : Int) < (m1 : Int) + 1 by omega); omega
  go_enter Try.func10, Try.ntmps10
  go_wp2_with (go_at_call 25; refine (awake01 _).mono ?_; rintro e w1 ⟨rfl, hb1⟩)
  simp only [hk]
  clear hk
  go_region
  generalize hA3 : (if c1 = k then A1 else Option.map (fun x => x.add k) A1) = A3
  have hrd3 : Rd u64v w w.heap.size A3 (l1.drop k) := by
    rw [← hA3]
    exact HR1.out.drop (by rw [HL1.out]; exact hk1) (by rw [HL1.out]; exact hc1)
  have hrd0 : Rd u64v w w.heap.size A1 (l1.take k) := HR1.out.take k
  clear hA3
  go_wp2
  have hz1 := hb1.size
  generalize hw3 : (((w1.alloc (Obj.cells #[Value.slice none 0 0, Value.int IntKind.i64 0] 71)).alloc (Obj.cells #[] 5)).alloc (Obj.cells #[Value.slice A1 k c1, Value.slice A3 (m1 - k) (c1 - k)] 61)).drew = w3
  have hbw3 : Below w.heap.size w w3 := by
    rw [← hw3]
    exact (((hb1.alloc hz1 _).alloc (by simp; omega) _).alloc (by simp; omega) _).drew
  have hwr3 : Wr w3 w1.heap.size w.heap.size (.slice none 0 0) [] 0 := by
    rw [← hw3]
    exact ⟨((Blk.new _ _ _).alloc _).alloc _, Own.none_ _ _ _ _⟩
  have hown3 : Own u8v 5 w3 w.heap.size (.slice (some ⟨w1.heap.size + 1, 0, none⟩) 0 0) [] := by
    rw [← hw3]
    exact (Own.empty u8v 5 _ _ _ (by simp) (by omega)).alloc _
  have hblk3 : Blk w3 (w1.heap.size + 1 + 1) 61 #[.slice A1 k c1, .slice A3 (m1 - k) (c1 - k)] := by
    rw [← hw3]
    have := Blk.new ((w1.alloc (Obj.cells #[Value.slice none 0 0, Value.int IntKind.i64 0] 71)).alloc (Obj.cells #[] 5)) 61 #[.slice A1 k c1, .slice A3 (m1 - k) (c1 - k)]
    simp at this
    exact this
  have hgp : w.heap.size ≤ w1.heap.size + 1 + 1 := by omega
  have HRD0 := Lib.hid hrd0
  have HRD3 := Lib.hid hrd3
  have HB3 := Lib.hid hbw3
  have HW3 := Lib.hid hwr3
  have HO3 := Lib.hid hown3
  have HK3 := Lib.hid hblk3
  clear hb1 hw3 hrd0 hrd3 hbw3 hwr3 hown3 hblk3
  generalize hbb : w1.heap.size = b at *
  clear hbb
  have hst0 : Hid (WSt w w3 b #[.slice A1 k c1, .slice A3 (m1 - k) (c1 - k)] false (.slice (some ⟨b + 1, 0, none⟩) 0 0) [] (.slice none 0 0) [] 0) :=
    ⟨HW3.out, HO3.out, (Apart.nil_ _ _ _).symm, HB3.out, HK3.out, fun _ => rfl, Nat.le_refl _, Nat.le_refl _⟩
  go_loopw [8, 9, 45] (fun v8 s9 i wr => ∃ j bd A8 n8 c8 acc v accw, j ≤ 2 ∧ i = .int .i64 (j : Nat) ∧ s9 = .bool bd ∧ v8 = .slice A8 n8 c8 ∧ Hid (WSt w wr b #[.slice A1 k c1, .slice A3 (m1 - k) (c1 - k)] bd (.slice A8 n8 c8) acc v accw (320 * j))) (fun _ _ i _ => 2 - (intOf i).toNat)
  case atStart => exact ⟨0, false, some ⟨b + 1, 0, none⟩, 0, 0, [], .slice none 0 0, [], by omega, rfl, rfl, rfl, hst0⟩
  case round =>
    obtain ⟨j, bd, A8, n8, c8, acc, v, accw, hj, rfl, rfl, rfl, HST⟩ := hrel
    obtain ⟨wo, rfl⟩ : ∃ wo : World, wo = wr := ⟨_, rfl⟩
    by_cases hlt : j < 2
    · have hpart : ∃ Aj nj cj pj, wo.cell? ⟨b + 1 + 1, j, none⟩ = some (.slice Aj nj cj) ∧ nj ≤ 40 ∧ Hid (Rd u64v wo w.heap.size Aj pj ∧ pj.length = nj ∧ ∀ n ∈ pj, 0 ≤ n) := by
        have hblk := HST.out.2.2.2.2.1
        have hbl := HST.out.2.2.2.1
        match j, hlt with
        | 0, _ => exact ⟨A1, k, c1, l1.take k, hblk.cell 0, by omega, HRD0.out.below hbl (Nat.le_refl _), by simp; have := HL1.out; omega, fun n hn => HN1.out n (List.mem_of_mem_take hn)⟩
        | 1, _ => exact ⟨A3, m1 - k, c1 - k, l1.drop k, hblk.cell 1, by omega, HRD3.out.below hbl (Nat.le_refl _), by simp; have := HL1.out; omega, fun n hn => HN1.out n (List.mem_of_mem_drop hn)⟩
      obtain ⟨Aj, nj, cj, pj, hcell, hnj, HP⟩ := hpart
      have hraj : Hid (RdA u64v wo Aj pj b v) := RdA.of_below HP.out.1 HST.out.2.2.2.1.size hz1 HST.out.1.2.lt
      have hsize : Hid (accw.length + 8 * nj ≤ 70368744177664) := by have := HST.out.2.2.2.2.2.2.2; unfold Hid; omega
      go_wp2_with (go_at_call 37; refine (wInt_any b w.heap.size Aj nj cj v accw pj (if bd then 2 else 0) _ HST.out.1 hraj.out HP.out.2.1 HP.out.2.2 hsize.out HST.out.2.2.2.1.size).mono ?_; rintro e w5 ⟨rfl, v5, l5, err5, hw5, hg5, hne5, heq5⟩)
      have hrdw5 : Rd u64v w5 w.heap.size Aj pj := HP.out.1.keep fun p hp => World.cell?_of_block (w := wo) (hg5.block p.block (by have := HST.out.2.2.2.1.size; omega) (by omega) (fun e => by have := HST.out.1.2.lt _ e.symm; omega))
      have hwr5 : Hid (WIn w w5 b #[.slice A1 k c1, .slice A3 (m1 - k) (c1 - k)] (.slice A8 n8 c8) acc acc v5 l5 err5 pj 0 (320 * j)) := by
        obtain ⟨q1, q2, q3, q4, q5, q6, q7, q8⟩ := HST.out
        have hb8 : (Value.slice A8 n8 c8).ownBlock ≠ some b := fun e => q2.blk_ne q1.1 (by decide) e.symm
        refine ⟨hw5, q2.growP hg5 q3 hb8, hg5.apart q2 q3, hg5.below q4 hz1 q1.2.lt q4.size, hg5.blk q5 (by omega) (q1.2.blk_ne q5 (by decide)), rfl, by omega, ?_⟩
        by_cases hbd : (if bd then (2 : Int) else 0) = 0
        · have := heq5 hbd
          have h2 := wInts_len pj accw
          rw [← this] at h2
          have := HP.out.2.1
          simp at h2; omega
        · have := hne5 hbd
          rw [this.1]; omega
      have hrel5 : Hid ((bd = true → err5 = 2) ∧ (bd = false → (l5, err5) = wInts acc pj)) := by
        refine ⟨fun h => ?_, fun h => ?_⟩
        · subst h; exact (hne5 (by simp)).2
        · subst h; rw [HST.out.2.2.2.2.2.1 rfl]; exact heq5 (by simp)
      clear hw5 hg5 hne5 heq5
      have hbo5 : Hid (Below w.heap.size w w5) := hwr5.out.2.2.2.1
      have HP5 := Lib.hid hrdw5
      clear hrdw5
      have hn8 : Hid (acc.length = n8) := HST.out.2.1.cap.1
      clear hraj hsize
      go_loopw [8, 9, 54] (fun v8 s9 i wr => ∃ i' A8' n8' c8' acc', i' ≤ nj ∧ i = .int .i64 (i' : Nat) ∧ s9 = .bool bd ∧ v8 = .slice A8' n8' c8' ∧ Hid (WIn w wr b #[.slice A1 k c1, .slice A3 (m1 - k) (c1 - k)] (.slice A8' n8' c8') acc' acc v5 l5 err5 pj i' (320 * j) ∧ Rd u64v wr w.heap.size Aj pj)) (fun _ _ i _ => nj - (intOf i).toNat)
      case atStart => exact ⟨0, A8, n8, c8, acc, by omega, rfl, rfl, rfl, hwr5.out, HP5.out⟩
      case round =>
        obtain ⟨i', A8', n8', c8', acc', hi, rfl, rfl, rfl, HIN⟩ := hrel
        by_cases hlt2 : i' < nj
        · have hil : i' < pj.length := by have := HP.out.2.1; omega
          obtain ⟨g, off, hA, -, hcell2⟩ := HIN.out.2.at_ hil
          subst hA
          obtain ⟨y, hy⟩ : ∃ y, y = pj[i'] := ⟨_, rfl⟩
          have hy0 : 0 ≤ y := by rw [hy]; exact HP.out.2.2 _ (List.getElem_mem hil)
          have hdr : Hid (pj.drop i' = y :: pj.drop (i' + 1)) := by unfold Hid; rw [hy]; exact List.drop_eq_getElem_cons hil
          rw [← hy] at hcell2
          clear hy
          unfold u64v at hcell2
          have hn1 := neq_nil
          have hn2 := eql_nil
          by_cases hz : lenF y = 0
          · have HZ := Lib.hid hz
            clear hz
            go_wp2_with (go_at_call 29; refine (refPut_not y _ hy0 HZ.out).mono ?_; rintro e w' ⟨rfl, rfl⟩)
            go_roundw
            case rel =>
              obtain ⟨⟨q1, q2, q3, q4, q5, q6, q7, q8⟩, q9⟩ := HIN.out
              have herr : err5 = 2 := by
                cases bd with
                | true => exact hrel5.out.1 rfl
                | false =>
                  have := hrel5.out.2 rfl
                  rw [q6, hdr.out, wInts_cons, if_pos HZ.out] at this
                  injection this
              refine ⟨j + 1, true, A8', n8', c8', acc', v5, l5, by omega, by go_num, rfl, rfl, ?_, q2, q3, q4, q5, (fun h => by cases h), by omega, by omega⟩
              rw [herr] at q1
              exact q1
            case measure => simp [intOf]; omega
          · have HZ := Lib.hid hz
            clear hz
            have hal : acc'.length ≤ 320 * j + 8 * i' := HIN.out.1.2.2.2.2.2.2.1
            have hacc : acc'.length = n8' := HIN.out.1.2.1.cap.1
            go_wp2_with (first | (go_at_call 29; refine (refPut_ok y _ hy0 HZ.out).mono ?_; rintro e w6 ⟨A6, N6, c6, rfl, hown6, hb6, hA6⟩; obtain ⟨a6, rfl⟩ := some_of hA6; have HO6 := Lib.hid hown6; have HB6 := Lib.hid hb6; have hN6 : N6 ≤ 8 := (by have := hown6.cap.1; have := putF_le y; omega); have hL6 : Hid ((putF y).length = N6) := hown6.cap.1; clear hA6 hown6 hb6) | (at_builtin; refine wpList_appL _ rfl (.tmp 62) (.tmp 63) _ rfl 5 (.int .u8 0) 1 rowB u8v u8v_one w.heap.size _ acc' rfl (HIN.out.1.2.1.below HB6.out (Nat.le_refl _)) _ _ N6 c6 (putF y) rfl HO6.out.rd hL6.out (acc' ++ putF y) (n8' + N6) rfl (by have := hL6.out; simp; omega) (by omega) (by omega) (Nat.le_trans HIN.out.1.2.2.2.1.size HB6.out.size) ?_; intro A7 c7 w7 hown7 hgr7 hc7 hA7))
            go_roundw
            case rel =>
              obtain ⟨⟨q1, q2, q3, q4, q5, q6, q7, q8⟩, q9⟩ := HIN.out
              have r2 := q2.below HB6.out (Nat.le_refl _)
              have r1 := q1.2.below HB6.out (Nat.le_refl _)
              have rb := q1.1.below HB6.out q1.1.lt
              have r5 := q5.below HB6.out q5.lt
              have r4 := q4.trans (HB6.out.mono q4.size)
              refine ⟨i' + 1, A7, n8' + N6, c7, acc' ++ putF y, by omega, by go_num, rfl, rfl, ⟨⟨rb.grown hgr7.by_ (r2.blk_ne rb (by decide)), r1.grow hgr7 q3.symm⟩, hown7, (hgr7.apart r1 q3.symm).symm, hgr7.below r4 r2.lt r4.size, r5.grown hgr7.by_ (r2.blk_ne r5 (by decide)), ?_, ?_, q8⟩, ?_⟩
              · rw [q6, hdr.out, wInts_cons, if_neg HZ.out]
              · have := putF_le y; simp; omega
              · exact (q9.below HB6.out q4.size).grow hgr7 r4.size r2.lt
            case measure => simp [intOf]; omega
        · obtain rfl : i' = nj := by omega
          go_wp2
          go_roundw
          case rel =>
            obtain ⟨⟨q1, q2, q3, q4, q5, q6, q7, q8⟩, q9⟩ := HIN.out
            have hq : bd = false → err5 = 0 ∧ acc' = l5 := fun h => by
              have := hrel5.out.2 h
              rw [q6, List.drop_of_length_le (by rw [HP.out.2.1]; exact Nat.le_refl _)] at this
              injection this with e1 e2
              exact ⟨e2, e1.symm⟩
            have herr : err5 = if bd then 2 else 0 := by
              cases bd with
              | true => exact hrel5.out.1 rfl
              | false => exact (hq rfl).1
            refine ⟨j + 1, bd, A8', n8', c8', acc', v5, l5, by omega, by go_num, rfl, rfl, ?_, q2, q3, q4, q5, fun h => (hq h).2, by omega, by omega⟩
            rw [← herr]
            exact q1
          case measure => simp [intOf]; omega
    · obtain rfl : j = 2 := by omega
      obtain ⟨q1, q2, q3, q4, q5, q6, q7, q8⟩ := HST.out
      have hlen := HL2.out
      have hz2 : lenF (m2 : Int) ≠ 0 := by have := lenF_spec (m2 : Int); omega
      have HZ2 := Lib.hid hz2
      have hp2 := putF_le (m2 : Int)
      have hn8 := q2.cap.1
      have HR2o : Hid (Rd u8v wo w.heap.size A2 l2) := HR2.out.below q4 (Nat.le_refl _)
      have hra2 : Hid (RdA u8v wo A2 l2 b v) := RdA.of_below HR2o.out q4.size hz1 q1.2.lt
      cases bd with
      | true =>
        have Q1 : Hid (Wr wo b w.heap.size v accw 2) := q1
        have Q2 := Lib.hid q2
        have Q4 := Lib.hid q4
        clear q1 q2 q3 q4 q5 q6 hlen hz2 HST HW3 HO3 HK3 hst0 HB3 HRD0 HRD3
        go_wp2_with (first | (go_at_call 38; refine (wLong_ended b A2 m2 c2 v 2 _ Q1.out.1 (by omega) (by omega)).mono ?_; rintro e wB ⟨rfl, hb5⟩; have HKB : Hid (Blk wB b 71 #[v, .int .i64 2]) := Q1.out.1.below hb5 Q1.out.1.lt; have HWB : Hid (Own u8v 5 wB w.heap.size (.slice A8 n8 c8) acc) := Q2.out.below hb5 (Nat.le_refl _); have HRB : Hid (Rd u8v wB w.heap.size A2 l2) := HR2o.out.below hb5 Q4.out.size; have HBB : Hid (Below w.heap.size w wB) := Q4.out.trans (hb5.mono Q4.out.size); clear hb5) | (go_at_call 39; refine (wBytes_ended b A2 m2 c2 v 2 _ HKB.out (by omega)).mono ?_; rintro e w' ⟨rfl, rfl⟩) | (go_at_call 29; refine (refPut_ok m2 _ (by omega) HZ2.out).mono ?_; rintro e w6 ⟨A6, N6, c6, rfl, hown6, hb6, hA6⟩; have HO6 := Lib.hid hown6; have hN6 : N6 ≤ 8 := (by have := hown6.cap.1; omega); have hL6 : Hid ((putF m2).length = N6) := hown6.cap.1; have HW6 : Hid (Own u8v 5 w6 w.heap.size (.slice A8 n8 c8) acc) := HWB.out.below hb6 (Nat.le_refl _); have HR6 : Hid (Rd u8v w6 w.heap.size A2 l2) := HRB.out.below hb6 HBB.out.size; have HB6 : Hid (Below w.heap.size w w6) := HBB.out.trans (hb6.mono HBB.out.size); have HK6 : Hid (Blk w6 b 71 #[v, .int .i64 2]) := HKB.out.below hb6 HKB.out.lt; clear hA6 hown6 hb6) | (at_builtin; refine wpList_appL _ rfl (.tmp 73) (.tmp 77) _ rfl 5 (.int .u8 0) 1 rowB u8v u8v_one w.heap.size _ acc rfl HW6.out _ _ N6 c6 (putF m2) rfl HO6.out.rd hL6.out (acc ++ putF m2) (n8 + N6) rfl (by have := hL6.out; simp; omega) (by omega) (by omega) HB6.out.size ?_; intro A7 c7 w7 hown7 hgr7 hc7 hA7; have HO7 := Lib.hid hown7; have HR7 : Hid (Rd u8v w7 w.heap.size A2 l2) := HR6.out.grow hgr7 HB6.out.size HW6.out.lt; have HB7 : Hid (Below w.heap.size w w7) := hgr7.below HB6.out HW6.out.lt HB6.out.size; have HK7 : Hid (Blk w7 b 71 #[v, .int .i64 2]) := HK6.out.grown hgr7.by_ (HW6.out.blk_ne HK6.out (by decide)); clear hown7 hgr7 hc7 hA7) | (at_builtin; refine wpList_appL _ rfl (.tmp 78) (.tmp 79) _ rfl 5 (.int .u8 0) 1 rowB u8v u8v_one w.heap.size _ (acc ++ putF m2) rfl HO7.out _ _ m2 c2 l2 rfl HR7.out HL2.out (acc ++ putF m2 ++ l2) (n8 + N6 + m2) rfl (by have := hL6.out; have := HL2.out; simp; omega) (by omega) (by omega) HB7.out.size ?_; intro A8 c8 w8 hown8 hgr8 hc8 hA8; have HO8 := Lib.hid hown8; have HR8 : Hid (Rd u8v w8 w.heap.size A2 l2) := HR7.out.grow hgr8 HB7.out.size HO7.out.lt; have HB8 : Hid (Below w.heap.size w w8) := hgr8.below HB7.out HO7.out.lt HB7.out.size; have HK8 : Hid (Blk w8 b 71 #[v, .int .i64 2]) := HK7.out.grown hgr8.by_ (HO7.out.blk_ne HK7.out (by decide)); clear hown8 hgr8 hc8 hA8) | (at_builtin; refine wpList_appL _ rfl (.tmp 80) (.tmp 81) _ rfl 5 (.int .u8 0) 1 rowB u8v u8v_one w.heap.size _ (acc ++ putF m2 ++ l2) rfl HO8.out _ _ m2 c2 l2 rfl HR8.out HL2.out (acc ++ putF m2 ++ l2 ++ l2) (n8 + N6 + m2 + m2) rfl (by have := hL6.out; have := HL2.out; simp; omega) (by omega) (by omega) HB8.out.size ?_; intro A9 c9 w9 hown9 hgr9 hc9 hA9; have HO9 := Lib.hid hown9; have HR9 : Hid (Rd u8v w9 w.heap.size A2 l2) := HR8.out.grow hgr9 HB8.out.size HO8.out.lt; have HB9 : Hid (Below w.heap.size w w9) := hgr9.below HB8.out HO8.out.lt HB8.out.size; have HK9 : Hid (Blk w9 b 71 #[v, .int .i64 2]) := HK8.out.grown hgr9.by_ (HO8.out.blk_ne HK8.out (by decide)); clear hown9 hgr9 hc9 hA9) | (go_at_call 40; refine (wDone_ended b v 2 _ HK9.out (by omega)).mono ?_; rintro e w10 ⟨rfl, nd, rfl⟩))
        go_ret
        exact ⟨rfl, below_drewN HB9.out nd⟩
      | false =>
        have Q1 : Hid (Wr wo b w.heap.size v accw 0) := q1
        have Q2 := Lib.hid q2
        have Q3 := Lib.hid q3
        have Q4 := Lib.hid q4
        have Q6 : Hid (acc = accw) := q6 rfl
        clear q1 q2 q3 q4 q5 q6 hlen hz2 HST HW3 HO3 HK3 hst0 HB3 HRD0 HRD3
        go_wp2_with (first | (go_at_call 38; refine (wLong_ok b w.heap.size A2 m2 c2 v accw l2 _ Q1.out hra2.out HL2.out (by omega) Q4.out.size).mono ?_; rintro e wL ⟨rfl, vL, hwL, hgL⟩; have HWL := Lib.hid hwL; have HGL := Lib.hid hgL; have HRL := Lib.hid (hra2.out.growP hgL); clear hwL hgL) | (go_at_call 39; refine (wBytes_ok b w.heap.size A2 m2 c2 vL (accw ++ putF m2 ++ l2) l2 _ HWL.out HRL.out.1 HL2.out (by have := HL2.out; simp; omega) (Nat.le_trans Q4.out.size HGL.out.size)).mono ?_; rintro e wB ⟨rfl, vB, hwB, hgB⟩; have hg2 := HGL.out.trans hgB; have hne8 : (Value.slice A8 n8 c8).ownBlock ≠ some b := (fun e => Q2.out.blk_ne Q1.out.1 (by decide) e.symm); have HWB : Hid (Own u8v 5 wB w.heap.size (.slice A8 n8 c8) acc) := Q2.out.growP hg2 Q3.out hne8; have HXB : Hid (Wr wB b w.heap.size vB (accw ++ putF m2 ++ l2 ++ l2) 0 ∧ Apart vB (.slice A8 n8 c8)) := ⟨hwB, (hg2.apart Q2.out Q3.out).symm⟩; have HBB : Hid (Below w.heap.size w wB) := hg2.below Q4.out hz1 Q1.out.2.lt Q4.out.size; have HRB : Hid (Rd u8v wB w.heap.size A2 l2) := HR2.out.below HBB.out (Nat.le_refl _); clear hwB hgB hg2 hne8) | (go_at_call 29; refine (refPut_ok m2 _ (by omega) HZ2.out).mono ?_; rintro e w6 ⟨A6, N6, c6, rfl, hown6, hb6, hA6⟩; have HO6 := Lib.hid hown6; have hN6 : N6 ≤ 8 := (by have := hown6.cap.1; omega); have hL6 : Hid ((putF m2).length = N6) := hown6.cap.1; have HW6 : Hid (Own u8v 5 w6 w.heap.size (.slice A8 n8 c8) acc) := HWB.out.below hb6 (Nat.le_refl _); have HR6 : Hid (Rd u8v w6 w.heap.size A2 l2) := HRB.out.below hb6 HBB.out.size; have HB6 : Hid (Below w.heap.size w w6) := HBB.out.trans (hb6.mono HBB.out.size); have HX6 : Hid (Own u8v 5 w6 w.heap.size vB (accw ++ putF m2 ++ l2 ++ l2) ∧ Apart vB (.slice A8 n8 c8)) := ⟨HXB.out.1.2.below hb6 (Nat.le_refl _), HXB.out.2⟩; have HK6 : Hid (Blk w6 b 71 #[vB, .int .i64 0]) := HXB.out.1.1.below hb6 HXB.out.1.1.lt; clear hA6 hown6 hb6) | (at_builtin; refine wpList_appL _ rfl (.tmp 73) (.tmp 77) _ rfl 5 (.int .u8 0) 1 rowB u8v u8v_one w.heap.size _ acc rfl HW6.out _ _ N6 c6 (putF m2) rfl HO6.out.rd hL6.out (acc ++ putF m2) (n8 + N6) rfl (by have := hL6.out; simp; omega) (by omega) (by omega) HB6.out.size ?_; intro A7 c7 w7 hown7 hgr7 hc7 hA7; have HO7 := Lib.hid hown7; have HR7 : Hid (Rd u8v w7 w.heap.size A2 l2) := HR6.out.grow hgr7 HB6.out.size HW6.out.lt; have HB7 : Hid (Below w.heap.size w w7) := hgr7.below HB6.out HW6.out.lt HB6.out.size; have HX7 : Hid (Own u8v 5 w7 w.heap.size vB (accw ++ putF m2 ++ l2 ++ l2) ∧ Apart vB (.slice A7 (n8 + N6) c7)) := ⟨HX6.out.1.grow hgr7 HX6.out.2, hgr7.apart HX6.out.1 HX6.out.2⟩; have HK7 : Hid (Blk w7 b 71 #[vB, .int .i64 0]) := HK6.out.grown hgr7.by_ (HW6.out.blk_ne HK6.out (by decide)); clear hown7 hgr7 hc7 hA7) | (at_builtin; refine wpList_appL _ rfl (.tmp 78) (.tmp 79) _ rfl 5 (.int .u8 0) 1 rowB u8v u8v_one w.heap.size _ (acc ++ putF m2) rfl HO7.out _ _ m2 c2 l2 rfl HR7.out HL2.out (acc ++ putF m2 ++ l2) (n8 + N6 + m2) rfl (by have := hL6.out; have := HL2.out; simp; omega) (by omega) (by omega) HB7.out.size ?_; intro A8 c8 w8 hown8 hgr8 hc8 hA8; have HO8 := Lib.hid hown8; have HR8 : Hid (Rd u8v w8 w.heap.size A2 l2) := HR7.out.grow hgr8 HB7.out.size HO7.out.lt; have HB8 : Hid (Below w.heap.size w w8) := hgr8.below HB7.out HO7.out.lt HB7.out.size; have HX8 : Hid (Own u8v 5 w8 w.heap.size vB (accw ++ putF m2 ++ l2 ++ l2) ∧ Apart vB (.slice A8 (n8 + N6 + m2) c8)) := ⟨HX7.out.1.grow hgr8 HX7.out.2, hgr8.apart HX7.out.1 HX7.out.2⟩; have HK8 : Hid (Blk w8 b 71 #[vB, .int .i64 0]) := HK7.out.grown hgr8.by_ (HO7.out.blk_ne HK7.out (by decide)); clear hown8 hgr8 hc8 hA8) | (at_builtin; refine wpList_appL _ rfl (.tmp 80) (.tmp 81) _ rfl 5 (.int .u8 0) 1 rowB u8v u8v_one w.heap.size _ (acc ++ putF m2 ++ l2) rfl HO8.out _ _ m2 c2 l2 rfl HR8.out HL2.out (acc ++ putF m2 ++ l2 ++ l2) (n8 + N6 + m2 + m2) rfl (by have := hL6.out; have := HL2.out; simp; omega) (by omega) (by omega) HB8.out.size ?_; intro A9 c9 w9 hown9 hgr9 hc9 hA9; have HO9 := Lib.hid hown9; have HR9 : Hid (Rd u8v w9 w.heap.size A2 l2) := HR8.out.grow hgr9 HB8.out.size HO8.out.lt; have HB9 : Hid (Below w.heap.size w w9) := hgr9.below HB8.out HO8.out.lt HB8.out.size; have HX9 : Hid (Own u8v 5 w9 w.heap.size vB (accw ++ putF m2 ++ l2 ++ l2) ∧ Apart vB (.slice A9 (n8 + N6 + m2 + m2) c9)) := ⟨HX8.out.1.grow hgr9 HX8.out.2, hgr9.apart HX8.out.1 HX8.out.2⟩; have HK9 : Hid (Blk w9 b 71 #[vB, .int .i64 0]) := HK8.out.grown hgr9.by_ (HO8.out.blk_ne HK8.out (by decide)); clear hown9 hgr9 hc9 hA9) | (go_at_call 40; refine (wDone_ok b w.heap.size vB (accw ++ putF m2 ++ l2 ++ l2) _ ⟨HK9.out, HX9.out.1⟩ (by have := HL2.out; simp; omega)).mono ?_; rintro e w10 ⟨A10, N10, c10, rfl, hown10, hb10⟩; have hstr1 := str_of hown10.rd hown10.cap.1 c10; have hstr2 := str_of (HO9.out.below hb10 (Nat.le_refl _)).rd HO9.out.cap.1 c9; have HB10 := Lib.hid hb10; clear hown10 hb10; rw [Q6.out] at hstr2))
        go_ret
        exact ⟨rfl, HB9.out.trans (HB10.out.mono HB9.out.size)⟩

theorem walk_writes (A1 A2 : Option Addr) (m1 c1 m2 c2 : Nat) (x : Int) (l1 : List Int) (l2 : List UInt8) (w : World) (hm1 : m1 ≤ 9223372036854775807) (hm2 : m2 ≤ 9223372036854775807) (hc1 : m1 ≤ c1) (hc1m : c1 ≤ 9223372036854775807) (hx0 : 0 ≤ x) (hx1 : x < 256)
    (hr1 : Rd u64v w w.heap.size A1 l1) (hl1 : l1.length = m1) (hn1 : ∀ n ∈ l1, 0 ≤ n) (hr2 : Rd u8v w w.heap.size A2 l2) (hl2 : l2.length = m2) :
    Calls Try.prog 10 #[.slice A1 m1 c1, .slice A2 m2 c2, .int .u8 x] w fun e w' => e = .returned (.bool true) ∧ Below w.heap.size w w' := by
  by_cases hbig : 40 < m1 ∨ 300 < m2
  · exact writes_big A1 A2 m1 c1 m2 c2 x w hm1 hm2 hbig
  · exact writes_small A1 A2 m1 c1 m2 c2 x l1 l2 w (by omega) (by omega) hc1 hc1m hx0 hx1 hr1 hl1 hn1 hr2 hl2
end Go.Proofs.Ytmpnhiehkiiepaa
