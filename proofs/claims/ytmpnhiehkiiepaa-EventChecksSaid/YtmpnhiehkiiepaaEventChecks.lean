/-
  binnaclelaw24.EventChecks returns true. No condition.
-/
import Derived.Test.YtmpnhiehkiiepaaEvF
namespace Go.Proofs.Ytmpnhiehkiiepaa
open Go.RowKit

theorem ev_len8 : ∀ i, i < 20 → (evNames i).length ≤ 8 := by decide +kernel
theorem fit_event (k : Nat) (t : Int) (A : Option Addr) (n c : Nat) (B : Option Addr) (m d : Nat) (ns : List Int) (bs : List UInt8) (j : Nat) (w : World) (hr : Rd u64v w w.heap.size A ns) (hn : ns.length = n) (hs : Rd u8v w w.heap.size B bs) (hm : bs.length = m) (hn9 : n ≤ 1000) (hm9 : m ≤ 1000) (hj : j < 256)
    (ht0 : 0 ≤ t) (ht1 : t ≤ 18446744073709551615) (hns : ∀ x ∈ ns, 0 ≤ x ∧ x ≤ 18446744073709551615) :
    Calls Try.prog 36 #[.agg #[.int .u8 k, .int .u64 t, .slice A n c, .slice B m d], .int .u8 j] w fun e w' => ∃ A' q c' l B' m' d', e = .returned (.agg #[.int .u8 (1 + (j : Int) % 19), .int .u64 (t % 1125899906842625), .slice A' q c', .slice B' m' d']) ∧
      q = (evNames (1 + j % 19)).length ∧ Own u64v 25 w' w.heap.size (.slice A' q c') l ∧ Own u8v 5 w' w.heap.size (.slice B' m' d') (if evData (1 + j % 19) = true then bs.take 20 else []) ∧ Apart (.slice A' q c') (.slice B' m' d') ∧ (∀ x ∈ l, 0 ≤ x ∧ x ≤ 4611686018427387903) ∧ Below w.heap.size w w' := by
  have hmany : ∀ w1 : World, Calls Try.prog 24 #[.int .u8 (1 + (j : Int) % 19)] w1 fun e w' => e = .returned (.tuple #[.int .i64 ((evNames (1 + j % 19)).length : Nat), .bool (evData (1 + j % 19))]) ∧ Below w1.heap.size w1 w' := by
    intro w1
    have key := many_any (1 + j % 19) w1 (by omega)
    rwa [show ((1 + j % 19 : Nat) : Int) = 1 + (j : Int) % 19 from by omega, show manyF (1 + j % 19) = ((evNames (1 + j % 19)).length : Int) from by unfold manyF; rw [if_pos (by omega)]] at key
  refine (fit_any k t A n c B m d ns bs _ j _ w hr hn hs hm hn9 hm9 (ev_len8 _ (by omega)) hj ht0 ht1 hns hmany).mono ?_
  rintro e w' ⟨A', c', l, B', m', d', rfl, h1, h2, h3, h4, h5⟩
  exact ⟨A', _, c', l, B', m', d', rfl, rfl, h1, h2, h3, h4, h5⟩
theorem check_fit (j : Nat) (t : Int) (A : Option Addr) (q c : Nat) (B : Option Addr) (m d : Nat) (l : List Int) (bs : List UInt8) (base : Nat) (w : World) (hj : j < 256) (ht0 : 0 ≤ t) (hq : q = (evNames (1 + j % 19)).length)
    (hl : Own u64v 25 w base (.slice A q c) l) (hb : Own u8v 5 w base (.slice B m d) (if evData (1 + j % 19) = true then bs.take 20 else [])) (hmax : ∀ x ∈ l, 0 ≤ x ∧ x ≤ 4611686018427387903) :
    Calls Try.prog 35 #[.agg #[.int .u8 (1 + (j : Int) % 19), .int .u64 (t % 1125899906842625), .slice A q c, .slice B m d]] w fun e w' => e = .returned (.int .i64 0) ∧ Below w.heap.size w w' := by
  have h8 := ev_len8 (1 + j % 19) (by omega)
  have key := check_any (1 + j % 19) (t % 1125899906842625) A q c B m d l w hl.rd hl.cap.1 (by omega)
  have hz : checkF (1 + j % 19) (t % 1125899906842625) l m = 0 := by
    have hm := hb.cap.1
    unfold checkF
    rw [if_neg (by omega), if_neg (by omega), if_neg (by rw [hl.cap.1, hq]; simp), if_neg, if_neg]
    · rintro ⟨x, hx, h⟩
      have := hmax x hx
      omega
    · rintro (h | ⟨h, he⟩)
      · split at hm
        · simp at hm; omega
        · simp at hm; omega
      · rw [he] at hm
        simp at hm
        omega
  rwa [hz, show ((1 + j % 19 : Nat) : Int) = 1 + (j : Int) % 19 from by omega] at key

def bigF (ns : List Int) (p : Nat) : Bool := (ns.take p).any (fun x => decide (4611686018427387903 < x))
theorem big_succ {ns : List Int} {p : Nat} {x : Int} (h : p < ns.length) (hx : ns[p] = x) : bigF ns (p + 1) = (bigF ns p || decide (4611686018427387903 < x)) := by
  unfold bigF
  rw [List.take_succ_eq_append_getElem h, hx]
  simp
theorem big_all (ns : List Int) : bigF ns ns.length = decide (∃ x ∈ ns, 4611686018427387903 < x) := by
  unfold bigF
  rw [List.take_length]
  cases h : ns.any (fun x => decide (4611686018427387903 < x))
  · symm
    rw [decide_eq_false_iff_not]
    rintro ⟨x, hx, h2⟩
    rw [List.any_eq_false] at h
    exact h x hx (by simpa using h2)
  · symm
    rw [decide_eq_true_iff]
    obtain ⟨x, hx, h2⟩ := List.any_eq_true.1 h
    exact ⟨x, hx, by simpa using h2⟩
/-- The ways that an event may be. -/
theorem check_ways (k : Nat) (t : Int) (ns : List Int) (m : Nat) :
    (manyF k = -1 ∧ checkF k t ns m = 5) ∨ (∃ q : Nat, manyF k = q ∧ (1125899906842624 < t ∧ checkF k t ns m = 21 ∨ ¬ 1125899906842624 < t ∧ (ns.length ≠ q ∧ checkF k t ns m = 6 ∨ ns.length = q ∧ (20 < m ∧ checkF k t ns m = 4 ∨ m ≤ 20 ∧ (
      (0 < m ∧ evData k = false ∧ checkF k t ns m = 4) ∨ ((m = 0 ∨ evData k = true) ∧ (bigF ns ns.length = true ∧ checkF k t ns m = 2 ∨ bigF ns ns.length = false ∧ checkF k t ns m = 0))))))) := by
  unfold checkF manyF
  by_cases hk : 1 ≤ k ∧ k ≤ 19
  · right
    refine ⟨(evNames k).length, by rw [if_pos hk], ?_⟩
    rw [if_neg (by simpa using hk)]
    by_cases ht : 1125899906842624 < t
    · left; exact ⟨ht, by rw [if_pos ht]⟩
    · right
      refine ⟨ht, ?_⟩
      rw [if_neg ht]
      by_cases hn : ns.length ≠ (evNames k).length
      · left; exact ⟨hn, by rw [if_pos hn]⟩
      · right
        refine ⟨by simpa using hn, ?_⟩
        rw [if_neg hn]
        by_cases hm : 20 < m
        · left; exact ⟨hm, by rw [if_pos (.inl hm)]⟩
        · right
          refine ⟨by omega, ?_⟩
          by_cases hd : 0 < m ∧ evData k = false
          · left; exact ⟨hd.1, hd.2, by rw [if_pos (.inr hd)]⟩
          · right
            rw [if_neg (by rintro (h | h); exact hm h; exact hd h)]
            refine ⟨?_, ?_⟩
            · cases he : evData k
              · left; rw [he] at hd; simp at hd; exact hd
              · right; rfl
            · rw [big_all]
              by_cases hb : ∃ x ∈ ns, 4611686018427387903 < x
              · left; exact ⟨decide_eq_true hb, by rw [if_pos hb]⟩
              · right; exact ⟨decide_eq_false hb, by rw [if_neg hb]⟩
  · left
    exact ⟨by rw [if_neg hk], by rw [if_pos hk]⟩
theorem light_one (k : Nat) (t : Int) (A : Option Addr) (n c : Nat) (B : Option Addr) (m d : Nat) (w : World) {b : Bool} (hb : lightF [⟨k, t, A, n, c, B, m, d⟩] = b) :
    Calls Try.prog 34 #[.slice (some ⟨w.heap.size, 0, none⟩) 1 1] (w.alloc (.cells #[.int .u8 k, .int .u64 t, .slice A n c, .slice B m d] 63)) fun e w' => e = .returned (.bool b) ∧
      Below (w.alloc (.cells #[.int .u8 k, .int .u64 t, .slice A n c, .slice B m d] 63)).heap.size (w.alloc (.cells #[.int .u8 k, .int .u64 t, .slice A n c, .slice B m d] 63)) w' := by
  subst hb
  refine light_any _ 1 1 [⟨k, t, A, n, c, B, m, d⟩] _ ?_ rfl (by omega)
  intro _
  refine ⟨_, _, rfl, by simp, fun j x hj i v hv => ?_⟩
  match j, hj with
  | 0, hj =>
    injection hj with hj
    subst hj
    refine new_slot _ _ _ _ ?_
    simpa [EvV.cells] using hv

set_option maxRecDepth 100000 in
set_option maxHeartbeats 1500000 in
theorem walk_checks (k : Nat) (t : Int) (A : Option Addr) (n c : Nat) (B : Option Addr) (m d : Nat) (ns : List Int) (bs : List UInt8) (j : Nat) (w : World) (hr : Rd u64v w w.heap.size A ns) (hn : ns.length = n) (hs : Rd u8v w w.heap.size B bs) (hm : bs.length = m) (hk : k < 256) (hj : j < 256)
    (hn9 : n ≤ 9223372036854775807) (hm9 : m ≤ 9223372036854775807) (ht0 : 0 ≤ t) (ht1 : t ≤ 18446744073709551615) (hns : ∀ x ∈ ns, 0 ≤ x ∧ x ≤ 18446744073709551615) :
    Calls Try.prog 9 #[.agg #[.int .u8 k, .int .u64 t, .slice A n c, .slice B m d], .int .u8 j] w fun e w' => e = .returned (.bool true) ∧ Below w.heap.size w w' := by
  have HR := Lib.hid hr
  have HN := Lib.hid hn
  have HS := Lib.hid hs
  have HM := Lib.hid hm
  have HNS := Lib.hid hns
  clear hr hn hs hm hns
  obtain ⟨lt, hlt⟩ : ∃ lt, lt = lightF [⟨k, t, A, n, c, B, m, d⟩] := ⟨_, rfl⟩
  have HLT := Lib.hid hlt
  clear hlt
  cases lt
  · go_enter Try.func9, Try.ntmps9
    go_wp2_with (first
      | (go_at_call 20; refine (awake24 _).mono ?_; rintro e w1 ⟨rfl, hb1⟩; have hE1 := (Blk.new w 63 #[.int .u8 k, .int .u64 t, .slice A n c, .slice B m d]).call hb1; have a0 := hE1.cell 0; have a1 := hE1.cell 1; have a2 := hE1.cell 2; have a3 := hE1.cell 3; have HB1 : Hid (Below w.heap.size w w1) := below_then ((Below.refl w.heap.size w).alloc (Nat.le_refl _) _) hb1; have HE1 := Lib.hid hE1; clear hb1 hE1)
      | (go_at_call 34; refine (light_one k t A n c B m d _ HLT.out.symm).mono ?_; rintro e w2 ⟨rfl, hb2⟩; have HB2 : Hid (Below w.heap.size w w2) := below_then (below_alloc HB1.out (Nat.le_refl _) _) hb2; clear hb2))
    exact bodyPost_ret (results_tmp rfl _ _ _) rfl ⟨rfl, HB2.out⟩
  · have hlim : n ≤ 30 ∧ m ≤ 100 := by
      have := HLT.out
      simp [lightF] at this
      exact this
    go_enter Try.func9, Try.ntmps9
    go_wp2_with (first
      | (go_at_call 20; refine (awake24 _).mono ?_; rintro e w1 ⟨rfl, hb1⟩; have hE1 := (Blk.new w 63 #[.int .u8 k, .int .u64 t, .slice A n c, .slice B m d]).call hb1; have a0 := hE1.cell 0; have a1 := hE1.cell 1; have a2 := hE1.cell 2; have a3 := hE1.cell 3; have HB1 : Hid (Below w.heap.size w w1) := below_then ((Below.refl w.heap.size w).alloc (Nat.le_refl _) _) hb1; have HE1 := Lib.hid hE1; clear hb1 hE1)
      | (go_at_call 34; refine (light_one k t A n c B m d _ HLT.out.symm).mono ?_; rintro e w2 ⟨rfl, hb2⟩; have hE2 := HE1.out.over hb2; clear a0 a1 a2 a3; have a0 := hE2.cell 0; have a1 := hE2.cell 1; have a2 := hE2.cell 2; have a3 := hE2.cell 3; have HB2 : Hid (Below w.heap.size w w2) := below_then (below_alloc HB1.out (Nat.le_refl _) _) hb2; have HE2 := Lib.hid hE2; clear hb2 hE2)
      | (go_at_call 24; refine (many_any k _ hk).mono ?_; rintro e w3 ⟨rfl, hb3⟩; have hE3 := HE2.out.call hb3; clear a0 a1 a2 a3; have a0 := hE3.cell 0; have a1 := hE3.cell 1; have a2 := hE3.cell 2; have a3 := hE3.cell 3; have HB3 : Hid (Below w.heap.size w w3) := below_then HB2.out hb3; have HE3 := Lib.hid hE3; clear hb3 hE3))
    go_loopw [8, 26] (fun gv iv wr => ∃ p : Nat, p ≤ n ∧ gv = .bool (bigF ns p) ∧ iv = .int .i64 p ∧ wr = w3) (fun _ iv _ => n - (intOf iv).toNat)
    case atStart => exact ⟨0, by omega, rfl, rfl, rfl⟩
    case round =>
      obtain ⟨p, hp, rfl, rfl, hw⟩ := hrel
      subst hw
      by_cases hpn : p < n
      · have hpl : p < ns.length := by have := HN.out; omega
        have hpi : (p : Int) < (n : Int) := by omega
        obtain ⟨g, off, hA, -, hcell⟩ := (HR.out.below HB3.out (Nat.le_refl _)).at_ hpl
        subst hA
        obtain ⟨x, hx⟩ : ∃ x, x = ns[p] := ⟨_, rfl⟩
        have HX := Lib.hid (big_succ hpl hx.symm)
        rw [← hx] at hcell
        clear hx
        unfold u64v at hcell
        generalize bigF ns p = b at HX ⊢
        cases b
        all_goals
          go_wp2_with fail
          case roundEnd =>
            refine ⟨⟨p + 1, by omega, by rw [HX.out]; simp, rfl, trivial⟩, ?_⟩
            show _ - (((p : Int) + 1).toNat) < _ - ((p : Int).toNat)
            omega
      · obtain rfl : p = n := by omega
        have HW := Lib.hid (check_ways k t ns m)
        rw [HN.out] at HW
        obtain ⟨z, hz⟩ : ∃ z, z = checkF k t ns m := ⟨_, rfl⟩
        obtain ⟨mq, hmq⟩ : ∃ mq, mq = manyF k := ⟨_, rfl⟩
        obtain ⟨dt, hdt⟩ : ∃ dt, dt = evData k := ⟨_, rfl⟩
        obtain ⟨gr, hgr⟩ : ∃ gr, gr = bigF ns p := ⟨_, rfl⟩
        rw [← hz, ← hmq, ← hdt, ← hgr] at HW
        rw [← hmq, ← hdt, ← hgr]
        have HZ := Lib.hid hz
        clear hz hmq hdt hgr
        rcases HW.out with ⟨rfl, rfl⟩ | ⟨q, rfl, ⟨h1, rfl⟩ | ⟨h1, ⟨h2, rfl⟩ | ⟨rfl, ⟨h3, rfl⟩ | ⟨h3, ⟨h4, rfl, rfl⟩ | ⟨h4, ⟨rfl, rfl⟩ | ⟨rfl, rfl⟩⟩⟩⟩⟩⟩
        all_goals clear HW
        · go_wp2_with (first
            | (go_at_call 35; refine (check_fit j t A5 q5 c5 B5 m5 d5 l5 bs _ _ hj ht0 HQ5.out HL5.out HBS5.out HMX5.out).mono ?_; rintro e w6 ⟨rfl, hb6⟩; have HB6 : Hid (Below w.heap.size w w6) := below_then HB5.out hb6; clear hb6)
            | (go_at_call 35; refine (check_any k t A p c B m d ns _ ((HR.out.below HB3.out (Nat.le_refl _)).more HB3.out.size) HN.out (by omega)).mono ?_; rintro e w4 ⟨rfl, hb4⟩; rw [← HZ.out]; have hE4 := HE3.out.call hb4; clear a0 a1 a2 a3; have a0 := hE4.cell 0; have a1 := hE4.cell 1; have a2 := hE4.cell 2; have a3 := hE4.cell 3; have HB4 : Hid (Below w.heap.size w w4) := below_then HB3.out hb4; clear hb4 hE4)
            | (go_at_call 36; refine (fit_event k t A p c B m d ns bs j _ ((HR.out.below HB4.out (Nat.le_refl _)).more HB4.out.size) HN.out ((HS.out.below HB4.out (Nat.le_refl _)).more HB4.out.size) HM.out (by omega) (by omega) hj ht0 ht1 HNS.out).mono ?_; rintro e w5 ⟨A5, q5, c5, l5, B5, m5, d5, rfl, hq5, hl5, hbs5, hap5, hmx5, hb5⟩; have HQ5 := Lib.hid hq5; have HL5 := Lib.hid hl5; have HBS5 := Lib.hid hbs5; have HMX5 := Lib.hid hmx5; have HB5 : Hid (Below w.heap.size w w5) := below_then HB4.out hb5; clear hq5 hl5 hbs5 hap5 hmx5 hb5))
          exact bodyPost_ret (results_tmp rfl _ _ _) rfl ⟨rfl, HB6.out⟩
        · go_wp2_with (first
            | (go_at_call 35; refine (check_fit j t A5 q5 c5 B5 m5 d5 l5 bs _ _ hj ht0 HQ5.out HL5.out HBS5.out HMX5.out).mono ?_; rintro e w6 ⟨rfl, hb6⟩; have HB6 : Hid (Below w.heap.size w w6) := below_then HB5.out hb6; clear hb6)
            | (go_at_call 35; refine (check_any k t A p c B m d ns _ ((HR.out.below HB3.out (Nat.le_refl _)).more HB3.out.size) HN.out (by omega)).mono ?_; rintro e w4 ⟨rfl, hb4⟩; rw [← HZ.out]; have hE4 := HE3.out.call hb4; clear a0 a1 a2 a3; have a0 := hE4.cell 0; have a1 := hE4.cell 1; have a2 := hE4.cell 2; have a3 := hE4.cell 3; have HB4 : Hid (Below w.heap.size w w4) := below_then HB3.out hb4; clear hb4 hE4)
            | (go_at_call 36; refine (fit_event k t A p c B m d ns bs j _ ((HR.out.below HB4.out (Nat.le_refl _)).more HB4.out.size) HN.out ((HS.out.below HB4.out (Nat.le_refl _)).more HB4.out.size) HM.out (by omega) (by omega) hj ht0 ht1 HNS.out).mono ?_; rintro e w5 ⟨A5, q5, c5, l5, B5, m5, d5, rfl, hq5, hl5, hbs5, hap5, hmx5, hb5⟩; have HQ5 := Lib.hid hq5; have HL5 := Lib.hid hl5; have HBS5 := Lib.hid hbs5; have HMX5 := Lib.hid hmx5; have HB5 : Hid (Below w.heap.size w w5) := below_then HB4.out hb5; clear hq5 hl5 hbs5 hap5 hmx5 hb5))
          exact bodyPost_ret (results_tmp rfl _ _ _) rfl ⟨rfl, HB6.out⟩
        · have h2i : ¬ (p : Int) = (q : Int) := by omega
          go_wp2_with (first
            | (go_at_call 35; refine (check_fit j t A5 q5 c5 B5 m5 d5 l5 bs _ _ hj ht0 HQ5.out HL5.out HBS5.out HMX5.out).mono ?_; rintro e w6 ⟨rfl, hb6⟩; have HB6 : Hid (Below w.heap.size w w6) := below_then HB5.out hb6; clear hb6)
            | (go_at_call 35; refine (check_any k t A p c B m d ns _ ((HR.out.below HB3.out (Nat.le_refl _)).more HB3.out.size) HN.out (by omega)).mono ?_; rintro e w4 ⟨rfl, hb4⟩; rw [← HZ.out]; have hE4 := HE3.out.call hb4; clear a0 a1 a2 a3; have a0 := hE4.cell 0; have a1 := hE4.cell 1; have a2 := hE4.cell 2; have a3 := hE4.cell 3; have HB4 : Hid (Below w.heap.size w w4) := below_then HB3.out hb4; clear hb4 hE4)
            | (go_at_call 36; refine (fit_event k t A p c B m d ns bs j _ ((HR.out.below HB4.out (Nat.le_refl _)).more HB4.out.size) HN.out ((HS.out.below HB4.out (Nat.le_refl _)).more HB4.out.size) HM.out (by omega) (by omega) hj ht0 ht1 HNS.out).mono ?_; rintro e w5 ⟨A5, q5, c5, l5, B5, m5, d5, rfl, hq5, hl5, hbs5, hap5, hmx5, hb5⟩; have HQ5 := Lib.hid hq5; have HL5 := Lib.hid hl5; have HBS5 := Lib.hid hbs5; have HMX5 := Lib.hid hmx5; have HB5 : Hid (Below w.heap.size w w5) := below_then HB4.out hb5; clear hq5 hl5 hbs5 hap5 hmx5 hb5))
          exact bodyPost_ret (results_tmp rfl _ _ _) rfl ⟨rfl, HB6.out⟩
        · have h3i : (20 : Int) < (m : Int) := by omega
          go_wp2_with (first
            | (go_at_call 35; refine (check_fit j t A5 q5 c5 B5 m5 d5 l5 bs _ _ hj ht0 HQ5.out HL5.out HBS5.out HMX5.out).mono ?_; rintro e w6 ⟨rfl, hb6⟩; have HB6 : Hid (Below w.heap.size w w6) := below_then HB5.out hb6; clear hb6)
            | (go_at_call 35; refine (check_any k t A p c B m d ns _ ((HR.out.below HB3.out (Nat.le_refl _)).more HB3.out.size) HN.out (by omega)).mono ?_; rintro e w4 ⟨rfl, hb4⟩; rw [← HZ.out]; have hE4 := HE3.out.call hb4; clear a0 a1 a2 a3; have a0 := hE4.cell 0; have a1 := hE4.cell 1; have a2 := hE4.cell 2; have a3 := hE4.cell 3; have HB4 : Hid (Below w.heap.size w w4) := below_then HB3.out hb4; clear hb4 hE4)
            | (go_at_call 36; refine (fit_event k t A p c B m d ns bs j _ ((HR.out.below HB4.out (Nat.le_refl _)).more HB4.out.size) HN.out ((HS.out.below HB4.out (Nat.le_refl _)).more HB4.out.size) HM.out (by omega) (by omega) hj ht0 ht1 HNS.out).mono ?_; rintro e w5 ⟨A5, q5, c5, l5, B5, m5, d5, rfl, hq5, hl5, hbs5, hap5, hmx5, hb5⟩; have HQ5 := Lib.hid hq5; have HL5 := Lib.hid hl5; have HBS5 := Lib.hid hbs5; have HMX5 := Lib.hid hmx5; have HB5 : Hid (Below w.heap.size w w5) := below_then HB4.out hb5; clear hq5 hl5 hbs5 hap5 hmx5 hb5))
          exact bodyPost_ret (results_tmp rfl _ _ _) rfl ⟨rfl, HB6.out⟩
        · have h3i : ¬ (20 : Int) < (m : Int) := by omega
          have h4i : (0 : Int) < (m : Int) := by omega
          go_wp2_with (first
            | (go_at_call 35; refine (check_fit j t A5 q5 c5 B5 m5 d5 l5 bs _ _ hj ht0 HQ5.out HL5.out HBS5.out HMX5.out).mono ?_; rintro e w6 ⟨rfl, hb6⟩; have HB6 : Hid (Below w.heap.size w w6) := below_then HB5.out hb6; clear hb6)
            | (go_at_call 35; refine (check_any k t A p c B m d ns _ ((HR.out.below HB3.out (Nat.le_refl _)).more HB3.out.size) HN.out (by omega)).mono ?_; rintro e w4 ⟨rfl, hb4⟩; rw [← HZ.out]; have hE4 := HE3.out.call hb4; clear a0 a1 a2 a3; have a0 := hE4.cell 0; have a1 := hE4.cell 1; have a2 := hE4.cell 2; have a3 := hE4.cell 3; have HB4 : Hid (Below w.heap.size w w4) := below_then HB3.out hb4; clear hb4 hE4)
            | (go_at_call 36; refine (fit_event k t A p c B m d ns bs j _ ((HR.out.below HB4.out (Nat.le_refl _)).more HB4.out.size) HN.out ((HS.out.below HB4.out (Nat.le_refl _)).more HB4.out.size) HM.out (by omega) (by omega) hj ht0 ht1 HNS.out).mono ?_; rintro e w5 ⟨A5, q5, c5, l5, B5, m5, d5, rfl, hq5, hl5, hbs5, hap5, hmx5, hb5⟩; have HQ5 := Lib.hid hq5; have HL5 := Lib.hid hl5; have HBS5 := Lib.hid hbs5; have HMX5 := Lib.hid hmx5; have HB5 : Hid (Below w.heap.size w w5) := below_then HB4.out hb5; clear hq5 hl5 hbs5 hap5 hmx5 hb5))
          exact bodyPost_ret (results_tmp rfl _ _ _) rfl ⟨rfl, HB6.out⟩
        · have h3i : ¬ (20 : Int) < (m : Int) := by omega
          rcases h4 with rfl | rfl
          · go_wp2_with (first
                | (go_at_call 35; refine (check_fit j t A5 q5 c5 B5 m5 d5 l5 bs _ _ hj ht0 HQ5.out HL5.out HBS5.out HMX5.out).mono ?_; rintro e w6 ⟨rfl, hb6⟩; have HB6 : Hid (Below w.heap.size w w6) := below_then HB5.out hb6; clear hb6)
                | (go_at_call 35; refine (check_any k t A p c B 0 d ns _ ((HR.out.below HB3.out (Nat.le_refl _)).more HB3.out.size) HN.out (by omega)).mono ?_; rintro e w4 ⟨rfl, hb4⟩; rw [← HZ.out]; have hE4 := HE3.out.call hb4; clear a0 a1 a2 a3; have a0 := hE4.cell 0; have a1 := hE4.cell 1; have a2 := hE4.cell 2; have a3 := hE4.cell 3; have HB4 : Hid (Below w.heap.size w w4) := below_then HB3.out hb4; clear hb4 hE4)
                | (go_at_call 36; refine (fit_event k t A p c B 0 d ns bs j _ ((HR.out.below HB4.out (Nat.le_refl _)).more HB4.out.size) HN.out ((HS.out.below HB4.out (Nat.le_refl _)).more HB4.out.size) HM.out (by omega) (by omega) hj ht0 ht1 HNS.out).mono ?_; rintro e w5 ⟨A5, q5, c5, l5, B5, m5, d5, rfl, hq5, hl5, hbs5, hap5, hmx5, hb5⟩; have HQ5 := Lib.hid hq5; have HL5 := Lib.hid hl5; have HBS5 := Lib.hid hbs5; have HMX5 := Lib.hid hmx5; have HB5 : Hid (Below w.heap.size w w5) := below_then HB4.out hb5; clear hq5 hl5 hbs5 hap5 hmx5 hb5))
            all_goals exact bodyPost_ret (results_tmp rfl _ _ _) rfl ⟨rfl, HB6.out⟩
          · go_wp2_with (first
                | (go_at_call 35; refine (check_fit j t A5 q5 c5 B5 m5 d5 l5 bs _ _ hj ht0 HQ5.out HL5.out HBS5.out HMX5.out).mono ?_; rintro e w6 ⟨rfl, hb6⟩; have HB6 : Hid (Below w.heap.size w w6) := below_then HB5.out hb6; clear hb6)
                | (go_at_call 35; refine (check_any k t A p c B m d ns _ ((HR.out.below HB3.out (Nat.le_refl _)).more HB3.out.size) HN.out (by omega)).mono ?_; rintro e w4 ⟨rfl, hb4⟩; rw [← HZ.out]; have hE4 := HE3.out.call hb4; clear a0 a1 a2 a3; have a0 := hE4.cell 0; have a1 := hE4.cell 1; have a2 := hE4.cell 2; have a3 := hE4.cell 3; have HB4 : Hid (Below w.heap.size w w4) := below_then HB3.out hb4; clear hb4 hE4)
                | (go_at_call 36; refine (fit_event k t A p c B m d ns bs j _ ((HR.out.below HB4.out (Nat.le_refl _)).more HB4.out.size) HN.out ((HS.out.below HB4.out (Nat.le_refl _)).more HB4.out.size) HM.out (by omega) (by omega) hj ht0 ht1 HNS.out).mono ?_; rintro e w5 ⟨A5, q5, c5, l5, B5, m5, d5, rfl, hq5, hl5, hbs5, hap5, hmx5, hb5⟩; have HQ5 := Lib.hid hq5; have HL5 := Lib.hid hl5; have HBS5 := Lib.hid hbs5; have HMX5 := Lib.hid hmx5; have HB5 : Hid (Below w.heap.size w w5) := below_then HB4.out hb5; clear hq5 hl5 hbs5 hap5 hmx5 hb5))
            exact bodyPost_ret (results_tmp rfl _ _ _) rfl ⟨rfl, HB6.out⟩
        · have h3i : ¬ (20 : Int) < (m : Int) := by omega
          rcases h4 with rfl | rfl
          · go_wp2_with (first
                | (go_at_call 35; refine (check_fit j t A5 q5 c5 B5 m5 d5 l5 bs _ _ hj ht0 HQ5.out HL5.out HBS5.out HMX5.out).mono ?_; rintro e w6 ⟨rfl, hb6⟩; have HB6 : Hid (Below w.heap.size w w6) := below_then HB5.out hb6; clear hb6)
                | (go_at_call 35; refine (check_any k t A p c B 0 d ns _ ((HR.out.below HB3.out (Nat.le_refl _)).more HB3.out.size) HN.out (by omega)).mono ?_; rintro e w4 ⟨rfl, hb4⟩; rw [← HZ.out]; have hE4 := HE3.out.call hb4; clear a0 a1 a2 a3; have a0 := hE4.cell 0; have a1 := hE4.cell 1; have a2 := hE4.cell 2; have a3 := hE4.cell 3; have HB4 : Hid (Below w.heap.size w w4) := below_then HB3.out hb4; clear hb4 hE4)
                | (go_at_call 36; refine (fit_event k t A p c B 0 d ns bs j _ ((HR.out.below HB4.out (Nat.le_refl _)).more HB4.out.size) HN.out ((HS.out.below HB4.out (Nat.le_refl _)).more HB4.out.size) HM.out (by omega) (by omega) hj ht0 ht1 HNS.out).mono ?_; rintro e w5 ⟨A5, q5, c5, l5, B5, m5, d5, rfl, hq5, hl5, hbs5, hap5, hmx5, hb5⟩; have HQ5 := Lib.hid hq5; have HL5 := Lib.hid hl5; have HBS5 := Lib.hid hbs5; have HMX5 := Lib.hid hmx5; have HB5 : Hid (Below w.heap.size w w5) := below_then HB4.out hb5; clear hq5 hl5 hbs5 hap5 hmx5 hb5))
            all_goals exact bodyPost_ret (results_tmp rfl _ _ _) rfl ⟨rfl, HB6.out⟩
          · go_wp2_with (first
                | (go_at_call 35; refine (check_fit j t A5 q5 c5 B5 m5 d5 l5 bs _ _ hj ht0 HQ5.out HL5.out HBS5.out HMX5.out).mono ?_; rintro e w6 ⟨rfl, hb6⟩; have HB6 : Hid (Below w.heap.size w w6) := below_then HB5.out hb6; clear hb6)
                | (go_at_call 35; refine (check_any k t A p c B m d ns _ ((HR.out.below HB3.out (Nat.le_refl _)).more HB3.out.size) HN.out (by omega)).mono ?_; rintro e w4 ⟨rfl, hb4⟩; rw [← HZ.out]; have hE4 := HE3.out.call hb4; clear a0 a1 a2 a3; have a0 := hE4.cell 0; have a1 := hE4.cell 1; have a2 := hE4.cell 2; have a3 := hE4.cell 3; have HB4 : Hid (Below w.heap.size w w4) := below_then HB3.out hb4; clear hb4 hE4)
                | (go_at_call 36; refine (fit_event k t A p c B m d ns bs j _ ((HR.out.below HB4.out (Nat.le_refl _)).more HB4.out.size) HN.out ((HS.out.below HB4.out (Nat.le_refl _)).more HB4.out.size) HM.out (by omega) (by omega) hj ht0 ht1 HNS.out).mono ?_; rintro e w5 ⟨A5, q5, c5, l5, B5, m5, d5, rfl, hq5, hl5, hbs5, hap5, hmx5, hb5⟩; have HQ5 := Lib.hid hq5; have HL5 := Lib.hid hl5; have HBS5 := Lib.hid hbs5; have HMX5 := Lib.hid hmx5; have HB5 : Hid (Below w.heap.size w w5) := below_then HB4.out hb5; clear hq5 hl5 hbs5 hap5 hmx5 hb5))
            exact bodyPost_ret (results_tmp rfl _ _ _) rfl ⟨rfl, HB6.out⟩
end Go.Proofs.Ytmpnhiehkiiepaa
