/-
  binnaclelaw24.EventShapes returns true. No condition.
-/
import Derived.Test.YtmpnhiehkiiepaaEvK
import Derived.Deep.QuietTactic
import Derived.BigQuiet
import Derived.IntWalk
namespace Go.Proofs.Ytmpnhiehkiiepaa
open Go.RowKit

theorem nm_head : ∀ i, i < 19 → (nmRow i)[0]? = some (evName (i + 1)) ∧ namedF (evName (i + 1)) = i + 1 := by decide +kernel
theorem nm_tail : ∀ i, i < 19 → ∀ j, j < (evNames (i + 1)).length → (nmRow i)[j + 1]? = (evNames (i + 1))[j]? := by decide +kernel
theorem ev_ok : ∀ i, i < 19 → evOk (i + 1) = true := by decide +kernel
theorem of_in (i : Nat) (w : World) (hi : i < 19) : Calls Try.prog 22 #[.int .u8 ((i : Int) + 1)] w fun e w' => ∃ A n c, e = .returned (.tuple #[.agg #[.string ⟨(evName (i + 1)).toArray⟩, .slice A n c, .bool (evData (i + 1))], .bool true]) ∧ Rd strv w' w'.heap.size A (evNames (i + 1)) ∧ n = (evNames (i + 1)).length ∧ Below w.heap.size w w' := by
  have key := of_succ i w
  unfold OfPost at key
  rwa [ev_ok i hi] at key
theorem slot_new (w : World) (cs : Array Value) (t : TypeId) (j : Nat) {v : Value} (h : cs[j]? = some v) : (w.alloc (.cells cs t)).cell? ⟨w.heap.size, j, none⟩ = some v := by
  rw [World.cell?_alloc_new]; exact h
theorem shape_kept {w3 w4 : World} {cs : Array Value} {t : TypeId} {g' off : Nat} {x : Value} (hb : Below (w3.alloc (.cells cs t)).heap.size (w3.alloc (.cells cs t)) w4) (hg : g' < w3.heap.size)
    (hx : w3.cell? ⟨g', off, none⟩ = some x) : w3.heap.size + 1 ≤ w4.heap.size ∧ w4.cell? ⟨g', off, none⟩ = some x ∧ ∀ j v, cs[j]? = some v → w4.cell? ⟨w3.heap.size, j, none⟩ = some v := by
  have e : (w3.alloc (.cells cs t)).heap.size = w3.heap.size + 1 := by show (w3.heap.push _).size = _; simp
  refine ⟨by have := hb.size; rw [e] at this; exact this, ?_, ?_⟩
  · refine (hb.cell (p := ⟨g', off, none⟩) ?_).trans ((World.cell?_alloc_lt _ _ _ hg).trans hx)
    rw [e]; exact Nat.lt_succ_of_lt hg
  · intro j v h
    refine (hb.cell (p := ⟨w3.heap.size, j, none⟩) ?_).trans (slot_new _ _ _ _ h)
    rw [e]; exact Nat.lt_succ_self _
theorem below_drewN {B : Nat} {a w : World} (h : Below B a w) (k : Nat) : Below B a (w.drewN k) := ⟨h.os, h.tape, h.output, h.size, h.block⟩
def knownF (n : Nat) (s : List UInt8) : Bool := (List.range n).any (fun j => evName (j + 1) == s)
theorem known_succ (n : Nat) (s : List UInt8) : knownF (n + 1) s = (knownF n s || evName (n + 1) == s) := by simp [knownF, List.range_succ]
theorem known_all (s : List UInt8) : knownF 19 s = decide (namedF s ≠ 0) := by
  unfold knownF namedF
  cases h : (List.range 19).find? (fun i => evName (i + 1) == s) with
  | none => rw [List.find?_eq_none] at h; simp only [ne_eq, not_true_eq_false, decide_false, List.any_eq_false]; exact h
  | some i => simp only [List.any_eq_true]; have := List.find?_some h; have h2 := List.mem_of_find?_eq_some h; simp; exact ⟨i, List.mem_range.1 h2, by simpa using this⟩
theorem of_hit (k : Nat) (w : World) (hk : 1 ≤ k ∧ k ≤ 19) : Calls Try.prog 22 #[.int .u8 k] w fun e w' => ∃ A n c nm d, e = .returned (.tuple #[.agg #[.string nm, .slice A n c, .bool d], .bool true]) ∧ Below w.heap.size w w' := by
  refine (of_any k w (by omega)).mono ?_
  rintro e w' ⟨A, n, c, rfl, _, _, hb⟩
  exact ⟨A, n, c, _, _, by rw [show evOk (k : Int).toNat = true from by unfold evOk; simp; omega], hb⟩
theorem of_miss (k : Nat) (w : World) (hk : ¬ (1 ≤ k ∧ k ≤ 19)) : Calls Try.prog 22 #[.int .u8 k] w fun e w' => ∃ A c d, e = .returned (.tuple #[.agg #[.string ⟨#[]⟩, .slice A 0 c, .bool d], .bool false]) ∧ Below w.heap.size w w' := by
  refine (of_any k w (by omega)).mono ?_
  rintro e w' ⟨A, n, c, rfl, _, hn, hb⟩
  rw [Int.toNat_natCast] at hn ⊢
  have h : evRow k = [] := evRow_none k (by omega)
  have h2 : n = 0 := by rw [hn]; unfold evNames; rw [h]; rfl
  subst h2
  exact ⟨A, c, _, by rw [show evOk k = false from by unfold evOk; simp; omega, show evName k = [] from by unfold evName; rw [h]; rfl], hb⟩
theorem of_both (k : Nat) (w : World) : Calls Try.prog 22 #[.int .u8 k] w fun e w' => ∃ A n c nm d ok, e = .returned (.tuple #[.agg #[.string nm, .slice A n c, .bool d], .bool ok]) ∧ ok = decide (1 ≤ k ∧ k ≤ 19) ∧ (ok = false → nm = ⟨#[]⟩ ∧ n = 0) ∧ Below w.heap.size w w' := by
  by_cases hk : 1 ≤ k ∧ k ≤ 19
  · refine (of_hit k w hk).mono ?_
    rintro e w' ⟨A, n, c, nm, d, rfl, hb⟩
    exact ⟨A, n, c, nm, d, true, rfl, by simp [hk], by simp, hb⟩
  · refine (of_miss k w hk).mono ?_
    rintro e w' ⟨A, c, d, rfl, hb⟩
    exact ⟨A, 0, c, ⟨#[]⟩, d, false, rfl, by simp [hk], fun _ => ⟨rfl, rfl⟩, hb⟩
theorem block_kept {w3 w4 : World} {cs : Array Value} {t : TypeId} (hb : Below (w3.alloc (.cells cs t)).heap.size (w3.alloc (.cells cs t)) w4) :
    w3.heap.size + 1 ≤ w4.heap.size ∧ ∀ j v, cs[j]? = some v → w4.cell? ⟨w3.heap.size, j, none⟩ = some v := by
  have e : (w3.alloc (.cells cs t)).heap.size = w3.heap.size + 1 := by show (w3.heap.push _).size = _; simp
  refine ⟨by have := hb.size; rw [e] at this; exact this, ?_⟩
  intro j v h
  refine (hb.cell (p := ⟨w3.heap.size, j, none⟩) ?_).trans (slot_new _ _ _ _ h)
  rw [e]; exact Nat.lt_succ_self _
theorem ev_len : ∀ i, i < 19 → (evNames (i + 1)).length ≤ 8 := by decide +kernel

set_option maxRecDepth 100000 in
set_option maxHeartbeats 500000 in
theorem walk_shapes (k : Nat) (s : List UInt8) (w : World) (hk : k < 256) :
    Calls Try.prog 6 #[.int .u8 k, .string ⟨s.toArray⟩] w fun e w' => e = .returned (.bool true) ∧ Below w.heap.size w w' := by
  go_enter Try.func6, Try.ntmps6
  go_wp2_with (first | (go_at_call 20; refine (awake24 _).mono ?_; rintro e w1 ⟨rfl, hb1⟩; have HB1 := Lib.hid hb1; clear hb1) | (go_at_call 21; refine (names_any _).mono ?_; rintro e w2 ⟨g, rfl, hg1, hg2, hb2, hrow⟩; have HB2 : Hid (Below w.heap.size w w2) := HB1.out.trans (hb2.mono HB1.out.size); have HROW := Lib.hid hrow; clear hb2 hrow))
  go_loopw [26] (fun i wr => ∃ n : Nat, n ≤ 19 ∧ i = .int .i64 n ∧ Hid (Below w2.heap.size w2 wr)) (fun i _ => 19 - (intOf i).toNat)
  case atStart => exact ⟨0, by omega, rfl, Below.refl _ _⟩
  case round =>
    obtain ⟨i, hi, rfl, HBR⟩ := hrel
    obtain ⟨wo, rfl⟩ : ∃ wo : World, wo = wr := ⟨_, rfl⟩
    by_cases hlt : i < 19
    · obtain ⟨A, n, c, hcell0, hrd, hn⟩ := HROW.out i hlt
      have hcell : wo.cell? ⟨g, i, none⟩ = some (.slice A n c) := (HBR.out.cell (p := ⟨g, i, none⟩) hg2).trans hcell0
      obtain ⟨hh1, hh2⟩ := nm_head i hlt
      obtain ⟨g', off, hA, hg'2, hcl⟩ := hrd.at_ (k := 0) (by have := nm_facts i hlt; omega)
      subst hA
      have hx0 : wo.cell? ⟨g', off, none⟩ = some (.string ⟨(evName (i + 1)).toArray⟩) := by
        refine (HBR.out.cell (p := ⟨g', off, none⟩) hg'2).trans ?_
        rw [Nat.add_zero] at hcl
        rw [hcl]
        obtain ⟨_, h9⟩ := List.getElem?_eq_some_iff.1 hh1
        rw [h9]; rfl
      have HRD := Lib.hid hrd
      have HN := Lib.hid hn
      have HH := Lib.hid hh2
      have hz2 : w2.heap.size ≤ wo.heap.size := HBR.out.size
      have hn1 : 0 < n := by have := nm_facts i hlt; omega
      clear hcell0 hrd hn hh1 hh2 hcl
      have hdl := ev_len i hlt
      go_wp2_with (first | (go_at_call 22; refine (of_in i _ hlt).mono ?_; rintro e w3 ⟨A3, n3, c3, rfl, hr3, hn3, hb3⟩; have HB3 := Lib.hid hb3; have HR3 := Lib.hid hr3; have HN3 := Lib.hid hn3; have hz3 := hb3.size; have hx3 : w3.cell? ⟨g', off, none⟩ = some (.string ⟨(evName (i + 1)).toArray⟩) := (hb3.cell (p := ⟨g', off, none⟩) (by simp; omega)).trans hx0; have hx4 : (w3.alloc (.cells #[.string ⟨(evName (i + 1)).toArray⟩, .slice A3 n3 c3, .bool (evData (i + 1))] 40)).cell? ⟨g', off, none⟩ = some (.string ⟨(evName (i + 1)).toArray⟩) := (World.cell?_alloc_lt _ _ _ (by simp; omega)).trans hx3; clear hb3 hr3 hn3) | (go_at_call 23; refine (named_succ i _ HH.out).mono ?_; rintro e w4 ⟨rfl, hb4⟩; obtain ⟨hq4, hx_w4, hs4⟩ := shape_kept hb4 (Nat.lt_of_lt_of_le hg'2 (Nat.le_trans hz2 hz3)) hx3; have h0_w4 := hs4 0 _ rfl; have h1_w4 := hs4 1 _ rfl; have h2_w4 := hs4 2 _ rfl; have HB4 := Lib.hid hb4; clear hb4 hs4) | (go_at_call 24; refine (many_succ i _ hlt).mono ?_; rintro e w5 ⟨rfl, hb5⟩; have hq5 := hb5.size; have hx_w5 := (hb5.cell (p := ⟨g', off, none⟩) (Nat.lt_of_lt_of_le hg'2 (Nat.le_trans hz2 (Nat.le_trans hz3 (Nat.le_of_succ_le hq4))))).trans hx_w4; have h0_w5 := (hb5.cell (p := ⟨w3.heap.size, 0, none⟩) hq4).trans h0_w4; have h1_w5 := (hb5.cell (p := ⟨w3.heap.size, 1, none⟩) hq4).trans h1_w4; have h2_w5 := (hb5.cell (p := ⟨w3.heap.size, 2, none⟩) hq4).trans h2_w4; have HB5 := Lib.hid hb5; clear hb5 hx_w4 h0_w4 h1_w4 h2_w4))
      obtain rfl := HN3.out
      have hwr : IntKind.i64.wrap ((i : Int) + 1) = (i : Int) + 1 := IntWalk.i64_in _ (by omega)
      have hnn : (0 : Int) < (n : Int) := by omega
      go_quiet (fail)
      clear hwr
      go_wp2
      go_loopw [89] (fun jv wr' => ∃ j : Nat, j ≤ (evNames (i + 1)).length ∧ jv = .int .i64 j ∧ wr' = w5.drewN nq) (fun jv _ => (evNames (i + 1)).length - (intOf jv).toNat)
      case atStart => exact ⟨0, by omega, rfl, rfl⟩
      case round =>
        obtain ⟨j, hj, rfl, rfl⟩ := hrel
        by_cases hjl : j < (evNames (i + 1)).length
        · obtain ⟨g2, o2, hA2, hg22, hcl2⟩ := HR3.out.at_ (k := j) hjl
          subst hA2
          obtain ⟨s0, hs0⟩ : ∃ s0, (evNames (i + 1))[j]? = some s0 := ⟨_, List.getElem?_eq_getElem hjl⟩
          have hs0' : (evNames (i + 1))[j] = s0 := (List.getElem?_eq_some_iff.1 hs0).2
          rw [hs0'] at hcl2
          have hc1 : w5.cell? ⟨g2, o2 + j, none⟩ = some (.string ⟨s0.toArray⟩) := (HB5.out.cell (p := ⟨g2, o2 + j, none⟩) (by simp; omega)).trans ((HB4.out.cell (p := ⟨g2, o2 + j, none⟩) (by show _ < (w3.heap.push _).size; simp; omega)).trans ((World.cell?_alloc_lt _ _ _ hg22).trans hcl2))
          have hs1 : (nmRow i)[j + 1]? = some s0 := (nm_tail i hlt j hjl).trans hs0
          obtain ⟨hlx, hs1'⟩ := List.getElem?_eq_some_iff.1 hs1
          obtain ⟨g3, o3, hA3, hg33, hcl3⟩ := HRD.out.at_ (k := j + 1) hlx
          cases hA3
          rw [hs1'] at hcl3
          have hc2 : w5.cell? ⟨g', off + (j + 1), none⟩ = some (.string ⟨s0.toArray⟩) := (HB5.out.cell (p := ⟨g', off + (j + 1), none⟩) (by simp; omega)).trans ((HB4.out.cell (p := ⟨g', off + (j + 1), none⟩) (by show _ < (w3.heap.push _).size; simp; omega)).trans ((World.cell?_alloc_lt _ _ _ (by simp; omega)).trans ((HB3.out.cell (p := ⟨g', off + (j + 1), none⟩) (by simp; omega)).trans ((HBR.out.cell (p := ⟨g', off + (j + 1), none⟩) (by simp; omega)).trans hcl3))))
          have hn2 : j + 1 < n := by rw [HN.out]; exact hlx
          have hjd : (j : Int) < ((evNames (i + 1)).length : Int) := by omega
          clear hs0 hs0' hs1 hs1' hlx hcl2 hcl3
          go_wp2
          case roundEnd =>
            refine ⟨⟨j + 1, by omega, rfl, trivial⟩, ?_⟩
            show _ - (((j : Int) + 1).toNat) < _ - ((j : Int).toNat)
            omega
        · have hjd : ¬ (j : Int) < ((evNames (i + 1)).length : Int) := by omega
          go_wp2
          case roundEnd =>
            refine ⟨⟨i + 1, by omega, rfl, Lib.hid ?_⟩, ?_⟩
            · have h1 : Below w2.heap.size w2 w3 := below_then HBR.out HB3.out
              have h2 := h1.alloc h1.size (.cells #[.string ⟨(evName (i + 1)).toArray⟩, .slice A3 (evNames (i + 1)).length c3, .bool (evData (i + 1))] 40)
              exact below_drewN (below_then (below_then h2 HB4.out) HB5.out) _
            · show _ - (((i : Int) + 1).toNat) < _ - ((i : Int).toNat)
              omega
    · have hge : ¬ (i : Int) < 19 := by omega
      go_wp2_with (first | (go_at_call 22; refine (of_both k _).mono ?_; rintro e w6 ⟨A6, n6, c6, nm6, d6, ok6, rfl, hok6, hno6, hb6⟩; have HB6 := Lib.hid hb6; have HOK := Lib.hid hok6; have HNO := Lib.hid hno6; clear hb6 hok6 hno6) | (go_at_call 23; refine (named_any s _).mono ?_; rintro e w7 ⟨rfl, hb7⟩; obtain ⟨hq7, hs7⟩ := block_kept hb7; have h0_7 := hs7 0 _ rfl; have h1_7 := hs7 1 _ rfl; have HB7 := Lib.hid hb7; clear hb7 hs7) | (go_at_call 21; refine (names_any _).mono ?_; rintro e w8 ⟨g8, rfl, hg81, hg82, hb8, hrow8⟩; have h0_8 := (hb8.cell (p := ⟨w6.heap.size, 0, none⟩) hq7).trans h0_7; have h1_8 := (hb8.cell (p := ⟨w6.heap.size, 1, none⟩) hq7).trans h1_7; have HB8 := Lib.hid hb8; have HROW8 := Lib.hid hrow8; clear hb8 hrow8 h0_7 h1_7))
      go_loopw [19, 115] (fun kv jv wr' => ∃ n : Nat, n ≤ 19 ∧ jv = .int .i64 n ∧ kv = .bool (knownF n s) ∧ wr' = w8) (fun _ jv _ => 19 - (intOf jv).toNat)
      case atStart => exact ⟨0, by omega, rfl, rfl, rfl⟩
      case round =>
        obtain ⟨n, hn, rfl, rfl, hw⟩ := hrel
        subst hw
        by_cases hlt : n < 19
        · obtain ⟨A, m, c, hcell, hrd, hm⟩ := HROW8.out n hlt
          obtain ⟨hh1, -⟩ := nm_head n hlt
          obtain ⟨g', off, hA, -, hcl⟩ := hrd.at_ (k := 0) (by have := nm_facts n hlt; omega)
          subst hA
          have hx0 : wr.cell? ⟨g', off, none⟩ = some (.string ⟨(evName (n + 1)).toArray⟩) := by
            rw [Nat.add_zero] at hcl
            rw [hcl]
            obtain ⟨_, h9⟩ := List.getElem?_eq_some_iff.1 hh1
            rw [h9]; rfl
          have hm1 : (0 : Int) < (m : Int) := by have := nm_facts n hlt; omega
          have HK := Lib.hid (known_succ n s)
          clear hcl hrd hm hh1
          generalize knownF n s = b at HK ⊢
          cases b
          · go_wp2
            case roundEnd =>
              refine ⟨⟨n + 1, by omega, rfl, by rw [HK.out]; rfl, trivial⟩, ?_⟩
              show _ - (((n : Int) + 1).toNat) < _ - ((n : Int).toNat)
              omega
          · go_wp2
            case roundEnd =>
              refine ⟨⟨n + 1, by omega, rfl, by rw [HK.out]; rfl, trivial⟩, ?_⟩
              show _ - (((n : Int) + 1).toNat) < _ - ((n : Int).toNat)
              omega
        · have hge : ¬ (n : Int) < 19 := by omega
          obtain rfl : n = 19 := by omega
          rw [known_all]
          have HB : Hid (Below w.heap.size w w2) := HB2
          have HBZ : Below w.heap.size w wr := by
            have h1 := below_then (below_then HB.out HBR.out) HB6.out
            exact below_then (below_then (h1.alloc h1.size _) HB7.out) HB8.out
          generalize namedF s = f
          cases ok6
          · obtain ⟨rfl, rfl⟩ := HNO.out rfl
            have hk : ¬ (1 ≤ k ∧ k ≤ 19) := by have := HOK.out; simpa using this
            by_cases h1 : 1 ≤ k
            · have h2 : ¬ (k : Int) ≤ 19 := by omega
              have h3 : (1 : Int) ≤ k := by omega
              cases f
              · go_wp2
                exact bodyPost_ret (results_tmp rfl _ _ _) rfl ⟨rfl, HBZ⟩
              · go_wp2
                exact bodyPost_ret (results_tmp rfl _ _ _) rfl ⟨rfl, HBZ⟩
            · have h3 : ¬ (1 : Int) ≤ k := by omega
              cases f
              · go_wp2
                exact bodyPost_ret (results_tmp rfl _ _ _) rfl ⟨rfl, HBZ⟩
              · go_wp2
                exact bodyPost_ret (results_tmp rfl _ _ _) rfl ⟨rfl, HBZ⟩
          · have hk : (1 ≤ k ∧ k ≤ 19) := by have := HOK.out; simpa using this.symm
            have h2 : (k : Int) ≤ 19 := by omega
            have h3 : (1 : Int) ≤ k := by omega
            cases f
            · go_wp2
              exact bodyPost_ret (results_tmp rfl _ _ _) rfl ⟨rfl, HBZ⟩
            · go_wp2
              exact bodyPost_ret (results_tmp rfl _ _ _) rfl ⟨rfl, HBZ⟩
end Go.Proofs.Ytmpnhiehkiiepaa
