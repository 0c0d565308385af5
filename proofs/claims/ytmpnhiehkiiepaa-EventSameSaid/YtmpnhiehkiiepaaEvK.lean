/-
  Contract of the law's Many, and the fixed fact of chapter 24. Nothing old is written.
-/
import Derived.Test.YtmpnhiehkiiepaaEvM
namespace Go.Proofs.Ytmpnhiehkiiepaa
open Go.RowKit

theorem nm_facts : ∀ i, i < 19 → 1 ≤ (nmRow i).length ∧ (nmRow i).length ≤ 10 ∧
    (evData (i + 1) = true → (nmRow i)[(nmRow i).length - 1]? = some [43] ∧ (nmRow i).length = (evNames (i + 1)).length + 2) ∧
    (evData (i + 1) = false → ((nmRow i)[(nmRow i).length - 1]? == some [43]) = false ∧ (nmRow i).length = (evNames (i + 1)).length + 1) := by decide +kernel
/-- How many numbers a kind has; below 0: there is no such kind. -/
def manyF (k : Nat) : Int := if 1 ≤ k ∧ k ≤ 19 then ((evNames k).length : Int) else -1
theorem ret_i64_bool {a b : Int} {c d : Bool} (h : a = b) (h' : c = d) : Ending.returned (.tuple #[.int .i64 a, .bool c]) = .returned (.tuple #[.int .i64 b, .bool d]) := by rw [h, h']

set_option maxHeartbeats 1000000 in
theorem many_any (k : Nat) (w : World) (hk : k < 256) : Calls Try.prog 24 #[.int .u8 k] w fun e w' => e = .returned (.tuple #[.int .i64 (manyF k), .bool (evData k)]) ∧ Below w.heap.size w w' := by
  by_cases hin : 1 ≤ k ∧ k ≤ 19
  · obtain ⟨i, rfl⟩ : ∃ i, k = i + 1 := ⟨k - 1, by omega⟩
    have hi : i < 19 := by omega
    obtain ⟨hf1, hf2, hft, hff⟩ := nm_facts i hi
    have hm : manyF (i + 1) = ((evNames (i + 1)).length : Int) := by unfold manyF; rw [if_pos hin]
    have HM := Lib.hid hm
    clear hm hin
    have e1 : (((i + 1 : Nat) : Int)) = (i : Int) + 1 := by omega
    cases hd : evData (i + 1) with
    | true =>
      obtain ⟨h1, h2⟩ := hft hd
      have H1 := Lib.hid h1
      have H2 := Lib.hid h2
      clear h1 h2 hft hff hd
      rw [e1]
      go_enter Try.func24, Try.ntmps24
      go_wp2_with (go_at_call 21; refine (names_any _).mono ?_; rintro e w1 ⟨g, rfl, hg1, hg2, hb1, hrow⟩; obtain ⟨A, n, c, hcell, hrd, hn⟩ := hrow i hi; obtain ⟨g', off, hA, -, hcl⟩ := hrd.at_ (k := n - 1) (by omega); subst hA; have hlast : w1.cell? ⟨g', off + (n - 1), none⟩ = some (.string ⟨([43] : List UInt8).toArray⟩) := (by rw [hcl]; have := H1.out; rw [← hn] at this; have h9 := List.getElem?_eq_some_iff.1 this; obtain ⟨_, h9⟩ := h9; rw [h9]; rfl); have HN := Lib.hid hn; have hn1 : 1 ≤ n ∧ n ≤ 10 := (by omega); have HB := Lib.hid hb1; clear hrow hrd hn hcl hb1)
      go_ret2
      exact ⟨ret_i64_bool (by rw [HM.out]; have := H2.out; have := HN.out; omega) rfl, HB.out⟩
    | false =>
      obtain ⟨h1, h2⟩ := hff hd
      obtain ⟨x, hx⟩ : ∃ x, (nmRow i)[(nmRow i).length - 1]? = some x := ⟨_, List.getElem?_eq_getElem (by omega)⟩
      have hne : (x == [43]) = false := by
        rw [hx] at h1
        simpa using h1
      have H1 := Lib.hid hx
      have H2 := Lib.hid h2
      clear h1 h2 hft hff hd hx
      rw [e1]
      go_enter Try.func24, Try.ntmps24
      go_wp2_with (go_at_call 21; refine (names_any _).mono ?_; rintro e w1 ⟨g, rfl, hg1, hg2, hb1, hrow⟩; obtain ⟨A, n, c, hcell, hrd, hn⟩ := hrow i hi; obtain ⟨g', off, hA, -, hcl⟩ := hrd.at_ (k := n - 1) (by omega); subst hA; have hlast : w1.cell? ⟨g', off + (n - 1), none⟩ = some (.string ⟨x.toArray⟩) := (by rw [hcl]; have := H1.out; rw [← hn] at this; have h9 := List.getElem?_eq_some_iff.1 this; obtain ⟨_, h9⟩ := h9; rw [h9]; rfl); have HN := Lib.hid hn; have hn1 : 1 ≤ n ∧ n ≤ 10 := (by omega); have HB := Lib.hid hb1; clear hrow hrd hn hcl hb1)
      go_ret2
      exact ⟨ret_i64_bool (by rw [HM.out]; have := H2.out; have := HN.out; omega) rfl, HB.out⟩
  · have hm : manyF k = -1 := by unfold manyF; rw [if_neg hin]
    have hd : evData k = false := by unfold evData; simp; omega
    rw [hm, hd]
    clear hm hd
    rcases (show k < 1 ∨ 19 < k from by omega) with h | h
    all_goals
      clear hin
      go_enter Try.func24, Try.ntmps24
      go_wp2_with (go_at_call 21; refine (names_any _).mono ?_; rintro e w1 ⟨g, rfl, hg1, hg2, hb1, hrow⟩; have HB := Lib.hid hb1; clear hrow hb1)
      go_ret2
      exact ⟨rfl, HB.out⟩

set_option maxRecDepth 100000 in
set_option maxHeartbeats 1000000 in
theorem awake24 (w : World) : Calls Try.prog 20 #[] w fun e w' => e = .returned (.bool true) ∧ Below w.heap.size w w' := by
  have hn : namedF [108, 111, 103, 95, 116, 114, 117, 110, 99, 97, 116, 101, 100] = 19 := by decide +kernel
  have h1 : evName 1 = [112, 104, 97, 115, 101] := rfl
  have HN := Lib.hid hn
  have H1 := Lib.hid h1
  clear hn h1
  go_enter Try.func20, Try.ntmps20
  go_wp2_with (first | (go_at_call 22; refine (of_1 _).mono ?_; rintro e w1 ⟨A1, n1, c1, rfl, hr1, hn1, hb1⟩; rw [H1.out]; have HB1 := Lib.hid hb1; clear hr1 hn1 hb1) | (go_at_call 23; refine (named_any [108, 111, 103, 95, 116, 114, 117, 110, 99, 97, 116, 101, 100] _).mono ?_; rintro e w2 ⟨rfl, hb2⟩; rw [HN.out]; have HB2 := Lib.hid hb2; obtain ⟨hc2, hf2⟩ := bcell hb2; have hc3 := hc2 w1.heap.size 0 (by simp); clear hb2 hc2 hf2))
  go_ret
  exact ⟨rfl, (HB1.out.alloc HB1.out.size _).trans (HB2.out.mono (by simp; have := HB1.out.size; omega))⟩

theorem of_succ (i : Nat) (w : World) : Calls Try.prog 22 #[.int .u8 ((i : Int) + 1)] w (OfPost (i + 1) w) := by
  have key := of_any ((i : Int) + 1) w (by omega)
  rwa [show ((i : Int) + 1).toNat = i + 1 from by omega] at key
theorem many_succ (i : Nat) (w : World) (hi : i < 19) : Calls Try.prog 24 #[.int .u8 ((i : Int) + 1)] w fun e w' => e = .returned (.tuple #[.int .i64 ((evNames (i + 1)).length : Nat), .bool (evData (i + 1))]) ∧ Below w.heap.size w w' := by
  have key := many_any (i + 1) w (by omega)
  rwa [show (((i + 1 : Nat) : Int)) = (i : Int) + 1 from by omega, show manyF (i + 1) = ((evNames (i + 1)).length : Int) from by unfold manyF; rw [if_pos (by omega)]] at key
theorem named_succ (i : Nat) (w : World) (h : namedF (evName (i + 1)) = i + 1) : Calls Try.prog 23 #[.string ⟨(evName (i + 1)).toArray⟩] w fun e w' => e = .returned (.tuple #[.int .u8 ((i : Int) + 1), .bool true]) ∧ Below w.heap.size w w' := by
  have key := named_any (evName (i + 1)) w
  rw [h] at key
  have hd : decide (i + 1 ≠ 0) = true := by simp
  rwa [hd, show (((i + 1 : Nat) : Int)) = (i : Int) + 1 from by omega] at key
end Go.Proofs.Ytmpnhiehkiiepaa
