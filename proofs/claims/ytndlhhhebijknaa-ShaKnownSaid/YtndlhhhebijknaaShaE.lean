/-
  SHA-256: the end of a sum. No condition.
-/
import Derived.Test.YtndlhhhebijknaaShaD
import Derived.Test.YtndlhhhebijknaaAesR2
namespace Go.Proofs.Ytndlhhhebijknaa
set_option linter.unusedVariables false
namespace Sha
/-- How many bytes come ahead of the size. -/
def padP (h : Nat) : Nat := if h < 56 then 56 - h else 120 - h
def padB (p : Nat) (m : BitVec 64) (i : Nat) : BitVec 8 := if i = 0 then 128#8 else if i < p then 0#8 else (m >>> (8 * (7 - (i - p)))).setWidth 8
def outW (V : Nat → BitVec 32) (i : Nat) : BitVec 8 := (V (i / 4) >>> (8 * (3 - i % 4))).setWidth 8
def endD (d : Dg) (a : BitVec 64) : Dg := pushN d (padB (padP d.h) (a * 8#64)) (padP d.h + 8)
def endV (d : Dg) (a : BitVec 64) (i : Nat) : BitVec 8 := outW (endD d a).V i
theorem padP_iff {h k : Nat} (hh : h < 64) (hk : k + 1 ≤ padP h) : (h + (k + 1)) % 64 = 56 ↔ k + 1 = padP h := by
  unfold padP at *
  by_cases h5 : h < 56
  · rw [if_pos h5] at *; constructor <;> intro _ <;> omega
  · rw [if_neg h5] at *; constructor <;> intro _ <;> omega
theorem padP_le {h : Nat} (hh : h < 64) : 1 ≤ padP h ∧ padP h ≤ 64 := by unfold padP; split <;> omega
end Sha
namespace Sx
open Sha

theorem app1 {f : Nat → SC} {n : Nat} {b : Nat → BitVec 8} {g : Nat → SC} (hf : ∀ j, j < n → f j = .w8 (b j)) (hg : g 0 = .w8 (b n)) (i : Nat) (hi : i < n + 1) :
    appF f 0 (scale n (0 + 1)) (scale 1 (0 + 1)) g i = .w8 (b i) := by
  unfold appF
  by_cases hik : i < n
  · rw [if_pos (by simpa [scale] using hik), Nat.add_zero, hf i hik]
  · obtain rfl : i = n := by omega
    rw [if_neg (by simp [scale]), if_pos (by simp [scale]), show i - scale i (0 + 1) = 0 from Nat.sub_self _, hg]
theorem of_decide_eq_false' {p : Prop} [Decidable p] (h : decide (¬ p) = false) : p := Decidable.not_not.1 (of_decide_eq_false h)
theorem shAmt8 : ∀ k : Nat, k < 8 → (8#64 * BitVec.ofInt 64 (7 - (k : Int))).toNat = 8 * (7 - k) := by decide +kernel
theorem shAmt4 : ∀ k : Nat, k < 4 → (8#64 * BitVec.ofInt 64 (3 - (k : Int))).toNat = 8 * (3 - k) := by decide +kernel
set_option maxRecDepth 20000 in
theorem fn_send (d : Dg) (a : BitVec 64) (hd : d.h < 64) :
    FnR Try.prog tds 51 1 [shaT 1 0 first steps, digC 0 d.V d.P d.h a] [.c (.p 1 0 0)] (fun _ => True)
      (fun x hs => x = .a (.agg [.row 32 fun i => .w8 (endV d a i)]) ∧ ∃ (V' : Nat → BitVec 32) (P' : Nat → BitVec 8) (h' : Nat) (a' : BitVec 64), hs = [shaT 1 0 first steps, digC 0 V' P' h' a']) := by
  refine fn_of_body tds_ok follows_ Try.func51 rfl (t := [.a (.c (.p 1 0 0)), .any, .any, .any, .any, .any, .any, .any, .any, .any, .any, .any, .any, .any, .any, .any, .any, .any, .any, .any, .any, .any, .any, .any, .any, .any, .any, .any, .any, .any, .any, .any, .any, .any, .any, .any, .any, .any, .any, .any, .any, .any, .any, .any, .any, .any, .any, .any, .any, .any, .any, .any, .any, .any, .any, .any, .any, .any, .any, .any, .any, .any, .any, .any, .any, .any, .any, .any, .any, .any]) rfl (fun w r0 hr _ => ?_)
  obtain ⟨x0, x1, rfl⟩ := len2' hr
  have hpl := padP_le hd
  refine .inl ⟨Nat × Nat, fun (k, c) => ⟨[.a (.c (.p 1 0 0)), .any, .a (.c (.p 2 0 0)), .a (.c (.w64 ((a * 8#64)))), .a (.c (.sl 3 0 0 (k+1) c)), .any, .any, .any, .any, .any, .any, .any, .any, .any, .any, .any, .any, .any, .any, .any, .any, .any, .any, .any, .any, .any, .any, .any, .any, .any, .any, .any, .any, .any, .any, .any, .any, .any, .any, .any, .any, .any, .any, .any, .any, .any, .any, .any, .any, .any, .any, .any, .any, .any, .any, .any, .any, .any, .any, .any, .any, .any, .any, .any, .any, .any, .any, .any, .any, .any], [shaT 1 0 first steps, digC 0 d.V d.P d.h a, [.row 32 fun _ => .w8 0#8], [.row c (bytesF (k + 1) (padB (padP d.h) (a * 8#64)))]]⟩,
    fun (k, c) => k + 1 ≤ padP d.h ∧ k + 1 ≤ c, fun (k, _) => 64 - k, ⟨(0, 1), [0, 1, 2, 3], ⟨⟨rfl, rfl, rfl⟩, ?_⟩, by omega, by omega⟩, fun (k, c) ⟨hk, hc⟩ => ?_⟩
  · (repeat first | exact trivial | refine ⟨rfl, ?_⟩ | refine ⟨fun _ _ => ⟨rfl, trivial⟩, ?_⟩ | refine ⟨fun _ _ => trivial, ?_⟩ | refine ⟨by omega, ?_⟩ | refine ⟨fun _ _ => eqC_winS, ?_⟩ | refine ⟨fun _ _ => eqC_winM, ?_⟩ | refine ⟨fun _ _ => eqC_winB, ?_⟩ | refine ⟨fun _ _ => eqC_selfB, ?_⟩ | refine ⟨fun _ _ => eqC_mpB, ?_⟩)
    exact ⟨fun j hj => eqC_bytes (fun i hi => by obtain rfl : i = 0 := by omega
                                                 rfl) j, trivial⟩
  · (repeat first | refine ⟨by omega, ?_⟩ | refine ⟨by decide, ?_⟩ | refine ⟨idx8 _, ?_⟩ | refine ⟨lt8 (Nat.le_refl _) _, ?_⟩ | refine ⟨rfl, ?_⟩)
    have e1 : ((d.h : Int) + ((k + 1 : Nat) : Int)) % 64 = (((d.h + (k + 1)) % 64 : Nat) : Int) := by omega
    refine ⟨fun h => ?_, fun h => ?_⟩
    · have h1 : ¬ ((d.h : Int) + ((k + 1 : Nat) : Int)) % 64 = 56 := of_decide_eq_true h
      have h2 := mt (padP_iff hd hk).2
      have h3 : k + 1 < padP d.h := by omega
      refine ⟨by decide, ⟨by omega, by simp [scale], by show _ * 1 ≤ _; omega⟩, fun c' hc' => ?_⟩
      refine ⟨(k + 1, c'), [0, 1, 2, 5], ⟨⟨rfl, rfl, rfl⟩, ?_⟩, by omega, by dsimp only; omega⟩
      (repeat first | exact trivial | refine ⟨rfl, ?_⟩ | refine ⟨fun _ _ => ⟨rfl, trivial⟩, ?_⟩ | refine ⟨fun _ _ => trivial, ?_⟩ | refine ⟨by omega, ?_⟩ | refine ⟨fun _ _ => eqC_winS, ?_⟩ | refine ⟨fun _ _ => eqC_winM, ?_⟩ | refine ⟨fun _ _ => eqC_winB, ?_⟩ | refine ⟨fun _ _ => eqC_selfB, ?_⟩ | refine ⟨fun _ _ => eqC_mpB, ?_⟩)
      exact ⟨fun j hj => eqC_bytes (app1 (fun _ h => bytesF_lt h) (by show SC.w8 0#8 = _; unfold padB; rw [if_neg (by omega), if_pos h3])) j, trivial⟩
    · have h1 : ((d.h : Int) + ((k + 1 : Nat) : Int)) % 64 = 56 := of_decide_eq_false' h
      have h2 : k + 1 = padP d.h := (padP_iff hd hk).1 (by omega)
      refine .inl ⟨Nat × Nat, fun (k, c) => ⟨[.a (.c (.p 1 0 0)), .any, .a (.c (.p 2 0 0)), .a (.c (.w64 ((a * 8#64)))), .a (.c (.sl 3 0 0 (padP d.h + k) c)), .a (.c (.int .i64 (7 - (k : Int)))), .any, .any, .any, .any, .any, .any, .any, .any, .any, .any, .any, .any, .any, .any, .any, .any, .any, .any, .any, .any, .any, .any, .any, .any, .any, .any, .any, .any, .any, .any, .any, .any, .any, .any, .any, .any, .any, .any, .any, .any, .any, .any, .any, .any, .any, .any, .any, .any, .any, .any, .any, .any, .any, .any, .any, .any, .any, .any, .any, .any, .any, .any, .any, .any], [shaT 1 0 first steps, digC 0 d.V d.P d.h a, [.row 32 fun _ => .w8 0#8], [.row c (bytesF (padP d.h + k) (padB (padP d.h) (a * 8#64)))]]⟩,
        fun (k, c) => k ≤ 8 ∧ padP d.h + k ≤ c, fun (k, _) => 64 - k, ⟨(0, c), [0, 1, 2, 3], ⟨⟨rfl, rfl, rfl⟩, ?_⟩, by omega, by omega⟩, fun (k, c) ⟨hk, hc⟩ => ⟨fun h => ?_, fun h => ?_⟩⟩
      · (repeat first | exact trivial | refine ⟨rfl, ?_⟩ | refine ⟨fun _ _ => ⟨rfl, trivial⟩, ?_⟩ | refine ⟨fun _ _ => trivial, ?_⟩ | refine ⟨by omega, ?_⟩ | refine ⟨fun _ _ => eqC_winS, ?_⟩ | refine ⟨fun _ _ => eqC_winM, ?_⟩ | refine ⟨fun _ _ => eqC_winB, ?_⟩ | refine ⟨fun _ _ => eqC_selfB, ?_⟩ | refine ⟨fun _ _ => eqC_mpB, ?_⟩)
        refine ⟨fun j hj => ?_, trivial⟩
        rw [h2]
        exact eqC_selfB
      · have hlt : 7 - (k : Int) ≥ 0 := of_decide_eq_true h
        refine ⟨by decide, ⟨by omega, by simp [scale], by show _ * 1 ≤ _; omega⟩, fun c' hc' => ?_⟩
        refine ⟨⟨by omega, by omega⟩, (k + 1, c'), [0, 1, 2, 5], ⟨⟨rfl, rfl, rfl⟩, ?_⟩, by omega, by dsimp only; omega⟩
        (repeat first | exact trivial | refine ⟨rfl, ?_⟩ | refine ⟨fun _ _ => ⟨rfl, trivial⟩, ?_⟩ | refine ⟨fun _ _ => trivial, ?_⟩ | refine ⟨by omega, ?_⟩ | refine ⟨fun _ _ => eqC_winS, ?_⟩ | refine ⟨fun _ _ => eqC_winM, ?_⟩ | refine ⟨fun _ _ => eqC_winB, ?_⟩ | refine ⟨fun _ _ => eqC_selfB, ?_⟩ | refine ⟨fun _ _ => eqC_mpB, ?_⟩)
        refine ⟨fun j hj => eqC_bytes (app1 (fun _ h => bytesF_lt h) ?_) j, trivial⟩
        show SC.w8 (((a * 8#64) >>> (8#64 * BitVec.ofInt 64 (7 - (k : Int))).toNat).setWidth 8) = _
        rw [shAmt8 k (by omega)]
        unfold padB
        rw [if_neg (by omega), if_neg (by omega), show padP d.h + k - padP d.h = k by omega]
      · obtain rfl : k = 8 := by have : ¬ 7 - (k : Int) ≥ 0 := of_decide_eq_false h; omega
        refine ⟨by kernel_rfl, call_same (fn_swrite false (padP d.h + 8) c c 0 (padB (padP d.h) (a * 8#64)) d a hd (by omega) (by omega) (fun h => Bool.noConfusion h)) [0, 3, 1] rfl (by (repeat first | exact trivial | refine ⟨rfl, ?_⟩ | refine ⟨fun _ _ => ⟨rfl, trivial⟩, ?_⟩ | refine ⟨fun _ _ => trivial, ?_⟩ | refine ⟨by omega, ?_⟩ | refine ⟨fun _ _ => eqC_winS, ?_⟩ | refine ⟨fun _ _ => eqC_winM, ?_⟩ | refine ⟨fun _ _ => eqC_winB, ?_⟩ | refine ⟨fun _ _ => eqC_selfB, ?_⟩ | refine ⟨fun _ _ => eqC_mpB, ?_⟩)) ?_ (fun _ _ => trivial) ?_⟩
        · (repeat first | exact trivial | refine ⟨rfl, ?_⟩ | refine ⟨fun _ _ => ⟨rfl, trivial⟩, ?_⟩ | refine ⟨fun _ _ => trivial, ?_⟩ | refine ⟨by omega, ?_⟩ | refine ⟨fun _ _ => eqC_winS, ?_⟩ | refine ⟨fun _ _ => eqC_winM, ?_⟩ | refine ⟨fun _ _ => eqC_winB, ?_⟩ | refine ⟨fun _ _ => eqC_selfB, ?_⟩ | refine ⟨fun _ _ => eqC_mpB, ?_⟩)
        · rintro x hs ⟨rfl, rfl⟩
          obtain ⟨D, hD⟩ : ∃ D, pushN d (padB (padP d.h) (a * 8#64)) (padP d.h + 8) = D := ⟨_, rfl⟩
          rw [hD]
          (repeat first | refine ⟨by omega, ?_⟩ | refine ⟨by decide, ?_⟩ | refine ⟨idx8 _, ?_⟩ | refine ⟨lt8 (Nat.le_refl _) _, ?_⟩ | refine ⟨rfl, ?_⟩)
          refine .inl ⟨Nat, fun k => ⟨[.any, .any, .a (.c (.p 2 0 0)), .any, .any, .any, .a (.c (.p 4 0 0)), .any, .any, .any, .any, .any, .any, .any, .any, .any, .any, .any, .any, .any, .any, .any, .any, .any, .any, .any, .any, .any, .any, .any, .any, .any, .any, .any, .any, .any, .any, .any, .any, .any, .any, .any, .any, .any, .any, .any, .any, .a (.agg [.row 8 fun j => .w32 (D.V j)]), .a (.c (.int .i64 (↑k))), .any, .any, .any, .any, .any, .any, .any, .any, .any, .any, .any, .any, .any, .any, .any, .any, .any, .any, .any, .any, .any], [shaT 1 0 first steps, digC 0 D.V D.P D.h (a + BitVec.ofNat 64 (padP d.h + 8)), [.row 32 fun _ => .w8 0#8], [], [.row 32 fun i => .w8 (if i < 4 * k then outW D.V i else 0#8)]]⟩,
            fun k => k ≤ 8, fun k => 8 - k, ⟨0, [0, 1, 2, 3, 4], ⟨⟨rfl, rfl, rfl⟩, ?_⟩, by omega⟩, fun k hk => ⟨fun h => ?_, fun h => ?_⟩⟩
          · (repeat first | exact trivial | refine ⟨rfl, ?_⟩ | refine ⟨fun _ _ => ⟨rfl, trivial⟩, ?_⟩ | refine ⟨fun _ _ => trivial, ?_⟩ | refine ⟨by omega, ?_⟩ | refine ⟨fun _ _ => eqC_winS, ?_⟩ | refine ⟨fun _ _ => eqC_winM, ?_⟩ | refine ⟨fun _ _ => eqC_winB, ?_⟩ | refine ⟨fun _ _ => eqC_selfB, ?_⟩ | refine ⟨fun _ _ => eqC_mpB, ?_⟩)
          · have hlt : (k : Int) < 8 := of_decide_eq_true h
            (repeat first | refine ⟨by omega, ?_⟩ | refine ⟨by decide, ?_⟩ | refine ⟨idx8 _, ?_⟩ | refine ⟨lt8 (Nat.le_refl _) _, ?_⟩ | refine ⟨rfl, ?_⟩)
            refine .inl ⟨Nat, fun m => ⟨[.any, .any, .a (.c (.p 2 0 0)), .any, .any, .any, .a (.c (.p 4 0 0)), .a (.c (.int .i64 (↑k))), .a (.c (.w32 ((D.V k)))), .any, .any, .any, .any, .any, .any, .any, .any, .any, .any, .any, .any, .any, .any, .any, .any, .any, .any, .any, .any, .any, .any, .any, .any, .any, .any, .any, .any, .any, .any, .any, .any, .any, .any, .any, .any, .any, .any, .a (.agg [.row 8 fun j => .w32 (D.V j)]), .a (.c (.int .i64 (↑k))), .any, .any, .any, .a (.c (.int .i64 (↑m))), .any, .any, .any, .any, .any, .any, .any, .any, .any, .any, .any, .any, .any, .any, .any, .any, .any], [shaT 1 0 first steps, digC 0 D.V D.P D.h (a + BitVec.ofNat 64 (padP d.h + 8)), [.row 32 fun _ => .w8 0#8], [], [.row 32 fun i => .w8 (if i < 4 * k + m then outW D.V i else 0#8)]]⟩,
              fun m => m ≤ 4, fun m => 4 - m, ⟨0, [0, 1, 2, 3, 4], ⟨⟨rfl, rfl, rfl⟩, ?_⟩, by omega⟩, fun m hm => ⟨fun h => ?_, fun h => ?_⟩⟩
            · (repeat first | exact trivial | refine ⟨rfl, ?_⟩ | refine ⟨fun _ _ => ⟨rfl, trivial⟩, ?_⟩ | refine ⟨fun _ _ => trivial, ?_⟩ | refine ⟨by omega, ?_⟩ | refine ⟨fun _ _ => eqC_winS, ?_⟩ | refine ⟨fun _ _ => eqC_winM, ?_⟩ | refine ⟨fun _ _ => eqC_winB, ?_⟩ | refine ⟨fun _ _ => eqC_selfB, ?_⟩ | refine ⟨fun _ _ => eqC_mpB, ?_⟩)
            · have hlt : (m : Int) < 4 := of_decide_eq_true h
              (repeat first | refine ⟨by omega, ?_⟩ | refine ⟨by decide, ?_⟩ | refine ⟨idx8 _, ?_⟩ | refine ⟨lt8 (Nat.le_refl _) _, ?_⟩)
              refine ⟨rfl, ⟨by omega, by omega⟩, m + 1, [0, 1, 2, 3, 4], ⟨⟨rfl, rfl, rfl⟩, ?_⟩, by dsimp only; omega, by dsimp only; omega⟩
              (repeat first | exact trivial | refine ⟨rfl, ?_⟩ | refine ⟨fun _ _ => ⟨rfl, trivial⟩, ?_⟩ | refine ⟨fun _ _ => trivial, ?_⟩ | refine ⟨by omega, ?_⟩ | refine ⟨fun _ _ => eqC_winS, ?_⟩ | refine ⟨fun _ _ => eqC_winM, ?_⟩ | refine ⟨fun _ _ => eqC_winB, ?_⟩ | refine ⟨fun _ _ => eqC_selfB, ?_⟩ | refine ⟨fun _ _ => eqC_mpB, ?_⟩)
              refine ⟨fun j hj => ?_, trivial⟩
              have e0 : (4 * (k : Int) + (m : Int)).toNat + 0 = 4 * k + m := by omega
              rw [e0, shAmt4 m (by omega)]
              unfold upd
              by_cases hj2 : j = 4 * k + m
              · rw [if_pos hj2, hj2]
                refine eqC_w8 (congrArg SC.w8 ?_)
                show _ = if 4 * k + m < 4 * k + (m + 1) then _ else _
                rw [if_pos (by omega)]
                unfold outW
                rw [show (4 * k + m) / 4 = k by omega, show (4 * k + m) % 4 = m by omega]
              · rw [if_neg hj2]
                have : j < 4 * k + (m + 1) ↔ j < 4 * k + m := by omega
                refine eqC_w8 (congrArg SC.w8 ?_)
                simp only [this]
            · obtain rfl : m = 4 := by have : ¬ (m : Int) < 4 := of_decide_eq_false h; have hm : m ≤ 4 := hm; omega
              refine ⟨⟨by omega, by omega⟩, k + 1, [0, 1, 2, 3, 4], ⟨⟨rfl, rfl, rfl⟩, ?_⟩, by dsimp only; omega, by dsimp only; omega⟩
              (repeat first | exact trivial | refine ⟨rfl, ?_⟩ | refine ⟨fun _ _ => ⟨rfl, trivial⟩, ?_⟩ | refine ⟨fun _ _ => trivial, ?_⟩ | refine ⟨by omega, ?_⟩ | refine ⟨fun _ _ => eqC_winS, ?_⟩ | refine ⟨fun _ _ => eqC_winM, ?_⟩ | refine ⟨fun _ _ => eqC_winB, ?_⟩ | refine ⟨fun _ _ => eqC_selfB, ?_⟩ | refine ⟨fun _ _ => eqC_mpB, ?_⟩)
          · obtain rfl : k = 8 := by have : ¬ (k : Int) < 8 := of_decide_eq_false h; have hk : k ≤ 8 := hk; omega
            (repeat first | refine ⟨by omega, ?_⟩ | refine ⟨by decide, ?_⟩ | refine ⟨idx8 _, ?_⟩ | refine ⟨lt8 (Nat.le_refl _) _, ?_⟩ | refine ⟨rfl, ?_⟩)
            refine ⟨.a (.agg [.row 32 fun i => .w8 (endV d a i)]), [shaT 1 0 first steps, digC 0 D.V D.P D.h (a + BitVec.ofNat 64 (padP d.h + 8))], ⟨[0, 1], ⟨rfl, rfl, rfl⟩, ?_⟩, rfl, D.V, D.P, D.h, a + BitVec.ofNat 64 (padP d.h + 8), rfl⟩
            (repeat first | exact trivial | refine ⟨rfl, ?_⟩ | refine ⟨fun _ _ => ⟨rfl, trivial⟩, ?_⟩ | refine ⟨fun _ _ => trivial, ?_⟩ | refine ⟨by omega, ?_⟩ | refine ⟨fun _ _ => eqC_winS, ?_⟩ | refine ⟨fun _ _ => eqC_winM, ?_⟩ | refine ⟨fun _ _ => eqC_winB, ?_⟩ | refine ⟨fun _ _ => eqC_selfB, ?_⟩ | refine ⟨fun _ _ => eqC_mpB, ?_⟩)
            refine ⟨fun j hj => eqC_w8 (congrArg SC.w8 ?_), ?_⟩
            · show (if j + 0 + 0 < 4 * 8 then outW D.V (j + 0 + 0) else 0#8) = endV d a j
              rw [if_pos (by omega)]
              unfold endV endD
              rw [hD]
              rfl
            · (repeat first | exact trivial | refine ⟨rfl, ?_⟩ | refine ⟨fun _ _ => ⟨rfl, trivial⟩, ?_⟩ | refine ⟨fun _ _ => trivial, ?_⟩ | refine ⟨by omega, ?_⟩ | refine ⟨fun _ _ => eqC_winS, ?_⟩ | refine ⟨fun _ _ => eqC_winM, ?_⟩ | refine ⟨fun _ _ => eqC_winB, ?_⟩ | refine ⟨fun _ _ => eqC_selfB, ?_⟩ | refine ⟨fun _ _ => eqC_mpB, ?_⟩)
end Sx
end Go.Proofs.Ytndlhhhebijknaa
