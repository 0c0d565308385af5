/-
  Texts of this claim, part 5: ShaE, ShaL, ShaS, ShaT, ShaK, ShaQ. No condition of its own.
-/
import Derived.Test.YtndlhhhebijknaaG4
section
/-
  SHA-256: the end of a sum. No condition.
-/
namespace Go.Proofs.Ytndlhhhebijknaa
set_option linter.unusedVariables false
namespace Sha
/-- How many bytes come ahead of the size. -/
def padP (h : Nat) : Nat := if h < 56 then 56 - h else 120 - h
def padB (p : Nat) (m : BitVec 64) (i : Nat) : BitVec 8 := if i = 0 then 128#8 else if i < p then 0#8 else (m >>> (8 * (7 - (i - p)))).setWidth 8
def outW (V : Nat → BitVec 32) (i : Nat) : BitVec 8 := (V (i / 4) >>> (8 * (3 - i % 4))).setWidth 8
def endD (d : Dg) (a : BitVec 64) : Dg := pushN d (padB (padP d.h) (a * 8#64)) (padP d.h + 8)
def endV (d : Dg) (a : BitVec 64) (i : Nat) : BitVec 8 := outW (endD d a).V i
theorem padP_iff {h k : Nat} (hh : h < 64) (hk : k + 1 ≤ padP h) : (h + (k + 1)) % 64 = 56 ↔ k + 1 = padP h := by
  unfold padP at *
  by_cases h5 : h < 56
  · rw [if_pos h5] at *; constructor <;> intro _ <;> omega
  · rw [if_neg h5] at *; constructor <;> intro _ <;> omega
theorem padP_le {h : Nat} (hh : h < 64) : 1 ≤ padP h ∧ padP h ≤ 64 := by unfold padP; split <;> omega
end Sha
namespace Sx
open Sha

theorem app1 {f : Nat → SC} {n : Nat} {b : Nat → BitVec 8} {g : Nat → SC} (hf : ∀ j, j < n → f j = .w8 (b j)) (hg : g 0 = .w8 (b n)) (i : Nat) (hi : i < n + 1) :
    appF f 0 (scale n (0 + 1)) (scale 1 (0 + 1)) g i = .w8 (b i) := by
  unfold appF
  by_cases hik : i < n
  · rw [if_pos (by simpa [scale] using hik), Nat.add_zero, hf i hik]
  · obtain rfl : i = n := by omega
    rw [if_neg (by simp [scale]), if_pos (by simp [scale]), show i - scale i (0 + 1) = 0 from Nat.sub_self _, hg]
theorem of_decide_eq_false' {p : Prop} [Decidable p] (h : decide (¬ p) = false) : p := Decidable.not_not.1 (of_decide_eq_false h)
theorem shAmt8 : ∀ k : Nat, k < 8 → (8#64 * BitVec.ofInt 64 (7 - (k : Int))).toNat = 8 * (7 - k) := by decide +kernel
theorem shAmt4 : ∀ k : Nat, k < 4 → (8#64 * BitVec.ofInt 64 (3 - (k : Int))).toNat = 8 * (3 - k) := by decide +kernel
set_option maxRecDepth 20000 in
theorem fn_send (d : Dg) (a : BitVec 64) (hd : d.h < 64) :
    FnR Try.prog tds 51 1 [shaT 1 0 first steps, digC 0 d.V d.P d.h a] [.c (.p 1 0 0)] (fun _ => True)
      (fun x hs => x = .a (.agg [.row 32 fun i => .w8 (endV d a i)]) ∧ ∃ (V' : Nat → BitVec 32) (P' : Nat → BitVec 8) (h' : Nat) (a' : BitVec 64), hs = [shaT 1 0 first steps, digC 0 V' P' h' a']) := by
  refine fn_of_body tds_ok follows_ Try.func51 rfl (t := [.a (.c (.p 1 0 0)), .any, .any, .any, .any, .any, .any, .any, .any, .any, .any, .any, .any, .any, .any, .any, .any, .any, .any, .any, .any, .any, .any, .any, .any, .any, .any, .any, .any, .any, .any, .any, .any, .any, .any, .any, .any, .any, .any, .any, .any, .any, .any, .any, .any, .any, .any, .any, .any, .any, .any, .any, .any, .any, .any, .any, .any, .any, .any, .any, .any, .any, .any, .any, .any, .any, .any, .any, .any, .any]) rfl (fun w r0 hr _ => ?_)
  obtain ⟨x0, x1, rfl⟩ := len2' hr
  have hpl := padP_le hd
  refine .inl ⟨Nat × Nat, fun (k, c) => ⟨[.a (.c (.p 1 0 0)), .any, .a (.c (.p 2 0 0)), .a (.c (.w64 ((a * 8#64)))), .a (.c (.sl 3 0 0 (k+1) c)), .any, .any, .any, .any, .any, .any, .any, .any, .any, .any, .any, .any, .any, .any, .any, .any, .any, .any, .any, .any, .any, .any, .any, .any, .any, .any, .any, .any, .any, .any, .any, .any, .any, .any, .any, .any, .any, .any, .any, .any, .any, .any, .any, .any, .any, .any, .any, .any, .any, .any, .any, .any, .any, .any, .any, .any, .any, .any, .any, .any, .any, .any, .any, .any, .any], [shaT 1 0 first steps, digC 0 d.V d.P d.h a, [.row 32 fun _ => .w8 0#8], [.row c (bytesF (k + 1) (padB (padP d.h) (a * 8#64)))]]⟩,
    fun (k, c) => k + 1 ≤ padP d.h ∧ k + 1 ≤ c, fun (k, _) => 64 - k, ⟨(0, 1), [0, 1, 2, 3], ⟨⟨rfl, rfl, rfl⟩, ?_⟩, by omega, by omega⟩, fun (k, c) ⟨hk, hc⟩ => ?_⟩
  · (repeat first | exact trivial | refine ⟨rfl, ?_⟩ | refine ⟨fun _ _ => ⟨rfl, trivial⟩, ?_⟩ | refine ⟨fun _ _ => trivial, ?_⟩ | refine ⟨by omega, ?_⟩ | refine ⟨fun _ _ => eqC_winS, ?_⟩ | refine ⟨fun _ _ => eqC_winM, ?_⟩ | refine ⟨fun _ _ => eqC_winB, ?_⟩ | refine ⟨fun _ _ => eqC_selfB, ?_⟩ | refine ⟨fun _ _ => eqC_mpB, ?_⟩)
    exact ⟨fun j hj => eqC_bytes (fun i hi => by obtain rfl : i = 0 := by omega
                                                 rfl) j, trivial⟩
  · (repeat first | refine ⟨by omega, ?_⟩ | refine ⟨by decide, ?_⟩ | refine ⟨idx8 _, ?_⟩ | refine ⟨lt8 (Nat.le_refl _) _, ?_⟩ | refine ⟨rfl, ?_⟩)
    have e1 : ((d.h : Int) + ((k + 1 : Nat) : Int)) % 64 = (((d.h + (k + 1)) % 64 : Nat) : Int) := by omega
    refine ⟨fun h => ?_, fun h => ?_⟩
    · have h1 : ¬ ((d.h : Int) + ((k + 1 : Nat) : Int)) % 64 = 56 := of_decide_eq_true h
      have h2 := mt (padP_iff hd hk).2
      have h3 : k + 1 < padP d.h := by omega
      refine ⟨by decide, ⟨by omega, by simp [scale], by show _ * 1 ≤ _; omega⟩, fun c' hc' => ?_⟩
      refine ⟨(k + 1, c'), [0, 1, 2, 5], ⟨⟨rfl, rfl, rfl⟩, ?_⟩, by omega, by dsimp only; omega⟩
      (repeat first | exact trivial | refine ⟨rfl, ?_⟩ | refine ⟨fun _ _ => ⟨rfl, trivial⟩, ?_⟩ | refine ⟨fun _ _ => trivial, ?_⟩ | refine ⟨by omega, ?_⟩ | refine ⟨fun _ _ => eqC_winS, ?_⟩ | refine ⟨fun _ _ => eqC_winM, ?_⟩ | refine ⟨fun _ _ => eqC_winB, ?_⟩ | refine ⟨fun _ _ => eqC_selfB, ?_⟩ | refine ⟨fun _ _ => eqC_mpB, ?_⟩)
      exact ⟨fun j hj => eqC_bytes (app1 (fun _ h => bytesF_lt h) (by show SC.w8 0#8 = _; unfold padB; rw [if_neg (by omega), if_pos h3])) j, trivial⟩
    · have h1 : ((d.h : Int) + ((k + 1 : Nat) : Int)) % 64 = 56 := of_decide_eq_false' h
      have h2 : k + 1 = padP d.h := (padP_iff hd hk).1 (by omega)
      refine .inl ⟨Nat × Nat, fun (k, c) => ⟨[.a (.c (.p 1 0 0)), .any, .a (.c (.p 2 0 0)), .a (.c (.w64 ((a * 8#64)))), .a (.c (.sl 3 0 0 (padP d.h + k) c)), .a (.c (.int .i64 (7 - (k : Int)))), .any, .any, .any, .any, .any, .any, .any, .any, .any, .any, .any, .any, .any, .any, .any, .any, .any, .any, .any, .any, .any, .any, .any, .any, .any, .any, .any, .any, .any, .any, .any, .any, .any, .any, .any, .any, .any, .any, .any, .any, .any, .any, .any, .any, .any, .any, .any, .any, .any, .any, .any, .any, .any, .any, .any, .any, .any, .any, .any, .any, .any, .any, .any, .any], [shaT 1 0 first steps, digC 0 d.V d.P d.h a, [.row 32 fun _ => .w8 0#8], [.row c (bytesF (padP d.h + k) (padB (padP d.h) (a * 8#64)))]]⟩,
        fun (k, c) => k ≤ 8 ∧ padP d.h + k ≤ c, fun (k, _) => 64 - k, ⟨(0, c), [0, 1, 2, 3], ⟨⟨rfl, rfl, rfl⟩, ?_⟩, by omega, by omega⟩, fun (k, c) ⟨hk, hc⟩ => ⟨fun h => ?_, fun h => ?_⟩⟩
      · (repeat first | exact trivial | refine ⟨rfl, ?_⟩ | refine ⟨fun _ _ => ⟨rfl, trivial⟩, ?_⟩ | refine ⟨fun _ _ => trivial, ?_⟩ | refine ⟨by omega, ?_⟩ | refine ⟨fun _ _ => eqC_winS, ?_⟩ | refine ⟨fun _ _ => eqC_winM, ?_⟩ | refine ⟨fun _ _ => eqC_winB, ?_⟩ | refine ⟨fun _ _ => eqC_selfB, ?_⟩ | refine ⟨fun _ _ => eqC_mpB, ?_⟩)
        refine ⟨fun j hj => ?_, trivial⟩
        rw [h2]
        exact eqC_selfB
      · have hlt : 7 - (k : Int) ≥ 0 := of_decide_eq_true h
        refine ⟨by decide, ⟨by omega, by simp [scale], by show _ * 1 ≤ _; omega⟩, fun c' hc' => ?_⟩
        refine ⟨⟨by omega, by omega⟩, (k + 1, c'), [0, 1, 2, 5], ⟨⟨rfl, rfl, rfl⟩, ?_⟩, by omega, by dsimp only; omega⟩
        (repeat first | exact trivial | refine ⟨rfl, ?_⟩ | refine ⟨fun _ _ => ⟨rfl, trivial⟩, ?_⟩ | refine ⟨fun _ _ => trivial, ?_⟩ | refine ⟨by omega, ?_⟩ | refine ⟨fun _ _ => eqC_winS, ?_⟩ | refine ⟨fun _ _ => eqC_winM, ?_⟩ | refine ⟨fun _ _ => eqC_winB, ?_⟩ | refine ⟨fun _ _ => eqC_selfB, ?_⟩ | refine ⟨fun _ _ => eqC_mpB, ?_⟩)
        refine ⟨fun j hj => eqC_bytes (app1 (fun _ h => bytesF_lt h) ?_) j, trivial⟩
        show SC.w8 (((a * 8#64) >>> (8#64 * BitVec.ofInt 64 (7 - (k : Int))).toNat).setWidth 8) = _
        rw [shAmt8 k (by omega)]
        unfold padB
        rw [if_neg (by omega), if_neg (by omega), show padP d.h + k - padP d.h = k by omega]
      · obtain rfl : k = 8 := by have : ¬ 7 - (k : Int) ≥ 0 := of_decide_eq_false h; omega
        refine ⟨by kernel_rfl, call_same (fn_swrite false (padP d.h + 8) c c 0 (padB (padP d.h) (a * 8#64)) d a hd (by omega) (by omega) (fun h => Bool.noConfusion h)) [0, 3, 1] rfl (by (repeat first | exact trivial | refine ⟨rfl, ?_⟩ | refine ⟨fun _ _ => ⟨rfl, trivial⟩, ?_⟩ | refine ⟨fun _ _ => trivial, ?_⟩ | refine ⟨by omega, ?_⟩ | refine ⟨fun _ _ => eqC_winS, ?_⟩ | refine ⟨fun _ _ => eqC_winM, ?_⟩ | refine ⟨fun _ _ => eqC_winB, ?_⟩ | refine ⟨fun _ _ => eqC_selfB, ?_⟩ | refine ⟨fun _ _ => eqC_mpB, ?_⟩)) ?_ (fun _ _ => trivial) ?_⟩
        · (repeat first | exact trivial | refine ⟨rfl, ?_⟩ | refine ⟨fun _ _ => ⟨rfl, trivial⟩, ?_⟩ | refine ⟨fun _ _ => trivial, ?_⟩ | refine ⟨by omega, ?_⟩ | refine ⟨fun _ _ => eqC_winS, ?_⟩ | refine ⟨fun _ _ => eqC_winM, ?_⟩ | refine ⟨fun _ _ => eqC_winB, ?_⟩ | refine ⟨fun _ _ => eqC_selfB, ?_⟩ | refine ⟨fun _ _ => eqC_mpB, ?_⟩)
        · rintro x hs ⟨rfl, rfl⟩
          obtain ⟨D, hD⟩ : ∃ D, pushN d (padB (padP d.h) (a * 8#64)) (padP d.h + 8) = D := ⟨_, rfl⟩
          rw [hD]
          (repeat first | refine ⟨by omega, ?_⟩ | refine ⟨by decide, ?_⟩ | refine ⟨idx8 _, ?_⟩ | refine ⟨lt8 (Nat.le_refl _) _, ?_⟩ | refine ⟨rfl, ?_⟩)
          refine .inl ⟨Nat, fun k => ⟨[.any, .any, .a (.c (.p 2 0 0)), .any, .any, .any, .a (.c (.p 4 0 0)), .any, .any, .any, .any, .any, .any, .any, .any, .any, .any, .any, .any, .any, .any, .any, .any, .any, .any, .any, .any, .any, .any, .any, .any, .any, .any, .any, .any, .any, .any, .any, .any, .any, .any, .any, .any, .any, .any, .any, .any, .a (.agg [.row 8 fun j => .w32 (D.V j)]), .a (.c (.int .i64 (↑k))), .any, .any, .any, .any, .any, .any, .any, .any, .any, .any, .any, .any, .any, .any, .any, .any, .any, .any, .any, .any, .any], [shaT 1 0 first steps, digC 0 D.V D.P D.h (a + BitVec.ofNat 64 (padP d.h + 8)), [.row 32 fun _ => .w8 0#8], [], [.row 32 fun i => .w8 (if i < 4 * k then outW D.V i else 0#8)]]⟩,
            fun k => k ≤ 8, fun k => 8 - k, ⟨0, [0, 1, 2, 3, 4], ⟨⟨rfl, rfl, rfl⟩, ?_⟩, by omega⟩, fun k hk => ⟨fun h => ?_, fun h => ?_⟩⟩
          · (repeat first | exact trivial | refine ⟨rfl, ?_⟩ | refine ⟨fun _ _ => ⟨rfl, trivial⟩, ?_⟩ | refine ⟨fun _ _ => trivial, ?_⟩ | refine ⟨by omega, ?_⟩ | refine ⟨fun _ _ => eqC_winS, ?_⟩ | refine ⟨fun _ _ => eqC_winM, ?_⟩ | refine ⟨fun _ _ => eqC_winB, ?_⟩ | refine ⟨fun _ _ => eqC_selfB, ?_⟩ | refine ⟨fun _ _ => eqC_mpB, ?_⟩)
          · have hlt : (k : Int) < 8 := of_decide_eq_true h
            (repeat first | refine ⟨by omega, ?_⟩ | refine ⟨by decide, ?_⟩ | refine ⟨idx8 _, ?_⟩ | refine ⟨lt8 (Nat.le_refl _) _, ?_⟩ | refine ⟨rfl, ?_⟩)
            refine .inl ⟨Nat, fun m => ⟨[.any, .any, .a (.c (.p 2 0 0)), .any, .any, .any, .a (.c (.p 4 0 0)), .a (.c (.int .i64 (↑k))), .a (.c (.w32 ((D.V k)))), .any, .any, .any, .any, .any, .any, .any, .any, .any, .any, .any, .any, .any, .any, .any, .any, .any, .any, .any, .any, .any, .any, .any, .any, .any, .any, .any, .any, .any, .any, .any, .any, .any, .any, .any, .any, .any, .any, .a (.agg [.row 8 fun j => .w32 (D.V j)]), .a (.c (.int .i64 (↑k))), .any, .any, .any, .a (.c (.int .i64 (↑m))), .any, .any, .any, .any, .any, .any, .any, .any, .any, .any, .any, .any, .any, .any, .any, .any, .any], [shaT 1 0 first steps, digC 0 D.V D.P D.h (a + BitVec.ofNat 64 (padP d.h + 8)), [.row 32 fun _ => .w8 0#8], [], [.row 32 fun i => .w8 (if i < 4 * k + m then outW D.V i else 0#8)]]⟩,
              fun m => m ≤ 4, fun m => 4 - m, ⟨0, [0, 1, 2, 3, 4], ⟨⟨rfl, rfl, rfl⟩, ?_⟩, by omega⟩, fun m hm => ⟨fun h => ?_, fun h => ?_⟩⟩
            · (repeat first | exact trivial | refine ⟨rfl, ?_⟩ | refine ⟨fun _ _ => ⟨rfl, trivial⟩, ?_⟩ | refine ⟨fun _ _ => trivial, ?_⟩ | refine ⟨by omega, ?_⟩ | refine ⟨fun _ _ => eqC_winS, ?_⟩ | refine ⟨fun _ _ => eqC_winM, ?_⟩ | refine ⟨fun _ _ => eqC_winB, ?_⟩ | refine ⟨fun _ _ => eqC_selfB, ?_⟩ | refine ⟨fun _ _ => eqC_mpB, ?_⟩)
            · have hlt : (m : Int) < 4 := of_decide_eq_true h
              (repeat first | refine ⟨by omega, ?_⟩ | refine ⟨by decide, ?_⟩ | refine ⟨idx8 _, ?_⟩ | refine ⟨lt8 (Nat.le_refl _) _, ?_⟩)
              refine ⟨rfl, ⟨by omega, by omega⟩, m + 1, [0, 1, 2, 3, 4], ⟨⟨rfl, rfl, rfl⟩, ?_⟩, by dsimp only; omega, by dsimp only; omega⟩
              (repeat first | exact trivial | refine ⟨rfl, ?_⟩ | refine ⟨fun _ _ => ⟨rfl, trivial⟩, ?_⟩ | refine ⟨fun _ _ => trivial, ?_⟩ | refine ⟨by omega, ?_⟩ | refine ⟨fun _ _ => eqC_winS, ?_⟩ | refine ⟨fun _ _ => eqC_winM, ?_⟩ | refine ⟨fun _ _ => eqC_winB, ?_⟩ | refine ⟨fun _ _ => eqC_selfB, ?_⟩ | refine ⟨fun _ _ => eqC_mpB, ?_⟩)
              refine ⟨fun j hj => ?_, trivial⟩
              have e0 : (4 * (k : Int) + (m : Int)).toNat + 0 = 4 * k + m := by omega
              rw [e0, shAmt4 m (by omega)]
              unfold upd
              by_cases hj2 : j = 4 * k + m
              · rw [if_pos hj2, hj2]
                refine eqC_w8 (congrArg SC.w8 ?_)
                show _ = if 4 * k + m < 4 * k + (m + 1) then _ else _
                rw [if_pos (by omega)]
                unfold outW
                rw [show (4 * k + m) / 4 = k by omega, show (4 * k + m) % 4 = m by omega]
              · rw [if_neg hj2]
                have : j < 4 * k + (m + 1) ↔ j < 4 * k + m := by omega
                refine eqC_w8 (congrArg SC.w8 ?_)
                simp only [this]
            · obtain rfl : m = 4 := by have : ¬ (m : Int) < 4 := of_decide_eq_false h; have hm : m ≤ 4 := hm; omega
              refine ⟨⟨by omega, by omega⟩, k + 1, [0, 1, 2, 3, 4], ⟨⟨rfl, rfl, rfl⟩, ?_⟩, by dsimp only; omega, by dsimp only; omega⟩
              (repeat first | exact trivial | refine ⟨rfl, ?_⟩ | refine ⟨fun _ _ => ⟨rfl, trivial⟩, ?_⟩ | refine ⟨fun _ _ => trivial, ?_⟩ | refine ⟨by omega, ?_⟩ | refine ⟨fun _ _ => eqC_winS, ?_⟩ | refine ⟨fun _ _ => eqC_winM, ?_⟩ | refine ⟨fun _ _ => eqC_winB, ?_⟩ | refine ⟨fun _ _ => eqC_selfB, ?_⟩ | refine ⟨fun _ _ => eqC_mpB, ?_⟩)
          · obtain rfl : k = 8 := by have : ¬ (k : Int) < 8 := of_decide_eq_false h; have hk : k ≤ 8 := hk; omega
            (repeat first | refine ⟨by omega, ?_⟩ | refine ⟨by decide, ?_⟩ | refine ⟨idx8 _, ?_⟩ | refine ⟨lt8 (Nat.le_refl _) _, ?_⟩ | refine ⟨rfl, ?_⟩)
            refine ⟨.a (.agg [.row 32 fun i => .w8 (endV d a i)]), [shaT 1 0 first steps, digC 0 D.V D.P D.h (a + BitVec.ofNat 64 (padP d.h + 8))], ⟨[0, 1], ⟨rfl, rfl, rfl⟩, ?_⟩, rfl, D.V, D.P, D.h, a + BitVec.ofNat 64 (padP d.h + 8), rfl⟩
            (repeat first | exact trivial | refine ⟨rfl, ?_⟩ | refine ⟨fun _ _ => ⟨rfl, trivial⟩, ?_⟩ | refine ⟨fun _ _ => trivial, ?_⟩ | refine ⟨by omega, ?_⟩ | refine ⟨fun _ _ => eqC_winS, ?_⟩ | refine ⟨fun _ _ => eqC_winM, ?_⟩ | refine ⟨fun _ _ => eqC_winB, ?_⟩ | refine ⟨fun _ _ => eqC_selfB, ?_⟩ | refine ⟨fun _ _ => eqC_mpB, ?_⟩)
            refine ⟨fun j hj => eqC_w8 (congrArg SC.w8 ?_), ?_⟩
            · show (if j + 0 + 0 < 4 * 8 then outW D.V (j + 0 + 0) else 0#8) = endV d a j
              rw [if_pos (by omega)]
              unfold endV endD
              rw [hD]
              rfl
            · (repeat first | exact trivial | refine ⟨rfl, ?_⟩ | refine ⟨fun _ _ => ⟨rfl, trivial⟩, ?_⟩ | refine ⟨fun _ _ => trivial, ?_⟩ | refine ⟨by omega, ?_⟩ | refine ⟨fun _ _ => eqC_winS, ?_⟩ | refine ⟨fun _ _ => eqC_winM, ?_⟩ | refine ⟨fun _ _ => eqC_winB, ?_⟩ | refine ⟨fun _ _ => eqC_selfB, ?_⟩ | refine ⟨fun _ _ => eqC_mpB, ?_⟩)
end Sx
end Go.Proofs.Ytndlhhhebijknaa
end

section
/-
  SHA-256 of lists of bytes. Plain. No condition.
-/
namespace Go.Proofs.Ytndlhhhebijknaa
set_option linter.unusedVariables false
namespace Sha
abbrev Bs := List (BitVec 8)
def L (l : Bs) (i : Nat) : BitVec 8 := l.getD i 0#8
theorem L_lt {l : Bs} {i : Nat} (h : i < l.length) : L l i = l[i] := by
  unfold L; rw [List.getD_eq_getElem?_getD, List.getElem?_eq_getElem h]; rfl
theorem L_app1 {l m : Bs} {i : Nat} (h : i < l.length) : L (l ++ m) i = L l i := by
  unfold L; rw [List.getD_eq_getElem?_getD, List.getD_eq_getElem?_getD, List.getElem?_append_left h]
theorem L_app2 {l m : Bs} {i : Nat} : L (l ++ m) (l.length + i) = L m i := by
  unfold L; rw [List.getD_eq_getElem?_getD, List.getD_eq_getElem?_getD, List.getElem?_append_right (by omega), Nat.add_sub_cancel_left]
theorem L_app {l m : Bs} {i : Nat} : L (l ++ m) i = if i < l.length then L l i else L m (i - l.length) := by
  split
  · rename_i h; exact L_app1 h
  · rename_i h
    have := @L_app2 l m (i - l.length)
    rwa [show l.length + (i - l.length) = i by omega] at this
theorem L_sub (l : Bs) (o n i : Nat) (h : i < n) : L ((l.drop o).take n) i = L l (o + i) := by
  unfold L; rw [List.getD_eq_getElem?_getD, List.getD_eq_getElem?_getD, List.getElem?_take, if_pos h, List.getElem?_drop]
theorem L_drop (l : Bs) (o i : Nat) : L (l.drop o) i = L l (o + i) := by
  unfold L; rw [List.getD_eq_getElem?_getD, List.getD_eq_getElem?_getD, List.getElem?_drop]
theorem L_take (l : Bs) (n i : Nat) (h : i < n) : L (l.take n) i = L l i := by
  unfold L; rw [List.getD_eq_getElem?_getD, List.getD_eq_getElem?_getD, List.getElem?_take, if_pos h]
/-- The list of some bytes. -/
def tab (n : Nat) (b : Nat → BitVec 8) : Bs := (List.range n).map b
@[simp] theorem tab_len (n : Nat) (b : Nat → BitVec 8) : (tab n b).length = n := by simp [tab]
theorem L_tab {n : Nat} {b : Nat → BitVec 8} {i : Nat} (h : i < n) : L (tab n b) i = b i := by
  unfold L tab; rw [List.getD_eq_getElem?_getD]; simp [h]
theorem ext_L {l m : Bs} (h : l.length = m.length) (k : ∀ i, i < l.length → L l i = L m i) : l = m := by
  apply List.ext_getElem h
  intro i h1 h2
  have := k i h1
  rwa [L_lt h1, L_lt h2] at this
def d0 : Dg := ⟨first, fun _ => 0#8, 0⟩
def pushL (d : Dg) (l : Bs) : Dg := l.foldl push d
theorem pushL_app (d : Dg) (l m : Bs) : pushL d (l ++ m) = pushL (pushL d l) m := List.foldl_append
theorem pushL_lt {d : Dg} (h : d.h < 64) (l : Bs) : (pushL d l).h < 64 := by
  induction l generalizing d with
  | nil => exact h
  | cons x l ih => exact ih (push_lt h x)
theorem pushN_congr {d : Dg} {b b' : Nat → BitVec 8} : ∀ {n : Nat}, (∀ i, i < n → b i = b' i) → pushN d b n = pushN d b' n
  | 0, _ => rfl
  | n + 1, h => by simp only [pushN]; rw [pushN_congr (fun i hi => h i (by omega)), h n (by omega)]
theorem pushN_tab (d : Dg) (b : Nat → BitVec 8) : ∀ n, pushN d b n = pushL d (tab n b)
  | 0 => rfl
  | n + 1 => by
    simp only [pushN]
    rw [pushN_tab d b n]
    unfold tab
    rw [List.range_succ, List.map_append, pushL_app]
    rfl
theorem tab_L {l : Bs} : tab l.length (L l) = l := ext_L (by simp) fun i hi => L_tab (by simpa using hi)
theorem tab_ext {n : Nat} {b : Nat → BitVec 8} {l : Bs} (h : l.length = n) (k : ∀ i, i < n → b i = L l i) : tab n b = l :=
  ext_L (by simp [h]) fun i hi => by rw [tab_len] at hi; rw [L_tab hi, k i hi]
theorem pushN_L (d : Dg) (l : Bs) : pushN d (L l) l.length = pushL d l := by rw [pushN_tab, tab_L]
theorem pushN_of (d : Dg) {b : Nat → BitVec 8} {n : Nat} {l : Bs} (h : l.length = n) (k : ∀ i, i < n → b i = L l i) : pushN d b n = pushL d l := by rw [pushN_tab, tab_ext h k]
def sumL (l : Bs) : Bs := tab 32 (endV (pushL d0 l) (BitVec.ofNat 64 l.length))
@[simp] theorem sumL_len (l : Bs) : (sumL l).length = 32 := tab_len _ _
theorem L_sumL (l : Bs) {i : Nat} (h : i < 32) : L (sumL l) i = endV (pushL d0 l) (BitVec.ofNat 64 l.length) i := L_tab h
/-- The first k parts. -/
def cat (ps : Nat → Bs) : Nat → Bs
  | 0 => []
  | k + 1 => cat ps k ++ ps k
theorem ofNat_add64 (a b : Nat) : BitVec.ofNat 64 a + BitVec.ofNat 64 b = BitVec.ofNat 64 (a + b) := (BitVec.ofNat_add a b).symm
end Sha
end Go.Proofs.Ytndlhhhebijknaa
end

section
/-
  SHA-256: sums of parts. No condition.
-/
namespace Go.Proofs.Ytndlhhhebijknaa
set_option linter.unusedVariables false
namespace Sx
open Sha

/-- Things of which only the first m are known. -/
def partsF (m : Nat) (g : Nat → SC) : Nat → SC := fun i => if i < m then g i else .any
theorem frc_parts {m : Nat} {g : Nat → SC} {i : Nat} {k : SC → Prop} (h : i < m) (hk : frcSC (g i) k) : frcSC (partsF m g i) k := by
  unfold partsF; rw [if_pos h]; exact hk
theorem eqC_parts {q : List Nat} {m : Nat} {f g : Nat → SC} (h : ∀ i, i < m → eqC q (f i) (g i) True) (j : Nat) : eqC q (f j) (partsF m g j) True := by
  unfold partsF
  split
  · exact h j ‹_›
  · trivial
theorem eqC_partsS {q : List Nat} {m : Nat} {g : Nat → SC} (h : ∀ i, i < m → eqC q (g i) (g i) True) {j : Nat} : eqC q (partsF m g j) (partsF m g j) True :=
  eqC_parts (fun i hi => by unfold partsF; rw [if_pos hi]; exact h i hi) j
theorem eqC_parts0 {q : List Nat} {m : Nat} {z : Bool} {a b c : Nat → Nat} {j : Nat} : eqC (0 :: q) (partsF m (fun i => .sn z 0 0 (a i) (b i) (c i)) j) (partsF m (fun i => .sn z 0 0 (a i) (b i) (c i)) j) True :=
  eqC_partsS (q := 0 :: q) (g := fun i => .sn z 0 0 (a i) (b i) (c i)) (fun i hi => ⟨rfl, rfl, rfl, rfl, trivial⟩)
/-- A part of some bytes. -/
def sub (l : Bs) (o n : Nat) : Bs := (l.drop o).take n
set_option maxRecDepth 20000 in
theorem fn_ssum (z : Bool) (N o c cm M m : Nat) (l : Bs) (po pn pc : Nat → Nat) (dn : BitVec 32) (f s : Nat → BitVec 32) (hd : dn = 0#32 ∨ dn = 1#32 ∧ f = first ∧ s = steps)
    (hN : o + l.length ≤ N) (hz : z = true → l = []) (hm : m ≤ M) (hM : m < 9223372036854775808) (hp : ∀ i, i < m → po i + pn i ≤ l.length ∧ pn i ≤ pc i) :
    FnR Try.prog tds 18 2 [bts z N o l.length (L l), [.row M (partsF m fun i => .sn z 0 0 (o + po i) (pn i) (pc i))], shaT dn 0 f s] [.c (.p 2 0 0), .c (.sl 1 0 0 m cm)] (fun _ => True)
      (fun x hs => x = .a (.agg [.row 32 fun i => .w8 (L (sumL (cat (fun i => sub l (po i) (pn i)) m)) i)]) ∧ hs = [bts z N o l.length (L l), [.row M (partsF m fun i => .sn z 0 0 (o + po i) (pn i) (pc i))], shaT 1 0 first steps]) := by
  refine fn_of_body tds_ok follows_ Try.func18 rfl (t := [.a (.c (.p 2 0 0)), .a (.c (.sl 1 0 0 m cm)), .any, .any, .any, .any, .any, .any, .any, .any, .any, .any, .any, .any, .any, .any, .any, .any, .any, .any, .any, .any, .any]) rfl (fun w r0 hr _ => ?_)
  obtain ⟨x0, x1, x2, rfl⟩ := len3' hr
  refine ⟨fun h => Bool.noConfusion h, fun _ => ?_⟩
  refine ⟨by kernel_rfl, call_same (fn_begin dn f s hd) [2] rfl (by (repeat first | exact trivial | refine ⟨rfl, ?_⟩ | refine ⟨fun _ _ => ⟨rfl, trivial⟩, ?_⟩ | refine ⟨fun _ _ => trivial, ?_⟩ | refine ⟨by omega, ?_⟩ | refine ⟨fun _ _ => eqC_winS, ?_⟩ | refine ⟨fun _ _ => eqC_winM, ?_⟩ | refine ⟨fun _ _ => eqC_winB, ?_⟩ | refine ⟨fun _ _ => eqC_selfB, ?_⟩ | refine ⟨fun _ _ => eqC_mpB, ?_⟩)) (by (repeat first | exact trivial | refine ⟨rfl, ?_⟩ | refine ⟨fun _ _ => ⟨rfl, trivial⟩, ?_⟩ | refine ⟨fun _ _ => trivial, ?_⟩ | refine ⟨by omega, ?_⟩ | refine ⟨fun _ _ => eqC_winS, ?_⟩ | refine ⟨fun _ _ => eqC_winM, ?_⟩ | refine ⟨fun _ _ => eqC_winB, ?_⟩ | refine ⟨fun _ _ => eqC_selfB, ?_⟩ | refine ⟨fun _ _ => eqC_mpB, ?_⟩)) (fun _ _ => trivial) ?_⟩
  rintro x hs ⟨rfl, rfl⟩
  (repeat first | refine ⟨by omega, ?_⟩ | refine ⟨by decide, ?_⟩ | refine ⟨idx8 _, ?_⟩ | refine ⟨lt8 (Nat.le_refl _) _, ?_⟩ | refine ⟨rfl, ?_⟩)
  obtain ⟨ps, hps⟩ : ∃ ps, (fun i => sub l (po i) (pn i)) = ps := ⟨_, rfl⟩
  rw [hps]
  refine .inl ⟨Nat, fun k => ⟨[.any, .any, .any, .any, .a (.c (.p 3 0 0)), .a (.c (.p 4 0 0)), .any, .any, .any, .any, .any, .any, .any, .a (.c (.sl 1 0 0 m cm)), .a (.c (.int .i64 (↑m))), .a (.c (.int .i64 (↑k))), .any, .any, .any, .any, .any, .any, .any], [bts z N o l.length (L l), [.row M (partsF m fun i => .sn z 0 0 (o + po i) (pn i) (pc i))], shaT 1 0 first steps, [.row 32 fun _ => .w8 0#8], digC 2 (pushL d0 (cat ps k)).V (pushL d0 (cat ps k)).P (pushL d0 (cat ps k)).h (BitVec.ofNat 64 (cat ps k).length)]⟩,
    fun k => k ≤ m, fun k => m - k, ⟨0, [0, 1, 2, 3, 4], ⟨⟨rfl, rfl, rfl⟩, ?_⟩, by omega⟩, fun k hk => ⟨fun h => ?_, fun h => ?_⟩⟩
  · cases z
    all_goals
      (repeat first | exact trivial | refine ⟨rfl, ?_⟩ | refine ⟨fun _ _ => ⟨rfl, trivial⟩, ?_⟩ | refine ⟨fun _ _ => trivial, ?_⟩ | refine ⟨by omega, ?_⟩ | refine ⟨fun _ _ => eqC_winS, ?_⟩ | refine ⟨fun _ _ => eqC_winM, ?_⟩ | refine ⟨fun _ _ => eqC_winB, ?_⟩ | refine ⟨fun _ _ => eqC_selfB, ?_⟩ | refine ⟨fun _ _ => eqC_mpB, ?_⟩)
      refine ⟨fun j hj => eqC_parts0, ?_⟩
      (repeat first | exact trivial | refine ⟨rfl, ?_⟩ | refine ⟨fun _ _ => ⟨rfl, trivial⟩, ?_⟩ | refine ⟨fun _ _ => trivial, ?_⟩ | refine ⟨by omega, ?_⟩ | refine ⟨fun _ _ => eqC_winS, ?_⟩ | refine ⟨fun _ _ => eqC_winM, ?_⟩ | refine ⟨fun _ _ => eqC_winB, ?_⟩ | refine ⟨fun _ _ => eqC_selfB, ?_⟩ | refine ⟨fun _ _ => eqC_mpB, ?_⟩)
  · have hlt : k < m := by have : (k : Int) < (m : Int) := of_decide_eq_true h; omega
    (repeat first | refine ⟨by omega, ?_⟩ | refine ⟨by decide, ?_⟩ | refine ⟨idx8 _, ?_⟩ | refine ⟨lt8 (Nat.le_refl _) _, ?_⟩)
    have e1 : (k : Int).toNat + 0 = k := by omega
    rw [e1]
    refine frc_parts hlt ?_
    obtain ⟨hp1, hp2⟩ := hp k hlt
    obtain ⟨D, hD⟩ : ∃ D, pushL d0 (cat ps k) = D := ⟨_, rfl⟩
    have hDl : D.h < 64 := by rw [← hD]; exact pushL_lt (by decide) _
    have hb : (ps k).length = pn k := by rw [← hps]; simp only [sub, List.length_take, List.length_drop]; omega
    have hk1 : pushN D (fun j => L l (po k + j)) (pn k) = pushL d0 (cat ps (k + 1)) := by
      rw [pushN_of D hb (fun i hi => by rw [← hps]; exact (L_sub l _ _ i hi).symm)]
      simp only [cat]
      rw [pushL_app, hD]
    have hl1 : BitVec.ofNat 64 (cat ps k).length + BitVec.ofNat 64 (pn k) = BitVec.ofNat 64 (cat ps (k + 1)).length := by
      simp only [cat, List.length_append, hb, ofNat_add64]
    rw [hD]
    refine ⟨by kernel_rfl, call_same (fn_swrite z (pn k) (pc k) N (o + po k) (fun j => L l (po k + j)) D (BitVec.ofNat 64 (cat ps k).length) hDl (by omega) hp2 (fun h => by have := hz h; subst this; simp at hp1; omega)) [2, 0, 4] rfl (by (repeat first | exact trivial | refine ⟨rfl, ?_⟩ | refine ⟨fun _ _ => ⟨rfl, trivial⟩, ?_⟩ | refine ⟨fun _ _ => trivial, ?_⟩ | refine ⟨by omega, ?_⟩ | refine ⟨fun _ _ => eqC_winS, ?_⟩ | refine ⟨fun _ _ => eqC_winM, ?_⟩ | refine ⟨fun _ _ => eqC_winB, ?_⟩ | refine ⟨fun _ _ => eqC_selfB, ?_⟩ | refine ⟨fun _ _ => eqC_mpB, ?_⟩)) ?_ (fun _ _ => trivial) ?_⟩
    · cases z
      all_goals
        (repeat first | exact trivial | refine ⟨rfl, ?_⟩ | refine ⟨fun _ _ => ⟨rfl, trivial⟩, ?_⟩ | refine ⟨fun _ _ => trivial, ?_⟩ | refine ⟨by omega, ?_⟩ | refine ⟨fun _ _ => eqC_winS, ?_⟩ | refine ⟨fun _ _ => eqC_winM, ?_⟩ | refine ⟨fun _ _ => eqC_winB, ?_⟩ | refine ⟨fun _ _ => eqC_selfB, ?_⟩ | refine ⟨fun _ _ => eqC_mpB, ?_⟩)
      refine ⟨fun j hj => eqC_win (fun i hi => ?_) j, ?_⟩
      · show winF o l.length (L l) (o + po k + i) = _
        rw [Nat.add_assoc, winF_at _ _ _ (by omega)]
      · (repeat first | exact trivial | refine ⟨rfl, ?_⟩ | refine ⟨fun _ _ => ⟨rfl, trivial⟩, ?_⟩ | refine ⟨fun _ _ => trivial, ?_⟩ | refine ⟨by omega, ?_⟩ | refine ⟨fun _ _ => eqC_winS, ?_⟩ | refine ⟨fun _ _ => eqC_winM, ?_⟩ | refine ⟨fun _ _ => eqC_winB, ?_⟩ | refine ⟨fun _ _ => eqC_selfB, ?_⟩ | refine ⟨fun _ _ => eqC_mpB, ?_⟩)
    · rintro x hs ⟨rfl, rfl⟩
      rw [hk1, hl1]
      refine ⟨⟨by omega, by omega⟩, k + 1, [0, 1, 2, 3, 4], ⟨⟨rfl, rfl, rfl⟩, ?_⟩, by dsimp only; omega, by dsimp only; omega⟩
      cases z
      all_goals
        (repeat first | exact trivial | refine ⟨rfl, ?_⟩ | refine ⟨fun _ _ => ⟨rfl, trivial⟩, ?_⟩ | refine ⟨fun _ _ => trivial, ?_⟩ | refine ⟨by omega, ?_⟩ | refine ⟨fun _ _ => eqC_winS, ?_⟩ | refine ⟨fun _ _ => eqC_winM, ?_⟩ | refine ⟨fun _ _ => eqC_winB, ?_⟩ | refine ⟨fun _ _ => eqC_selfB, ?_⟩ | refine ⟨fun _ _ => eqC_mpB, ?_⟩)
        refine ⟨fun j hj => eqC_parts0, ?_⟩
        (repeat first | exact trivial | refine ⟨rfl, ?_⟩ | refine ⟨fun _ _ => ⟨rfl, trivial⟩, ?_⟩ | refine ⟨fun _ _ => trivial, ?_⟩ | refine ⟨by omega, ?_⟩ | refine ⟨fun _ _ => eqC_winS, ?_⟩ | refine ⟨fun _ _ => eqC_winM, ?_⟩ | refine ⟨fun _ _ => eqC_winB, ?_⟩ | refine ⟨fun _ _ => eqC_selfB, ?_⟩ | refine ⟨fun _ _ => eqC_mpB, ?_⟩)
  · obtain rfl : k = m := by have : ¬ (k : Int) < (m : Int) := of_decide_eq_false h; have hk : k ≤ m := hk; omega
    obtain ⟨D, hD⟩ : ∃ D, pushL d0 (cat ps k) = D := ⟨_, rfl⟩
    have hDl : D.h < 64 := by rw [← hD]; exact pushL_lt (by decide) _
    obtain ⟨S, hS⟩ : ∃ S, sumL (cat ps k) = S := ⟨_, rfl⟩
    have hSL : ∀ i, i < 32 → endV D (BitVec.ofNat 64 (cat ps k).length) i = L S i := fun i hi => by rw [← hS, L_sumL _ hi, hD]
    rw [hD]
    refine ⟨by kernel_rfl, call_same (fn_send D (BitVec.ofNat 64 (cat ps k).length) hDl) [2, 4] rfl (by (repeat first | exact trivial | refine ⟨rfl, ?_⟩ | refine ⟨fun _ _ => ⟨rfl, trivial⟩, ?_⟩ | refine ⟨fun _ _ => trivial, ?_⟩ | refine ⟨by omega, ?_⟩ | refine ⟨fun _ _ => eqC_winS, ?_⟩ | refine ⟨fun _ _ => eqC_winM, ?_⟩ | refine ⟨fun _ _ => eqC_winB, ?_⟩ | refine ⟨fun _ _ => eqC_selfB, ?_⟩ | refine ⟨fun _ _ => eqC_mpB, ?_⟩)) (by (repeat first | exact trivial | refine ⟨rfl, ?_⟩ | refine ⟨fun _ _ => ⟨rfl, trivial⟩, ?_⟩ | refine ⟨fun _ _ => trivial, ?_⟩ | refine ⟨by omega, ?_⟩ | refine ⟨fun _ _ => eqC_winS, ?_⟩ | refine ⟨fun _ _ => eqC_winM, ?_⟩ | refine ⟨fun _ _ => eqC_winB, ?_⟩ | refine ⟨fun _ _ => eqC_selfB, ?_⟩ | refine ⟨fun _ _ => eqC_mpB, ?_⟩)) (fun _ _ => trivial) ?_⟩
    rintro x hs ⟨rfl, V', P', h', a', rfl⟩
    (repeat first | refine ⟨by omega, ?_⟩ | refine ⟨by decide, ?_⟩ | refine ⟨idx8 _, ?_⟩ | refine ⟨lt8 (Nat.le_refl _) _, ?_⟩ | refine ⟨rfl, ?_⟩)
    refine ⟨.a (.agg [.row 32 fun i => .w8 (L S i)]), [bts z N o l.length (L l), [.row M (partsF k fun i => .sn z 0 0 (o + po i) (pn i) (pc i))], shaT 1 0 first steps], ⟨[0, 1, 2], ⟨rfl, rfl, rfl⟩, ?_⟩, by rw [← hS], rfl⟩
    cases z
    all_goals
      (repeat first | exact trivial | refine ⟨rfl, ?_⟩ | refine ⟨fun _ _ => ⟨rfl, trivial⟩, ?_⟩ | refine ⟨fun _ _ => trivial, ?_⟩ | refine ⟨by omega, ?_⟩ | refine ⟨fun _ _ => eqC_winS, ?_⟩ | refine ⟨fun _ _ => eqC_winM, ?_⟩ | refine ⟨fun _ _ => eqC_winB, ?_⟩ | refine ⟨fun _ _ => eqC_selfB, ?_⟩ | refine ⟨fun _ _ => eqC_mpB, ?_⟩)
      refine ⟨fun j hj => eqC_w8 (congrArg SC.w8 (hSL j hj)), ?_⟩
      (repeat first | exact trivial | refine ⟨rfl, ?_⟩ | refine ⟨fun _ _ => ⟨rfl, trivial⟩, ?_⟩ | refine ⟨fun _ _ => trivial, ?_⟩ | refine ⟨by omega, ?_⟩ | refine ⟨fun _ _ => eqC_winS, ?_⟩ | refine ⟨fun _ _ => eqC_winM, ?_⟩ | refine ⟨fun _ _ => eqC_winB, ?_⟩ | refine ⟨fun _ _ => eqC_selfB, ?_⟩ | refine ⟨fun _ _ => eqC_mpB, ?_⟩)
      refine ⟨fun j hj => eqC_parts0, ?_⟩
      (repeat first | exact trivial | refine ⟨rfl, ?_⟩ | refine ⟨fun _ _ => ⟨rfl, trivial⟩, ?_⟩ | refine ⟨fun _ _ => trivial, ?_⟩ | refine ⟨by omega, ?_⟩ | refine ⟨fun _ _ => eqC_winS, ?_⟩ | refine ⟨fun _ _ => eqC_winM, ?_⟩ | refine ⟨fun _ _ => eqC_winB, ?_⟩ | refine ⟨fun _ _ => eqC_selfB, ?_⟩ | refine ⟨fun _ _ => eqC_mpB, ?_⟩)
end Sx
end Go.Proofs.Ytndlhhhebijknaa
end

section
/-
  SHA-256: a sum of at most three parts, each in a block of its own. No condition.
-/
namespace Go.Proofs.Ytndlhhhebijknaa
set_option linter.unusedVariables false
namespace Sha
def ps3 (l0 l1 l2 : Bs) : Nat → Bs
  | 0 => l0
  | 1 => l1
  | _ => l2
end Sha
namespace Sx
open Sha

theorem eqC_P3 {a b c : SC} {q : List Nat} {m : Nat} (hm : m ≤ 3) (h0 : eqC q a a True) (h1 : eqC q b b True) (h2 : eqC q c c True) {j : Nat} :
    eqC q (partsF m (nthC [a, b, c]) j) (partsF m (nthC [a, b, c]) j) True := eqC_partsS (fun i hi => by
  have : i = 0 ∨ i = 1 ∨ i = 2 := by omega
  rcases this with rfl | rfl | rfl
  · exact h0
  · exact h1
  · exact h2)
theorem eqC_P012 {q : List Nat} {m : Nat} (hm : m ≤ 3) {z0 z1 z2 : Bool} {o0 o1 o2 n0 n1 n2 c0 c1 c2 : Nat} {j : Nat} :
    eqC (0 :: 1 :: 2 :: q) (partsF m (nthC [.sn z0 0 0 o0 n0 c0, .sn z1 1 0 o1 n1 c1, .sn z2 2 0 o2 n2 c2]) j) (partsF m (nthC [.sn z0 0 0 o0 n0 c0, .sn z1 1 0 o1 n1 c1, .sn z2 2 0 o2 n2 c2]) j) True :=
  eqC_P3 (q := 0 :: 1 :: 2 :: q) (a := .sn z0 0 0 o0 n0 c0) (b := .sn z1 1 0 o1 n1 c1) (c := .sn z2 2 0 o2 n2 c2) hm ⟨rfl, rfl, rfl, rfl, trivial⟩ ⟨rfl, rfl, rfl, rfl, trivial⟩ ⟨rfl, rfl, rfl, rfl, trivial⟩
theorem eqC_bts {q : List Nat} {z : Bool} {N o n : Nat} {b : Nat → BitVec 8} {k : Prop} (hk : k) : eqSegs q (bts z N o n b) (bts z N o n b) k := by
  cases z
  · exact ⟨rfl, fun j hj => eqC_winS, hk⟩
  · exact hk
theorem eqC_btsM {q : List Nat} {g : Nat → Nat} {z : Bool} {N o n : Nat} {b : Nat → BitVec 8} {k : Prop} (hk : k) : eqSegs q (mpL g (bts z N o n b)) (bts z N o n b) k := by
  cases z
  · exact ⟨rfl, fun j hj => eqC_winM, hk⟩
  · exact hk
set_option maxRecDepth 20000 in
theorem fn_ssum3 (z0 z1 z2 : Bool) (N0 N1 N2 o0 o1 o2 c0 c1 c2 : Nat) (l0 l1 l2 : Bs) (cm M m : Nat) (dn : BitVec 32) (f s : Nat → BitVec 32) (hd : dn = 0#32 ∨ dn = 1#32 ∧ f = first ∧ s = steps)
    (hN0 : o0 + l0.length ≤ N0) (hN1 : o1 + l1.length ≤ N1) (hN2 : o2 + l2.length ≤ N2) (hc0 : l0.length ≤ c0) (hc1 : l1.length ≤ c1) (hc2 : l2.length ≤ c2)
    (hz0 : z0 = true → l0 = []) (hz1 : z1 = true → l1 = []) (hz2 : z2 = true → l2 = []) (hm : m ≤ M) (hM : m ≤ 3) :
    FnR Try.prog tds 18 4 [bts z0 N0 o0 l0.length (L l0), bts z1 N1 o1 l1.length (L l1), bts z2 N2 o2 l2.length (L l2), [.row M (partsF m (nthC [.sn z0 0 0 o0 l0.length c0, .sn z1 1 0 o1 l1.length c1, .sn z2 2 0 o2 l2.length c2]))], shaT dn 0 f s] [.c (.p 4 0 0), .c (.sl 3 0 0 m cm)] (fun _ => True)
      (fun x hs => x = .a (.agg [.row 32 fun i => .w8 (L (sumL (cat (ps3 l0 l1 l2) m)) i)]) ∧ hs = [bts z0 N0 o0 l0.length (L l0), bts z1 N1 o1 l1.length (L l1), bts z2 N2 o2 l2.length (L l2), [.row M (partsF m (nthC [.sn z0 0 0 o0 l0.length c0, .sn z1 1 0 o1 l1.length c1, .sn z2 2 0 o2 l2.length c2]))], shaT 1 0 first steps]) := by
  refine fn_of_body tds_ok follows_ Try.func18 rfl (t := [.a (.c (.p 4 0 0)), .a (.c (.sl 3 0 0 m cm)), .any, .any, .any, .any, .any, .any, .any, .any, .any, .any, .any, .any, .any, .any, .any, .any, .any, .any, .any, .any, .any]) rfl (fun w r0 hr _ => ?_)
  obtain ⟨x0, x1, x2, x3, x4, rfl⟩ := len5' hr
  refine ⟨fun h => Bool.noConfusion h, fun _ => ?_⟩
  refine ⟨by kernel_rfl, call_same (fn_begin dn f s hd) [4] rfl (by (repeat first | exact trivial | refine ⟨rfl, ?_⟩ | refine ⟨fun _ _ => ⟨rfl, trivial⟩, ?_⟩ | refine ⟨fun _ _ => trivial, ?_⟩ | refine ⟨by omega, ?_⟩ | refine ⟨fun _ _ => eqC_winS, ?_⟩ | refine ⟨fun _ _ => eqC_winM, ?_⟩ | refine ⟨fun _ _ => eqC_winB, ?_⟩ | refine ⟨fun _ _ => eqC_selfB, ?_⟩ | refine ⟨fun _ _ => eqC_mpB, ?_⟩)) (by (repeat first | exact trivial | refine ⟨rfl, ?_⟩ | refine ⟨fun _ _ => ⟨rfl, trivial⟩, ?_⟩ | refine ⟨fun _ _ => trivial, ?_⟩ | refine ⟨by omega, ?_⟩ | refine ⟨fun _ _ => eqC_winS, ?_⟩ | refine ⟨fun _ _ => eqC_winM, ?_⟩ | refine ⟨fun _ _ => eqC_winB, ?_⟩ | refine ⟨fun _ _ => eqC_selfB, ?_⟩ | refine ⟨fun _ _ => eqC_mpB, ?_⟩)) (fun _ _ => trivial) ?_⟩
  rintro x hs ⟨rfl, rfl⟩
  (repeat first | refine ⟨by omega, ?_⟩ | refine ⟨by decide, ?_⟩ | refine ⟨idx8 _, ?_⟩ | refine ⟨lt8 (Nat.le_refl _) _, ?_⟩ | refine ⟨rfl, ?_⟩)
  obtain ⟨ps, hps⟩ : ∃ ps, ps3 l0 l1 l2 = ps := ⟨_, rfl⟩
  rw [hps]
  have hl : ∀ (k : Nat) (l : Bs), ps k = l → pushN (pushL d0 (cat ps k)) (L l) l.length = pushL d0 (cat ps (k + 1)) ∧ BitVec.ofNat 64 (cat ps k).length + BitVec.ofNat 64 l.length = BitVec.ofNat 64 (cat ps (k + 1)).length := by
    rintro k l rfl
    refine ⟨by rw [pushN_L]; simp only [cat]; rw [pushL_app], by simp only [cat, List.length_append, ofNat_add64]⟩
  refine .inl ⟨Nat, fun k => ⟨[.any, .any, .any, .any, .a (.c (.p 5 0 0)), .a (.c (.p 6 0 0)), .any, .any, .any, .any, .any, .any, .any, .a (.c (.sl 3 0 0 m cm)), .a (.c (.int .i64 (↑m))), .a (.c (.int .i64 (↑k))), .any, .any, .any, .any, .any, .any, .any], [bts z0 N0 o0 l0.length (L l0), bts z1 N1 o1 l1.length (L l1), bts z2 N2 o2 l2.length (L l2), [.row M (partsF m (nthC [.sn z0 0 0 o0 l0.length c0, .sn z1 1 0 o1 l1.length c1, .sn z2 2 0 o2 l2.length c2]))], shaT 1 0 first steps, [.row 32 fun _ => .w8 0#8], digC 4 (pushL d0 (cat ps k)).V (pushL d0 (cat ps k)).P (pushL d0 (cat ps k)).h (BitVec.ofNat 64 (cat ps k).length)]⟩,
    fun k => k ≤ m, fun k => m - k, ⟨0, [0, 1, 2, 3, 4, 5, 6], ⟨⟨rfl, rfl, rfl⟩, ?_⟩, by omega⟩, fun k hk => ⟨fun h => ?_, fun h => ?_⟩⟩
  · (repeat first | exact trivial | refine ⟨rfl, ?_⟩ | refine ⟨fun _ _ => ⟨rfl, trivial⟩, ?_⟩ | refine ⟨fun _ _ => trivial, ?_⟩ | refine ⟨by omega, ?_⟩ | refine ⟨fun _ _ => eqC_winS, ?_⟩ | refine ⟨fun _ _ => eqC_winM, ?_⟩ | refine ⟨fun _ _ => eqC_winB, ?_⟩ | refine ⟨fun _ _ => eqC_selfB, ?_⟩ | refine ⟨fun _ _ => eqC_mpB, ?_⟩)
    refine eqC_bts (eqC_bts (eqC_bts ⟨rfl, fun j hj => eqC_P012 hM, ?_⟩))
    (repeat first | exact trivial | refine ⟨rfl, ?_⟩ | refine ⟨fun _ _ => ⟨rfl, trivial⟩, ?_⟩ | refine ⟨fun _ _ => trivial, ?_⟩ | refine ⟨by omega, ?_⟩ | refine ⟨fun _ _ => eqC_winS, ?_⟩ | refine ⟨fun _ _ => eqC_winM, ?_⟩ | refine ⟨fun _ _ => eqC_winB, ?_⟩ | refine ⟨fun _ _ => eqC_selfB, ?_⟩ | refine ⟨fun _ _ => eqC_mpB, ?_⟩)
  · have hlt : k < m := by have : (k : Int) < (m : Int) := of_decide_eq_true h; omega
    (repeat first | refine ⟨by omega, ?_⟩ | refine ⟨by decide, ?_⟩ | refine ⟨idx8 _, ?_⟩ | refine ⟨lt8 (Nat.le_refl _) _, ?_⟩)
    have e1 : (k : Int).toNat + 0 = k := by omega
    rw [e1]
    refine frc_parts hlt ?_
    obtain ⟨D, hD⟩ : ∃ D, pushL d0 (cat ps k) = D := ⟨_, rfl⟩
    have hDl : D.h < 64 := by rw [← hD]; exact pushL_lt (by decide) _
    rw [hD]
    have hk3 : k = 0 ∨ k = 1 ∨ k = 2 := by omega
    rcases hk3 with rfl | rfl | rfl
    · obtain ⟨hk1, hl1⟩ := hl 0 l0 (by rw [← hps]; rfl)
      rw [hD] at hk1
      refine ⟨by kernel_rfl, call_same (fn_swrite z0 l0.length c0 N0 o0 (L l0) D (BitVec.ofNat 64 (cat ps 0).length) hDl hN0 hc0 (fun h => by rw [hz0 h]; rfl)) [4, 0, 6] rfl (by (repeat first | exact trivial | refine ⟨rfl, ?_⟩ | refine ⟨fun _ _ => ⟨rfl, trivial⟩, ?_⟩ | refine ⟨fun _ _ => trivial, ?_⟩ | refine ⟨by omega, ?_⟩ | refine ⟨fun _ _ => eqC_winS, ?_⟩ | refine ⟨fun _ _ => eqC_winM, ?_⟩ | refine ⟨fun _ _ => eqC_winB, ?_⟩ | refine ⟨fun _ _ => eqC_selfB, ?_⟩ | refine ⟨fun _ _ => eqC_mpB, ?_⟩)) ?_ (fun _ _ => trivial) ?_⟩
      · (repeat first | exact trivial | refine ⟨rfl, ?_⟩ | refine ⟨fun _ _ => ⟨rfl, trivial⟩, ?_⟩ | refine ⟨fun _ _ => trivial, ?_⟩ | refine ⟨by omega, ?_⟩ | refine ⟨fun _ _ => eqC_winS, ?_⟩ | refine ⟨fun _ _ => eqC_winM, ?_⟩ | refine ⟨fun _ _ => eqC_winB, ?_⟩ | refine ⟨fun _ _ => eqC_selfB, ?_⟩ | refine ⟨fun _ _ => eqC_mpB, ?_⟩)
        refine eqC_bts ?_
        (repeat first | exact trivial | refine ⟨rfl, ?_⟩ | refine ⟨fun _ _ => ⟨rfl, trivial⟩, ?_⟩ | refine ⟨fun _ _ => trivial, ?_⟩ | refine ⟨by omega, ?_⟩ | refine ⟨fun _ _ => eqC_winS, ?_⟩ | refine ⟨fun _ _ => eqC_winM, ?_⟩ | refine ⟨fun _ _ => eqC_winB, ?_⟩ | refine ⟨fun _ _ => eqC_selfB, ?_⟩ | refine ⟨fun _ _ => eqC_mpB, ?_⟩)
      · rintro x hs ⟨rfl, rfl⟩
        rw [hk1, hl1]
        refine ⟨⟨by omega, by omega⟩, 1, [0, 1, 2, 3, 4, 5, 6], ⟨⟨rfl, rfl, rfl⟩, ?_⟩, by dsimp only; omega, by dsimp only; omega⟩
        (repeat first | exact trivial | refine ⟨rfl, ?_⟩ | refine ⟨fun _ _ => ⟨rfl, trivial⟩, ?_⟩ | refine ⟨fun _ _ => trivial, ?_⟩ | refine ⟨by omega, ?_⟩ | refine ⟨fun _ _ => eqC_winS, ?_⟩ | refine ⟨fun _ _ => eqC_winM, ?_⟩ | refine ⟨fun _ _ => eqC_winB, ?_⟩ | refine ⟨fun _ _ => eqC_selfB, ?_⟩ | refine ⟨fun _ _ => eqC_mpB, ?_⟩)
        refine eqC_bts (eqC_bts (eqC_bts ⟨rfl, fun j hj => eqC_P012 hM, ?_⟩))
        (repeat first | exact trivial | refine ⟨rfl, ?_⟩ | refine ⟨fun _ _ => ⟨rfl, trivial⟩, ?_⟩ | refine ⟨fun _ _ => trivial, ?_⟩ | refine ⟨by omega, ?_⟩ | refine ⟨fun _ _ => eqC_winS, ?_⟩ | refine ⟨fun _ _ => eqC_winM, ?_⟩ | refine ⟨fun _ _ => eqC_winB, ?_⟩ | refine ⟨fun _ _ => eqC_selfB, ?_⟩ | refine ⟨fun _ _ => eqC_mpB, ?_⟩)
    · obtain ⟨hk1, hl1⟩ := hl 1 l1 (by rw [← hps]; rfl)
      rw [hD] at hk1
      refine ⟨by kernel_rfl, call_same (fn_swrite z1 l1.length c1 N1 o1 (L l1) D (BitVec.ofNat 64 (cat ps 1).length) hDl hN1 hc1 (fun h => by rw [hz1 h]; rfl)) [4, 1, 6] rfl (by (repeat first | exact trivial | refine ⟨rfl, ?_⟩ | refine ⟨fun _ _ => ⟨rfl, trivial⟩, ?_⟩ | refine ⟨fun _ _ => trivial, ?_⟩ | refine ⟨by omega, ?_⟩ | refine ⟨fun _ _ => eqC_winS, ?_⟩ | refine ⟨fun _ _ => eqC_winM, ?_⟩ | refine ⟨fun _ _ => eqC_winB, ?_⟩ | refine ⟨fun _ _ => eqC_selfB, ?_⟩ | refine ⟨fun _ _ => eqC_mpB, ?_⟩)) ?_ (fun _ _ => trivial) ?_⟩
      · (repeat first | exact trivial | refine ⟨rfl, ?_⟩ | refine ⟨fun _ _ => ⟨rfl, trivial⟩, ?_⟩ | refine ⟨fun _ _ => trivial, ?_⟩ | refine ⟨by omega, ?_⟩ | refine ⟨fun _ _ => eqC_winS, ?_⟩ | refine ⟨fun _ _ => eqC_winM, ?_⟩ | refine ⟨fun _ _ => eqC_winB, ?_⟩ | refine ⟨fun _ _ => eqC_selfB, ?_⟩ | refine ⟨fun _ _ => eqC_mpB, ?_⟩)
        refine eqC_bts ?_
        (repeat first | exact trivial | refine ⟨rfl, ?_⟩ | refine ⟨fun _ _ => ⟨rfl, trivial⟩, ?_⟩ | refine ⟨fun _ _ => trivial, ?_⟩ | refine ⟨by omega, ?_⟩ | refine ⟨fun _ _ => eqC_winS, ?_⟩ | refine ⟨fun _ _ => eqC_winM, ?_⟩ | refine ⟨fun _ _ => eqC_winB, ?_⟩ | refine ⟨fun _ _ => eqC_selfB, ?_⟩ | refine ⟨fun _ _ => eqC_mpB, ?_⟩)
      · rintro x hs ⟨rfl, rfl⟩
        rw [hk1, hl1]
        refine ⟨⟨by omega, by omega⟩, 2, [0, 1, 2, 3, 4, 5, 6], ⟨⟨rfl, rfl, rfl⟩, ?_⟩, by dsimp only; omega, by dsimp only; omega⟩
        (repeat first | exact trivial | refine ⟨rfl, ?_⟩ | refine ⟨fun _ _ => ⟨rfl, trivial⟩, ?_⟩ | refine ⟨fun _ _ => trivial, ?_⟩ | refine ⟨by omega, ?_⟩ | refine ⟨fun _ _ => eqC_winS, ?_⟩ | refine ⟨fun _ _ => eqC_winM, ?_⟩ | refine ⟨fun _ _ => eqC_winB, ?_⟩ | refine ⟨fun _ _ => eqC_selfB, ?_⟩ | refine ⟨fun _ _ => eqC_mpB, ?_⟩)
        refine eqC_bts (eqC_bts (eqC_bts ⟨rfl, fun j hj => eqC_P012 hM, ?_⟩))
        (repeat first | exact trivial | refine ⟨rfl, ?_⟩ | refine ⟨fun _ _ => ⟨rfl, trivial⟩, ?_⟩ | refine ⟨fun _ _ => trivial, ?_⟩ | refine ⟨by omega, ?_⟩ | refine ⟨fun _ _ => eqC_winS, ?_⟩ | refine ⟨fun _ _ => eqC_winM, ?_⟩ | refine ⟨fun _ _ => eqC_winB, ?_⟩ | refine ⟨fun _ _ => eqC_selfB, ?_⟩ | refine ⟨fun _ _ => eqC_mpB, ?_⟩)
    · obtain ⟨hk1, hl1⟩ := hl 2 l2 (by rw [← hps]; rfl)
      rw [hD] at hk1
      refine ⟨by kernel_rfl, call_same (fn_swrite z2 l2.length c2 N2 o2 (L l2) D (BitVec.ofNat 64 (cat ps 2).length) hDl hN2 hc2 (fun h => by rw [hz2 h]; rfl)) [4, 2, 6] rfl (by (repeat first | exact trivial | refine ⟨rfl, ?_⟩ | refine ⟨fun _ _ => ⟨rfl, trivial⟩, ?_⟩ | refine ⟨fun _ _ => trivial, ?_⟩ | refine ⟨by omega, ?_⟩ | refine ⟨fun _ _ => eqC_winS, ?_⟩ | refine ⟨fun _ _ => eqC_winM, ?_⟩ | refine ⟨fun _ _ => eqC_winB, ?_⟩ | refine ⟨fun _ _ => eqC_selfB, ?_⟩ | refine ⟨fun _ _ => eqC_mpB, ?_⟩)) ?_ (fun _ _ => trivial) ?_⟩
      · (repeat first | exact trivial | refine ⟨rfl, ?_⟩ | refine ⟨fun _ _ => ⟨rfl, trivial⟩, ?_⟩ | refine ⟨fun _ _ => trivial, ?_⟩ | refine ⟨by omega, ?_⟩ | refine ⟨fun _ _ => eqC_winS, ?_⟩ | refine ⟨fun _ _ => eqC_winM, ?_⟩ | refine ⟨fun _ _ => eqC_winB, ?_⟩ | refine ⟨fun _ _ => eqC_selfB, ?_⟩ | refine ⟨fun _ _ => eqC_mpB, ?_⟩)
        refine eqC_bts ?_
        (repeat first | exact trivial | refine ⟨rfl, ?_⟩ | refine ⟨fun _ _ => ⟨rfl, trivial⟩, ?_⟩ | refine ⟨fun _ _ => trivial, ?_⟩ | refine ⟨by omega, ?_⟩ | refine ⟨fun _ _ => eqC_winS, ?_⟩ | refine ⟨fun _ _ => eqC_winM, ?_⟩ | refine ⟨fun _ _ => eqC_winB, ?_⟩ | refine ⟨fun _ _ => eqC_selfB, ?_⟩ | refine ⟨fun _ _ => eqC_mpB, ?_⟩)
      · rintro x hs ⟨rfl, rfl⟩
        rw [hk1, hl1]
        refine ⟨⟨by omega, by omega⟩, 3, [0, 1, 2, 3, 4, 5, 6], ⟨⟨rfl, rfl, rfl⟩, ?_⟩, by dsimp only; omega, by dsimp only; omega⟩
        (repeat first | exact trivial | refine ⟨rfl, ?_⟩ | refine ⟨fun _ _ => ⟨rfl, trivial⟩, ?_⟩ | refine ⟨fun _ _ => trivial, ?_⟩ | refine ⟨by omega, ?_⟩ | refine ⟨fun _ _ => eqC_winS, ?_⟩ | refine ⟨fun _ _ => eqC_winM, ?_⟩ | refine ⟨fun _ _ => eqC_winB, ?_⟩ | refine ⟨fun _ _ => eqC_selfB, ?_⟩ | refine ⟨fun _ _ => eqC_mpB, ?_⟩)
        refine eqC_bts (eqC_bts (eqC_bts ⟨rfl, fun j hj => eqC_P012 hM, ?_⟩))
        (repeat first | exact trivial | refine ⟨rfl, ?_⟩ | refine ⟨fun _ _ => ⟨rfl, trivial⟩, ?_⟩ | refine ⟨fun _ _ => trivial, ?_⟩ | refine ⟨by omega, ?_⟩ | refine ⟨fun _ _ => eqC_winS, ?_⟩ | refine ⟨fun _ _ => eqC_winM, ?_⟩ | refine ⟨fun _ _ => eqC_winB, ?_⟩ | refine ⟨fun _ _ => eqC_selfB, ?_⟩ | refine ⟨fun _ _ => eqC_mpB, ?_⟩)
  · obtain rfl : k = m := by have : ¬ (k : Int) < (m : Int) := of_decide_eq_false h; have hk : k ≤ m := hk; omega
    obtain ⟨D, hD⟩ : ∃ D, pushL d0 (cat ps k) = D := ⟨_, rfl⟩
    have hDl : D.h < 64 := by rw [← hD]; exact pushL_lt (by decide) _
    obtain ⟨S, hS⟩ : ∃ S, sumL (cat ps k) = S := ⟨_, rfl⟩
    have hSL : ∀ i, i < 32 → endV D (BitVec.ofNat 64 (cat ps k).length) i = L S i := fun i hi => by rw [← hS, L_sumL _ hi, hD]
    rw [hD]
    refine ⟨by kernel_rfl, call_same (fn_send D (BitVec.ofNat 64 (cat ps k).length) hDl) [4, 6] rfl (by (repeat first | exact trivial | refine ⟨rfl, ?_⟩ | refine ⟨fun _ _ => ⟨rfl, trivial⟩, ?_⟩ | refine ⟨fun _ _ => trivial, ?_⟩ | refine ⟨by omega, ?_⟩ | refine ⟨fun _ _ => eqC_winS, ?_⟩ | refine ⟨fun _ _ => eqC_winM, ?_⟩ | refine ⟨fun _ _ => eqC_winB, ?_⟩ | refine ⟨fun _ _ => eqC_selfB, ?_⟩ | refine ⟨fun _ _ => eqC_mpB, ?_⟩)) (by (repeat first | exact trivial | refine ⟨rfl, ?_⟩ | refine ⟨fun _ _ => ⟨rfl, trivial⟩, ?_⟩ | refine ⟨fun _ _ => trivial, ?_⟩ | refine ⟨by omega, ?_⟩ | refine ⟨fun _ _ => eqC_winS, ?_⟩ | refine ⟨fun _ _ => eqC_winM, ?_⟩ | refine ⟨fun _ _ => eqC_winB, ?_⟩ | refine ⟨fun _ _ => eqC_selfB, ?_⟩ | refine ⟨fun _ _ => eqC_mpB, ?_⟩)) (fun _ _ => trivial) ?_⟩
    rintro x hs ⟨rfl, V', P', h', a', rfl⟩
    (repeat first | refine ⟨by omega, ?_⟩ | refine ⟨by decide, ?_⟩ | refine ⟨idx8 _, ?_⟩ | refine ⟨lt8 (Nat.le_refl _) _, ?_⟩ | refine ⟨rfl, ?_⟩)
    refine ⟨.a (.agg [.row 32 fun i => .w8 (L S i)]), [bts z0 N0 o0 l0.length (L l0), bts z1 N1 o1 l1.length (L l1), bts z2 N2 o2 l2.length (L l2), [.row M (partsF k (nthC [.sn z0 0 0 o0 l0.length c0, .sn z1 1 0 o1 l1.length c1, .sn z2 2 0 o2 l2.length c2]))], shaT 1 0 first steps], ⟨[0, 1, 2, 3, 4], ⟨rfl, rfl, rfl⟩, ?_⟩, by rw [← hS], rfl⟩
    (repeat first | exact trivial | refine ⟨rfl, ?_⟩ | refine ⟨fun _ _ => ⟨rfl, trivial⟩, ?_⟩ | refine ⟨fun _ _ => trivial, ?_⟩ | refine ⟨by omega, ?_⟩ | refine ⟨fun _ _ => eqC_winS, ?_⟩ | refine ⟨fun _ _ => eqC_winM, ?_⟩ | refine ⟨fun _ _ => eqC_winB, ?_⟩ | refine ⟨fun _ _ => eqC_selfB, ?_⟩ | refine ⟨fun _ _ => eqC_mpB, ?_⟩)
    refine ⟨fun j hj => eqC_w8 (congrArg SC.w8 (hSL j hj)), ?_⟩
    refine eqC_bts (eqC_bts (eqC_bts ⟨rfl, fun j hj => eqC_P012 hM, ?_⟩))
    (repeat first | exact trivial | refine ⟨rfl, ?_⟩ | refine ⟨fun _ _ => ⟨rfl, trivial⟩, ?_⟩ | refine ⟨fun _ _ => trivial, ?_⟩ | refine ⟨by omega, ?_⟩ | refine ⟨fun _ _ => eqC_winS, ?_⟩ | refine ⟨fun _ _ => eqC_winM, ?_⟩ | refine ⟨fun _ _ => eqC_winB, ?_⟩ | refine ⟨fun _ _ => eqC_selfB, ?_⟩ | refine ⟨fun _ _ => eqC_mpB, ?_⟩)
end Sx
end Go.Proofs.Ytndlhhhebijknaa
end

section
/-
  SHA-256: a key's mark of at most three parts, each in a block of its own. No condition.
-/
namespace Go.Proofs.Ytndlhhhebijknaa
set_option linter.unusedVariables false
namespace Sha
def keyL (key : Bs) : Bs := if 64 < key.length then sumL key else key
def padL (x : BitVec 8) (K : Bs) : Bs := tab 64 fun i => L K i ^^^ x
def markL (key m : Bs) : Bs := sumL (padL 0x5c#8 (keyL key) ++ sumL (padL 0x36#8 (keyL key) ++ m))
@[simp] theorem padL_len (x : BitVec 8) (K : Bs) : (padL x K).length = 64 := tab_len _ _
theorem keyL_le (key : Bs) : (keyL key).length ≤ 64 := by
  unfold keyL; split
  · rw [sumL_len]; omega
  · omega
@[simp] theorem markL_len (key m : Bs) : (markL key m).length = 32 := tab_len _ _
theorem L_over {l : Bs} {i : Nat} (h : l.length ≤ i) : L l i = 0#8 := by
  unfold L; rw [List.getD_eq_getElem?_getD, List.getElem?_eq_none h]; rfl
end Sha
namespace Sx
open Sha

theorem len6' {α : Type} : ∀ {l : List α}, l.length = 6 → ∃ a b c d e g, l = [a, b, c, d, e, g]
  | [a, b, c, d, e, g], _ => ⟨a, b, c, d, e, g, rfl⟩
theorem eqC_P123 {q : List Nat} {m : Nat} (hm : m ≤ 3) {z0 z1 z2 : Bool} {o0 o1 o2 n0 n1 n2 c0 c1 c2 i0 : Nat} {j : Nat} :
    eqC (i0 :: 1 :: 2 :: 3 :: q) (partsF m (nthC [.sn z0 1 0 o0 n0 c0, .sn z1 2 0 o1 n1 c1, .sn z2 3 0 o2 n2 c2]) j) (partsF m (nthC [.sn z0 1 0 o0 n0 c0, .sn z1 2 0 o1 n1 c1, .sn z2 3 0 o2 n2 c2]) j) True :=
  eqC_P3 (q := i0 :: 1 :: 2 :: 3 :: q) (a := .sn z0 1 0 o0 n0 c0) (b := .sn z1 2 0 o1 n1 c1) (c := .sn z2 3 0 o2 n2 c2) hm ⟨rfl, rfl, rfl, rfl, trivial⟩ ⟨rfl, rfl, rfl, rfl, trivial⟩ ⟨rfl, rfl, rfl, rfl, trivial⟩
theorem eqC_win8 {q : List Nat} {n : Nat} {b b' : Nat → BitVec 8} (h : ∀ i, i < n → b i = b' i) (j : Nat) : eqC q (SC.w8 (b j)) (winF 0 n b' j) True :=
  eqC_win (f := fun j => SC.w8 (b j)) (fun i hi => congrArg SC.w8 (by rw [Nat.zero_add]; exact h i hi)) j
/-- A copy of a key over noughts. -/
theorem key_row (q : List Nat) (K : Bs) (o m : Nat) (hK : K.length ≤ 64) (hm : m = K.length) (f : Nat → SC) (hf : ∀ i, i < K.length → f (i + o) = .w8 (L K i)) (j : Nat) : updN (fun _ => SC.w8 0#8) 0 m (fun q => f (q + o)) j = .w8 (L K j) := by
  subst hm
  unfold updN
  by_cases hj : j < K.length
  · rw [if_pos ⟨by omega, by omega⟩, Nat.sub_zero]; exact hf j hj
  · rw [if_neg (by omega), L_over (by omega)]
set_option maxHeartbeats 4000000 in
set_option maxRecDepth 20000 in
theorem fn_smark (zk z0 z1 z2 : Bool) (Nk N0 N1 N2 ok o0 o1 o2 ck c0 c1 c2 : Nat) (key l0 l1 l2 : Bs) (cm M m : Nat) (dn : BitVec 32) (f s : Nat → BitVec 32) (hd : dn = 0#32 ∨ dn = 1#32 ∧ f = first ∧ s = steps)
    (hNk : ok + key.length ≤ Nk) (hck : key.length ≤ ck) (hzk : zk = true → key = []) (hN0 : o0 + l0.length ≤ N0) (hc0 : l0.length ≤ c0) (hz0 : z0 = true → l0 = []) (hN1 : o1 + l1.length ≤ N1) (hc1 : l1.length ≤ c1) (hz1 : z1 = true → l1 = []) (hN2 : o2 + l2.length ≤ N2) (hc2 : l2.length ≤ c2) (hz2 : z2 = true → l2 = []) (hm : m ≤ M) (hM : m ≤ 3) :
    FnR Try.prog tds 19 5 [bts zk Nk ok key.length (L key), bts z0 N0 o0 l0.length (L l0), bts z1 N1 o1 l1.length (L l1), bts z2 N2 o2 l2.length (L l2), [.row M (partsF m (nthC [.sn z0 1 0 o0 l0.length c0, .sn z1 2 0 o1 l1.length c1, .sn z2 3 0 o2 l2.length c2]))], shaT dn 0 f s] [.c (.p 5 0 0), .c (.sn zk 0 0 ok key.length ck), .c (.sl 4 0 0 m cm)] (fun _ => True)
      (fun x hs => x = .a (.agg [.row 32 fun i => .w8 (L (markL key (cat (ps3 l0 l1 l2) m)) i)]) ∧ hs = [bts zk Nk ok key.length (L key), bts z0 N0 o0 l0.length (L l0), bts z1 N1 o1 l1.length (L l1), bts z2 N2 o2 l2.length (L l2), [.row M (partsF m (nthC [.sn z0 1 0 o0 l0.length c0, .sn z1 2 0 o1 l1.length c1, .sn z2 3 0 o2 l2.length c2]))], shaT 1 0 first steps]) := by
  refine fn_of_body tds_ok follows_ Try.func19 rfl (t := [.a (.c (.p 5 0 0)), .a (.c (.sn zk 0 0 ok key.length ck)), .a (.c (.sl 4 0 0 m cm)), .any, .any, .any, .any, .any, .any, .any, .any, .any, .any, .any, .any, .any, .any, .any, .any, .any, .any, .any, .any, .any, .any, .any, .any, .any, .any, .any, .any, .any, .any, .any, .any, .any, .any, .any, .any, .any, .any, .any, .any, .any, .any, .any, .any, .any, .any, .any, .any, .any, .any, .any, .any, .any, .any, .any, .any, .any, .any, .any, .any, .any, .any]) rfl (fun w r0 hr _ => ?_)
  obtain ⟨x0, x1, x2, x3, x4, x5, rfl⟩ := len6' hr
  refine ⟨fun h => Bool.noConfusion h, fun _ => ?_⟩
  obtain ⟨ps, hps⟩ : ∃ ps, ps3 l0 l1 l2 = ps := ⟨_, rfl⟩
  rw [hps]
  obtain ⟨K, hK⟩ : ∃ K, keyL key = K := ⟨_, rfl⟩
  have hKl : K.length ≤ 64 := by rw [← hK]; exact keyL_le _
  have hl : ∀ (k : Nat) (l pre : Bs), ps k = l → pushN (pushL d0 (pre ++ cat ps k)) (L l) l.length = pushL d0 (pre ++ cat ps (k + 1)) ∧ BitVec.ofNat 64 (pre ++ cat ps k).length + BitVec.ofNat 64 l.length = BitVec.ofNat 64 (pre ++ cat ps (k + 1)).length := by
    rintro k l pre rfl
    refine ⟨by rw [pushN_L]; simp only [cat]; rw [← List.append_assoc]; exact (pushL_app _ _ _).symm, by simp only [cat, List.length_append, ofNat_add64, Nat.add_assoc]⟩
  by_cases hlen : 64 < key.length
  · obtain rfl : zk = false := by
      cases zk
      · rfl
      · have := hzk rfl; subst this; simp at hlen
    refine ⟨fun _ => ?_, fun h => absurd (of_decide_eq_false h) (by omega)⟩
    (repeat first | refine ⟨by omega, ?_⟩ | refine ⟨by decide, ?_⟩ | refine ⟨idx8 _, ?_⟩ | refine ⟨lt8 (Nat.le_refl _) _, ?_⟩ | refine ⟨rfl, ?_⟩)
    refine call_same (fn_ssum3 false true true Nk 0 0 ok 0 0 ck 0 0 key [] [] 1 1 1 dn f s hd hNk (by decide) (by decide) hck (by decide) (by decide) hzk (fun _ => rfl) (fun _ => rfl) (by decide) (by decide)) [0, 9, 9, 9, 5] rfl (by (repeat first | exact trivial | refine ⟨rfl, ?_⟩ | refine ⟨fun _ _ => ⟨rfl, trivial⟩, ?_⟩ | refine ⟨fun _ _ => trivial, ?_⟩ | refine ⟨by omega, ?_⟩ | refine ⟨fun _ _ => eqC_winS, ?_⟩ | refine ⟨fun _ _ => eqC_winM, ?_⟩ | refine ⟨fun _ _ => eqC_winB, ?_⟩ | refine ⟨fun _ _ => eqC_selfB, ?_⟩ | refine ⟨fun _ _ => eqC_mpB, ?_⟩)) ?_ (fun _ _ => trivial) ?_
    · (repeat first | exact trivial | refine ⟨rfl, ?_⟩ | refine ⟨fun _ _ => ⟨rfl, trivial⟩, ?_⟩ | refine ⟨fun _ _ => trivial, ?_⟩ | refine ⟨by omega, ?_⟩ | refine ⟨fun _ _ => eqC_winS, ?_⟩ | refine ⟨fun _ _ => eqC_winM, ?_⟩ | refine ⟨fun _ _ => eqC_winB, ?_⟩ | refine ⟨fun _ _ => eqC_selfB, ?_⟩ | refine ⟨fun _ _ => eqC_mpB, ?_⟩)
      refine ⟨fun j hj => eqC_parts (fun i hi => ?_) j, ?_⟩
      · obtain rfl : i = 0 := by omega
        exact ⟨rfl, rfl, rfl, rfl, trivial⟩
      · (repeat first | exact trivial | refine ⟨rfl, ?_⟩ | refine ⟨fun _ _ => ⟨rfl, trivial⟩, ?_⟩ | refine ⟨fun _ _ => trivial, ?_⟩ | refine ⟨by omega, ?_⟩ | refine ⟨fun _ _ => eqC_winS, ?_⟩ | refine ⟨fun _ _ => eqC_winM, ?_⟩ | refine ⟨fun _ _ => eqC_winB, ?_⟩ | refine ⟨fun _ _ => eqC_selfB, ?_⟩ | refine ⟨fun _ _ => eqC_mpB, ?_⟩)
    rintro x hs ⟨rfl, rfl⟩
    have hcat : cat (ps3 key [] []) 1 = key := by simp [cat, ps3]
    rw [hcat]
    have hS0 : sumL key = K := by rw [← hK]; unfold keyL; rw [if_pos hlen]
    have hKl2 : K.length = 32 := by rw [← hS0, sumL_len]
    rw [hS0]
    have hrow := key_row [] K 0 32 hKl hKl2.symm (fun i => .w8 (L K i)) (fun i hi => rfl)
    have hd' : (1 : BitVec 32) = 0#32 ∨ (1 : BitVec 32) = 1#32 ∧ first = first ∧ steps = steps := .inr ⟨rfl, rfl, rfl⟩
    (repeat first | refine ⟨by omega, ?_⟩ | refine ⟨by decide, ?_⟩ | refine ⟨idx8 _, ?_⟩ | refine ⟨lt8 (Nat.le_refl _) _, ?_⟩ | refine ⟨rfl, ?_⟩ | refine ⟨by simp only [scale]; omega, ?_⟩)
    refine .inl ⟨Nat, fun k => ⟨[.a (.c (.p 5 0 0)), .any, .a (.c (.sl 4 0 0 m cm)), .any, .any, .any, .a (.c (.p 6 0 0)), .a (.c (.p 7 0 0)), .a (.c (.p 8 0 0)), .any, .any, .any, .any, .any, .any, .any, .any, .any, .any, .any, .any, .any, .any, .any, .any, .any, .any, .any, .any, .any, .any, .any, .a (.c (.int .i64 (↑k))), .any, .any, .any, .any, .any, .any, .any, .any, .any, .any, .any, .any, .any, .any, .any, .any, .any, .any, .any, .any, .any, .any, .any, .any, .any, .any, .any, .any, .any, .any, .any, .any], [bts false Nk ok key.length (L key), bts z0 N0 o0 l0.length (L l0), bts z1 N1 o1 l1.length (L l1), bts z2 N2 o2 l2.length (L l2), [.row M (partsF m (nthC [.sn z0 1 0 o0 l0.length c0, .sn z1 2 0 o1 l1.length c1, .sn z2 3 0 o2 l2.length c2]))], shaT 1 0 first steps, [.row 32 fun _ => .w8 0#8], [.row 64 fun i => .w8 (if i < k then L K i ^^^ 0x36#8 else L K i)], [.row 64 fun i => .w8 (if i < k then L K i ^^^ 0x5c#8 else L K i)]]⟩,
      fun k => k ≤ 64, fun k => 64 - k, ⟨0, [0, 1, 2, 3, 4, 5, 6, 7, 8], ⟨⟨rfl, rfl, rfl⟩, ?_⟩, by omega⟩, fun k hk => ⟨fun h => ?_, fun h => ?_⟩⟩
    · (repeat first | exact trivial | refine ⟨rfl, ?_⟩ | refine ⟨fun _ _ => ⟨rfl, trivial⟩, ?_⟩ | refine ⟨fun _ _ => trivial, ?_⟩ | refine ⟨by omega, ?_⟩ | refine ⟨fun _ _ => eqC_winS, ?_⟩ | refine ⟨fun _ _ => eqC_winM, ?_⟩ | refine ⟨fun _ _ => eqC_winB, ?_⟩ | refine ⟨fun _ _ => eqC_selfB, ?_⟩ | refine ⟨fun _ _ => eqC_mpB, ?_⟩)
      refine eqC_bts (eqC_bts (eqC_bts ⟨rfl, fun j hj => eqC_P123 hM, ?_⟩))
      (repeat first | exact trivial | refine ⟨rfl, ?_⟩ | refine ⟨fun _ _ => ⟨rfl, trivial⟩, ?_⟩ | refine ⟨fun _ _ => trivial, ?_⟩ | refine ⟨by omega, ?_⟩ | refine ⟨fun _ _ => eqC_winS, ?_⟩ | refine ⟨fun _ _ => eqC_winM, ?_⟩ | refine ⟨fun _ _ => eqC_winB, ?_⟩ | refine ⟨fun _ _ => eqC_selfB, ?_⟩ | refine ⟨fun _ _ => eqC_mpB, ?_⟩)
      refine ⟨fun j hj => eqC_w8 ?_, ?_⟩
      · exact hrow j
      · refine ⟨rfl, fun j hj => eqC_w8 ?_, ?_⟩
        · exact hrow j
        · (repeat first | exact trivial | refine ⟨rfl, ?_⟩ | refine ⟨fun _ _ => ⟨rfl, trivial⟩, ?_⟩ | refine ⟨fun _ _ => trivial, ?_⟩ | refine ⟨by omega, ?_⟩ | refine ⟨fun _ _ => eqC_winS, ?_⟩ | refine ⟨fun _ _ => eqC_winM, ?_⟩ | refine ⟨fun _ _ => eqC_winB, ?_⟩ | refine ⟨fun _ _ => eqC_selfB, ?_⟩ | refine ⟨fun _ _ => eqC_mpB, ?_⟩)
    · have hlt : (k : Int) < 64 := of_decide_eq_true h
      (repeat first | refine ⟨by omega, ?_⟩ | refine ⟨by decide, ?_⟩ | refine ⟨idx8 _, ?_⟩ | refine ⟨lt8 (Nat.le_refl _) _, ?_⟩)
      refine ⟨rfl, ?_⟩
      (repeat first | refine ⟨by omega, ?_⟩ | refine ⟨by decide, ?_⟩ | refine ⟨idx8 _, ?_⟩ | refine ⟨lt8 (Nat.le_refl _) _, ?_⟩)
      refine ⟨rfl, ⟨by omega, by omega⟩, k + 1, [0, 1, 2, 3, 4, 5, 6, 7, 8], ⟨⟨rfl, rfl, rfl⟩, ?_⟩, by dsimp only; omega, by dsimp only; omega⟩
      (repeat first | exact trivial | refine ⟨rfl, ?_⟩ | refine ⟨fun _ _ => ⟨rfl, trivial⟩, ?_⟩ | refine ⟨fun _ _ => trivial, ?_⟩ | refine ⟨by omega, ?_⟩ | refine ⟨fun _ _ => eqC_winS, ?_⟩ | refine ⟨fun _ _ => eqC_winM, ?_⟩ | refine ⟨fun _ _ => eqC_winB, ?_⟩ | refine ⟨fun _ _ => eqC_selfB, ?_⟩ | refine ⟨fun _ _ => eqC_mpB, ?_⟩)
      refine eqC_bts (eqC_bts (eqC_bts ⟨rfl, fun j hj => eqC_P123 hM, ?_⟩))
      (repeat first | exact trivial | refine ⟨rfl, ?_⟩ | refine ⟨fun _ _ => ⟨rfl, trivial⟩, ?_⟩ | refine ⟨fun _ _ => trivial, ?_⟩ | refine ⟨by omega, ?_⟩ | refine ⟨fun _ _ => eqC_winS, ?_⟩ | refine ⟨fun _ _ => eqC_winM, ?_⟩ | refine ⟨fun _ _ => eqC_winB, ?_⟩ | refine ⟨fun _ _ => eqC_selfB, ?_⟩ | refine ⟨fun _ _ => eqC_mpB, ?_⟩)
      have e0 : (k : Int).toNat + 0 = k := by omega
      rw [e0]
      have hx : ∀ (x : BitVec 8) (j : Nat), eqC [0, 1, 2, 3, 4, 5, 6, 7, 8] (upd (fun i => SC.w8 (if i < k then L K i ^^^ x else L K i)) k (.w8 ((if k < k then L K k ^^^ x else L K k) ^^^ x)) j) (.w8 (if j < k + 1 then L K j ^^^ x else L K j)) True := fun x j => by
        unfold upd
        by_cases hj : j = k
        · rw [if_pos hj, if_neg (Nat.lt_irrefl k), hj, if_pos (by omega)]; exact ⟨rfl, trivial⟩
        · have : j < k + 1 ↔ j < k := by omega
          rw [if_neg hj]; simp only [this]; exact ⟨rfl, trivial⟩
      exact ⟨fun j hj => hx _ j, rfl, fun j hj => hx _ j, by (repeat first | exact trivial | refine ⟨rfl, ?_⟩ | refine ⟨fun _ _ => ⟨rfl, trivial⟩, ?_⟩ | refine ⟨fun _ _ => trivial, ?_⟩ | refine ⟨by omega, ?_⟩ | refine ⟨fun _ _ => eqC_winS, ?_⟩ | refine ⟨fun _ _ => eqC_winM, ?_⟩ | refine ⟨fun _ _ => eqC_winB, ?_⟩ | refine ⟨fun _ _ => eqC_selfB, ?_⟩ | refine ⟨fun _ _ => eqC_mpB, ?_⟩)⟩
    · obtain rfl : k = 64 := by have : ¬ (k : Int) < 64 := of_decide_eq_false h; have hk : k ≤ 64 := hk; omega
      refine ⟨by kernel_rfl, call_same (fn_begin 1 first steps hd') [5] rfl (by (repeat first | exact trivial | refine ⟨rfl, ?_⟩ | refine ⟨fun _ _ => ⟨rfl, trivial⟩, ?_⟩ | refine ⟨fun _ _ => trivial, ?_⟩ | refine ⟨by omega, ?_⟩ | refine ⟨fun _ _ => eqC_winS, ?_⟩ | refine ⟨fun _ _ => eqC_winM, ?_⟩ | refine ⟨fun _ _ => eqC_winB, ?_⟩ | refine ⟨fun _ _ => eqC_selfB, ?_⟩ | refine ⟨fun _ _ => eqC_mpB, ?_⟩)) (by (repeat first | exact trivial | refine ⟨rfl, ?_⟩ | refine ⟨fun _ _ => ⟨rfl, trivial⟩, ?_⟩ | refine ⟨fun _ _ => trivial, ?_⟩ | refine ⟨by omega, ?_⟩ | refine ⟨fun _ _ => eqC_winS, ?_⟩ | refine ⟨fun _ _ => eqC_winM, ?_⟩ | refine ⟨fun _ _ => eqC_winB, ?_⟩ | refine ⟨fun _ _ => eqC_selfB, ?_⟩ | refine ⟨fun _ _ => eqC_mpB, ?_⟩)) (fun _ _ => trivial) ?_⟩
      rintro x hs ⟨rfl, rfl⟩
      obtain ⟨IN, hIN⟩ : ∃ IN, padL 0x36#8 K = IN := ⟨_, rfl⟩
      obtain ⟨OU, hOU⟩ : ∃ OU, padL 0x5c#8 K = OU := ⟨_, rfl⟩
      have hINl : IN.length = 64 := by rw [← hIN, padL_len]
      have hOUl : OU.length = 64 := by rw [← hOU, padL_len]
      have hINi : ∀ i, i < 64 → (if i < 64 then L K i ^^^ 0x36#8 else L K i) = L IN i := fun i hi => by rw [if_pos hi, ← hIN]; exact (L_tab (b := fun i => L K i ^^^ 0x36#8) hi).symm
      have hOUi : ∀ i, i < 64 → (if i < 64 then L K i ^^^ 0x5c#8 else L K i) = L OU i := fun i hi => by rw [if_pos hi, ← hOU]; exact (L_tab (b := fun i => L K i ^^^ 0x5c#8) hi).symm
      (repeat first | refine ⟨by omega, ?_⟩ | refine ⟨by decide, ?_⟩ | refine ⟨idx8 _, ?_⟩ | refine ⟨lt8 (Nat.le_refl _) _, ?_⟩ | refine ⟨rfl, ?_⟩)
      have hsw := fn_swrite false 64 64 64 0 (L IN) d0 0 (by decide) (by omega) (by omega) (fun h => Bool.noConfusion h)
      have e1 : pushN d0 (L IN) 64 = pushL d0 (IN ++ cat ps 0) := by rw [← hINl, pushN_L]; simp [cat]
      have e2 : (0 : BitVec 64) + BitVec.ofNat 64 64 = BitVec.ofNat 64 (IN ++ cat ps 0).length := by simp [cat, hINl]
      rw [e1, e2] at hsw
      refine call_same hsw [5, 7, 9] rfl (by (repeat first | exact trivial | refine ⟨rfl, ?_⟩ | refine ⟨fun _ _ => ⟨rfl, trivial⟩, ?_⟩ | refine ⟨fun _ _ => trivial, ?_⟩ | refine ⟨by omega, ?_⟩ | refine ⟨fun _ _ => eqC_winS, ?_⟩ | refine ⟨fun _ _ => eqC_winM, ?_⟩ | refine ⟨fun _ _ => eqC_winB, ?_⟩ | refine ⟨fun _ _ => eqC_selfB, ?_⟩ | refine ⟨fun _ _ => eqC_mpB, ?_⟩)) ?_ (fun _ _ => trivial) ?_
      · (repeat first | exact trivial | refine ⟨rfl, ?_⟩ | refine ⟨fun _ _ => ⟨rfl, trivial⟩, ?_⟩ | refine ⟨fun _ _ => trivial, ?_⟩ | refine ⟨by omega, ?_⟩ | refine ⟨fun _ _ => eqC_winS, ?_⟩ | refine ⟨fun _ _ => eqC_winM, ?_⟩ | refine ⟨fun _ _ => eqC_winB, ?_⟩ | refine ⟨fun _ _ => eqC_selfB, ?_⟩ | refine ⟨fun _ _ => eqC_mpB, ?_⟩)
        refine ⟨fun j hj => eqC_win (f := fun i => SC.w8 (if i < 64 then L K i ^^^ 0x36#8 else L K i)) (fun i hi => congrArg SC.w8 ?_) j, ?_⟩
        · rw [Nat.zero_add]; exact hINi i hi
        · (repeat first | exact trivial | refine ⟨rfl, ?_⟩ | refine ⟨fun _ _ => ⟨rfl, trivial⟩, ?_⟩ | refine ⟨fun _ _ => trivial, ?_⟩ | refine ⟨by omega, ?_⟩ | refine ⟨fun _ _ => eqC_winS, ?_⟩ | refine ⟨fun _ _ => eqC_winM, ?_⟩ | refine ⟨fun _ _ => eqC_winB, ?_⟩ | refine ⟨fun _ _ => eqC_selfB, ?_⟩ | refine ⟨fun _ _ => eqC_mpB, ?_⟩)
      rintro x hs ⟨rfl, rfl⟩
      (repeat first | refine ⟨by omega, ?_⟩ | refine ⟨by decide, ?_⟩ | refine ⟨idx8 _, ?_⟩ | refine ⟨lt8 (Nat.le_refl _) _, ?_⟩ | refine ⟨rfl, ?_⟩)
      refine .inl ⟨Nat, fun k => ⟨[.a (.c (.p 5 0 0)), .any, .any, .any, .any, .any, .a (.c (.p 6 0 0)), .any, .a (.c (.p 8 0 0)), .any, .any, .a (.c (.p 9 0 0)), .any, .any, .any, .any, .any, .any, .any, .any, .any, .any, .any, .any, .any, .any, .any, .any, .any, .any, .any, .any, .any, .any, .any, .any, .any, .any, .any, .any, .any, .any, .any, .any, .any, .any, .any, .any, .any, .any, .a (.c (.sl 4 0 0 m cm)), .a (.c (.int .i64 (↑m))), .a (.c (.int .i64 (↑k))), .any, .any, .any, .any, .any, .any, .any, .any, .any, .any, .any, .any], [bts false Nk ok key.length (L key), bts z0 N0 o0 l0.length (L l0), bts z1 N1 o1 l1.length (L l1), bts z2 N2 o2 l2.length (L l2), [.row M (partsF m (nthC [.sn z0 1 0 o0 l0.length c0, .sn z1 2 0 o1 l1.length c1, .sn z2 3 0 o2 l2.length c2]))], shaT 1 0 first steps, [.row 32 fun _ => .w8 0#8], [], [.row 64 fun i => .w8 (L OU i)], digC 5 (pushL d0 (IN ++ cat ps k)).V (pushL d0 (IN ++ cat ps k)).P (pushL d0 (IN ++ cat ps k)).h (BitVec.ofNat 64 (IN ++ cat ps k).length)]⟩,
        fun k => k ≤ m, fun k => m - k, ⟨0, [0, 1, 2, 3, 4, 5, 6, 7, 8, 9], ⟨⟨rfl, rfl, rfl⟩, ?_⟩, by omega⟩, fun k hk => ⟨fun h => ?_, fun h => ?_⟩⟩
      · (repeat first | exact trivial | refine ⟨rfl, ?_⟩ | refine ⟨fun _ _ => ⟨rfl, trivial⟩, ?_⟩ | refine ⟨fun _ _ => trivial, ?_⟩ | refine ⟨by omega, ?_⟩ | refine ⟨fun _ _ => eqC_winS, ?_⟩ | refine ⟨fun _ _ => eqC_winM, ?_⟩ | refine ⟨fun _ _ => eqC_winB, ?_⟩ | refine ⟨fun _ _ => eqC_selfB, ?_⟩ | refine ⟨fun _ _ => eqC_mpB, ?_⟩)
        refine eqC_bts (eqC_bts (eqC_bts ⟨rfl, fun j hj => eqC_P123 hM, ?_⟩))
        (repeat first | exact trivial | refine ⟨rfl, ?_⟩ | refine ⟨fun _ _ => ⟨rfl, trivial⟩, ?_⟩ | refine ⟨fun _ _ => trivial, ?_⟩ | refine ⟨by omega, ?_⟩ | refine ⟨fun _ _ => eqC_winS, ?_⟩ | refine ⟨fun _ _ => eqC_winM, ?_⟩ | refine ⟨fun _ _ => eqC_winB, ?_⟩ | refine ⟨fun _ _ => eqC_selfB, ?_⟩ | refine ⟨fun _ _ => eqC_mpB, ?_⟩)
        refine ⟨fun j hj => eqC_w8 (congrArg SC.w8 (hOUi j hj)), ?_⟩
        (repeat first | exact trivial | refine ⟨rfl, ?_⟩ | refine ⟨fun _ _ => ⟨rfl, trivial⟩, ?_⟩ | refine ⟨fun _ _ => trivial, ?_⟩ | refine ⟨by omega, ?_⟩ | refine ⟨fun _ _ => eqC_winS, ?_⟩ | refine ⟨fun _ _ => eqC_winM, ?_⟩ | refine ⟨fun _ _ => eqC_winB, ?_⟩ | refine ⟨fun _ _ => eqC_selfB, ?_⟩ | refine ⟨fun _ _ => eqC_mpB, ?_⟩)
      · have hlt : k < m := by have : (k : Int) < (m : Int) := of_decide_eq_true h; omega
        (repeat first | refine ⟨by omega, ?_⟩ | refine ⟨by decide, ?_⟩ | refine ⟨idx8 _, ?_⟩ | refine ⟨lt8 (Nat.le_refl _) _, ?_⟩)
        have e3 : (k : Int).toNat + 0 = k := by omega
        rw [e3]
        refine frc_parts hlt ?_
        obtain ⟨D, hD⟩ : ∃ D, pushL d0 (IN ++ cat ps k) = D := ⟨_, rfl⟩
        have hDl : D.h < 64 := by rw [← hD]; exact pushL_lt (by decide) _
        rw [hD]
        have hk3 : k = 0 ∨ k = 1 ∨ k = 2 := by omega
        rcases hk3 with rfl | rfl | rfl
        · obtain ⟨hk1, hl1⟩ := hl 0 l0 IN (by rw [← hps]; rfl)
          rw [hD] at hk1
          refine ⟨by kernel_rfl, call_same (fn_swrite z0 l0.length c0 N0 o0 (L l0) D (BitVec.ofNat 64 (IN ++ cat ps 0).length) hDl hN0 hc0 (fun h => by rw [hz0 h]; rfl)) [5, 1, 9] rfl (by (repeat first | exact trivial | refine ⟨rfl, ?_⟩ | refine ⟨fun _ _ => ⟨rfl, trivial⟩, ?_⟩ | refine ⟨fun _ _ => trivial, ?_⟩ | refine ⟨by omega, ?_⟩ | refine ⟨fun _ _ => eqC_winS, ?_⟩ | refine ⟨fun _ _ => eqC_winM, ?_⟩ | refine ⟨fun _ _ => eqC_winB, ?_⟩ | refine ⟨fun _ _ => eqC_selfB, ?_⟩ | refine ⟨fun _ _ => eqC_mpB, ?_⟩)) ?_ (fun _ _ => trivial) ?_⟩
          · (repeat first | exact trivial | refine ⟨rfl, ?_⟩ | refine ⟨fun _ _ => ⟨rfl, trivial⟩, ?_⟩ | refine ⟨fun _ _ => trivial, ?_⟩ | refine ⟨by omega, ?_⟩ | refine ⟨fun _ _ => eqC_winS, ?_⟩ | refine ⟨fun _ _ => eqC_winM, ?_⟩ | refine ⟨fun _ _ => eqC_winB, ?_⟩ | refine ⟨fun _ _ => eqC_selfB, ?_⟩ | refine ⟨fun _ _ => eqC_mpB, ?_⟩)
            refine eqC_bts ?_
            (repeat first | exact trivial | refine ⟨rfl, ?_⟩ | refine ⟨fun _ _ => ⟨rfl, trivial⟩, ?_⟩ | refine ⟨fun _ _ => trivial, ?_⟩ | refine ⟨by omega, ?_⟩ | refine ⟨fun _ _ => eqC_winS, ?_⟩ | refine ⟨fun _ _ => eqC_winM, ?_⟩ | refine ⟨fun _ _ => eqC_winB, ?_⟩ | refine ⟨fun _ _ => eqC_selfB, ?_⟩ | refine ⟨fun _ _ => eqC_mpB, ?_⟩)
          · rintro x hs ⟨rfl, rfl⟩
            rw [hk1, hl1]
            refine ⟨⟨by omega, by omega⟩, 1, [0, 1, 2, 3, 4, 5, 6, 7, 8, 9], ⟨⟨rfl, rfl, rfl⟩, ?_⟩, by dsimp only; omega, by dsimp only; omega⟩
            (repeat first | exact trivial | refine ⟨rfl, ?_⟩ | refine ⟨fun _ _ => ⟨rfl, trivial⟩, ?_⟩ | refine ⟨fun _ _ => trivial, ?_⟩ | refine ⟨by omega, ?_⟩ | refine ⟨fun _ _ => eqC_winS, ?_⟩ | refine ⟨fun _ _ => eqC_winM, ?_⟩ | refine ⟨fun _ _ => eqC_winB, ?_⟩ | refine ⟨fun _ _ => eqC_selfB, ?_⟩ | refine ⟨fun _ _ => eqC_mpB, ?_⟩)
            refine eqC_bts (eqC_bts (eqC_bts ⟨rfl, fun j hj => eqC_P123 hM, ?_⟩))
            (repeat first | exact trivial | refine ⟨rfl, ?_⟩ | refine ⟨fun _ _ => ⟨rfl, trivial⟩, ?_⟩ | refine ⟨fun _ _ => trivial, ?_⟩ | refine ⟨by omega, ?_⟩ | refine ⟨fun _ _ => eqC_winS, ?_⟩ | refine ⟨fun _ _ => eqC_winM, ?_⟩ | refine ⟨fun _ _ => eqC_winB, ?_⟩ | refine ⟨fun _ _ => eqC_selfB, ?_⟩ | refine ⟨fun _ _ => eqC_mpB, ?_⟩)
        · obtain ⟨hk1, hl1⟩ := hl 1 l1 IN (by rw [← hps]; rfl)
          rw [hD] at hk1
          refine ⟨by kernel_rfl, call_same (fn_swrite z1 l1.length c1 N1 o1 (L l1) D (BitVec.ofNat 64 (IN ++ cat ps 1).length) hDl hN1 hc1 (fun h => by rw [hz1 h]; rfl)) [5, 2, 9] rfl (by (repeat first | exact trivial | refine ⟨rfl, ?_⟩ | refine ⟨fun _ _ => ⟨rfl, trivial⟩, ?_⟩ | refine ⟨fun _ _ => trivial, ?_⟩ | refine ⟨by omega, ?_⟩ | refine ⟨fun _ _ => eqC_winS, ?_⟩ | refine ⟨fun _ _ => eqC_winM, ?_⟩ | refine ⟨fun _ _ => eqC_winB, ?_⟩ | refine ⟨fun _ _ => eqC_selfB, ?_⟩ | refine ⟨fun _ _ => eqC_mpB, ?_⟩)) ?_ (fun _ _ => trivial) ?_⟩
          · (repeat first | exact trivial | refine ⟨rfl, ?_⟩ | refine ⟨fun _ _ => ⟨rfl, trivial⟩, ?_⟩ | refine ⟨fun _ _ => trivial, ?_⟩ | refine ⟨by omega, ?_⟩ | refine ⟨fun _ _ => eqC_winS, ?_⟩ | refine ⟨fun _ _ => eqC_winM, ?_⟩ | refine ⟨fun _ _ => eqC_winB, ?_⟩ | refine ⟨fun _ _ => eqC_selfB, ?_⟩ | refine ⟨fun _ _ => eqC_mpB, ?_⟩)
            refine eqC_bts ?_
            (repeat first | exact trivial | refine ⟨rfl, ?_⟩ | refine ⟨fun _ _ => ⟨rfl, trivial⟩, ?_⟩ | refine ⟨fun _ _ => trivial, ?_⟩ | refine ⟨by omega, ?_⟩ | refine ⟨fun _ _ => eqC_winS, ?_⟩ | refine ⟨fun _ _ => eqC_winM, ?_⟩ | refine ⟨fun _ _ => eqC_winB, ?_⟩ | refine ⟨fun _ _ => eqC_selfB, ?_⟩ | refine ⟨fun _ _ => eqC_mpB, ?_⟩)
          · rintro x hs ⟨rfl, rfl⟩
            rw [hk1, hl1]
            refine ⟨⟨by omega, by omega⟩, 2, [0, 1, 2, 3, 4, 5, 6, 7, 8, 9], ⟨⟨rfl, rfl, rfl⟩, ?_⟩, by dsimp only; omega, by dsimp only; omega⟩
            (repeat first | exact trivial | refine ⟨rfl, ?_⟩ | refine ⟨fun _ _ => ⟨rfl, trivial⟩, ?_⟩ | refine ⟨fun _ _ => trivial, ?_⟩ | refine ⟨by omega, ?_⟩ | refine ⟨fun _ _ => eqC_winS, ?_⟩ | refine ⟨fun _ _ => eqC_winM, ?_⟩ | refine ⟨fun _ _ => eqC_winB, ?_⟩ | refine ⟨fun _ _ => eqC_selfB, ?_⟩ | refine ⟨fun _ _ => eqC_mpB, ?_⟩)
            refine eqC_bts (eqC_bts (eqC_bts ⟨rfl, fun j hj => eqC_P123 hM, ?_⟩))
            (repeat first | exact trivial | refine ⟨rfl, ?_⟩ | refine ⟨fun _ _ => ⟨rfl, trivial⟩, ?_⟩ | refine ⟨fun _ _ => trivial, ?_⟩ | refine ⟨by omega, ?_⟩ | refine ⟨fun _ _ => eqC_winS, ?_⟩ | refine ⟨fun _ _ => eqC_winM, ?_⟩ | refine ⟨fun _ _ => eqC_winB, ?_⟩ | refine ⟨fun _ _ => eqC_selfB, ?_⟩ | refine ⟨fun _ _ => eqC_mpB, ?_⟩)
        · obtain ⟨hk1, hl1⟩ := hl 2 l2 IN (by rw [← hps]; rfl)
          rw [hD] at hk1
          refine ⟨by kernel_rfl, call_same (fn_swrite z2 l2.length c2 N2 o2 (L l2) D (BitVec.ofNat 64 (IN ++ cat ps 2).length) hDl hN2 hc2 (fun h => by rw [hz2 h]; rfl)) [5, 3, 9] rfl (by (repeat first | exact trivial | refine ⟨rfl, ?_⟩ | refine ⟨fun _ _ => ⟨rfl, trivial⟩, ?_⟩ | refine ⟨fun _ _ => trivial, ?_⟩ | refine ⟨by omega, ?_⟩ | refine ⟨fun _ _ => eqC_winS, ?_⟩ | refine ⟨fun _ _ => eqC_winM, ?_⟩ | refine ⟨fun _ _ => eqC_winB, ?_⟩ | refine ⟨fun _ _ => eqC_selfB, ?_⟩ | refine ⟨fun _ _ => eqC_mpB, ?_⟩)) ?_ (fun _ _ => trivial) ?_⟩
          · (repeat first | exact trivial | refine ⟨rfl, ?_⟩ | refine ⟨fun _ _ => ⟨rfl, trivial⟩, ?_⟩ | refine ⟨fun _ _ => trivial, ?_⟩ | refine ⟨by omega, ?_⟩ | refine ⟨fun _ _ => eqC_winS, ?_⟩ | refine ⟨fun _ _ => eqC_winM, ?_⟩ | refine ⟨fun _ _ => eqC_winB, ?_⟩ | refine ⟨fun _ _ => eqC_selfB, ?_⟩ | refine ⟨fun _ _ => eqC_mpB, ?_⟩)
            refine eqC_bts ?_
            (repeat first | exact trivial | refine ⟨rfl, ?_⟩ | refine ⟨fun _ _ => ⟨rfl, trivial⟩, ?_⟩ | refine ⟨fun _ _ => trivial, ?_⟩ | refine ⟨by omega, ?_⟩ | refine ⟨fun _ _ => eqC_winS, ?_⟩ | refine ⟨fun _ _ => eqC_winM, ?_⟩ | refine ⟨fun _ _ => eqC_winB, ?_⟩ | refine ⟨fun _ _ => eqC_selfB, ?_⟩ | refine ⟨fun _ _ => eqC_mpB, ?_⟩)
          · rintro x hs ⟨rfl, rfl⟩
            rw [hk1, hl1]
            refine ⟨⟨by omega, by omega⟩, 3, [0, 1, 2, 3, 4, 5, 6, 7, 8, 9], ⟨⟨rfl, rfl, rfl⟩, ?_⟩, by dsimp only; omega, by dsimp only; omega⟩
            (repeat first | exact trivial | refine ⟨rfl, ?_⟩ | refine ⟨fun _ _ => ⟨rfl, trivial⟩, ?_⟩ | refine ⟨fun _ _ => trivial, ?_⟩ | refine ⟨by omega, ?_⟩ | refine ⟨fun _ _ => eqC_winS, ?_⟩ | refine ⟨fun _ _ => eqC_winM, ?_⟩ | refine ⟨fun _ _ => eqC_winB, ?_⟩ | refine ⟨fun _ _ => eqC_selfB, ?_⟩ | refine ⟨fun _ _ => eqC_mpB, ?_⟩)
            refine eqC_bts (eqC_bts (eqC_bts ⟨rfl, fun j hj => eqC_P123 hM, ?_⟩))
            (repeat first | exact trivial | refine ⟨rfl, ?_⟩ | refine ⟨fun _ _ => ⟨rfl, trivial⟩, ?_⟩ | refine ⟨fun _ _ => trivial, ?_⟩ | refine ⟨by omega, ?_⟩ | refine ⟨fun _ _ => eqC_winS, ?_⟩ | refine ⟨fun _ _ => eqC_winM, ?_⟩ | refine ⟨fun _ _ => eqC_winB, ?_⟩ | refine ⟨fun _ _ => eqC_selfB, ?_⟩ | refine ⟨fun _ _ => eqC_mpB, ?_⟩)
      · obtain rfl : k = m := by have : ¬ (k : Int) < (m : Int) := of_decide_eq_false h; have hk : k ≤ m := hk; omega
        obtain ⟨D, hD⟩ : ∃ D, pushL d0 (IN ++ cat ps k) = D := ⟨_, rfl⟩
        have hDl : D.h < 64 := by rw [← hD]; exact pushL_lt (by decide) _
        obtain ⟨S, hS⟩ : ∃ S, sumL (IN ++ cat ps k) = S := ⟨_, rfl⟩
        have hSl : S.length = 32 := by rw [← hS, sumL_len]
        have hSL : ∀ i, i < 32 → endV D (BitVec.ofNat 64 (IN ++ cat ps k).length) i = L S i := fun i hi => by rw [← hS, L_sumL _ hi, hD]
        have hM1 : markL key (cat ps k) = sumL (OU ++ S) := by unfold markL; rw [hK, hIN, hOU, hS]
        rw [hD]
        refine ⟨by kernel_rfl, call_same (fn_send D (BitVec.ofNat 64 (IN ++ cat ps k).length) hDl) [5, 9] rfl (by (repeat first | exact trivial | refine ⟨rfl, ?_⟩ | refine ⟨fun _ _ => ⟨rfl, trivial⟩, ?_⟩ | refine ⟨fun _ _ => trivial, ?_⟩ | refine ⟨by omega, ?_⟩ | refine ⟨fun _ _ => eqC_winS, ?_⟩ | refine ⟨fun _ _ => eqC_winM, ?_⟩ | refine ⟨fun _ _ => eqC_winB, ?_⟩ | refine ⟨fun _ _ => eqC_selfB, ?_⟩ | refine ⟨fun _ _ => eqC_mpB, ?_⟩)) (by (repeat first | exact trivial | refine ⟨rfl, ?_⟩ | refine ⟨fun _ _ => ⟨rfl, trivial⟩, ?_⟩ | refine ⟨fun _ _ => trivial, ?_⟩ | refine ⟨by omega, ?_⟩ | refine ⟨fun _ _ => eqC_winS, ?_⟩ | refine ⟨fun _ _ => eqC_winM, ?_⟩ | refine ⟨fun _ _ => eqC_winB, ?_⟩ | refine ⟨fun _ _ => eqC_selfB, ?_⟩ | refine ⟨fun _ _ => eqC_mpB, ?_⟩)) (fun _ _ => trivial) ?_⟩
        rintro x hs ⟨rfl, V', P', h', a', rfl⟩
        (repeat first | refine ⟨by omega, ?_⟩ | refine ⟨by decide, ?_⟩ | refine ⟨idx8 _, ?_⟩ | refine ⟨lt8 (Nat.le_refl _) _, ?_⟩ | refine ⟨rfl, ?_⟩)
        refine ⟨some [], [], [(0, true), (1, true), (2, true), (3, false), (4, false)], [5], by kernel_rfl, ?_⟩
        (repeat first | refine ⟨by omega, ?_⟩ | refine ⟨by decide, ?_⟩ | refine ⟨idx8 _, ?_⟩ | refine ⟨lt8 (Nat.le_refl _) _, ?_⟩ | refine ⟨rfl, ?_⟩)
        refine call_same (fn_ssum3 false false true 64 32 0 0 0 0 64 32 0 OU S [] 2 2 2 1 first steps (.inr ⟨rfl, rfl, rfl⟩) (by omega) (by omega) (by decide) (by omega) (by omega) (by decide) (fun h => Bool.noConfusion h) (fun h => Bool.noConfusion h) (fun _ => rfl) (by decide) (by decide)) [8, 10, 10, 11, 5] rfl (by (repeat first | exact trivial | refine ⟨rfl, ?_⟩ | refine ⟨fun _ _ => ⟨rfl, trivial⟩, ?_⟩ | refine ⟨fun _ _ => trivial, ?_⟩ | refine ⟨by omega, ?_⟩ | refine ⟨fun _ _ => eqC_winS, ?_⟩ | refine ⟨fun _ _ => eqC_winM, ?_⟩ | refine ⟨fun _ _ => eqC_winB, ?_⟩ | refine ⟨fun _ _ => eqC_selfB, ?_⟩ | refine ⟨fun _ _ => eqC_mpB, ?_⟩)) ?_ (fun _ _ => trivial) ?_
        · (repeat first | exact trivial | refine ⟨rfl, ?_⟩ | refine ⟨fun _ _ => ⟨rfl, trivial⟩, ?_⟩ | refine ⟨fun _ _ => trivial, ?_⟩ | refine ⟨by omega, ?_⟩ | refine ⟨fun _ _ => eqC_winS, ?_⟩ | refine ⟨fun _ _ => eqC_winM, ?_⟩ | refine ⟨fun _ _ => eqC_winB, ?_⟩ | refine ⟨fun _ _ => eqC_selfB, ?_⟩ | refine ⟨fun _ _ => eqC_mpB, ?_⟩)
          refine ⟨fun j hj => eqC_win8 (fun i hi => rfl) j, ?_⟩
          (repeat first | exact trivial | refine ⟨rfl, ?_⟩ | refine ⟨fun _ _ => ⟨rfl, trivial⟩, ?_⟩ | refine ⟨fun _ _ => trivial, ?_⟩ | refine ⟨by omega, ?_⟩ | refine ⟨fun _ _ => eqC_winS, ?_⟩ | refine ⟨fun _ _ => eqC_winM, ?_⟩ | refine ⟨fun _ _ => eqC_winB, ?_⟩ | refine ⟨fun _ _ => eqC_selfB, ?_⟩ | refine ⟨fun _ _ => eqC_mpB, ?_⟩)
          refine ⟨fun j hj => eqC_win8 (fun i hi => hSL i (by omega)) j, ?_⟩
          (repeat first | exact trivial | refine ⟨rfl, ?_⟩ | refine ⟨fun _ _ => ⟨rfl, trivial⟩, ?_⟩ | refine ⟨fun _ _ => trivial, ?_⟩ | refine ⟨by omega, ?_⟩ | refine ⟨fun _ _ => eqC_winS, ?_⟩ | refine ⟨fun _ _ => eqC_winM, ?_⟩ | refine ⟨fun _ _ => eqC_winB, ?_⟩ | refine ⟨fun _ _ => eqC_selfB, ?_⟩ | refine ⟨fun _ _ => eqC_mpB, ?_⟩)
          refine ⟨fun j hj => eqC_parts (fun i hi => ?_) j, ?_⟩
          · have : i = 0 ∨ i = 1 := by omega
            rcases this with rfl | rfl
            · exact ⟨rfl, rfl, hOUl.symm, rfl, trivial⟩
            · exact ⟨rfl, rfl, hSl.symm, rfl, trivial⟩
          · (repeat first | exact trivial | refine ⟨rfl, ?_⟩ | refine ⟨fun _ _ => ⟨rfl, trivial⟩, ?_⟩ | refine ⟨fun _ _ => trivial, ?_⟩ | refine ⟨by omega, ?_⟩ | refine ⟨fun _ _ => eqC_winS, ?_⟩ | refine ⟨fun _ _ => eqC_winM, ?_⟩ | refine ⟨fun _ _ => eqC_winB, ?_⟩ | refine ⟨fun _ _ => eqC_selfB, ?_⟩ | refine ⟨fun _ _ => eqC_mpB, ?_⟩)
        rintro x hs ⟨rfl, rfl⟩
        (repeat first | refine ⟨by omega, ?_⟩ | refine ⟨by decide, ?_⟩ | refine ⟨idx8 _, ?_⟩ | refine ⟨lt8 (Nat.le_refl _) _, ?_⟩ | refine ⟨rfl, ?_⟩)
        have hcat : cat (ps3 OU S []) 2 = OU ++ S := by simp [cat, ps3]
        rw [hcat]
        refine ⟨.a (.agg [.row 32 fun i => .w8 (L (markL key (cat ps k)) i)]), [bts false Nk ok key.length (L key), bts z0 N0 o0 l0.length (L l0), bts z1 N1 o1 l1.length (L l1), bts z2 N2 o2 l2.length (L l2), [.row M (partsF k (nthC [.sn z0 1 0 o0 l0.length c0, .sn z1 2 0 o1 l1.length c1, .sn z2 3 0 o2 l2.length c2]))], shaT 1 0 first steps], ⟨[0, 1, 2, 3, 4, 5], ⟨rfl, rfl, rfl⟩, ?_⟩, rfl, rfl⟩
        rw [hM1]
        (repeat first | exact trivial | refine ⟨rfl, ?_⟩ | refine ⟨fun _ _ => ⟨rfl, trivial⟩, ?_⟩ | refine ⟨fun _ _ => trivial, ?_⟩ | refine ⟨by omega, ?_⟩ | refine ⟨fun _ _ => eqC_winS, ?_⟩ | refine ⟨fun _ _ => eqC_winM, ?_⟩ | refine ⟨fun _ _ => eqC_winB, ?_⟩ | refine ⟨fun _ _ => eqC_selfB, ?_⟩ | refine ⟨fun _ _ => eqC_mpB, ?_⟩)
        refine eqC_bts (eqC_bts (eqC_bts ⟨rfl, fun j hj => eqC_P123 hM, ?_⟩))
        (repeat first | exact trivial | refine ⟨rfl, ?_⟩ | refine ⟨fun _ _ => ⟨rfl, trivial⟩, ?_⟩ | refine ⟨fun _ _ => trivial, ?_⟩ | refine ⟨by omega, ?_⟩ | refine ⟨fun _ _ => eqC_winS, ?_⟩ | refine ⟨fun _ _ => eqC_winM, ?_⟩ | refine ⟨fun _ _ => eqC_winB, ?_⟩ | refine ⟨fun _ _ => eqC_selfB, ?_⟩ | refine ⟨fun _ _ => eqC_mpB, ?_⟩)
  refine ⟨fun h => absurd (of_decide_eq_true h) (by omega), fun _ => ?_⟩
  obtain rfl : key = K := by rw [← hK]; unfold keyL; rw [if_neg hlen]
  cases zk with
  | true =>
    obtain rfl := hzk rfl
    have hrow := key_row [] [] 0 0 (by decide) rfl (fun i => .any) (fun i hi => absurd hi (by simp))
    have hd' := hd
    (repeat first | refine ⟨by omega, ?_⟩ | refine ⟨by decide, ?_⟩ | refine ⟨idx8 _, ?_⟩ | refine ⟨lt8 (Nat.le_refl _) _, ?_⟩ | refine ⟨rfl, ?_⟩ | refine ⟨by simp only [scale]; omega, ?_⟩)
    refine ⟨fun q => SC.any, ⟨fun h => rfl, fun h => Bool.noConfusion h⟩, ?_⟩
    (repeat first | refine ⟨by omega, ?_⟩ | refine ⟨by decide, ?_⟩ | refine ⟨idx8 _, ?_⟩ | refine ⟨lt8 (Nat.le_refl _) _, ?_⟩ | refine ⟨rfl, ?_⟩ | refine ⟨by simp only [scale]; omega, ?_⟩)
    refine ⟨fun q => SC.any, ⟨fun h => rfl, fun h => Bool.noConfusion h⟩, ?_⟩
    (repeat first | refine ⟨by omega, ?_⟩ | refine ⟨by decide, ?_⟩ | refine ⟨idx8 _, ?_⟩ | refine ⟨lt8 (Nat.le_refl _) _, ?_⟩ | refine ⟨rfl, ?_⟩ | refine ⟨by simp only [scale]; omega, ?_⟩)
    refine .inl ⟨Nat, fun k => ⟨[.a (.c (.p 5 0 0)), .any, .a (.c (.sl 4 0 0 m cm)), .any, .any, .any, .a (.c (.p 6 0 0)), .a (.c (.p 7 0 0)), .a (.c (.p 8 0 0)), .any, .any, .any, .any, .any, .any, .any, .any, .any, .any, .any, .any, .any, .any, .any, .any, .any, .any, .any, .any, .any, .any, .any, .a (.c (.int .i64 (↑k))), .any, .any, .any, .any, .any, .any, .any, .any, .any, .any, .any, .any, .any, .any, .any, .any, .any, .any, .any, .any, .any, .any, .any, .any, .any, .any, .any, .any, .any, .any, .any, .any], [bts true Nk ok ([] : Bs).length (L ([] : Bs)), bts z0 N0 o0 l0.length (L l0), bts z1 N1 o1 l1.length (L l1), bts z2 N2 o2 l2.length (L l2), [.row M (partsF m (nthC [.sn z0 1 0 o0 l0.length c0, .sn z1 2 0 o1 l1.length c1, .sn z2 3 0 o2 l2.length c2]))], shaT dn 0 f s, [.row 32 fun _ => .w8 0#8], [.row 64 fun i => .w8 (if i < k then L ([] : Bs) i ^^^ 0x36#8 else L ([] : Bs) i)], [.row 64 fun i => .w8 (if i < k then L ([] : Bs) i ^^^ 0x5c#8 else L ([] : Bs) i)]]⟩,
      fun k => k ≤ 64, fun k => 64 - k, ⟨0, [0, 1, 2, 3, 4, 5, 6, 7, 8], ⟨⟨rfl, rfl, rfl⟩, ?_⟩, by omega⟩, fun k hk => ⟨fun h => ?_, fun h => ?_⟩⟩
    · (repeat first | exact trivial | refine ⟨rfl, ?_⟩ | refine ⟨fun _ _ => ⟨rfl, trivial⟩, ?_⟩ | refine ⟨fun _ _ => trivial, ?_⟩ | refine ⟨by omega, ?_⟩ | refine ⟨fun _ _ => eqC_winS, ?_⟩ | refine ⟨fun _ _ => eqC_winM, ?_⟩ | refine ⟨fun _ _ => eqC_winB, ?_⟩ | refine ⟨fun _ _ => eqC_selfB, ?_⟩ | refine ⟨fun _ _ => eqC_mpB, ?_⟩)
      refine eqC_bts (eqC_bts (eqC_bts (eqC_bts ⟨rfl, fun j hj => eqC_P123 hM, ?_⟩)))
      (repeat first | exact trivial | refine ⟨rfl, ?_⟩ | refine ⟨fun _ _ => ⟨rfl, trivial⟩, ?_⟩ | refine ⟨fun _ _ => trivial, ?_⟩ | refine ⟨by omega, ?_⟩ | refine ⟨fun _ _ => eqC_winS, ?_⟩ | refine ⟨fun _ _ => eqC_winM, ?_⟩ | refine ⟨fun _ _ => eqC_winB, ?_⟩ | refine ⟨fun _ _ => eqC_selfB, ?_⟩ | refine ⟨fun _ _ => eqC_mpB, ?_⟩)
    · have hlt : (k : Int) < 64 := of_decide_eq_true h
      (repeat first | refine ⟨by omega, ?_⟩ | refine ⟨by decide, ?_⟩ | refine ⟨idx8 _, ?_⟩ | refine ⟨lt8 (Nat.le_refl _) _, ?_⟩)
      refine ⟨rfl, ?_⟩
      (repeat first | refine ⟨by omega, ?_⟩ | refine ⟨by decide, ?_⟩ | refine ⟨idx8 _, ?_⟩ | refine ⟨lt8 (Nat.le_refl _) _, ?_⟩)
      refine ⟨rfl, ⟨by omega, by omega⟩, k + 1, [0, 1, 2, 3, 4, 5, 6, 7, 8], ⟨⟨rfl, rfl, rfl⟩, ?_⟩, by dsimp only; omega, by dsimp only; omega⟩
      (repeat first | exact trivial | refine ⟨rfl, ?_⟩ | refine ⟨fun _ _ => ⟨rfl, trivial⟩, ?_⟩ | refine ⟨fun _ _ => trivial, ?_⟩ | refine ⟨by omega, ?_⟩ | refine ⟨fun _ _ => eqC_winS, ?_⟩ | refine ⟨fun _ _ => eqC_winM, ?_⟩ | refine ⟨fun _ _ => eqC_winB, ?_⟩ | refine ⟨fun _ _ => eqC_selfB, ?_⟩ | refine ⟨fun _ _ => eqC_mpB, ?_⟩)
      refine eqC_bts (eqC_bts (eqC_bts (eqC_bts ⟨rfl, fun j hj => eqC_P123 hM, ?_⟩)))
      (repeat first | exact trivial | refine ⟨rfl, ?_⟩ | refine ⟨fun _ _ => ⟨rfl, trivial⟩, ?_⟩ | refine ⟨fun _ _ => trivial, ?_⟩ | refine ⟨by omega, ?_⟩ | refine ⟨fun _ _ => eqC_winS, ?_⟩ | refine ⟨fun _ _ => eqC_winM, ?_⟩ | refine ⟨fun _ _ => eqC_winB, ?_⟩ | refine ⟨fun _ _ => eqC_selfB, ?_⟩ | refine ⟨fun _ _ => eqC_mpB, ?_⟩)
      have e0 : (k : Int).toNat + 0 = k := by omega
      rw [e0]
      have hx : ∀ (x : BitVec 8) (j : Nat), eqC [0, 1, 2, 3, 4, 5, 6, 7, 8] (upd (fun i => SC.w8 (if i < k then L ([] : Bs) i ^^^ x else L ([] : Bs) i)) k (.w8 ((if k < k then L ([] : Bs) k ^^^ x else L ([] : Bs) k) ^^^ x)) j) (.w8 (if j < k + 1 then L ([] : Bs) j ^^^ x else L ([] : Bs) j)) True := fun x j => by
        unfold upd
        by_cases hj : j = k
        · rw [if_pos hj, if_neg (Nat.lt_irrefl k), hj, if_pos (by omega)]; exact ⟨rfl, trivial⟩
        · have : j < k + 1 ↔ j < k := by omega
          rw [if_neg hj]; simp only [this]; exact ⟨rfl, trivial⟩
      exact ⟨fun j hj => hx _ j, rfl, fun j hj => hx _ j, by (repeat first | exact trivial | refine ⟨rfl, ?_⟩ | refine ⟨fun _ _ => ⟨rfl, trivial⟩, ?_⟩ | refine ⟨fun _ _ => trivial, ?_⟩ | refine ⟨by omega, ?_⟩ | refine ⟨fun _ _ => eqC_winS, ?_⟩ | refine ⟨fun _ _ => eqC_winM, ?_⟩ | refine ⟨fun _ _ => eqC_winB, ?_⟩ | refine ⟨fun _ _ => eqC_selfB, ?_⟩ | refine ⟨fun _ _ => eqC_mpB, ?_⟩)⟩
    · obtain rfl : k = 64 := by have : ¬ (k : Int) < 64 := of_decide_eq_false h; have hk : k ≤ 64 := hk; omega
      refine ⟨by kernel_rfl, call_same (fn_begin dn f s hd') [5] rfl (by (repeat first | exact trivial | refine ⟨rfl, ?_⟩ | refine ⟨fun _ _ => ⟨rfl, trivial⟩, ?_⟩ | refine ⟨fun _ _ => trivial, ?_⟩ | refine ⟨by omega, ?_⟩ | refine ⟨fun _ _ => eqC_winS, ?_⟩ | refine ⟨fun _ _ => eqC_winM, ?_⟩ | refine ⟨fun _ _ => eqC_winB, ?_⟩ | refine ⟨fun _ _ => eqC_selfB, ?_⟩ | refine ⟨fun _ _ => eqC_mpB, ?_⟩)) (by (repeat first | exact trivial | refine ⟨rfl, ?_⟩ | refine ⟨fun _ _ => ⟨rfl, trivial⟩, ?_⟩ | refine ⟨fun _ _ => trivial, ?_⟩ | refine ⟨by omega, ?_⟩ | refine ⟨fun _ _ => eqC_winS, ?_⟩ | refine ⟨fun _ _ => eqC_winM, ?_⟩ | refine ⟨fun _ _ => eqC_winB, ?_⟩ | refine ⟨fun _ _ => eqC_selfB, ?_⟩ | refine ⟨fun _ _ => eqC_mpB, ?_⟩)) (fun _ _ => trivial) ?_⟩
      rintro x hs ⟨rfl, rfl⟩
      obtain ⟨IN, hIN⟩ : ∃ IN, padL 0x36#8 ([] : Bs) = IN := ⟨_, rfl⟩
      obtain ⟨OU, hOU⟩ : ∃ OU, padL 0x5c#8 ([] : Bs) = OU := ⟨_, rfl⟩
      have hINl : IN.length = 64 := by rw [← hIN, padL_len]
      have hOUl : OU.length = 64 := by rw [← hOU, padL_len]
      have hINi : ∀ i, i < 64 → (if i < 64 then L ([] : Bs) i ^^^ 0x36#8 else L ([] : Bs) i) = L IN i := fun i hi => by rw [if_pos hi, ← hIN]; exact (L_tab (b := fun i => L ([] : Bs) i ^^^ 0x36#8) hi).symm
      have hOUi : ∀ i, i < 64 → (if i < 64 then L ([] : Bs) i ^^^ 0x5c#8 else L ([] : Bs) i) = L OU i := fun i hi => by rw [if_pos hi, ← hOU]; exact (L_tab (b := fun i => L ([] : Bs) i ^^^ 0x5c#8) hi).symm
      (repeat first | refine ⟨by omega, ?_⟩ | refine ⟨by decide, ?_⟩ | refine ⟨idx8 _, ?_⟩ | refine ⟨lt8 (Nat.le_refl _) _, ?_⟩ | refine ⟨rfl, ?_⟩)
      have hsw := fn_swrite false 64 64 64 0 (L IN) d0 0 (by decide) (by omega) (by omega) (fun h => Bool.noConfusion h)
      have e1 : pushN d0 (L IN) 64 = pushL d0 (IN ++ cat ps 0) := by rw [← hINl, pushN_L]; simp [cat]
      have e2 : (0 : BitVec 64) + BitVec.ofNat 64 64 = BitVec.ofNat 64 (IN ++ cat ps 0).length := by simp [cat, hINl]
      rw [e1, e2] at hsw
      refine call_same hsw [5, 7, 9] rfl (by (repeat first | exact trivial | refine ⟨rfl, ?_⟩ | refine ⟨fun _ _ => ⟨rfl, trivial⟩, ?_⟩ | refine ⟨fun _ _ => trivial, ?_⟩ | refine ⟨by omega, ?_⟩ | refine ⟨fun _ _ => eqC_winS, ?_⟩ | refine ⟨fun _ _ => eqC_winM, ?_⟩ | refine ⟨fun _ _ => eqC_winB, ?_⟩ | refine ⟨fun _ _ => eqC_selfB, ?_⟩ | refine ⟨fun _ _ => eqC_mpB, ?_⟩)) ?_ (fun _ _ => trivial) ?_
      · (repeat first | exact trivial | refine ⟨rfl, ?_⟩ | refine ⟨fun _ _ => ⟨rfl, trivial⟩, ?_⟩ | refine ⟨fun _ _ => trivial, ?_⟩ | refine ⟨by omega, ?_⟩ | refine ⟨fun _ _ => eqC_winS, ?_⟩ | refine ⟨fun _ _ => eqC_winM, ?_⟩ | refine ⟨fun _ _ => eqC_winB, ?_⟩ | refine ⟨fun _ _ => eqC_selfB, ?_⟩ | refine ⟨fun _ _ => eqC_mpB, ?_⟩)
        refine ⟨fun j hj => eqC_win (f := fun i => SC.w8 (if i < 64 then L ([] : Bs) i ^^^ 0x36#8 else L ([] : Bs) i)) (fun i hi => congrArg SC.w8 ?_) j, ?_⟩
        · rw [Nat.zero_add]; exact hINi i hi
        · (repeat first | exact trivial | refine ⟨rfl, ?_⟩ | refine ⟨fun _ _ => ⟨rfl, trivial⟩, ?_⟩ | refine ⟨fun _ _ => trivial, ?_⟩ | refine ⟨by omega, ?_⟩ | refine ⟨fun _ _ => eqC_winS, ?_⟩ | refine ⟨fun _ _ => eqC_winM, ?_⟩ | refine ⟨fun _ _ => eqC_winB, ?_⟩ | refine ⟨fun _ _ => eqC_selfB, ?_⟩ | refine ⟨fun _ _ => eqC_mpB, ?_⟩)
      rintro x hs ⟨rfl, rfl⟩
      (repeat first | refine ⟨by omega, ?_⟩ | refine ⟨by decide, ?_⟩ | refine ⟨idx8 _, ?_⟩ | refine ⟨lt8 (Nat.le_refl _) _, ?_⟩ | refine ⟨rfl, ?_⟩)
      refine .inl ⟨Nat, fun k => ⟨[.a (.c (.p 5 0 0)), .any, .any, .any, .any, .any, .a (.c (.p 6 0 0)), .any, .a (.c (.p 8 0 0)), .any, .any, .a (.c (.p 9 0 0)), .any, .any, .any, .any, .any, .any, .any, .any, .any, .any, .any, .any, .any, .any, .any, .any, .any, .any, .any, .any, .any, .any, .any, .any, .any, .any, .any, .any, .any, .any, .any, .any, .any, .any, .any, .any, .any, .any, .a (.c (.sl 4 0 0 m cm)), .a (.c (.int .i64 (↑m))), .a (.c (.int .i64 (↑k))), .any, .any, .any, .any, .any, .any, .any, .any, .any, .any, .any, .any], [bts true Nk ok ([] : Bs).length (L ([] : Bs)), bts z0 N0 o0 l0.length (L l0), bts z1 N1 o1 l1.length (L l1), bts z2 N2 o2 l2.length (L l2), [.row M (partsF m (nthC [.sn z0 1 0 o0 l0.length c0, .sn z1 2 0 o1 l1.length c1, .sn z2 3 0 o2 l2.length c2]))], shaT 1 0 first steps, [.row 32 fun _ => .w8 0#8], [], [.row 64 fun i => .w8 (L OU i)], digC 5 (pushL d0 (IN ++ cat ps k)).V (pushL d0 (IN ++ cat ps k)).P (pushL d0 (IN ++ cat ps k)).h (BitVec.ofNat 64 (IN ++ cat ps k).length)]⟩,
        fun k => k ≤ m, fun k => m - k, ⟨0, [0, 1, 2, 3, 4, 5, 6, 7, 8, 9], ⟨⟨rfl, rfl, rfl⟩, ?_⟩, by omega⟩, fun k hk => ⟨fun h => ?_, fun h => ?_⟩⟩
      · (repeat first | exact trivial | refine ⟨rfl, ?_⟩ | refine ⟨fun _ _ => ⟨rfl, trivial⟩, ?_⟩ | refine ⟨fun _ _ => trivial, ?_⟩ | refine ⟨by omega, ?_⟩ | refine ⟨fun _ _ => eqC_winS, ?_⟩ | refine ⟨fun _ _ => eqC_winM, ?_⟩ | refine ⟨fun _ _ => eqC_winB, ?_⟩ | refine ⟨fun _ _ => eqC_selfB, ?_⟩ | refine ⟨fun _ _ => eqC_mpB, ?_⟩)
        refine eqC_bts (eqC_bts (eqC_bts (eqC_bts ⟨rfl, fun j hj => eqC_P123 hM, ?_⟩)))
        (repeat first | exact trivial | refine ⟨rfl, ?_⟩ | refine ⟨fun _ _ => ⟨rfl, trivial⟩, ?_⟩ | refine ⟨fun _ _ => trivial, ?_⟩ | refine ⟨by omega, ?_⟩ | refine ⟨fun _ _ => eqC_winS, ?_⟩ | refine ⟨fun _ _ => eqC_winM, ?_⟩ | refine ⟨fun _ _ => eqC_winB, ?_⟩ | refine ⟨fun _ _ => eqC_selfB, ?_⟩ | refine ⟨fun _ _ => eqC_mpB, ?_⟩)
        refine ⟨fun j hj => eqC_w8 (congrArg SC.w8 (hOUi j hj)), ?_⟩
        (repeat first | exact trivial | refine ⟨rfl, ?_⟩ | refine ⟨fun _ _ => ⟨rfl, trivial⟩, ?_⟩ | refine ⟨fun _ _ => trivial, ?_⟩ | refine ⟨by omega, ?_⟩ | refine ⟨fun _ _ => eqC_winS, ?_⟩ | refine ⟨fun _ _ => eqC_winM, ?_⟩ | refine ⟨fun _ _ => eqC_winB, ?_⟩ | refine ⟨fun _ _ => eqC_selfB, ?_⟩ | refine ⟨fun _ _ => eqC_mpB, ?_⟩)
      · have hlt : k < m := by have : (k : Int) < (m : Int) := of_decide_eq_true h; omega
        (repeat first | refine ⟨by omega, ?_⟩ | refine ⟨by decide, ?_⟩ | refine ⟨idx8 _, ?_⟩ | refine ⟨lt8 (Nat.le_refl _) _, ?_⟩)
        have e3 : (k : Int).toNat + 0 = k := by omega
        rw [e3]
        refine frc_parts hlt ?_
        obtain ⟨D, hD⟩ : ∃ D, pushL d0 (IN ++ cat ps k) = D := ⟨_, rfl⟩
        have hDl : D.h < 64 := by rw [← hD]; exact pushL_lt (by decide) _
        rw [hD]
        have hk3 : k = 0 ∨ k = 1 ∨ k = 2 := by omega
        rcases hk3 with rfl | rfl | rfl
        · obtain ⟨hk1, hl1⟩ := hl 0 l0 IN (by rw [← hps]; rfl)
          rw [hD] at hk1
          refine ⟨by kernel_rfl, call_same (fn_swrite z0 l0.length c0 N0 o0 (L l0) D (BitVec.ofNat 64 (IN ++ cat ps 0).length) hDl hN0 hc0 (fun h => by rw [hz0 h]; rfl)) [5, 1, 9] rfl (by (repeat first | exact trivial | refine ⟨rfl, ?_⟩ | refine ⟨fun _ _ => ⟨rfl, trivial⟩, ?_⟩ | refine ⟨fun _ _ => trivial, ?_⟩ | refine ⟨by omega, ?_⟩ | refine ⟨fun _ _ => eqC_winS, ?_⟩ | refine ⟨fun _ _ => eqC_winM, ?_⟩ | refine ⟨fun _ _ => eqC_winB, ?_⟩ | refine ⟨fun _ _ => eqC_selfB, ?_⟩ | refine ⟨fun _ _ => eqC_mpB, ?_⟩)) ?_ (fun _ _ => trivial) ?_⟩
          · (repeat first | exact trivial | refine ⟨rfl, ?_⟩ | refine ⟨fun _ _ => ⟨rfl, trivial⟩, ?_⟩ | refine ⟨fun _ _ => trivial, ?_⟩ | refine ⟨by omega, ?_⟩ | refine ⟨fun _ _ => eqC_winS, ?_⟩ | refine ⟨fun _ _ => eqC_winM, ?_⟩ | refine ⟨fun _ _ => eqC_winB, ?_⟩ | refine ⟨fun _ _ => eqC_selfB, ?_⟩ | refine ⟨fun _ _ => eqC_mpB, ?_⟩)
            refine eqC_bts ?_
            (repeat first | exact trivial | refine ⟨rfl, ?_⟩ | refine ⟨fun _ _ => ⟨rfl, trivial⟩, ?_⟩ | refine ⟨fun _ _ => trivial, ?_⟩ | refine ⟨by omega, ?_⟩ | refine ⟨fun _ _ => eqC_winS, ?_⟩ | refine ⟨fun _ _ => eqC_winM, ?_⟩ | refine ⟨fun _ _ => eqC_winB, ?_⟩ | refine ⟨fun _ _ => eqC_selfB, ?_⟩ | refine ⟨fun _ _ => eqC_mpB, ?_⟩)
          · rintro x hs ⟨rfl, rfl⟩
            rw [hk1, hl1]
            refine ⟨⟨by omega, by omega⟩, 1, [0, 1, 2, 3, 4, 5, 6, 7, 8, 9], ⟨⟨rfl, rfl, rfl⟩, ?_⟩, by dsimp only; omega, by dsimp only; omega⟩
            (repeat first | exact trivial | refine ⟨rfl, ?_⟩ | refine ⟨fun _ _ => ⟨rfl, trivial⟩, ?_⟩ | refine ⟨fun _ _ => trivial, ?_⟩ | refine ⟨by omega, ?_⟩ | refine ⟨fun _ _ => eqC_winS, ?_⟩ | refine ⟨fun _ _ => eqC_winM, ?_⟩ | refine ⟨fun _ _ => eqC_winB, ?_⟩ | refine ⟨fun _ _ => eqC_selfB, ?_⟩ | refine ⟨fun _ _ => eqC_mpB, ?_⟩)
            refine eqC_bts (eqC_bts (eqC_bts (eqC_bts ⟨rfl, fun j hj => eqC_P123 hM, ?_⟩)))
            (repeat first | exact trivial | refine ⟨rfl, ?_⟩ | refine ⟨fun _ _ => ⟨rfl, trivial⟩, ?_⟩ | refine ⟨fun _ _ => trivial, ?_⟩ | refine ⟨by omega, ?_⟩ | refine ⟨fun _ _ => eqC_winS, ?_⟩ | refine ⟨fun _ _ => eqC_winM, ?_⟩ | refine ⟨fun _ _ => eqC_winB, ?_⟩ | refine ⟨fun _ _ => eqC_selfB, ?_⟩ | refine ⟨fun _ _ => eqC_mpB, ?_⟩)
        · obtain ⟨hk1, hl1⟩ := hl 1 l1 IN (by rw [← hps]; rfl)
          rw [hD] at hk1
          refine ⟨by kernel_rfl, call_same (fn_swrite z1 l1.length c1 N1 o1 (L l1) D (BitVec.ofNat 64 (IN ++ cat ps 1).length) hDl hN1 hc1 (fun h => by rw [hz1 h]; rfl)) [5, 2, 9] rfl (by (repeat first | exact trivial | refine ⟨rfl, ?_⟩ | refine ⟨fun _ _ => ⟨rfl, trivial⟩, ?_⟩ | refine ⟨fun _ _ => trivial, ?_⟩ | refine ⟨by omega, ?_⟩ | refine ⟨fun _ _ => eqC_winS, ?_⟩ | refine ⟨fun _ _ => eqC_winM, ?_⟩ | refine ⟨fun _ _ => eqC_winB, ?_⟩ | refine ⟨fun _ _ => eqC_selfB, ?_⟩ | refine ⟨fun _ _ => eqC_mpB, ?_⟩)) ?_ (fun _ _ => trivial) ?_⟩
          · (repeat first | exact trivial | refine ⟨rfl, ?_⟩ | refine ⟨fun _ _ => ⟨rfl, trivial⟩, ?_⟩ | refine ⟨fun _ _ => trivial, ?_⟩ | refine ⟨by omega, ?_⟩ | refine ⟨fun _ _ => eqC_winS, ?_⟩ | refine ⟨fun _ _ => eqC_winM, ?_⟩ | refine ⟨fun _ _ => eqC_winB, ?_⟩ | refine ⟨fun _ _ => eqC_selfB, ?_⟩ | refine ⟨fun _ _ => eqC_mpB, ?_⟩)
            refine eqC_bts ?_
            (repeat first | exact trivial | refine ⟨rfl, ?_⟩ | refine ⟨fun _ _ => ⟨rfl, trivial⟩, ?_⟩ | refine ⟨fun _ _ => trivial, ?_⟩ | refine ⟨by omega, ?_⟩ | refine ⟨fun _ _ => eqC_winS, ?_⟩ | refine ⟨fun _ _ => eqC_winM, ?_⟩ | refine ⟨fun _ _ => eqC_winB, ?_⟩ | refine ⟨fun _ _ => eqC_selfB, ?_⟩ | refine ⟨fun _ _ => eqC_mpB, ?_⟩)
          · rintro x hs ⟨rfl, rfl⟩
            rw [hk1, hl1]
            refine ⟨⟨by omega, by omega⟩, 2, [0, 1, 2, 3, 4, 5, 6, 7, 8, 9], ⟨⟨rfl, rfl, rfl⟩, ?_⟩, by dsimp only; omega, by dsimp only; omega⟩
            (repeat first | exact trivial | refine ⟨rfl, ?_⟩ | refine ⟨fun _ _ => ⟨rfl, trivial⟩, ?_⟩ | refine ⟨fun _ _ => trivial, ?_⟩ | refine ⟨by omega, ?_⟩ | refine ⟨fun _ _ => eqC_winS, ?_⟩ | refine ⟨fun _ _ => eqC_winM, ?_⟩ | refine ⟨fun _ _ => eqC_winB, ?_⟩ | refine ⟨fun _ _ => eqC_selfB, ?_⟩ | refine ⟨fun _ _ => eqC_mpB, ?_⟩)
            refine eqC_bts (eqC_bts (eqC_bts (eqC_bts ⟨rfl, fun j hj => eqC_P123 hM, ?_⟩)))
            (repeat first | exact trivial | refine ⟨rfl, ?_⟩ | refine ⟨fun _ _ => ⟨rfl, trivial⟩, ?_⟩ | refine ⟨fun _ _ => trivial, ?_⟩ | refine ⟨by omega, ?_⟩ | refine ⟨fun _ _ => eqC_winS, ?_⟩ | refine ⟨fun _ _ => eqC_winM, ?_⟩ | refine ⟨fun _ _ => eqC_winB, ?_⟩ | refine ⟨fun _ _ => eqC_selfB, ?_⟩ | refine ⟨fun _ _ => eqC_mpB, ?_⟩)
        · obtain ⟨hk1, hl1⟩ := hl 2 l2 IN (by rw [← hps]; rfl)
          rw [hD] at hk1
          refine ⟨by kernel_rfl, call_same (fn_swrite z2 l2.length c2 N2 o2 (L l2) D (BitVec.ofNat 64 (IN ++ cat ps 2).length) hDl hN2 hc2 (fun h => by rw [hz2 h]; rfl)) [5, 3, 9] rfl (by (repeat first | exact trivial | refine ⟨rfl, ?_⟩ | refine ⟨fun _ _ => ⟨rfl, trivial⟩, ?_⟩ | refine ⟨fun _ _ => trivial, ?_⟩ | refine ⟨by omega, ?_⟩ | refine ⟨fun _ _ => eqC_winS, ?_⟩ | refine ⟨fun _ _ => eqC_winM, ?_⟩ | refine ⟨fun _ _ => eqC_winB, ?_⟩ | refine ⟨fun _ _ => eqC_selfB, ?_⟩ | refine ⟨fun _ _ => eqC_mpB, ?_⟩)) ?_ (fun _ _ => trivial) ?_⟩
          · (repeat first | exact trivial | refine ⟨rfl, ?_⟩ | refine ⟨fun _ _ => ⟨rfl, trivial⟩, ?_⟩ | refine ⟨fun _ _ => trivial, ?_⟩ | refine ⟨by omega, ?_⟩ | refine ⟨fun _ _ => eqC_winS, ?_⟩ | refine ⟨fun _ _ => eqC_winM, ?_⟩ | refine ⟨fun _ _ => eqC_winB, ?_⟩ | refine ⟨fun _ _ => eqC_selfB, ?_⟩ | refine ⟨fun _ _ => eqC_mpB, ?_⟩)
            refine eqC_bts ?_
            (repeat first | exact trivial | refine ⟨rfl, ?_⟩ | refine ⟨fun _ _ => ⟨rfl, trivial⟩, ?_⟩ | refine ⟨fun _ _ => trivial, ?_⟩ | refine ⟨by omega, ?_⟩ | refine ⟨fun _ _ => eqC_winS, ?_⟩ | refine ⟨fun _ _ => eqC_winM, ?_⟩ | refine ⟨fun _ _ => eqC_winB, ?_⟩ | refine ⟨fun _ _ => eqC_selfB, ?_⟩ | refine ⟨fun _ _ => eqC_mpB, ?_⟩)
          · rintro x hs ⟨rfl, rfl⟩
            rw [hk1, hl1]
            refine ⟨⟨by omega, by omega⟩, 3, [0, 1, 2, 3, 4, 5, 6, 7, 8, 9], ⟨⟨rfl, rfl, rfl⟩, ?_⟩, by dsimp only; omega, by dsimp only; omega⟩
            (repeat first | exact trivial | refine ⟨rfl, ?_⟩ | refine ⟨fun _ _ => ⟨rfl, trivial⟩, ?_⟩ | refine ⟨fun _ _ => trivial, ?_⟩ | refine ⟨by omega, ?_⟩ | refine ⟨fun _ _ => eqC_winS, ?_⟩ | refine ⟨fun _ _ => eqC_winM, ?_⟩ | refine ⟨fun _ _ => eqC_winB, ?_⟩ | refine ⟨fun _ _ => eqC_selfB, ?_⟩ | refine ⟨fun _ _ => eqC_mpB, ?_⟩)
            refine eqC_bts (eqC_bts (eqC_bts (eqC_bts ⟨rfl, fun j hj => eqC_P123 hM, ?_⟩)))
            (repeat first | exact trivial | refine ⟨rfl, ?_⟩ | refine ⟨fun _ _ => ⟨rfl, trivial⟩, ?_⟩ | refine ⟨fun _ _ => trivial, ?_⟩ | refine ⟨by omega, ?_⟩ | refine ⟨fun _ _ => eqC_winS, ?_⟩ | refine ⟨fun _ _ => eqC_winM, ?_⟩ | refine ⟨fun _ _ => eqC_winB, ?_⟩ | refine ⟨fun _ _ => eqC_selfB, ?_⟩ | refine ⟨fun _ _ => eqC_mpB, ?_⟩)
      · obtain rfl : k = m := by have : ¬ (k : Int) < (m : Int) := of_decide_eq_false h; have hk : k ≤ m := hk; omega
        obtain ⟨D, hD⟩ : ∃ D, pushL d0 (IN ++ cat ps k) = D := ⟨_, rfl⟩
        have hDl : D.h < 64 := by rw [← hD]; exact pushL_lt (by decide) _
        obtain ⟨S, hS⟩ : ∃ S, sumL (IN ++ cat ps k) = S := ⟨_, rfl⟩
        have hSl : S.length = 32 := by rw [← hS, sumL_len]
        have hSL : ∀ i, i < 32 → endV D (BitVec.ofNat 64 (IN ++ cat ps k).length) i = L S i := fun i hi => by rw [← hS, L_sumL _ hi, hD]
        have hM1 : markL ([] : Bs) (cat ps k) = sumL (OU ++ S) := by unfold markL; rw [hK, hIN, hOU, hS]
        rw [hD]
        refine ⟨by kernel_rfl, call_same (fn_send D (BitVec.ofNat 64 (IN ++ cat ps k).length) hDl) [5, 9] rfl (by (repeat first | exact trivial | refine ⟨rfl, ?_⟩ | refine ⟨fun _ _ => ⟨rfl, trivial⟩, ?_⟩ | refine ⟨fun _ _ => trivial, ?_⟩ | refine ⟨by omega, ?_⟩ | refine ⟨fun _ _ => eqC_winS, ?_⟩ | refine ⟨fun _ _ => eqC_winM, ?_⟩ | refine ⟨fun _ _ => eqC_winB, ?_⟩ | refine ⟨fun _ _ => eqC_selfB, ?_⟩ | refine ⟨fun _ _ => eqC_mpB, ?_⟩)) (by (repeat first | exact trivial | refine ⟨rfl, ?_⟩ | refine ⟨fun _ _ => ⟨rfl, trivial⟩, ?_⟩ | refine ⟨fun _ _ => trivial, ?_⟩ | refine ⟨by omega, ?_⟩ | refine ⟨fun _ _ => eqC_winS, ?_⟩ | refine ⟨fun _ _ => eqC_winM, ?_⟩ | refine ⟨fun _ _ => eqC_winB, ?_⟩ | refine ⟨fun _ _ => eqC_selfB, ?_⟩ | refine ⟨fun _ _ => eqC_mpB, ?_⟩)) (fun _ _ => trivial) ?_⟩
        rintro x hs ⟨rfl, V', P', h', a', rfl⟩
        (repeat first | refine ⟨by omega, ?_⟩ | refine ⟨by decide, ?_⟩ | refine ⟨idx8 _, ?_⟩ | refine ⟨lt8 (Nat.le_refl _) _, ?_⟩ | refine ⟨rfl, ?_⟩)
        refine ⟨some [], [], [(0, true), (1, true), (2, true), (3, false), (4, false)], [5], by kernel_rfl, ?_⟩
        (repeat first | refine ⟨by omega, ?_⟩ | refine ⟨by decide, ?_⟩ | refine ⟨idx8 _, ?_⟩ | refine ⟨lt8 (Nat.le_refl _) _, ?_⟩ | refine ⟨rfl, ?_⟩)
        refine call_same (fn_ssum3 false false true 64 32 0 0 0 0 64 32 0 OU S [] 2 2 2 1 first steps (.inr ⟨rfl, rfl, rfl⟩) (by omega) (by omega) (by decide) (by omega) (by omega) (by decide) (fun h => Bool.noConfusion h) (fun h => Bool.noConfusion h) (fun _ => rfl) (by decide) (by decide)) [8, 10, 10, 11, 5] rfl (by (repeat first | exact trivial | refine ⟨rfl, ?_⟩ | refine ⟨fun _ _ => ⟨rfl, trivial⟩, ?_⟩ | refine ⟨fun _ _ => trivial, ?_⟩ | refine ⟨by omega, ?_⟩ | refine ⟨fun _ _ => eqC_winS, ?_⟩ | refine ⟨fun _ _ => eqC_winM, ?_⟩ | refine ⟨fun _ _ => eqC_winB, ?_⟩ | refine ⟨fun _ _ => eqC_selfB, ?_⟩ | refine ⟨fun _ _ => eqC_mpB, ?_⟩)) ?_ (fun _ _ => trivial) ?_
        · (repeat first | exact trivial | refine ⟨rfl, ?_⟩ | refine ⟨fun _ _ => ⟨rfl, trivial⟩, ?_⟩ | refine ⟨fun _ _ => trivial, ?_⟩ | refine ⟨by omega, ?_⟩ | refine ⟨fun _ _ => eqC_winS, ?_⟩ | refine ⟨fun _ _ => eqC_winM, ?_⟩ | refine ⟨fun _ _ => eqC_winB, ?_⟩ | refine ⟨fun _ _ => eqC_selfB, ?_⟩ | refine ⟨fun _ _ => eqC_mpB, ?_⟩)
          refine ⟨fun j hj => eqC_win8 (fun i hi => rfl) j, ?_⟩
          (repeat first | exact trivial | refine ⟨rfl, ?_⟩ | refine ⟨fun _ _ => ⟨rfl, trivial⟩, ?_⟩ | refine ⟨fun _ _ => trivial, ?_⟩ | refine ⟨by omega, ?_⟩ | refine ⟨fun _ _ => eqC_winS, ?_⟩ | refine ⟨fun _ _ => eqC_winM, ?_⟩ | refine ⟨fun _ _ => eqC_winB, ?_⟩ | refine ⟨fun _ _ => eqC_selfB, ?_⟩ | refine ⟨fun _ _ => eqC_mpB, ?_⟩)
          refine ⟨fun j hj => eqC_win8 (fun i hi => hSL i (by omega)) j, ?_⟩
          (repeat first | exact trivial | refine ⟨rfl, ?_⟩ | refine ⟨fun _ _ => ⟨rfl, trivial⟩, ?_⟩ | refine ⟨fun _ _ => trivial, ?_⟩ | refine ⟨by omega, ?_⟩ | refine ⟨fun _ _ => eqC_winS, ?_⟩ | refine ⟨fun _ _ => eqC_winM, ?_⟩ | refine ⟨fun _ _ => eqC_winB, ?_⟩ | refine ⟨fun _ _ => eqC_selfB, ?_⟩ | refine ⟨fun _ _ => eqC_mpB, ?_⟩)
          refine ⟨fun j hj => eqC_parts (fun i hi => ?_) j, ?_⟩
          · have : i = 0 ∨ i = 1 := by omega
            rcases this with rfl | rfl
            · exact ⟨rfl, rfl, hOUl.symm, rfl, trivial⟩
            · exact ⟨rfl, rfl, hSl.symm, rfl, trivial⟩
          · (repeat first | exact trivial | refine ⟨rfl, ?_⟩ | refine ⟨fun _ _ => ⟨rfl, trivial⟩, ?_⟩ | refine ⟨fun _ _ => trivial, ?_⟩ | refine ⟨by omega, ?_⟩ | refine ⟨fun _ _ => eqC_winS, ?_⟩ | refine ⟨fun _ _ => eqC_winM, ?_⟩ | refine ⟨fun _ _ => eqC_winB, ?_⟩ | refine ⟨fun _ _ => eqC_selfB, ?_⟩ | refine ⟨fun _ _ => eqC_mpB, ?_⟩)
        rintro x hs ⟨rfl, rfl⟩
        (repeat first | refine ⟨by omega, ?_⟩ | refine ⟨by decide, ?_⟩ | refine ⟨idx8 _, ?_⟩ | refine ⟨lt8 (Nat.le_refl _) _, ?_⟩ | refine ⟨rfl, ?_⟩)
        have hcat : cat (ps3 OU S []) 2 = OU ++ S := by simp [cat, ps3]
        rw [hcat]
        refine ⟨.a (.agg [.row 32 fun i => .w8 (L (markL ([] : Bs) (cat ps k)) i)]), [bts true Nk ok ([] : Bs).length (L ([] : Bs)), bts z0 N0 o0 l0.length (L l0), bts z1 N1 o1 l1.length (L l1), bts z2 N2 o2 l2.length (L l2), [.row M (partsF k (nthC [.sn z0 1 0 o0 l0.length c0, .sn z1 2 0 o1 l1.length c1, .sn z2 3 0 o2 l2.length c2]))], shaT 1 0 first steps], ⟨[0, 1, 2, 3, 4, 5], ⟨rfl, rfl, rfl⟩, ?_⟩, rfl, rfl⟩
        rw [hM1]
        (repeat first | exact trivial | refine ⟨rfl, ?_⟩ | refine ⟨fun _ _ => ⟨rfl, trivial⟩, ?_⟩ | refine ⟨fun _ _ => trivial, ?_⟩ | refine ⟨by omega, ?_⟩ | refine ⟨fun _ _ => eqC_winS, ?_⟩ | refine ⟨fun _ _ => eqC_winM, ?_⟩ | refine ⟨fun _ _ => eqC_winB, ?_⟩ | refine ⟨fun _ _ => eqC_selfB, ?_⟩ | refine ⟨fun _ _ => eqC_mpB, ?_⟩)
        refine eqC_bts (eqC_bts (eqC_bts (eqC_bts ⟨rfl, fun j hj => eqC_P123 hM, ?_⟩)))
        (repeat first | exact trivial | refine ⟨rfl, ?_⟩ | refine ⟨fun _ _ => ⟨rfl, trivial⟩, ?_⟩ | refine ⟨fun _ _ => trivial, ?_⟩ | refine ⟨by omega, ?_⟩ | refine ⟨fun _ _ => eqC_winS, ?_⟩ | refine ⟨fun _ _ => eqC_winM, ?_⟩ | refine ⟨fun _ _ => eqC_winB, ?_⟩ | refine ⟨fun _ _ => eqC_selfB, ?_⟩ | refine ⟨fun _ _ => eqC_mpB, ?_⟩)
  | false =>
    have hrow := key_row [] key ok (min key.length 64) (by omega) (by omega) (winF ok key.length (L key)) (fun i hi => by rw [Nat.add_comm]; exact winF_at _ _ _ hi)
    have hd' := hd
    (repeat first | refine ⟨by omega, ?_⟩ | refine ⟨by decide, ?_⟩ | refine ⟨idx8 _, ?_⟩ | refine ⟨lt8 (Nat.le_refl _) _, ?_⟩ | refine ⟨rfl, ?_⟩ | refine ⟨by simp only [scale]; omega, ?_⟩)
    refine ⟨fun q => winF ok key.length (L key) (q + ok), ⟨fun h => Bool.noConfusion h, fun h => ⟨Nk, winF ok key.length (L key), [], rfl, by simp only [scale]; omega, fun _ _ => rfl⟩⟩, ?_⟩
    (repeat first | refine ⟨by omega, ?_⟩ | refine ⟨by decide, ?_⟩ | refine ⟨idx8 _, ?_⟩ | refine ⟨lt8 (Nat.le_refl _) _, ?_⟩ | refine ⟨rfl, ?_⟩ | refine ⟨by simp only; omega, ?_⟩)
    refine ⟨fun q => winF ok key.length (L key) (q + ok), ⟨fun h => Bool.noConfusion h, fun h => ⟨Nk, winF ok key.length (L key), [], rfl, by simp only [scale]; omega, fun _ _ => rfl⟩⟩, ?_⟩
    (repeat first | refine ⟨by omega, ?_⟩ | refine ⟨by decide, ?_⟩ | refine ⟨idx8 _, ?_⟩ | refine ⟨lt8 (Nat.le_refl _) _, ?_⟩ | refine ⟨rfl, ?_⟩ | refine ⟨by simp only; omega, ?_⟩)
    refine .inl ⟨Nat, fun k => ⟨[.a (.c (.p 5 0 0)), .any, .a (.c (.sl 4 0 0 m cm)), .any, .any, .any, .a (.c (.p 6 0 0)), .a (.c (.p 7 0 0)), .a (.c (.p 8 0 0)), .any, .any, .any, .any, .any, .any, .any, .any, .any, .any, .any, .any, .any, .any, .any, .any, .any, .any, .any, .any, .any, .any, .any, .a (.c (.int .i64 (↑k))), .any, .any, .any, .any, .any, .any, .any, .any, .any, .any, .any, .any, .any, .any, .any, .any, .any, .any, .any, .any, .any, .any, .any, .any, .any, .any, .any, .any, .any, .any, .any, .any], [bts false Nk ok key.length (L key), bts z0 N0 o0 l0.length (L l0), bts z1 N1 o1 l1.length (L l1), bts z2 N2 o2 l2.length (L l2), [.row M (partsF m (nthC [.sn z0 1 0 o0 l0.length c0, .sn z1 2 0 o1 l1.length c1, .sn z2 3 0 o2 l2.length c2]))], shaT dn 0 f s, [.row 32 fun _ => .w8 0#8], [.row 64 fun i => .w8 (if i < k then L key i ^^^ 0x36#8 else L key i)], [.row 64 fun i => .w8 (if i < k then L key i ^^^ 0x5c#8 else L key i)]]⟩,
      fun k => k ≤ 64, fun k => 64 - k, ⟨0, [0, 1, 2, 3, 4, 5, 6, 7, 8], ⟨⟨rfl, rfl, rfl⟩, ?_⟩, by omega⟩, fun k hk => ⟨fun h => ?_, fun h => ?_⟩⟩
    · (repeat first | exact trivial | refine ⟨rfl, ?_⟩ | refine ⟨fun _ _ => ⟨rfl, trivial⟩, ?_⟩ | refine ⟨fun _ _ => trivial, ?_⟩ | refine ⟨by omega, ?_⟩ | refine ⟨fun _ _ => eqC_winS, ?_⟩ | refine ⟨fun _ _ => eqC_winM, ?_⟩ | refine ⟨fun _ _ => eqC_winB, ?_⟩ | refine ⟨fun _ _ => eqC_selfB, ?_⟩ | refine ⟨fun _ _ => eqC_mpB, ?_⟩)
      refine eqC_bts (eqC_bts (eqC_bts ⟨rfl, fun j hj => eqC_P123 hM, ?_⟩))
      (repeat first | exact trivial | refine ⟨rfl, ?_⟩ | refine ⟨fun _ _ => ⟨rfl, trivial⟩, ?_⟩ | refine ⟨fun _ _ => trivial, ?_⟩ | refine ⟨by omega, ?_⟩ | refine ⟨fun _ _ => eqC_winS, ?_⟩ | refine ⟨fun _ _ => eqC_winM, ?_⟩ | refine ⟨fun _ _ => eqC_winB, ?_⟩ | refine ⟨fun _ _ => eqC_selfB, ?_⟩ | refine ⟨fun _ _ => eqC_mpB, ?_⟩)
      refine ⟨fun j hj => eqC_w8 ?_, ?_⟩
      · exact hrow j
      · refine ⟨rfl, fun j hj => eqC_w8 ?_, ?_⟩
        · exact hrow j
        · (repeat first | exact trivial | refine ⟨rfl, ?_⟩ | refine ⟨fun _ _ => ⟨rfl, trivial⟩, ?_⟩ | refine ⟨fun _ _ => trivial, ?_⟩ | refine ⟨by omega, ?_⟩ | refine ⟨fun _ _ => eqC_winS, ?_⟩ | refine ⟨fun _ _ => eqC_winM, ?_⟩ | refine ⟨fun _ _ => eqC_winB, ?_⟩ | refine ⟨fun _ _ => eqC_selfB, ?_⟩ | refine ⟨fun _ _ => eqC_mpB, ?_⟩)
    · have hlt : (k : Int) < 64 := of_decide_eq_true h
      (repeat first | refine ⟨by omega, ?_⟩ | refine ⟨by decide, ?_⟩ | refine ⟨idx8 _, ?_⟩ | refine ⟨lt8 (Nat.le_refl _) _, ?_⟩)
      refine ⟨rfl, ?_⟩
      (repeat first | refine ⟨by omega, ?_⟩ | refine ⟨by decide, ?_⟩ | refine ⟨idx8 _, ?_⟩ | refine ⟨lt8 (Nat.le_refl _) _, ?_⟩)
      refine ⟨rfl, ⟨by omega, by omega⟩, k + 1, [0, 1, 2, 3, 4, 5, 6, 7, 8], ⟨⟨rfl, rfl, rfl⟩, ?_⟩, by dsimp only; omega, by dsimp only; omega⟩
      (repeat first | exact trivial | refine ⟨rfl, ?_⟩ | refine ⟨fun _ _ => ⟨rfl, trivial⟩, ?_⟩ | refine ⟨fun _ _ => trivial, ?_⟩ | refine ⟨by omega, ?_⟩ | refine ⟨fun _ _ => eqC_winS, ?_⟩ | refine ⟨fun _ _ => eqC_winM, ?_⟩ | refine ⟨fun _ _ => eqC_winB, ?_⟩ | refine ⟨fun _ _ => eqC_selfB, ?_⟩ | refine ⟨fun _ _ => eqC_mpB, ?_⟩)
      refine eqC_bts (eqC_bts (eqC_bts ⟨rfl, fun j hj => eqC_P123 hM, ?_⟩))
      (repeat first | exact trivial | refine ⟨rfl, ?_⟩ | refine ⟨fun _ _ => ⟨rfl, trivial⟩, ?_⟩ | refine ⟨fun _ _ => trivial, ?_⟩ | refine ⟨by omega, ?_⟩ | refine ⟨fun _ _ => eqC_winS, ?_⟩ | refine ⟨fun _ _ => eqC_winM, ?_⟩ | refine ⟨fun _ _ => eqC_winB, ?_⟩ | refine ⟨fun _ _ => eqC_selfB, ?_⟩ | refine ⟨fun _ _ => eqC_mpB, ?_⟩)
      have e0 : (k : Int).toNat + 0 = k := by omega
      rw [e0]
      have hx : ∀ (x : BitVec 8) (j : Nat), eqC [0, 1, 2, 3, 4, 5, 6, 7, 8] (upd (fun i => SC.w8 (if i < k then L key i ^^^ x else L key i)) k (.w8 ((if k < k then L key k ^^^ x else L key k) ^^^ x)) j) (.w8 (if j < k + 1 then L key j ^^^ x else L key j)) True := fun x j => by
        unfold upd
        by_cases hj : j = k
        · rw [if_pos hj, if_neg (Nat.lt_irrefl k), hj, if_pos (by omega)]; exact ⟨rfl, trivial⟩
        · have : j < k + 1 ↔ j < k := by omega
          rw [if_neg hj]; simp only [this]; exact ⟨rfl, trivial⟩
      exact ⟨fun j hj => hx _ j, rfl, fun j hj => hx _ j, by (repeat first | exact trivial | refine ⟨rfl, ?_⟩ | refine ⟨fun _ _ => ⟨rfl, trivial⟩, ?_⟩ | refine ⟨fun _ _ => trivial, ?_⟩ | refine ⟨by omega, ?_⟩ | refine ⟨fun _ _ => eqC_winS, ?_⟩ | refine ⟨fun _ _ => eqC_winM, ?_⟩ | refine ⟨fun _ _ => eqC_winB, ?_⟩ | refine ⟨fun _ _ => eqC_selfB, ?_⟩ | refine ⟨fun _ _ => eqC_mpB, ?_⟩)⟩
    · obtain rfl : k = 64 := by have : ¬ (k : Int) < 64 := of_decide_eq_false h; have hk : k ≤ 64 := hk; omega
      refine ⟨by kernel_rfl, call_same (fn_begin dn f s hd') [5] rfl (by (repeat first | exact trivial | refine ⟨rfl, ?_⟩ | refine ⟨fun _ _ => ⟨rfl, trivial⟩, ?_⟩ | refine ⟨fun _ _ => trivial, ?_⟩ | refine ⟨by omega, ?_⟩ | refine ⟨fun _ _ => eqC_winS, ?_⟩ | refine ⟨fun _ _ => eqC_winM, ?_⟩ | refine ⟨fun _ _ => eqC_winB, ?_⟩ | refine ⟨fun _ _ => eqC_selfB, ?_⟩ | refine ⟨fun _ _ => eqC_mpB, ?_⟩)) (by (repeat first | exact trivial | refine ⟨rfl, ?_⟩ | refine ⟨fun _ _ => ⟨rfl, trivial⟩, ?_⟩ | refine ⟨fun _ _ => trivial, ?_⟩ | refine ⟨by omega, ?_⟩ | refine ⟨fun _ _ => eqC_winS, ?_⟩ | refine ⟨fun _ _ => eqC_winM, ?_⟩ | refine ⟨fun _ _ => eqC_winB, ?_⟩ | refine ⟨fun _ _ => eqC_selfB, ?_⟩ | refine ⟨fun _ _ => eqC_mpB, ?_⟩)) (fun _ _ => trivial) ?_⟩
      rintro x hs ⟨rfl, rfl⟩
      obtain ⟨IN, hIN⟩ : ∃ IN, padL 0x36#8 key = IN := ⟨_, rfl⟩
      obtain ⟨OU, hOU⟩ : ∃ OU, padL 0x5c#8 key = OU := ⟨_, rfl⟩
      have hINl : IN.length = 64 := by rw [← hIN, padL_len]
      have hOUl : OU.length = 64 := by rw [← hOU, padL_len]
      have hINi : ∀ i, i < 64 → (if i < 64 then L key i ^^^ 0x36#8 else L key i) = L IN i := fun i hi => by rw [if_pos hi, ← hIN]; exact (L_tab (b := fun i => L key i ^^^ 0x36#8) hi).symm
      have hOUi : ∀ i, i < 64 → (if i < 64 then L key i ^^^ 0x5c#8 else L key i) = L OU i := fun i hi => by rw [if_pos hi, ← hOU]; exact (L_tab (b := fun i => L key i ^^^ 0x5c#8) hi).symm
      (repeat first | refine ⟨by omega, ?_⟩ | refine ⟨by decide, ?_⟩ | refine ⟨idx8 _, ?_⟩ | refine ⟨lt8 (Nat.le_refl _) _, ?_⟩ | refine ⟨rfl, ?_⟩)
      have hsw := fn_swrite false 64 64 64 0 (L IN) d0 0 (by decide) (by omega) (by omega) (fun h => Bool.noConfusion h)
      have e1 : pushN d0 (L IN) 64 = pushL d0 (IN ++ cat ps 0) := by rw [← hINl, pushN_L]; simp [cat]
      have e2 : (0 : BitVec 64) + BitVec.ofNat 64 64 = BitVec.ofNat 64 (IN ++ cat ps 0).length := by simp [cat, hINl]
      rw [e1, e2] at hsw
      refine call_same hsw [5, 7, 9] rfl (by (repeat first | exact trivial | refine ⟨rfl, ?_⟩ | refine ⟨fun _ _ => ⟨rfl, trivial⟩, ?_⟩ | refine ⟨fun _ _ => trivial, ?_⟩ | refine ⟨by omega, ?_⟩ | refine ⟨fun _ _ => eqC_winS, ?_⟩ | refine ⟨fun _ _ => eqC_winM, ?_⟩ | refine ⟨fun _ _ => eqC_winB, ?_⟩ | refine ⟨fun _ _ => eqC_selfB, ?_⟩ | refine ⟨fun _ _ => eqC_mpB, ?_⟩)) ?_ (fun _ _ => trivial) ?_
      · (repeat first | exact trivial | refine ⟨rfl, ?_⟩ | refine ⟨fun _ _ => ⟨rfl, trivial⟩, ?_⟩ | refine ⟨fun _ _ => trivial, ?_⟩ | refine ⟨by omega, ?_⟩ | refine ⟨fun _ _ => eqC_winS, ?_⟩ | refine ⟨fun _ _ => eqC_winM, ?_⟩ | refine ⟨fun _ _ => eqC_winB, ?_⟩ | refine ⟨fun _ _ => eqC_selfB, ?_⟩ | refine ⟨fun _ _ => eqC_mpB, ?_⟩)
        refine ⟨fun j hj => eqC_win (f := fun i => SC.w8 (if i < 64 then L key i ^^^ 0x36#8 else L key i)) (fun i hi => congrArg SC.w8 ?_) j, ?_⟩
        · rw [Nat.zero_add]; exact hINi i hi
        · (repeat first | exact trivial | refine ⟨rfl, ?_⟩ | refine ⟨fun _ _ => ⟨rfl, trivial⟩, ?_⟩ | refine ⟨fun _ _ => trivial, ?_⟩ | refine ⟨by omega, ?_⟩ | refine ⟨fun _ _ => eqC_winS, ?_⟩ | refine ⟨fun _ _ => eqC_winM, ?_⟩ | refine ⟨fun _ _ => eqC_winB, ?_⟩ | refine ⟨fun _ _ => eqC_selfB, ?_⟩ | refine ⟨fun _ _ => eqC_mpB, ?_⟩)
      rintro x hs ⟨rfl, rfl⟩
      (repeat first | refine ⟨by omega, ?_⟩ | refine ⟨by decide, ?_⟩ | refine ⟨idx8 _, ?_⟩ | refine ⟨lt8 (Nat.le_refl _) _, ?_⟩ | refine ⟨rfl, ?_⟩)
      refine .inl ⟨Nat, fun k => ⟨[.a (.c (.p 5 0 0)), .any, .any, .any, .any, .any, .a (.c (.p 6 0 0)), .any, .a (.c (.p 8 0 0)), .any, .any, .a (.c (.p 9 0 0)), .any, .any, .any, .any, .any, .any, .any, .any, .any, .any, .any, .any, .any, .any, .any, .any, .any, .any, .any, .any, .any, .any, .any, .any, .any, .any, .any, .any, .any, .any, .any, .any, .any, .any, .any, .any, .any, .any, .a (.c (.sl 4 0 0 m cm)), .a (.c (.int .i64 (↑m))), .a (.c (.int .i64 (↑k))), .any, .any, .any, .any, .any, .any, .any, .any, .any, .any, .any, .any], [bts false Nk ok key.length (L key), bts z0 N0 o0 l0.length (L l0), bts z1 N1 o1 l1.length (L l1), bts z2 N2 o2 l2.length (L l2), [.row M (partsF m (nthC [.sn z0 1 0 o0 l0.length c0, .sn z1 2 0 o1 l1.length c1, .sn z2 3 0 o2 l2.length c2]))], shaT 1 0 first steps, [.row 32 fun _ => .w8 0#8], [], [.row 64 fun i => .w8 (L OU i)], digC 5 (pushL d0 (IN ++ cat ps k)).V (pushL d0 (IN ++ cat ps k)).P (pushL d0 (IN ++ cat ps k)).h (BitVec.ofNat 64 (IN ++ cat ps k).length)]⟩,
        fun k => k ≤ m, fun k => m - k, ⟨0, [0, 1, 2, 3, 4, 5, 6, 7, 8, 9], ⟨⟨rfl, rfl, rfl⟩, ?_⟩, by omega⟩, fun k hk => ⟨fun h => ?_, fun h => ?_⟩⟩
      · (repeat first | exact trivial | refine ⟨rfl, ?_⟩ | refine ⟨fun _ _ => ⟨rfl, trivial⟩, ?_⟩ | refine ⟨fun _ _ => trivial, ?_⟩ | refine ⟨by omega, ?_⟩ | refine ⟨fun _ _ => eqC_winS, ?_⟩ | refine ⟨fun _ _ => eqC_winM, ?_⟩ | refine ⟨fun _ _ => eqC_winB, ?_⟩ | refine ⟨fun _ _ => eqC_selfB, ?_⟩ | refine ⟨fun _ _ => eqC_mpB, ?_⟩)
        refine eqC_bts (eqC_bts (eqC_bts ⟨rfl, fun j hj => eqC_P123 hM, ?_⟩))
        (repeat first | exact trivial | refine ⟨rfl, ?_⟩ | refine ⟨fun _ _ => ⟨rfl, trivial⟩, ?_⟩ | refine ⟨fun _ _ => trivial, ?_⟩ | refine ⟨by omega, ?_⟩ | refine ⟨fun _ _ => eqC_winS, ?_⟩ | refine ⟨fun _ _ => eqC_winM, ?_⟩ | refine ⟨fun _ _ => eqC_winB, ?_⟩ | refine ⟨fun _ _ => eqC_selfB, ?_⟩ | refine ⟨fun _ _ => eqC_mpB, ?_⟩)
        refine ⟨fun j hj => eqC_w8 (congrArg SC.w8 (hOUi j hj)), ?_⟩
        (repeat first | exact trivial | refine ⟨rfl, ?_⟩ | refine ⟨fun _ _ => ⟨rfl, trivial⟩, ?_⟩ | refine ⟨fun _ _ => trivial, ?_⟩ | refine ⟨by omega, ?_⟩ | refine ⟨fun _ _ => eqC_winS, ?_⟩ | refine ⟨fun _ _ => eqC_winM, ?_⟩ | refine ⟨fun _ _ => eqC_winB, ?_⟩ | refine ⟨fun _ _ => eqC_selfB, ?_⟩ | refine ⟨fun _ _ => eqC_mpB, ?_⟩)
      · have hlt : k < m := by have : (k : Int) < (m : Int) := of_decide_eq_true h; omega
        (repeat first | refine ⟨by omega, ?_⟩ | refine ⟨by decide, ?_⟩ | refine ⟨idx8 _, ?_⟩ | refine ⟨lt8 (Nat.le_refl _) _, ?_⟩)
        have e3 : (k : Int).toNat + 0 = k := by omega
        rw [e3]
        refine frc_parts hlt ?_
        obtain ⟨D, hD⟩ : ∃ D, pushL d0 (IN ++ cat ps k) = D := ⟨_, rfl⟩
        have hDl : D.h < 64 := by rw [← hD]; exact pushL_lt (by decide) _
        rw [hD]
        have hk3 : k = 0 ∨ k = 1 ∨ k = 2 := by omega
        rcases hk3 with rfl | rfl | rfl
        · obtain ⟨hk1, hl1⟩ := hl 0 l0 IN (by rw [← hps]; rfl)
          rw [hD] at hk1
          refine ⟨by kernel_rfl, call_same (fn_swrite z0 l0.length c0 N0 o0 (L l0) D (BitVec.ofNat 64 (IN ++ cat ps 0).length) hDl hN0 hc0 (fun h => by rw [hz0 h]; rfl)) [5, 1, 9] rfl (by (repeat first | exact trivial | refine ⟨rfl, ?_⟩ | refine ⟨fun _ _ => ⟨rfl, trivial⟩, ?_⟩ | refine ⟨fun _ _ => trivial, ?_⟩ | refine ⟨by omega, ?_⟩ | refine ⟨fun _ _ => eqC_winS, ?_⟩ | refine ⟨fun _ _ => eqC_winM, ?_⟩ | refine ⟨fun _ _ => eqC_winB, ?_⟩ | refine ⟨fun _ _ => eqC_selfB, ?_⟩ | refine ⟨fun _ _ => eqC_mpB, ?_⟩)) ?_ (fun _ _ => trivial) ?_⟩
          · (repeat first | exact trivial | refine ⟨rfl, ?_⟩ | refine ⟨fun _ _ => ⟨rfl, trivial⟩, ?_⟩ | refine ⟨fun _ _ => trivial, ?_⟩ | refine ⟨by omega, ?_⟩ | refine ⟨fun _ _ => eqC_winS, ?_⟩ | refine ⟨fun _ _ => eqC_winM, ?_⟩ | refine ⟨fun _ _ => eqC_winB, ?_⟩ | refine ⟨fun _ _ => eqC_selfB, ?_⟩ | refine ⟨fun _ _ => eqC_mpB, ?_⟩)
            refine eqC_bts ?_
            (repeat first | exact trivial | refine ⟨rfl, ?_⟩ | refine ⟨fun _ _ => ⟨rfl, trivial⟩, ?_⟩ | refine ⟨fun _ _ => trivial, ?_⟩ | refine ⟨by omega, ?_⟩ | refine ⟨fun _ _ => eqC_winS, ?_⟩ | refine ⟨fun _ _ => eqC_winM, ?_⟩ | refine ⟨fun _ _ => eqC_winB, ?_⟩ | refine ⟨fun _ _ => eqC_selfB, ?_⟩ | refine ⟨fun _ _ => eqC_mpB, ?_⟩)
          · rintro x hs ⟨rfl, rfl⟩
            rw [hk1, hl1]
            refine ⟨⟨by omega, by omega⟩, 1, [0, 1, 2, 3, 4, 5, 6, 7, 8, 9], ⟨⟨rfl, rfl, rfl⟩, ?_⟩, by dsimp only; omega, by dsimp only; omega⟩
            (repeat first | exact trivial | refine ⟨rfl, ?_⟩ | refine ⟨fun _ _ => ⟨rfl, trivial⟩, ?_⟩ | refine ⟨fun _ _ => trivial, ?_⟩ | refine ⟨by omega, ?_⟩ | refine ⟨fun _ _ => eqC_winS, ?_⟩ | refine ⟨fun _ _ => eqC_winM, ?_⟩ | refine ⟨fun _ _ => eqC_winB, ?_⟩ | refine ⟨fun _ _ => eqC_selfB, ?_⟩ | refine ⟨fun _ _ => eqC_mpB, ?_⟩)
            refine eqC_bts (eqC_bts (eqC_bts ⟨rfl, fun j hj => eqC_P123 hM, ?_⟩))
            (repeat first | exact trivial | refine ⟨rfl, ?_⟩ | refine ⟨fun _ _ => ⟨rfl, trivial⟩, ?_⟩ | refine ⟨fun _ _ => trivial, ?_⟩ | refine ⟨by omega, ?_⟩ | refine ⟨fun _ _ => eqC_winS, ?_⟩ | refine ⟨fun _ _ => eqC_winM, ?_⟩ | refine ⟨fun _ _ => eqC_winB, ?_⟩ | refine ⟨fun _ _ => eqC_selfB, ?_⟩ | refine ⟨fun _ _ => eqC_mpB, ?_⟩)
        · obtain ⟨hk1, hl1⟩ := hl 1 l1 IN (by rw [← hps]; rfl)
          rw [hD] at hk1
          refine ⟨by kernel_rfl, call_same (fn_swrite z1 l1.length c1 N1 o1 (L l1) D (BitVec.ofNat 64 (IN ++ cat ps 1).length) hDl hN1 hc1 (fun h => by rw [hz1 h]; rfl)) [5, 2, 9] rfl (by (repeat first | exact trivial | refine ⟨rfl, ?_⟩ | refine ⟨fun _ _ => ⟨rfl, trivial⟩, ?_⟩ | refine ⟨fun _ _ => trivial, ?_⟩ | refine ⟨by omega, ?_⟩ | refine ⟨fun _ _ => eqC_winS, ?_⟩ | refine ⟨fun _ _ => eqC_winM, ?_⟩ | refine ⟨fun _ _ => eqC_winB, ?_⟩ | refine ⟨fun _ _ => eqC_selfB, ?_⟩ | refine ⟨fun _ _ => eqC_mpB, ?_⟩)) ?_ (fun _ _ => trivial) ?_⟩
          · (repeat first | exact trivial | refine ⟨rfl, ?_⟩ | refine ⟨fun _ _ => ⟨rfl, trivial⟩, ?_⟩ | refine ⟨fun _ _ => trivial, ?_⟩ | refine ⟨by omega, ?_⟩ | refine ⟨fun _ _ => eqC_winS, ?_⟩ | refine ⟨fun _ _ => eqC_winM, ?_⟩ | refine ⟨fun _ _ => eqC_winB, ?_⟩ | refine ⟨fun _ _ => eqC_selfB, ?_⟩ | refine ⟨fun _ _ => eqC_mpB, ?_⟩)
            refine eqC_bts ?_
            (repeat first | exact trivial | refine ⟨rfl, ?_⟩ | refine ⟨fun _ _ => ⟨rfl, trivial⟩, ?_⟩ | refine ⟨fun _ _ => trivial, ?_⟩ | refine ⟨by omega, ?_⟩ | refine ⟨fun _ _ => eqC_winS, ?_⟩ | refine ⟨fun _ _ => eqC_winM, ?_⟩ | refine ⟨fun _ _ => eqC_winB, ?_⟩ | refine ⟨fun _ _ => eqC_selfB, ?_⟩ | refine ⟨fun _ _ => eqC_mpB, ?_⟩)
          · rintro x hs ⟨rfl, rfl⟩
            rw [hk1, hl1]
            refine ⟨⟨by omega, by omega⟩, 2, [0, 1, 2, 3, 4, 5, 6, 7, 8, 9], ⟨⟨rfl, rfl, rfl⟩, ?_⟩, by dsimp only; omega, by dsimp only; omega⟩
            (repeat first | exact trivial | refine ⟨rfl, ?_⟩ | refine ⟨fun _ _ => ⟨rfl, trivial⟩, ?_⟩ | refine ⟨fun _ _ => trivial, ?_⟩ | refine ⟨by omega, ?_⟩ | refine ⟨fun _ _ => eqC_winS, ?_⟩ | refine ⟨fun _ _ => eqC_winM, ?_⟩ | refine ⟨fun _ _ => eqC_winB, ?_⟩ | refine ⟨fun _ _ => eqC_selfB, ?_⟩ | refine ⟨fun _ _ => eqC_mpB, ?_⟩)
            refine eqC_bts (eqC_bts (eqC_bts ⟨rfl, fun j hj => eqC_P123 hM, ?_⟩))
            (repeat first | exact trivial | refine ⟨rfl, ?_⟩ | refine ⟨fun _ _ => ⟨rfl, trivial⟩, ?_⟩ | refine ⟨fun _ _ => trivial, ?_⟩ | refine ⟨by omega, ?_⟩ | refine ⟨fun _ _ => eqC_winS, ?_⟩ | refine ⟨fun _ _ => eqC_winM, ?_⟩ | refine ⟨fun _ _ => eqC_winB, ?_⟩ | refine ⟨fun _ _ => eqC_selfB, ?_⟩ | refine ⟨fun _ _ => eqC_mpB, ?_⟩)
        · obtain ⟨hk1, hl1⟩ := hl 2 l2 IN (by rw [← hps]; rfl)
          rw [hD] at hk1
          refine ⟨by kernel_rfl, call_same (fn_swrite z2 l2.length c2 N2 o2 (L l2) D (BitVec.ofNat 64 (IN ++ cat ps 2).length) hDl hN2 hc2 (fun h => by rw [hz2 h]; rfl)) [5, 3, 9] rfl (by (repeat first | exact trivial | refine ⟨rfl, ?_⟩ | refine ⟨fun _ _ => ⟨rfl, trivial⟩, ?_⟩ | refine ⟨fun _ _ => trivial, ?_⟩ | refine ⟨by omega, ?_⟩ | refine ⟨fun _ _ => eqC_winS, ?_⟩ | refine ⟨fun _ _ => eqC_winM, ?_⟩ | refine ⟨fun _ _ => eqC_winB, ?_⟩ | refine ⟨fun _ _ => eqC_selfB, ?_⟩ | refine ⟨fun _ _ => eqC_mpB, ?_⟩)) ?_ (fun _ _ => trivial) ?_⟩
          · (repeat first | exact trivial | refine ⟨rfl, ?_⟩ | refine ⟨fun _ _ => ⟨rfl, trivial⟩, ?_⟩ | refine ⟨fun _ _ => trivial, ?_⟩ | refine ⟨by omega, ?_⟩ | refine ⟨fun _ _ => eqC_winS, ?_⟩ | refine ⟨fun _ _ => eqC_winM, ?_⟩ | refine ⟨fun _ _ => eqC_winB, ?_⟩ | refine ⟨fun _ _ => eqC_selfB, ?_⟩ | refine ⟨fun _ _ => eqC_mpB, ?_⟩)
            refine eqC_bts ?_
            (repeat first | exact trivial | refine ⟨rfl, ?_⟩ | refine ⟨fun _ _ => ⟨rfl, trivial⟩, ?_⟩ | refine ⟨fun _ _ => trivial, ?_⟩ | refine ⟨by omega, ?_⟩ | refine ⟨fun _ _ => eqC_winS, ?_⟩ | refine ⟨fun _ _ => eqC_winM, ?_⟩ | refine ⟨fun _ _ => eqC_winB, ?_⟩ | refine ⟨fun _ _ => eqC_selfB, ?_⟩ | refine ⟨fun _ _ => eqC_mpB, ?_⟩)
          · rintro x hs ⟨rfl, rfl⟩
            rw [hk1, hl1]
            refine ⟨⟨by omega, by omega⟩, 3, [0, 1, 2, 3, 4, 5, 6, 7, 8, 9], ⟨⟨rfl, rfl, rfl⟩, ?_⟩, by dsimp only; omega, by dsimp only; omega⟩
            (repeat first | exact trivial | refine ⟨rfl, ?_⟩ | refine ⟨fun _ _ => ⟨rfl, trivial⟩, ?_⟩ | refine ⟨fun _ _ => trivial, ?_⟩ | refine ⟨by omega, ?_⟩ | refine ⟨fun _ _ => eqC_winS, ?_⟩ | refine ⟨fun _ _ => eqC_winM, ?_⟩ | refine ⟨fun _ _ => eqC_winB, ?_⟩ | refine ⟨fun _ _ => eqC_selfB, ?_⟩ | refine ⟨fun _ _ => eqC_mpB, ?_⟩)
            refine eqC_bts (eqC_bts (eqC_bts ⟨rfl, fun j hj => eqC_P123 hM, ?_⟩))
            (repeat first | exact trivial | refine ⟨rfl, ?_⟩ | refine ⟨fun _ _ => ⟨rfl, trivial⟩, ?_⟩ | refine ⟨fun _ _ => trivial, ?_⟩ | refine ⟨by omega, ?_⟩ | refine ⟨fun _ _ => eqC_winS, ?_⟩ | refine ⟨fun _ _ => eqC_winM, ?_⟩ | refine ⟨fun _ _ => eqC_winB, ?_⟩ | refine ⟨fun _ _ => eqC_selfB, ?_⟩ | refine ⟨fun _ _ => eqC_mpB, ?_⟩)
      · obtain rfl : k = m := by have : ¬ (k : Int) < (m : Int) := of_decide_eq_false h; have hk : k ≤ m := hk; omega
        obtain ⟨D, hD⟩ : ∃ D, pushL d0 (IN ++ cat ps k) = D := ⟨_, rfl⟩
        have hDl : D.h < 64 := by rw [← hD]; exact pushL_lt (by decide) _
        obtain ⟨S, hS⟩ : ∃ S, sumL (IN ++ cat ps k) = S := ⟨_, rfl⟩
        have hSl : S.length = 32 := by rw [← hS, sumL_len]
        have hSL : ∀ i, i < 32 → endV D (BitVec.ofNat 64 (IN ++ cat ps k).length) i = L S i := fun i hi => by rw [← hS, L_sumL _ hi, hD]
        have hM1 : markL key (cat ps k) = sumL (OU ++ S) := by unfold markL; rw [hK, hIN, hOU, hS]
        rw [hD]
        refine ⟨by kernel_rfl, call_same (fn_send D (BitVec.ofNat 64 (IN ++ cat ps k).length) hDl) [5, 9] rfl (by (repeat first | exact trivial | refine ⟨rfl, ?_⟩ | refine ⟨fun _ _ => ⟨rfl, trivial⟩, ?_⟩ | refine ⟨fun _ _ => trivial, ?_⟩ | refine ⟨by omega, ?_⟩ | refine ⟨fun _ _ => eqC_winS, ?_⟩ | refine ⟨fun _ _ => eqC_winM, ?_⟩ | refine ⟨fun _ _ => eqC_winB, ?_⟩ | refine ⟨fun _ _ => eqC_selfB, ?_⟩ | refine ⟨fun _ _ => eqC_mpB, ?_⟩)) (by (repeat first | exact trivial | refine ⟨rfl, ?_⟩ | refine ⟨fun _ _ => ⟨rfl, trivial⟩, ?_⟩ | refine ⟨fun _ _ => trivial, ?_⟩ | refine ⟨by omega, ?_⟩ | refine ⟨fun _ _ => eqC_winS, ?_⟩ | refine ⟨fun _ _ => eqC_winM, ?_⟩ | refine ⟨fun _ _ => eqC_winB, ?_⟩ | refine ⟨fun _ _ => eqC_selfB, ?_⟩ | refine ⟨fun _ _ => eqC_mpB, ?_⟩)) (fun _ _ => trivial) ?_⟩
        rintro x hs ⟨rfl, V', P', h', a', rfl⟩
        (repeat first | refine ⟨by omega, ?_⟩ | refine ⟨by decide, ?_⟩ | refine ⟨idx8 _, ?_⟩ | refine ⟨lt8 (Nat.le_refl _) _, ?_⟩ | refine ⟨rfl, ?_⟩)
        refine ⟨some [], [], [(0, true), (1, true), (2, true), (3, false), (4, false)], [5], by kernel_rfl, ?_⟩
        (repeat first | refine ⟨by omega, ?_⟩ | refine ⟨by decide, ?_⟩ | refine ⟨idx8 _, ?_⟩ | refine ⟨lt8 (Nat.le_refl _) _, ?_⟩ | refine ⟨rfl, ?_⟩)
        refine call_same (fn_ssum3 false false true 64 32 0 0 0 0 64 32 0 OU S [] 2 2 2 1 first steps (.inr ⟨rfl, rfl, rfl⟩) (by omega) (by omega) (by decide) (by omega) (by omega) (by decide) (fun h => Bool.noConfusion h) (fun h => Bool.noConfusion h) (fun _ => rfl) (by decide) (by decide)) [8, 10, 10, 11, 5] rfl (by (repeat first | exact trivial | refine ⟨rfl, ?_⟩ | refine ⟨fun _ _ => ⟨rfl, trivial⟩, ?_⟩ | refine ⟨fun _ _ => trivial, ?_⟩ | refine ⟨by omega, ?_⟩ | refine ⟨fun _ _ => eqC_winS, ?_⟩ | refine ⟨fun _ _ => eqC_winM, ?_⟩ | refine ⟨fun _ _ => eqC_winB, ?_⟩ | refine ⟨fun _ _ => eqC_selfB, ?_⟩ | refine ⟨fun _ _ => eqC_mpB, ?_⟩)) ?_ (fun _ _ => trivial) ?_
        · (repeat first | exact trivial | refine ⟨rfl, ?_⟩ | refine ⟨fun _ _ => ⟨rfl, trivial⟩, ?_⟩ | refine ⟨fun _ _ => trivial, ?_⟩ | refine ⟨by omega, ?_⟩ | refine ⟨fun _ _ => eqC_winS, ?_⟩ | refine ⟨fun _ _ => eqC_winM, ?_⟩ | refine ⟨fun _ _ => eqC_winB, ?_⟩ | refine ⟨fun _ _ => eqC_selfB, ?_⟩ | refine ⟨fun _ _ => eqC_mpB, ?_⟩)
          refine ⟨fun j hj => eqC_win8 (fun i hi => rfl) j, ?_⟩
          (repeat first | exact trivial | refine ⟨rfl, ?_⟩ | refine ⟨fun _ _ => ⟨rfl, trivial⟩, ?_⟩ | refine ⟨fun _ _ => trivial, ?_⟩ | refine ⟨by omega, ?_⟩ | refine ⟨fun _ _ => eqC_winS, ?_⟩ | refine ⟨fun _ _ => eqC_winM, ?_⟩ | refine ⟨fun _ _ => eqC_winB, ?_⟩ | refine ⟨fun _ _ => eqC_selfB, ?_⟩ | refine ⟨fun _ _ => eqC_mpB, ?_⟩)
          refine ⟨fun j hj => eqC_win8 (fun i hi => hSL i (by omega)) j, ?_⟩
          (repeat first | exact trivial | refine ⟨rfl, ?_⟩ | refine ⟨fun _ _ => ⟨rfl, trivial⟩, ?_⟩ | refine ⟨fun _ _ => trivial, ?_⟩ | refine ⟨by omega, ?_⟩ | refine ⟨fun _ _ => eqC_winS, ?_⟩ | refine ⟨fun _ _ => eqC_winM, ?_⟩ | refine ⟨fun _ _ => eqC_winB, ?_⟩ | refine ⟨fun _ _ => eqC_selfB, ?_⟩ | refine ⟨fun _ _ => eqC_mpB, ?_⟩)
          refine ⟨fun j hj => eqC_parts (fun i hi => ?_) j, ?_⟩
          · have : i = 0 ∨ i = 1 := by omega
            rcases this with rfl | rfl
            · exact ⟨rfl, rfl, hOUl.symm, rfl, trivial⟩
            · exact ⟨rfl, rfl, hSl.symm, rfl, trivial⟩
          · (repeat first | exact trivial | refine ⟨rfl, ?_⟩ | refine ⟨fun _ _ => ⟨rfl, trivial⟩, ?_⟩ | refine ⟨fun _ _ => trivial, ?_⟩ | refine ⟨by omega, ?_⟩ | refine ⟨fun _ _ => eqC_winS, ?_⟩ | refine ⟨fun _ _ => eqC_winM, ?_⟩ | refine ⟨fun _ _ => eqC_winB, ?_⟩ | refine ⟨fun _ _ => eqC_selfB, ?_⟩ | refine ⟨fun _ _ => eqC_mpB, ?_⟩)
        rintro x hs ⟨rfl, rfl⟩
        (repeat first | refine ⟨by omega, ?_⟩ | refine ⟨by decide, ?_⟩ | refine ⟨idx8 _, ?_⟩ | refine ⟨lt8 (Nat.le_refl _) _, ?_⟩ | refine ⟨rfl, ?_⟩)
        have hcat : cat (ps3 OU S []) 2 = OU ++ S := by simp [cat, ps3]
        rw [hcat]
        refine ⟨.a (.agg [.row 32 fun i => .w8 (L (markL key (cat ps k)) i)]), [bts false Nk ok key.length (L key), bts z0 N0 o0 l0.length (L l0), bts z1 N1 o1 l1.length (L l1), bts z2 N2 o2 l2.length (L l2), [.row M (partsF k (nthC [.sn z0 1 0 o0 l0.length c0, .sn z1 2 0 o1 l1.length c1, .sn z2 3 0 o2 l2.length c2]))], shaT 1 0 first steps], ⟨[0, 1, 2, 3, 4, 5], ⟨rfl, rfl, rfl⟩, ?_⟩, rfl, rfl⟩
        rw [hM1]
        (repeat first | exact trivial | refine ⟨rfl, ?_⟩ | refine ⟨fun _ _ => ⟨rfl, trivial⟩, ?_⟩ | refine ⟨fun _ _ => trivial, ?_⟩ | refine ⟨by omega, ?_⟩ | refine ⟨fun _ _ => eqC_winS, ?_⟩ | refine ⟨fun _ _ => eqC_winM, ?_⟩ | refine ⟨fun _ _ => eqC_winB, ?_⟩ | refine ⟨fun _ _ => eqC_selfB, ?_⟩ | refine ⟨fun _ _ => eqC_mpB, ?_⟩)
        refine eqC_bts (eqC_bts (eqC_bts ⟨rfl, fun j hj => eqC_P123 hM, ?_⟩))
        (repeat first | exact trivial | refine ⟨rfl, ?_⟩ | refine ⟨fun _ _ => ⟨rfl, trivial⟩, ?_⟩ | refine ⟨fun _ _ => trivial, ?_⟩ | refine ⟨by omega, ?_⟩ | refine ⟨fun _ _ => eqC_winS, ?_⟩ | refine ⟨fun _ _ => eqC_winM, ?_⟩ | refine ⟨fun _ _ => eqC_winB, ?_⟩ | refine ⟨fun _ _ => eqC_selfB, ?_⟩ | refine ⟨fun _ _ => eqC_mpB, ?_⟩)
end Sx
end Go.Proofs.Ytndlhhhebijknaa
end

section
/-
  SHA-256: a message filled up; the document's words. Plain. No condition.
-/
namespace Go.Proofs.Ytndlhhhebijknaa
set_option linter.unusedVariables false
namespace Sha

theorem compress_congr (V : Nat → BitVec 32) {P P' : Nat → BitVec 8} (h : ∀ i, i < 64 → P i = P' i) : compress V P = compress V P' := by
  have e0 : ∀ i, i < 16 → w0 P i = w0 P' i := fun i hi => by
    unfold w0; rw [h _ (by omega), h _ (by omega), h _ (by omega), h _ (by omega)]
  have e1 : ∀ k i, wS P k i = wS P' k i := by
    intro k
    induction k with
    | zero =>
      intro i
      by_cases hi : i < 16
      · simp only [wS, if_pos hi, e0 i hi]
      · simp only [wS, if_neg hi]
    | succ k ih => intro i; simp only [wS, ih]
  have e2 : wS P 48 = wS P' 48 := funext fun i => e1 48 i
  funext i
  unfold compress
  rw [e2]
theorem pushN_h0 (d : Dg) (b : Nat → BitVec 8) (h : d.h = 0) : (pushN d b 64).V = compress d.V b := by
  rw [pushN_fill d b 64 (by omega) (by omega)]
  refine compress_congr d.V fun i hi => ?_
  rw [if_pos (by omega), h, Nat.sub_zero]
theorem push_h (d : Dg) (x : BitVec 8) : (push d x).h = if d.h + 1 = 64 then 0 else d.h + 1 := by
  unfold push
  split <;> rfl
theorem pushL_h (l : Bs) : ∀ d : Dg, d.h < 64 → (pushL d l).h = (d.h + l.length) % 64 := by
  induction l with
  | nil => intro d h; show d.h = (d.h + 0) % 64; omega
  | cons x l ih =>
    intro d h
    show (pushL (push d x) l).h = _
    rw [ih _ (push_lt h x), push_h, List.length_cons]
    split <;> omega
/-- What comes behind a message. -/
def padT (n : Nat) : Bs := tab (padP (n % 64) + 8) (padB (padP (n % 64)) (BitVec.ofNat 64 n * 8#64))
def full (l : Bs) : Bs := l ++ padT l.length
@[simp] theorem padT_len (n : Nat) : (padT n).length = padP (n % 64) + 8 := tab_len _ _
theorem full_len (l : Bs) : (full l).length = l.length + (padP (l.length % 64) + 8) := by simp [full]
theorem full_64 (l : Bs) : ∃ q, (full l).length = 64 * q ∧ l.length + 9 ≤ 64 * q ∧ 64 * q ≤ l.length + 72 := by
  have h : l.length % 64 < 64 := Nat.mod_lt _ (by omega)
  have h2 : (l.length % 64 + padP (l.length % 64)) % 64 = 56 := by
    have h3 := padP_le h
    have := (padP_iff (k := padP (l.length % 64) - 1) h (by omega)).2 (by omega)
    rwa [show padP (l.length % 64) - 1 + 1 = padP (l.length % 64) by omega] at this
  have h3 := padP_le h
  refine ⟨(full l).length / 64, ?_, ?_, ?_⟩ <;> rw [full_len] <;> omega
theorem sumL_full (l : Bs) : sumL l = tab 32 (outW (pushL d0 (full l)).V) := by
  have h : (pushL d0 l).h = l.length % 64 := by rw [pushL_h l d0 (by decide)]; show (0 + _) % 64 = _; rw [Nat.zero_add]
  have e : endD (pushL d0 l) (BitVec.ofNat 64 l.length) = pushL d0 (full l) := by
    unfold endD
    rw [pushN_tab, h, full, pushL_app, padT]
  have e2 : endV (pushL d0 l) (BitVec.ofNat 64 l.length) = outW (pushL d0 (full l)).V := by
    funext i
    unfold endV
    rw [e]
  unfold sumL
  rw [e2]
/-- The words when k blocks of l are gone through. -/
def wordsAt (l : Bs) (k : Nat) : Dg := pushL d0 (l.take (64 * k))
theorem wordsAt_h (l : Bs) (k : Nat) (h : 64 * k ≤ l.length) : (wordsAt l k).h = 0 := by
  unfold wordsAt
  rw [pushL_h _ _ (by decide), List.length_take]
  show (0 + min (64 * k) l.length) % 64 = 0
  omega
theorem wordsAt_succ (l : Bs) (k : Nat) (h : 64 * (k + 1) ≤ l.length) : (wordsAt l (k + 1)).V = compress (wordsAt l k).V (fun i => L l (64 * k + i)) := by
  have e : l.take (64 * (k + 1)) = l.take (64 * k) ++ (l.drop (64 * k)).take 64 := by
    rw [show 64 * (k + 1) = 64 * k + 64 by omega, List.take_add]
  show (pushL d0 (l.take (64 * (k + 1)))).V = _
  rw [e, pushL_app]
  show (pushL (wordsAt l k) _).V = _
  rw [← pushN_of (wordsAt l k) (b := fun i => L l (64 * k + i)) (n := 64), pushN_h0 _ _ (wordsAt_h l k (by omega))]
  · simp only [List.length_take, List.length_drop]; omega
  · intro i hi
    rw [L_take _ _ _ hi, L_drop]
theorem byte_in (x : BitVec 32) (p : BitVec 8) : x * 256#32 + p.setWidth 32 = x <<< 8 ||| p.setWidth 32 := by
  have h1 : x * 256#32 = x <<< 8 := by
    apply BitVec.eq_of_toNat_eq
    rw [BitVec.toNat_mul, BitVec.toNat_shiftLeft, Nat.shiftLeft_eq]
    rfl
  rw [h1]
  apply BitVec.add_eq_or_of_and_eq_zero
  apply BitVec.eq_of_getLsbD_eq
  intro i hi
  simp only [BitVec.getLsbD_and, BitVec.getLsbD_shiftLeft, BitVec.getLsbD_setWidth, BitVec.getLsbD_zero]
  by_cases h : i < 8
  · simp [h]
  · rw [BitVec.getLsbD_of_ge p i (by omega)]; simp
/-- Four bytes, one behind the other. -/
theorem four (p0 p1 p2 p3 : BitVec 8) : (((0#32 * 256#32 + p0.setWidth 32) * 256#32 + p1.setWidth 32) * 256#32 + p2.setWidth 32) * 256#32 + p3.setWidth 32 = p0.setWidth 32 <<< 24 ||| p1.setWidth 32 <<< 16 ||| p2.setWidth 32 <<< 8 ||| p3.setWidth 32 := by
  simp only [byte_in, BitVec.shiftLeft_or_distrib, ← BitVec.shiftLeft_add, BitVec.zero_shiftLeft, BitVec.zero_or]
theorem not_xor (x : BitVec 32) : x ^^^ 4294967295#32 = ~~~x := by
  have : (4294967295#32) = BitVec.allOnes 32 := by decide
  rw [this]; exact BitVec.xor_allOnes
end Sha
end Go.Proofs.Ytndlhhhebijknaa
end
