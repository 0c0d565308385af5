/-
  Texts of this claim, part 7: AesT, AesK, AesU, GcmP, GcmM, GcmA, AesN, GcmB, GcmC, GcmD, GcmE, KeysA, KeysB, VwA, VwB, VwC. No condition of its own.
-/
import Derived.Test.YtkjdkeolkigibaaGreatG6
section
/-
  The program's tables: filled; blocks shifted. No condition.
-/
namespace Go.Proofs.YtkjdkeolkigibaaGreat
set_option linter.unusedVariables false
namespace Sx
open Aes

/-- Tables: done or not, the lock, the boxes, the counter. -/
abbrev tabs (d : BitVec 32) (m : Int) (b : Nat → BitVec 8) (n : Int) : List Seg := [.one (.w32 d), .one (.int .i32 m), .one (.w32 0), .row 256 (fun i => .w8 (b i)), .one (.int .i64 n)]
def boxes (i : Nat) : BitVec 8 := box (BitVec.ofNat 8 i)
theorem fn_fill (d : BitVec 32) (m : Int) (b : Nat → BitVec 8) (n : Int) : Fn Tryz.prog tds 41 [tabs d m b n] [.c (.p 0 0 0)] (fun _ => True) (fun x hs => x = .tup [] ∧ hs = [tabs d m boxes n]) := by
  refine fn_of_body tds_ok follows_ Tryz.func41 rfl (t := [.a (.c (.p 0 0 0)), .any, .any, .any, .any, .any, .any, .any, .any, .any, .any, .any, .any, .any, .any, .any, .any, .any, .any, .any, .any, .any, .any, .any, .any, .any, .any, .any, .any, .any, .any]) rfl (fun w r0 hr _ => ?_)
  obtain ⟨x0, rfl⟩ := List.length_eq_one_iff.1 hr
  refine .inl ⟨Nat, fun k => ⟨[.a (.c (.p 0 0 0)), .any, .any, .any, .any, .any, .a (.c (.int .i64 (↑k))), .any, .any, .any, .any, .any, .any, .any, .any, .any, .any, .any, .any, .any, .any, .any, .any, .any, .any, .any, .any, .any, .any, .any, .any], [tabs d m (fun i => if i < k then boxes i else b i) n]⟩, fun k => k ≤ 256, fun k => 256 - k, ⟨0, [0], ⟨⟨rfl, rfl, rfl⟩, ?_⟩, by omega⟩, fun k hk => ⟨fun h => ?_, fun h => ?_⟩⟩
  · exact ⟨rfl, rfl, rfl, rfl, rfl, rfl, fun j hj => ⟨by simp, trivial⟩, rfl, trivial⟩
  · have hlt : (k : Int) < 256 := of_decide_eq_true h
    refine ⟨by kernel_rfl, call_same (fn_inverse _) [] rfl ⟨rfl, trivial⟩ trivial (fun _ _ => trivial) ?_⟩
    rintro x hs ⟨rfl, rfl⟩
    refine .inl ⟨Nat, fun j => ⟨[.a (.c (.p 0 0 0)), .any, .a (.c (.int .i64 (↑k))), .a (.c (.w8 ((inverse (BitVec.ofNat 8 k))))), .a (.c (.w8 ((boxS (inverse (BitVec.ofNat 8 k)) j)))), .any, .a (.c (.int .i64 (↑k))), .any, .any, .any, .any, .any, .any, .any, .a (.c (.int .i64 (↑j))), .any, .any, .any, .any, .any, .any, .any, .any, .any, .any, .any, .any, .any, .any, .any, .any], [tabs d m (fun i => if i < k then boxes i else b i) n]⟩, fun j => j ≤ 4, fun j => 4 - j, ⟨0, [0], ⟨⟨rfl, rfl, rfl⟩, ?_⟩, by omega⟩, fun j hj => ⟨fun h => ?_, fun h => ?_⟩⟩
    · rw [ofIntN]
      exact ⟨rfl, rfl, rfl, rfl, rfl, rfl, rfl, rfl, rfl, rfl, fun j hj => ⟨rfl, trivial⟩, rfl, trivial⟩
    · have hlj : (j : Int) < 4 := of_decide_eq_true h
      refine ⟨⟨by omega, by omega⟩, by kernel_rfl, call_same (fn_rot8 _ (j + 1) (by omega)) [] rfl ⟨rfl, rfl, trivial⟩ trivial (fun _ _ => trivial) ?_⟩
      rintro x hs ⟨rfl, rfl⟩
      exact ⟨⟨by omega, by omega⟩, j + 1, [0], ⟨⟨rfl, rfl, rfl⟩, rfl, rfl, rfl, rfl, rfl, rfl, rfl, rfl, rfl, rfl, fun j hj => ⟨rfl, trivial⟩, rfl, trivial⟩, by dsimp only; omega, by dsimp only; omega⟩
    · obtain rfl : j = 4 := by have : ¬ (j : Int) < 4 := of_decide_eq_false h; have hj : j ≤ 4 := hj; omega
      refine ⟨by omega, by omega, rfl, ⟨by omega, by omega⟩, k + 1, [0], ⟨⟨rfl, rfl, rfl⟩, rfl, rfl, rfl, rfl, rfl, rfl, fun j hj => eqC_w8 ?_, rfl, trivial⟩, by dsimp only; omega, by dsimp only; omega⟩
      have e : (k : Int).toNat + 0 = k := by omega
      rw [e]
      refine (upd_w8 (g := fun i => .w8 (if i < k + 1 then boxes i else b i)) ?_ ?_ j).trans rfl
      · simp only [if_pos (show k < k + 1 by omega)]
        rfl
      · intro j hjk
        have : j < k + 1 ↔ j < k := by omega
        simp only [this]
  · obtain rfl : k = 256 := by have : ¬ (k : Int) < 256 := of_decide_eq_false h; have hk : k ≤ 256 := hk; omega
    exact ⟨.tup [], [tabs d m boxes n], ⟨[0], ⟨rfl, rfl, rfl⟩, rfl, rfl, rfl, rfl, fun j hj => eqC_w8 (by simp [hj]), rfl, trivial⟩, rfl, rfl⟩
theorem fn_do (d : BitVec 32) (b : Nat → BitVec 8) (n : Int) (hd : d = 0#32 ∨ d = 1#32 ∧ b = boxes) : Fn Tryz.prog tds 40 [tabs d 0 b n] [.c (.p 0 0 0), .c (.clo 41 0 0 0)] (fun _ => True) (fun x hs => x = .tup [] ∧ hs = [tabs 1 0 boxes n]) := by
  rcases hd with rfl | ⟨rfl, rfl⟩
  · exact fn_once (by kernel_rfl) (fn_fill 0#32 1 b n)
  · exact fn_once_done
theorem boxes_at (c : BitVec 8) : boxes c.toNat = box c := by unfold boxes; rw [BitVec.ofNat_toNat, BitVec.setWidth_eq]
theorem fn_shift (b : Nat → BitVec 8) (n : Int) : FnR Tryz.prog tds 66 1 [tabs 1 0 boxes n] [.c (.p 0 0 0), blk b] (fun _ => True) (fun x hs => x = .a (blk (shiftAt b)) ∧ hs = [tabs 1 0 boxes n]) := by
  refine fn_of_body tds_ok follows_ Tryz.func66 rfl (t := .a (.c (.p 0 0 0)) :: .a (blk b) :: anys 32) rfl (fun w r0 hr _ => ?_)
  obtain ⟨x0, rfl⟩ := List.length_eq_one_iff.1 hr
  refine ⟨rfl, .inl ⟨Nat, fun k => ⟨[.a (.c (.p 0 0 0)), .any, .any, .a (.c (.p 1 0 0)), .a (.c (.p 2 0 0)), .a (.c (.p 3 0 0)), .any, .any, .any, .a (.c (.int .i64 (↑k))), .any, .any, .any, .any, .any, .any, .any, .any, .any, .any, .any, .any, .any, .any, .any, .any, .any, .any, .any, .any, .any, .any, .any, .any], [tabs 1 0 boxes n, [.row 16 fun i => .w8 (b i)], [.row 16 fun _ => .w8 0], [.row 16 fun i => .w8 (if i < k then shiftAt b i else 0#8)]]⟩, fun k => k ≤ 16, fun k => 16 - k, ⟨0, [0, 1, 2, 3], ⟨⟨rfl, rfl, rfl⟩, ?_⟩, by omega⟩, fun k hk => ⟨fun h => ?_, fun h => ?_⟩⟩⟩
  · exact ⟨rfl, rfl, rfl, rfl, rfl, rfl, rfl, rfl, rfl, fun j hj => ⟨rfl, trivial⟩, rfl, rfl, fun j hj => ⟨rfl, trivial⟩, rfl, fun j hj => ⟨rfl, trivial⟩, rfl, fun j hj => ⟨by simp, trivial⟩, trivial⟩
  · have hlt : (k : Int) < 16 := of_decide_eq_true h
    repeat refine ⟨by omega, ?_⟩
    refine ⟨none, [], [(0, true), (1, true), (2, true), (3, true), (4, true), (5, true), (6, true), (7, true), (8, true), (9, true), (10, true), (11, true), (12, true), (13, true), (14, true), (15, true)], [16], by kernel_rfl, ?_⟩
    repeat first
      | refine ⟨by omega, ?_⟩
      | refine ⟨idx8 _, ?_⟩
      | refine ⟨lt8 (Nat.le_refl _) _, ?_⟩
    refine ⟨rfl, ⟨by omega, by omega⟩, k + 1, [0, 1, 2, 3], ⟨⟨rfl, rfl, rfl⟩, ?_⟩, by dsimp only; omega, by dsimp only; omega⟩
    refine ⟨rfl, rfl, rfl, rfl, rfl, rfl, rfl, rfl, rfl, fun j hj => ⟨rfl, trivial⟩, rfl, rfl, fun j hj => ⟨rfl, trivial⟩, rfl, fun j hj => ⟨rfl, trivial⟩, rfl, fun j hj => eqC_w8 ?_, trivial⟩
    have e0 : (k : Int).toNat + 0 = k := by omega
    have e1 : (4 * (((k : Int) / 4 + (k : Int) % 4) % 4) + (k : Int) % 4).toNat + 0 = 4 * ((k / 4 + k % 4) % 4) + k % 4 := by omega
    have e2 : ∀ x : BitVec 8, ((x.toNat : Int)).toNat + 0 = x.toNat := fun x => by omega
    rw [e0, e1, e2, boxes_at]
    refine (upd_w8 (g := fun i => .w8 (if i < k + 1 then shiftAt b i else 0#8)) ?_ ?_ j).trans rfl
    · simp only [if_pos (show k < k + 1 by omega)]
      rfl
    · intro j hjk
      have : j < k + 1 ↔ j < k := by omega
      simp only [this]
  · obtain rfl : k = 16 := by have : ¬ (k : Int) < 16 := of_decide_eq_false h; have hk : k ≤ 16 := hk; omega
    exact ⟨by omega, rfl, rfl, by omega, .a (blk (shiftAt b)), [tabs 1 0 boxes n], ⟨[0], ⟨rfl, rfl, rfl⟩, rfl, rfl, fun j hj => eqC_w8 (by simp [hj]), rfl, rfl, rfl, rfl, fun j hj => ⟨rfl, trivial⟩, rfl, trivial⟩, rfl, rfl⟩
end Sx
end Go.Proofs.YtkjdkeolkigibaaGreat
end

section
/-
  The program's round keys. No condition.
-/
namespace Go.Proofs.YtkjdkeolkigibaaGreat
set_option linter.unusedVariables false
namespace Sx
open Aes

theorem fn_new : Fn Tryz.prog tds 19 [] [] (fun _ => True) (fun x hs => x = .a (.c (.p 0 0 0)) ∧ hs = [tabs 0 0 (fun _ => 0#8) 0]) := by
  refine fn_of_body tds_ok follows_ Tryz.func19 rfl (t := anys 2) rfl (fun w r0 hr _ => ?_)
  obtain rfl : r0 = [] := List.eq_nil_of_length_eq_zero hr
  exact ⟨.a (.c (.p 0 0 0)), [tabs 0 0 (fun _ => 0#8) 0], ⟨[0], ⟨rfl, rfl, rfl⟩, rfl, rfl, rfl, rfl, rfl, fun j hj => ⟨rfl, trivial⟩, rfl, trivial⟩, rfl, rfl⟩
/-- A key: its tables, its round keys. -/
abbrev keyC (K : Nat → BitVec 8) : List Seg := [.one (.p 0 0 0), .row 176 (fun i => .w8 (K i))]
theorem pNow_lo (old : Nat → BitVec 8) (p : BitVec 8) {i : Nat} (h : i < 4) : pNow old p i = if i = 0 then old 0 ^^^ box (old 13) ^^^ p else old i ^^^ box (old (12 + (i + 1) % 4)) := by
  unfold pNow
  rw [show i / 4 = 0 by omega, show i % 4 = i by omega]
  rfl
theorem pNow_hi (old : Nat → BitVec 8) (p : BitVec 8) {i : Nat} (h : 4 ≤ i) : pNow old p i = old i ^^^ pNow old p (i - 4) := by
  unfold pNow
  obtain ⟨c, hc⟩ : ∃ c, i / 4 = c + 1 := ⟨i / 4 - 1, by omega⟩
  rw [hc, show (i - 4) / 4 = c by omega, show (i - 4) % 4 = i % 4 by omega]
  show old (4 * (c + 1) + i % 4) ^^^ _ = _
  rw [show 4 * (c + 1) + i % 4 = i by omega]
theorem pKeyS_lt (key : Nat → BitVec 8) (r : Nat) {i : Nat} (h : i < 16 * (r + 1)) : (pKeyS key (r + 1)).1 i = (pKeyS key r).1 i := by
  simp only [pKeyS]; rw [if_pos h]
theorem pKeyS_ge (key : Nat → BitVec 8) (r : Nat) (i : Nat) : (pKeyS key (r + 1)).1 (16 * (r + 1) + i) = pNow (fun j => (pKeyS key r).1 (16 * r + j)) (pKeyS key r).2 i := by
  simp only [pKeyS]; rw [if_neg (by omega), show 16 * (r + 1) + i - 16 * (r + 1) = i by omega]
set_option maxHeartbeats 2000000 in
theorem fn_key (d : BitVec 32) (b : Nat → BitVec 8) (n : Int) (key : Nat → BitVec 8) (hd : d = 0#32 ∨ d = 1#32 ∧ b = boxes) :
    Fn Tryz.prog tds 23 [tabs d 0 b n] [.c (.p 0 0 0), blk key] (fun _ => True) (fun x hs => x = .a (.c (.p 1 0 0)) ∧ hs = [tabs 1 0 boxes n, keyC (pKeys key)]) := by
  refine fn_of_body tds_ok follows_ Tryz.func23 rfl (t := .a (.c (.p 0 0 0)) :: .a (blk key) :: anys 94) rfl (fun w r0 hr _ => ?_)
  obtain ⟨x0, rfl⟩ := List.length_eq_one_iff.1 hr
  refine ⟨rfl, fun h => absurd h (by decide), fun _ => ?_⟩
  refine ⟨by kernel_rfl, call_same (fn_do d b n hd) [0] rfl ⟨rfl, rfl, rfl, trivial⟩ ⟨rfl, rfl, rfl, rfl, fun j hj => ⟨rfl, trivial⟩, rfl, trivial⟩ (fun _ _ => trivial) ?_⟩
  rintro x hs ⟨rfl, rfl⟩
  refine ⟨rfl, rfl, none, [], [(0, true), (1, true), (2, true), (3, true), (4, true)], [5], by kernel_rfl, ?_⟩
  repeat refine ⟨by omega, ?_⟩
  refine ⟨by decide, rfl, .inl ⟨Nat, fun r => ⟨[.a (.c (.p 0 0 0)), .any, .any, .any, .any, .a (.c (.p 1 0 0)), .a (.c (.w8 ((pKeyS key r).2))), .a (.c (.int .i64 (↑(r + 1)))), .any, .any, .any, .any, .any, .any, .any, .any, .any, .any, .any, .any, .any, .any, .any, .any, .any, .any, .any, .any, .any, .any, .any, .any, .any, .any, .any, .any, .any, .any, .any, .any, .any, .any, .any, .any, .any, .any, .any, .any, .any, .any, .any, .any, .any, .any, .any, .any, .any, .any, .any, .any, .any, .any, .any, .any, .any, .any, .any, .any, .any, .any, .any, .any, .any, .any, .any, .any, .any, .any, .any, .any, .any, .any, .any, .any, .any, .any, .any, .any, .any, .any, .any, .any, .any, .any, .any, .any], [tabs 1 0 boxes n, keyC fun i => if i < 16 * (r + 1) then (pKeyS key r).1 i else 0#8]⟩, fun r => r ≤ 10, fun r => 10 - r, ⟨0, [0, 2], ⟨⟨rfl, rfl, rfl⟩, ?_⟩, by omega⟩, fun r hr => ⟨fun h => ?_, fun h => ?_⟩⟩⟩
  · refine ⟨rfl, rfl, rfl, rfl, rfl, rfl, rfl, rfl, fun j hj => ⟨rfl, trivial⟩, rfl, rfl, rfl, fun j hj => eqC_w8 ?_, trivial⟩
    show (if 0 ≤ j ∧ j < 0 + 16 then SC.w8 (key (j - 0 + 0)) else SC.w8 0) = SC.w8 (if j < 16 then key j else 0#8)
    by_cases hj16 : j < 16
    · rw [if_pos ⟨by omega, by omega⟩, if_pos hj16]
      rfl
    · rw [if_neg (by omega), if_neg hj16]
      rfl
  · have hlt : ((r + 1 : Nat) : Int) ≤ 10 := of_decide_eq_true h
    repeat refine ⟨by omega, ?_⟩
    refine ⟨(by omega : (((r + 1 : Nat) : Int) - 1).toNat * 16 + 0 + 16 ≤ 176), rfl, rfl, ⟨by omega, by omega⟩, ?_⟩
    refine .inl ⟨Nat, fun k => ⟨[.a (.c (.p 0 0 0)), .any, .any, .any, .any, .a (.c (.p 1 0 0)), .a (.c (.w8 ((pKeyS key r).2))), .a (.c (.int .i64 (↑(r + 1)))), .a (.c (.p 2 0 0)), .a (.c (.p 1 1 (16 * (r + 1)))), .any, .any, .any, .any, .any, .any, .any, .any, .any, .any, .any, .any, .any, .any, .any, .any, .any, .any, .any, .any, .any, .any, .any, .any, .any, .any, .any, .any, .any, .any, .any, .any, .any, .any, .a (.c (.int .i64 (↑k))), .any, .any, .any, .any, .any, .any, .any, .any, .any, .any, .any, .any, .any, .any, .any, .any, .any, .any, .any, .any, .any, .any, .any, .any, .any, .any, .any, .any, .any, .any, .any, .any, .any, .any, .any, .any, .any, .any, .any, .any, .any, .any, .any, .any, .any, .any, .any, .any, .any, .any, .any], [tabs 1 0 boxes n, keyC fun i => if i < 16 * (r + 1) then (pKeyS key r).1 i else if i < 16 * (r + 1) + k then (pKeyS key r).1 (16 * r + (i - 16 * (r + 1))) ^^^ box ((pKeyS key r).1 (16 * r + (12 + (i - 16 * (r + 1) + 1) % 4))) else 0#8, [.row 16 fun j => .w8 ((pKeyS key r).1 (16 * r + j))]]⟩, fun k => k ≤ 4, fun k => 4 - k, ⟨0, [0, 1, 2], ⟨⟨rfl, rfl, rfl⟩, ?_⟩, by omega⟩, fun k hk => ⟨fun h => ?_, fun h => ?_⟩⟩
    · refine ⟨rfl, rfl, rfl, rfl, rfl, (by omega : ((r + 1 : Nat) : Int).toNat * 16 + 0 = 16 * (r + 1)), rfl, rfl, rfl, rfl, rfl, fun j hj => ⟨rfl, trivial⟩, rfl, rfl, rfl, fun j hj => eqC_w8 (congrArg SC.w8 ?_), rfl, fun j hj => eqC_w8 (congrArg SC.w8 ?_), trivial⟩
      · dsimp only
        by_cases h1 : j < 16 * (r + 1)
        · rw [if_pos h1, if_pos h1]
        · rw [if_neg h1, if_neg h1, if_neg (by omega)]
      · have e : (((r + 1 : Nat) : Int) - 1).toNat * 16 + 0 = 16 * r := by omega
        show (if j + ((((r + 1 : Nat) : Int) - 1).toNat * 16 + 0) < 16 * (r + 1) then (pKeyS key r).1 (j + ((((r + 1 : Nat) : Int) - 1).toNat * 16 + 0)) else 0#8) = _
        rw [e, if_pos (by omega), Nat.add_comm]
    · have hlk : (k : Int) < 4 := of_decide_eq_true h
      refine ⟨none, [], [(0, true), (1, true), (2, true), (3, true), (4, true), (5, true), (6, true), (7, true), (8, true), (9, true), (10, true), (11, true), (12, true), (13, true), (14, true), (15, true), (16, true), (17, true), (18, true)], [19], by kernel_rfl, ?_⟩
      repeat first
        | refine ⟨by omega, ?_⟩
        | refine ⟨idx8 _, ?_⟩
        | refine ⟨lt8 (Nat.le_refl _) _, ?_⟩
      refine ⟨rfl, ⟨by omega, by omega⟩, k + 1, [0, 1, 2], ⟨⟨rfl, rfl, rfl⟩, ?_⟩, by dsimp only; omega, by dsimp only; omega⟩
      refine ⟨rfl, rfl, rfl, rfl, rfl, rfl, rfl, rfl, rfl, rfl, rfl, fun j hj => ⟨rfl, trivial⟩, rfl, rfl, rfl, fun j hj => eqC_w8 ?_, rfl, fun j hj => ⟨rfl, trivial⟩, trivial⟩
      have e0 : (k : Int).toNat + 0 = k := by omega
      have e1 : (12 + ((k : Int) + 1) % 4).toNat + 0 = 12 + (k + 1) % 4 := by omega
      have e2 : ∀ x : BitVec 8, ((x.toNat : Int)).toNat + 0 = x.toNat := fun x => by omega
      have e3 : (k : Int).toNat + 16 * (r + 1) = 16 * (r + 1) + k := by omega
      rw [e0, e1, e2, boxes_at, e3]
      refine (upd_w8 (g := fun i => .w8 (if i < 16 * (r + 1) then (pKeyS key r).1 i else if i < 16 * (r + 1) + (k + 1) then (pKeyS key r).1 (16 * r + (i - 16 * (r + 1))) ^^^ box ((pKeyS key r).1 (16 * r + (12 + (i - 16 * (r + 1) + 1) % 4))) else 0#8)) ?_ ?_ j).trans rfl
      · rw [if_neg (by omega), if_pos (by omega), show 16 * (r + 1) + k - 16 * (r + 1) = k by omega]
      · intro j hjk
        have : j < 16 * (r + 1) + (k + 1) ↔ j < 16 * (r + 1) + k := by omega
        simp only [this]
    · obtain rfl : k = 4 := by have : ¬ (k : Int) < 4 := of_decide_eq_false h; have hk : k ≤ 4 := hk; omega
      refine ⟨none, [], [(0, true), (1, true), (2, true), (3, true), (4, true), (5, true), (6, true), (7, true)], [8], by kernel_rfl, ?_⟩
      repeat refine ⟨by omega, ?_⟩
      refine ⟨rfl, .inl ⟨Nat, fun k => ⟨[.a (.c (.p 0 0 0)), .any, .any, .any, .any, .a (.c (.p 1 0 0)), .a (.c (.w8 ((pKeyS key r).2))), .a (.c (.int .i64 (↑(r + 1)))), .a (.c (.p 2 0 0)), .a (.c (.p 1 1 (16 * (r + 1)))), .any, .a (.c (.int .i64 (↑k))), .any, .any, .any, .any, .any, .any, .any, .any, .any, .any, .any, .any, .any, .any, .any, .any, .any, .any, .any, .any, .any, .any, .any, .any, .any, .any, .any, .any, .any, .any, .any, .any, .any, .any, .any, .any, .any, .any, .any, .any, .any, .any, .any, .any, .any, .any, .any, .any, .any, .any, .any, .any, .any, .any, .any, .any, .any, .any, .any, .any, .any, .any, .any, .any, .any, .any, .any, .any, .any, .any, .any, .any, .any, .any, .any, .any, .any, .any, .any, .any, .any, .any, .any, .any], [tabs 1 0 boxes n, keyC fun i => if i < 16 * (r + 1) + k then (pKeyS key (r + 1)).1 i else 0#8, [.row 16 fun j => .w8 ((pKeyS key r).1 (16 * r + j))]]⟩, fun k => 4 ≤ k ∧ k ≤ 16, fun k => 16 - k, ⟨4, [0, 1, 2], ⟨⟨rfl, rfl, rfl⟩, ?_⟩, by omega, by omega⟩, fun k hk => ⟨fun h => ?_, fun h => ?_⟩⟩⟩
      · refine ⟨rfl, rfl, rfl, rfl, rfl, rfl, rfl, rfl, rfl, rfl, rfl, fun j hj => ⟨rfl, trivial⟩, rfl, rfl, rfl, fun j hj => eqC_w8 ?_, rfl, fun j hj => ⟨rfl, trivial⟩, trivial⟩
        have e0 : Int.toNat 0 + 16 * (r + 1) = 16 * (r + 1) := Nat.zero_add _
        rw [e0]
        refine (upd_w8 (g := fun i => .w8 (if i < 16 * (r + 1) + 4 then (pKeyS key (r + 1)).1 i else 0#8)) ?_ ?_ j).trans rfl
        · refine congrArg SC.w8 ?_
          dsimp only
          rw [if_neg (by omega), if_pos (by omega), if_pos (by omega)]
          have e := pKeyS_ge key r 0
          rw [pNow_lo _ _ (by omega), if_pos rfl] at e
          rw [Nat.sub_self]
          exact e.symm
        · intro j hj
          refine congrArg SC.w8 ?_
          dsimp only
          by_cases h1 : j < 16 * (r + 1)
          · rw [if_pos h1, if_pos (by omega), pKeyS_lt key r h1]
          · rw [if_neg h1]
            by_cases h2 : j < 16 * (r + 1) + 4
            · rw [if_pos h2, if_pos h2]
              obtain ⟨i, rfl⟩ : ∃ i, j = 16 * (r + 1) + i := ⟨j - 16 * (r + 1), by omega⟩
              rw [pKeyS_ge key r i, pNow_lo _ _ (by omega), if_neg (by omega), show 16 * (r + 1) + i - 16 * (r + 1) = i by omega]
            · rw [if_neg h2, if_neg h2]
      · have hlk : (k : Int) < 16 := of_decide_eq_true h
        obtain ⟨hk4, hk16⟩ := hk
        refine ⟨none, [], [(0, true), (1, true), (2, true), (3, true), (4, true), (5, true), (6, true), (7, true), (8, true), (9, true), (10, true), (11, true), (12, true), (13, true)], [14], by kernel_rfl, ?_⟩
        repeat refine ⟨by omega, ?_⟩
        refine ⟨rfl, ⟨by omega, by omega⟩, k + 1, [0, 1, 2], ⟨⟨rfl, rfl, rfl⟩, ?_⟩, by omega, by dsimp only; omega⟩
        refine ⟨rfl, rfl, rfl, rfl, rfl, rfl, rfl, rfl, rfl, rfl, rfl, fun j hj => ⟨rfl, trivial⟩, rfl, rfl, rfl, fun j hj => eqC_w8 ?_, rfl, fun j hj => ⟨rfl, trivial⟩, trivial⟩
        have e0 : (k : Int).toNat + 0 = k := by omega
        have e1 : (k : Int).toNat + 16 * (r + 1) = 16 * (r + 1) + k := by omega
        have e2 : ((k : Int) - 4).toNat + 16 * (r + 1) = 16 * (r + 1) + (k - 4) := by omega
        rw [e0, e1, e2]
        refine (upd_w8 (g := fun i => .w8 (if i < 16 * (r + 1) + (k + 1) then (pKeyS key (r + 1)).1 i else 0#8)) ?_ ?_ j).trans rfl
        · refine congrArg SC.w8 ?_
          dsimp only
          rw [if_pos (by omega), if_pos (by omega), pKeyS_ge key r k, pKeyS_ge key r (k - 4), pNow_hi _ _ hk4]
        · intro j hjk
          have : j < 16 * (r + 1) + (k + 1) ↔ j < 16 * (r + 1) + k := by omega
          simp only [this]
      · obtain rfl : k = 16 := by have : ¬ (k : Int) < 16 := of_decide_eq_false h; omega
        refine ⟨by kernel_rfl, call_same (fn_times _ _) [] rfl ⟨rfl, rfl, trivial⟩ trivial (fun _ _ => trivial) ?_⟩
        rintro x hs ⟨rfl, rfl⟩
        refine ⟨⟨by omega, by omega⟩, r + 1, [0, 1], ⟨⟨rfl, rfl, rfl⟩, rfl, rfl, rfl, rfl, rfl, rfl, rfl, rfl, fun j hj => ⟨rfl, trivial⟩, rfl, rfl, rfl, fun j hj => eqC_w8 ?_, trivial⟩, by dsimp only; omega, by dsimp only; omega⟩
        rfl
  · obtain rfl : r = 10 := by have : ¬ ((r + 1 : Nat) : Int) ≤ 10 := of_decide_eq_false h; have hr : r ≤ 10 := hr; omega
    exact ⟨.a (.c (.p 1 0 0)), [tabs 1 0 boxes n, keyC (pKeys key)], ⟨[0, 1], ⟨rfl, rfl, rfl⟩, rfl, rfl, rfl, rfl, rfl, fun j hj => ⟨rfl, trivial⟩, rfl, rfl, rfl, fun j hj => eqC_w8 (congrArg SC.w8 (if_pos hj)), trivial⟩, rfl, rfl⟩
end Sx
end Go.Proofs.YtkjdkeolkigibaaGreat
end

section
/-
  The program's block, turned by a key. No condition.
-/
namespace Go.Proofs.YtkjdkeolkigibaaGreat
set_option linter.unusedVariables false
namespace Sx
open Aes

theorem put_count (n : Int) : Put [.one (.int .i64 (n + 1))] (tabs 1 0 boxes n) (tabs 1 0 boxes (n + 1)) 259 := by
  obtain ⟨l', e, hp⟩ := putS_spec (new := [.one (.int .i64 (n + 1))]) (l := tabs 1 0 boxes n) (b := 259) (o := 0) (k := fun l' => l' = tabs 1 0 boxes (n + 1)) rfl
  subst e
  exact hp
theorem tabs_count (d : BitVec 32) (m : Int) (b : Nat → BitVec 8) (n : Int) : (flat (tabs d m b n))[259]? = some (.int .i64 n) := by
  have e : flat (tabs d m b n) = .w32 d :: .int .i32 m :: .w32 0 :: ((List.range 256).map (fun i => SC.w8 (b i)) ++ [.int .i64 n]) := rfl
  rw [e, show 259 = 256 + 1 + 1 + 1 from rfl, List.getElem?_cons_succ, List.getElem?_cons_succ, List.getElem?_cons_succ, List.getElem?_append_right (by simp)]
  simp
theorem fn_turn (n : Int) (key b : Nat → BitVec 8) (hn : -9223372036854775808 ≤ n + 1 ∧ n + 1 ≤ 9223372036854775807) :
    Fn Tryz.prog tds 38 [tabs 1 0 boxes n, keyC (pKeys key)] [.c (.p 1 0 0), blk b] (fun _ => True) (fun x hs => x = .a (blk (pTurn key b)) ∧ hs = [tabs 1 0 boxes (n + 1), keyC (pKeys key)]) := by
  refine fn_of_body tds_ok follows_ Tryz.func38 rfl (t := .a (.c (.p 1 0 0)) :: .a (blk b) :: anys 58) rfl (fun w r0 hr _ => ?_)
  obtain ⟨x0, x1, rfl⟩ := len2' hr
  refine ⟨rfl, ?_⟩
  repeat first
    | refine ⟨fun _ => ?_, fun h => absurd h (by decide)⟩
    | refine ⟨fun h => absurd h (by decide), fun _ => ?_⟩
  refine ⟨by kernel_rfl, call_same (fn_i64_add (tabs_count _ _ _ n) (by simp) (put_count n) hn) [0] rfl ⟨rfl, rfl, trivial⟩ ⟨rfl, rfl, rfl, rfl, fun j hj => ⟨rfl, trivial⟩, rfl, trivial⟩ (fun _ _ => trivial) ?_⟩
  rintro x hs ⟨rfl, rfl⟩
  refine ⟨none, [], [(0, true), (1, true), (2, true), (3, true), (4, true), (5, true), (6, false)], [7], by kernel_rfl, ?_⟩
  repeat refine ⟨by omega, ?_⟩
  refine ⟨by decide, ?_⟩
  refine ⟨by kernel_rfl, call_same (fn_sum b (fun j => pKeys key (j + 0))) [] rfl ⟨rfl, rfl, fun j hj => ⟨rfl, trivial⟩, rfl, rfl, fun j hj => ⟨rfl, trivial⟩, trivial⟩ trivial (fun _ _ => trivial) ?_⟩
  rintro x hs ⟨rfl, rfl⟩
  refine ⟨rfl, rfl, .inl ⟨Nat, fun r => ⟨[.a (.c (.p 1 0 0)), .any, .any, .a (.c (.p 2 0 0)), .a (.c (.p 3 0 0)), .a (.c (.int .i64 (↑(r + 1)))), .any, .any, .any, .any, .any, .any, .any, .any, .any, .any, .any, .any, .any, .any, .any, .any, .any, .any, .any, .any, .any, .any, .any, .any, .any, .any, .any, .any, .any, .any, .any, .any, .any, .any, .any, .any, .any, .any, .any, .any, .any, .any, .any, .any, .any, .any, .any, .any, .any, .any, .any, .any, .any, .any], [tabs 1 0 boxes (n + 1), keyC (pKeys key), [.row 16 fun i => .w8 (pTurnS key b r i)], [.row 16 fun _ => .w8 0]]⟩, fun r => r ≤ 9, fun r => 9 - r, ⟨0, [0, 1, 2, 3], ⟨⟨rfl, rfl, rfl⟩, ?_⟩, by omega⟩, fun r hr => ⟨fun h => ?_, fun h => ?_⟩⟩⟩
  · (repeat first | exact trivial | refine ⟨rfl, ?_⟩ | refine ⟨fun _ _ => ⟨rfl, trivial⟩, ?_⟩ | refine ⟨by omega, ?_⟩)
  · have hlt : ((r + 1 : Nat) : Int) < 10 := of_decide_eq_true h
    refine ⟨none, [], [(0, true), (1, true), (2, true), (3, true), (4, true), (7, true), (8, true), (9, true), (10, true), (11, true), (12, true), (5, false), (6, false), (13, false)], [14], by kernel_rfl, ?_⟩
    repeat refine ⟨by omega, ?_⟩
    refine ⟨(by omega : ((r + 1 : Nat) : Int).toNat * 16 + 0 + 16 ≤ 176), ?_⟩
    refine ⟨by kernel_rfl, call_same (fn_shift (pTurnS key b r) (n + 1)) [0] rfl ⟨rfl, rfl, rfl, fun j hj => ⟨rfl, trivial⟩, trivial⟩ (by (repeat first | exact trivial | refine ⟨rfl, ?_⟩ | refine ⟨fun _ _ => ⟨rfl, trivial⟩, ?_⟩ | refine ⟨by omega, ?_⟩)) (fun _ _ => trivial) ?_⟩
    rintro x hs ⟨rfl, rfl⟩
    refine ⟨by kernel_rfl, call_same (fn_mix _) [] rfl ⟨rfl, rfl, fun j hj => ⟨rfl, trivial⟩, trivial⟩ trivial (fun _ _ => trivial) ?_⟩
    rintro x hs ⟨rfl, rfl⟩
    refine ⟨by kernel_rfl, call_same (fn_sum _ (fun j => pKeys key (j + (((r + 1 : Nat) : Int).toNat * 16 + 0)))) [] rfl ⟨rfl, rfl, fun j hj => ⟨rfl, trivial⟩, rfl, rfl, fun j hj => ⟨rfl, trivial⟩, trivial⟩ trivial (fun _ _ => trivial) ?_⟩
    rintro x hs ⟨rfl, rfl⟩
    refine ⟨rfl, rfl, ⟨by omega, by omega⟩, r + 1, [0, 1, 2, 3], ⟨⟨rfl, rfl, rfl⟩, ?_⟩, by dsimp only; omega, by dsimp only; omega⟩
    (repeat first | exact trivial | refine ⟨rfl, ?_⟩ | refine ⟨fun _ _ => ⟨rfl, trivial⟩, ?_⟩ | refine ⟨by omega, ?_⟩)
    refine ⟨fun j hj => eqC_w8 (congrArg SC.w8 ?_), ?_⟩
    · show mixAt (shiftAt (pTurnS key b r)) j ^^^ pKeys key (j + (((r + 1 : Nat) : Int).toNat * 16 + 0)) = mixAt (shiftAt (pTurnS key b r)) j ^^^ pKeys key (16 * (r + 1) + j)
      rw [show j + (((r + 1 : Nat) : Int).toNat * 16 + 0) = 16 * (r + 1) + j by omega]
    · (repeat first | exact trivial | refine ⟨rfl, ?_⟩ | refine ⟨fun _ _ => ⟨rfl, trivial⟩, ?_⟩ | refine ⟨by omega, ?_⟩)
  · obtain rfl : r = 9 := by have : ¬ ((r + 1 : Nat) : Int) < 10 := of_decide_eq_false h; have hr : r ≤ 9 := hr; omega
    refine ⟨none, [], [(0, true), (1, true), (2, true), (3, true), (4, true), (6, true), (7, true), (8, true), (9, true), (10, true), (5, false), (11, false)], [12], by kernel_rfl, ?_⟩
    (repeat first | refine ⟨by omega, ?_⟩ | refine ⟨by decide, ?_⟩ | refine ⟨idx8 _, ?_⟩ | refine ⟨lt8 (Nat.le_refl _) _, ?_⟩)
    refine ⟨by kernel_rfl, call_same (fn_shift (pTurnS key b 9) (n + 1)) [0] rfl ⟨rfl, rfl, rfl, fun j hj => ⟨rfl, trivial⟩, trivial⟩ (by (repeat first | exact trivial | refine ⟨rfl, ?_⟩ | refine ⟨fun _ _ => ⟨rfl, trivial⟩, ?_⟩ | refine ⟨by omega, ?_⟩)) (fun _ _ => trivial) ?_⟩
    rintro x hs ⟨rfl, rfl⟩
    refine ⟨by kernel_rfl, call_same (fn_sum _ (fun j => pKeys key (j + 160))) [] rfl ⟨rfl, rfl, fun j hj => ⟨rfl, trivial⟩, rfl, rfl, fun j hj => ⟨rfl, trivial⟩, trivial⟩ trivial (fun _ _ => trivial) ?_⟩
    rintro x hs ⟨rfl, rfl⟩
    refine ⟨rfl, rfl, by omega, .a (blk (pTurn key b)), [tabs 1 0 boxes (n + 1), keyC (pKeys key)], ⟨[0, 1], ⟨rfl, rfl, rfl⟩, ?_⟩, rfl, rfl⟩
    (repeat first | exact trivial | refine ⟨rfl, ?_⟩ | refine ⟨fun _ _ => ⟨rfl, trivial⟩, ?_⟩ | refine ⟨by omega, ?_⟩)
    refine ⟨fun j hj => eqC_w8 (congrArg SC.w8 ?_), ?_⟩
    · show shiftAt (pTurnS key b 9) j ^^^ pKeys key (j + 160) = shiftAt (pTurnS key b 9) j ^^^ pKeys key (160 + j)
      rw [Nat.add_comm]
    · (repeat first | exact trivial | refine ⟨rfl, ?_⟩ | refine ⟨fun _ _ => ⟨rfl, trivial⟩, ?_⟩ | refine ⟨by omega, ?_⟩)
end Sx
end Go.Proofs.YtkjdkeolkigibaaGreat
end

section
/-
  The field of 2^128: the document's product and the program's are one. Plain. No condition.
-/
namespace Go.Proofs.YtkjdkeolkigibaaGreat
set_option linter.unusedVariables false
namespace Gcm

/-- An element: its place 0 is the highest bit. -/
abbrev E := BitVec 128
def step (b : E) : E := if b.getLsbD 0 then b >>> 1 ^^^ 299076299051606071403356588563077529600#128 else b >>> 1
def mulS (a b : E) : Nat → E × E
  | 0 => (0#128, b)
  | k + 1 => let s := mulS a b k; (if a.getMsbD k then s.1 ^^^ s.2 else s.1, step s.2)
def mul (a b : E) : E := (mulS a b 128).1
/-- Sums of bits. -/
def xs : Nat → (Nat → Bool) → Bool
  | 0, _ => false
  | n + 1, f => xs n f ^^ f n
/-! The document's product. -/
def cAt (m j : Nat) : Bool := decide (j = 126 - m ∨ j = 127 - m ∨ j = 128 - m ∨ j = 133 - m)
def rS (P : Nat → Bool) : Nat → Nat → Bool
  | 0, j => P j
  | m + 1, j => rS P m j ^^ (rS P m (254 - m) && cAt m j)
def cB (m : Nat) : BitVec 256 := 101770390931234937383997936042792106511663072460035651987804517194454899097600#256 >>> (126 - m)
def RS (X : BitVec 256) : Nat → BitVec 256
  | 0 => X
  | m + 1 => let Y := RS X m; if Y.getMsbD (254 - m) then Y ^^^ cB m else Y
def D (m j : Nat) : Bool := rS (fun j => decide (j = m)) 127 j
/-! The program's. -/
/-! What is left of each power. -/
end Gcm
end Go.Proofs.YtkjdkeolkigibaaGreat
end

section
/-
  Elements as words and as bytes. Plain. No condition.
-/
namespace Go.Proofs.YtkjdkeolkigibaaGreat
set_option linter.unusedVariables false
namespace Gcm

/-! Elements as two words, as sixteen bytes. -/
def hi (e : E) : BitVec 64 := (e >>> 64).setWidth 64
def lo (e : E) : BitVec 64 := e.setWidth 64
def mk (h l : BitVec 64) : E := h ++ l
theorem hi_mk (h l : BitVec 64) : hi (mk h l) = h := by
  unfold hi mk
  apply BitVec.eq_of_getLsbD_eq
  intro i hi
  rw [BitVec.getLsbD_setWidth, BitVec.getLsbD_ushiftRight]
  have : (h ++ l : BitVec (64 + 64)).getLsbD (64 + i) = h.getLsbD i := by rw [BitVec.getLsbD_append]; simp
  refine (congrArg _ this).trans ?_
  simp [hi]
theorem lo_mk (h l : BitVec 64) : lo (mk h l) = l := by
  unfold lo mk
  apply BitVec.eq_of_getLsbD_eq
  intro i hi
  rw [BitVec.getLsbD_setWidth]
  have : (h ++ l : BitVec (64 + 64)).getLsbD i = l.getLsbD i := by rw [BitVec.getLsbD_append]; simp [hi]
  refine (congrArg _ this).trans ?_
  simp [hi]
theorem hi_xor (x y : E) : hi (x ^^^ y) = hi x ^^^ hi y := by
  unfold hi; rw [BitVec.ushiftRight_xor_distrib, BitVec.setWidth_xor]
theorem lo_xor (x y : E) : lo (x ^^^ y) = lo x ^^^ lo y := by
  unfold lo; rw [BitVec.setWidth_xor]
theorem hi_shl (e : E) : hi (e <<< 1) = hi e <<< 1 ||| lo e >>> 63 := by
  unfold hi lo
  apply BitVec.eq_of_getLsbD_eq
  intro i hi
  simp only [BitVec.getLsbD_setWidth, BitVec.getLsbD_ushiftRight, BitVec.getLsbD_or, BitVec.getLsbD_shiftLeft, hi, decide_true, Bool.true_and]
  by_cases h : i = 0
  · subst h; simp
  · have h1 : ¬ 64 + i < 1 := by omega
    have h2 : ¬ i < 1 := by omega
    have h3 : ¬ 63 + i < 64 := by omega
    have h4 : i - 1 < 64 := by omega
    simp only [h1, h2, h3, h4, show 64 + i < 128 by omega, decide_false, Bool.not_false, Bool.false_and, Bool.or_false, decide_true, Bool.true_and]
    congr 1
    omega
theorem lo_shl (e : E) : lo (e <<< 1) = lo e <<< 1 := by
  unfold lo
  apply BitVec.eq_of_getLsbD_eq
  intro i hi
  simp [hi]
theorem hi_shr (e : E) : hi (e >>> 1) = hi e >>> 1 := by
  unfold hi
  apply BitVec.eq_of_getLsbD_eq
  intro i hi
  simp only [BitVec.getLsbD_setWidth, BitVec.getLsbD_ushiftRight, hi, decide_true, Bool.true_and]
  by_cases h : 1 + i < 64
  · simp only [h, decide_true, Bool.true_and]; congr 1; omega
  · simp only [h, decide_false, Bool.false_and]; exact BitVec.getLsbD_of_ge _ _ (by omega)
theorem lo_shr (e : E) : lo (e >>> 1) = lo e >>> 1 ||| hi e <<< 63 := by
  unfold hi lo
  apply BitVec.eq_of_getLsbD_eq
  intro i hi
  simp only [BitVec.getLsbD_setWidth, BitVec.getLsbD_ushiftRight, BitVec.getLsbD_or, BitVec.getLsbD_shiftLeft, hi, decide_true, Bool.true_and]
  by_cases h : i < 63
  · simp [h, show 1 + i < 64 by omega]
  · obtain rfl : i = 63 := by omega
    simp
theorem top_bit (e : E) : hi e >>> 63 = 1#64 ↔ e.getMsbD 0 = true := by
  constructor
  · intro h
    have := congrArg (fun x : BitVec 64 => x.getLsbD 0) h
    simpa [hi, BitVec.getMsbD] using this
  · intro h
    apply BitVec.eq_of_getLsbD_eq
    intro i hi
    by_cases h0 : i = 0
    · subst h0; simpa [Gcm.hi, BitVec.getMsbD] using h
    · have h1 : ¬ 63 + i < 64 := by omega
      rw [BitVec.getLsbD_ushiftRight, BitVec.getLsbD_of_ge _ _ (by omega)]
      simp [h0]
theorem top_shl (e : E) (k : Nat) : hi (e <<< k) >>> 63 = 1#64 ↔ e.getMsbD k = true := by
  rw [top_bit, BitVec.getMsbD_shiftLeft]
  simp
theorem low_bit (e : E) : lo e &&& 1#64 = 1#64 ↔ e.getLsbD 0 = true := by
  constructor
  · intro h
    have := congrArg (fun x : BitVec 64 => x.getLsbD 0) h
    simpa [lo] using this
  · intro h
    apply BitVec.eq_of_getLsbD_eq
    intro i hi
    by_cases h0 : i = 0
    · subst h0; simpa [lo] using h
    · simp [h0]
theorem hi_R : hi 299076299051606071403356588563077529600#128 = 16212958658533785600#64 := by decide
theorem lo_R : lo 299076299051606071403356588563077529600#128 = 0#64 := by decide
theorem hi_step1 {e : E} (h : e.getLsbD 0 = true) : hi (step e) = hi e >>> 1 ^^^ 16212958658533785600#64 := by
  unfold step; rw [if_pos h, hi_xor, hi_R, hi_shr]
theorem hi_step0 {e : E} (h : ¬ e.getLsbD 0 = true) : hi (step e) = hi e >>> 1 := by
  unfold step; rw [if_neg h, hi_shr]
theorem lo_step (e : E) : lo (step e) = lo e >>> 1 ||| hi e <<< 63 := by
  unfold step
  split
  · rw [lo_xor, lo_R, lo_shr, BitVec.xor_zero]
  · rw [lo_shr]
/-! Bytes. -/
def ldS (b : Nat → BitVec 8) (o : Nat) : Nat → BitVec 64
  | 0 => 0#64
  | k + 1 => ldS b o k <<< 8 ||| (b (o + k)).setWidth 64
def toE (b : Nat → BitVec 8) : E := mk (ldS b 0 8) (ldS b 8 8)
def byE (e : E) (i : Nat) : BitVec 8 := if i < 8 then (hi e >>> (8 * (7 - i))).setWidth 8 else (lo e >>> (8 * (15 - i))).setWidth 8
end Gcm
end Go.Proofs.YtkjdkeolkigibaaGreat
end

section
/-
  The program's field of 2^128. No condition.
-/
namespace Go.Proofs.YtkjdkeolkigibaaGreat
set_option linter.unusedVariables false
namespace Sx
open Aes Gcm

/-- An element: its two words. -/
abbrev elt2 (h l : BitVec 64) : List Seg := [.one (.w64 h), .one (.w64 l)]
abbrev eltA (e : E) : SA := .agg (elt2 (hi e) (lo e))
theorem fn_load (b : Nat → BitVec 8) : Fn Tryz.prog tds 37 [] [blk b] (fun _ => True) (fun x hs => x = .a (eltA (toE b)) ∧ hs = []) := by
  refine fn_of_body tds_ok follows_ Tryz.func37 rfl (t := .a (blk b) :: anys 28) rfl (fun w r0 hr _ => ?_)
  obtain rfl : r0 = [] := List.eq_nil_of_length_eq_zero hr
  refine ⟨rfl, .inl ⟨Nat, fun k => ⟨[.any, .a (.c (.p 0 0 0)), .a (.c (.p 1 0 0)), .a (.c (.p 2 0 0)), .any, .a (.c (.int .i64 (↑k))), .any, .any, .any, .any, .any, .any, .any, .any, .any, .any, .any, .any, .any, .any, .any, .any, .any, .any, .any, .any, .any, .any, .any], [[.row 16 fun i => .w8 (b i)], elt2 0 0, elt2 (ldS b 0 k) (ldS b 8 k)]⟩, fun k => k ≤ 8, fun k => 8 - k, ⟨0, [0, 1, 2], ⟨⟨rfl, rfl, rfl⟩, ?_⟩, by omega⟩, fun k hk => ⟨fun h => ?_, fun h => ?_⟩⟩⟩
  · (repeat first | exact trivial | refine ⟨rfl, ?_⟩ | refine ⟨fun _ _ => ⟨rfl, trivial⟩, ?_⟩ | refine ⟨by omega, ?_⟩)
  · have hlt : (k : Int) < 8 := of_decide_eq_true h
    refine ⟨none, [], [(0, true), (1, true), (2, true), (3, true), (4, true), (5, true), (6, true), (7, true), (8, true)], [9], by kernel_rfl, ?_⟩
    (repeat first | refine ⟨by omega, ?_⟩ | refine ⟨by decide, ?_⟩ | refine ⟨idx8 _, ?_⟩ | refine ⟨lt8 (Nat.le_refl _) _, ?_⟩)
    refine ⟨rfl, none, [], [(0, true), (1, true), (2, true), (3, true), (4, true), (5, true), (6, true), (7, true), (8, true), (9, true)], [10], by kernel_rfl, ?_⟩
    (repeat first | refine ⟨by omega, ?_⟩ | refine ⟨by decide, ?_⟩ | refine ⟨idx8 _, ?_⟩ | refine ⟨lt8 (Nat.le_refl _) _, ?_⟩)
    refine ⟨rfl, ⟨by omega, by omega⟩, k + 1, [0, 1, 2], ⟨⟨rfl, rfl, rfl⟩, ?_⟩, by dsimp only; omega, by dsimp only; omega⟩
    have e0 : (k : Int).toNat + 0 = 0 + k := by omega
    have e1 : (8 + (k : Int)).toNat + 0 = 8 + k := by omega
    refine ⟨rfl, rfl, rfl, rfl, rfl, fun j hj => ⟨rfl, trivial⟩, rfl, rfl, ?_, ?_, trivial⟩
    · show _ <<< 8 ||| (b ((k : Int).toNat + 0)).setWidth 64 = _
      rw [e0]; rfl
    · show _ <<< 8 ||| (b ((8 + (k : Int)).toNat + 0)).setWidth 64 = _
      rw [e1]; rfl
  · obtain rfl : k = 8 := by have : ¬ (k : Int) < 8 := of_decide_eq_false h; have hk : k ≤ 8 := hk; omega
    exact ⟨rfl, .a (eltA (toE b)), [], ⟨[], ⟨rfl, rfl, rfl⟩, rfl, (hi_mk _ _).symm, (lo_mk _ _).symm, trivial⟩, rfl, rfl⟩
theorem sh7 : ∀ k : Nat, k < 8 → (8#64 * BitVec.ofInt 64 (7 - (k : Int))).toNat = 8 * (7 - k) := by decide
theorem fn_store (e : E) : Fn Tryz.prog tds 92 [] [eltA e] (fun _ => True) (fun x hs => x = .a (blk (byE e)) ∧ hs = []) := by
  refine fn_of_body tds_ok follows_ Tryz.func92 rfl (t := .a (eltA e) :: anys 30) rfl (fun w r0 hr _ => ?_)
  obtain rfl : r0 = [] := List.eq_nil_of_length_eq_zero hr
  refine ⟨rfl, .inl ⟨Nat, fun k => ⟨[.any, .a (.c (.p 0 0 0)), .a (.c (.p 1 0 0)), .a (.c (.p 2 0 0)), .any, .a (.c (.int .i64 (↑k))), .any, .any, .any, .any, .any, .any, .any, .any, .any, .any, .any, .any, .any, .any, .any, .any, .any, .any, .any, .any, .any, .any, .any, .any, .any], [elt2 (hi e) (lo e), [.row 16 fun _ => .w8 0], [.row 16 fun i => .w8 (if i % 8 < k then byE e i else 0#8)]]⟩, fun k => k ≤ 8, fun k => 8 - k, ⟨0, [0, 1, 2], ⟨⟨rfl, rfl, rfl⟩, ?_⟩, by omega⟩, fun k hk => ⟨fun h => ?_, fun h => ?_⟩⟩⟩
  · refine ⟨rfl, rfl, rfl, rfl, rfl, rfl, rfl, fun j hj => ⟨rfl, trivial⟩, rfl, fun j hj => eqC_w8 (congrArg SC.w8 ?_), trivial⟩
    rw [if_neg (by omega)]; rfl
  · have hlt : (k : Int) < 8 := of_decide_eq_true h
    have hl : k < 8 := by omega
    (repeat first | refine ⟨by omega, ?_⟩ | refine ⟨by decide, ?_⟩ | refine ⟨idx8 _, ?_⟩ | refine ⟨lt8 (Nat.le_refl _) _, ?_⟩)
    refine ⟨rfl, ?_⟩
    (repeat first | refine ⟨by omega, ?_⟩ | refine ⟨by decide, ?_⟩ | refine ⟨idx8 _, ?_⟩ | refine ⟨lt8 (Nat.le_refl _) _, ?_⟩)
    refine ⟨rfl, ⟨by omega, by omega⟩, k + 1, [0, 1, 2], ⟨⟨rfl, rfl, rfl⟩, ?_⟩, by dsimp only; omega, by dsimp only; omega⟩
    refine ⟨rfl, rfl, rfl, rfl, rfl, rfl, rfl, fun j hj => ⟨rfl, trivial⟩, rfl, fun j hj => eqC_w8 ?_, trivial⟩
    have e0 : (k : Int).toNat + 0 = k := by omega
    have e1 : (8 + (k : Int)).toNat + 0 = 8 + k := by omega
    rw [e0, e1, sh7 k hl]
    unfold upd
    by_cases h1 : j = 8 + k
    · rw [if_pos h1, if_pos (by omega)]
      unfold byE
      rw [if_neg (by omega), show 15 - j = 7 - k by omega]
    · rw [if_neg h1]
      by_cases h2 : j = k
      · rw [if_pos h2, if_pos (by omega)]
        unfold byE
        rw [if_pos (by omega), h2]
      · rw [if_neg h2]
        have : j % 8 < k ↔ j % 8 < k + 1 := by omega
        simp only [this]
  · obtain rfl : k = 8 := by have : ¬ (k : Int) < 8 := of_decide_eq_false h; have hk : k ≤ 8 := hk; omega
    exact ⟨by omega, rfl, rfl, by omega, .a (blk (byE e)), [], ⟨[], ⟨rfl, rfl, rfl⟩, rfl, rfl, fun j hj => eqC_w8 (by simp [show j % 8 < 8 by omega]), trivial⟩, rfl, rfl⟩
theorem hi0 : hi 0#128 = 0#64 := by decide
theorem lo0 : lo 0#128 = 0#64 := by decide
theorem shl_hi (a : E) (k : Nat) : hi (a <<< k) <<< 1 ||| lo (a <<< k) >>> 63 = hi (a <<< (k + 1)) := by rw [BitVec.shiftLeft_add, hi_shl]
theorem shl_lo (a : E) (k : Nat) : lo (a <<< k) <<< 1 = lo (a <<< (k + 1)) := by rw [BitVec.shiftLeft_add, lo_shl]
theorem mulS1 {a b : E} {k : Nat} (h : a.getMsbD k = true) : (mulS a b (k + 1)).1 = (mulS a b k).1 ^^^ (mulS a b k).2 := by
  simp only [mulS]; rw [if_pos h]
theorem mulS0 {a b : E} {k : Nat} (h : ¬ a.getMsbD k = true) : (mulS a b (k + 1)).1 = (mulS a b k).1 := by
  simp only [mulS]; rw [if_neg h]
set_option maxRecDepth 20000 in
theorem fn_gtimes (a b : E) : Fn Tryz.prog tds 93 [] [eltA a, eltA b] (fun _ => True) (fun x hs => x = .a (eltA (mul a b)) ∧ hs = []) := by
  refine fn_of_body tds_ok follows_ Tryz.func93 rfl (t := .a (eltA a) :: .a (eltA b) :: anys 60) rfl (fun w r0 hr _ => ?_)
  obtain rfl : r0 = [] := List.eq_nil_of_length_eq_zero hr
  refine ⟨rfl, rfl, .inl ⟨Nat, fun k => ⟨[.any, .any, .a (.c (.p 0 0 0)), .a (.c (.p 1 0 0)), .a (.c (.p 2 0 0)), .a (.c (.p 3 0 0)), .any, .any, .a (.c (.int .i64 (↑k))), .any, .any, .any, .any, .any, .any, .any, .any, .any, .any, .any, .any, .any, .any, .any, .any, .any, .any, .any, .any, .any, .any, .any, .any, .any, .any, .any, .any, .any, .any, .any, .any, .any, .any, .any, .any, .any, .any, .any, .any, .any, .any, .any, .any, .any, .any, .any, .any, .any, .any, .any, .any, .any], [elt2 (hi (a <<< k)) (lo (a <<< k)), elt2 (hi (mulS a b k).2) (lo (mulS a b k).2), elt2 0 0, elt2 (hi (mulS a b k).1) (lo (mulS a b k).1)]⟩, fun k => k ≤ 128, fun k => 128 - k, ⟨0, [0, 1, 2, 3], ⟨⟨rfl, rfl, rfl⟩, ?_⟩, by omega⟩, fun k hk => ⟨fun h => ?_, fun h => ?_⟩⟩⟩
  · have e : a <<< 0 = a := BitVec.shiftLeft_zero _
    refine ⟨rfl, rfl, rfl, rfl, rfl, ?_, ?_, rfl, rfl, rfl, rfl, hi0.symm, lo0.symm, trivial⟩ <;> rw [e]
  · have hlt : (k : Int) < 128 := of_decide_eq_true h
    by_cases hb : a.getMsbD k = true
    all_goals by_cases ho : (mulS a b k).2.getLsbD 0 = true
    all_goals
      have e1 := (top_shl a k)
      have e2 := low_bit (mulS a b k).2
      first
        | (have e3 : decide (hi (a <<< k) >>> 63 = 1#64) = true := decide_eq_true (e1.2 hb); clear e1)
        | (have e3 : decide (hi (a <<< k) >>> 63 = 1#64) = false := decide_eq_false (mt e1.1 hb); clear e1)
      first
        | (have e4 : decide (lo (mulS a b k).2 &&& 1#64 = 1#64) = true := decide_eq_true (e2.2 ho); clear e2)
        | (have e4 : decide (lo (mulS a b k).2 &&& 1#64 = 1#64) = false := decide_eq_false (mt e2.1 ho); clear e2)
    all_goals
      (repeat first
        | refine ⟨fun _ => ?_, fun h => absurd h (by rw [e3]; decide)⟩
        | refine ⟨fun h => absurd h (by rw [e3]; decide), fun _ => ?_⟩
        | refine ⟨fun _ => ?_, fun h => absurd h (by rw [e4]; decide)⟩
        | refine ⟨fun h => absurd h (by rw [e4]; decide), fun _ => ?_⟩
        | refine ⟨rfl, ?_⟩)
      refine ⟨⟨by omega, by omega⟩, k + 1, [0, 1, 2, 3], ⟨⟨rfl, rfl, rfl⟩, rfl, rfl, rfl, rfl, rfl, shl_hi a k, shl_lo a k, ?_, ?_, rfl, rfl, ?_, ?_, trivial⟩, by dsimp only; omega, by dsimp only; omega⟩
      · first
          | exact (hi_step1 ho).symm
          | exact (hi_step0 ho).symm
      · exact (lo_step _).symm
      · first
          | (rw [mulS1 hb, hi_xor])
          | (rw [mulS0 hb])
      · first
          | (rw [mulS1 hb, lo_xor])
          | (rw [mulS0 hb])
  · obtain rfl : k = 128 := by have : ¬ (k : Int) < 128 := of_decide_eq_false h; have hk : k ≤ 128 := hk; omega
    exact ⟨rfl, .a (eltA (mul a b)), [], ⟨[], ⟨rfl, rfl, rfl⟩, rfl, rfl, rfl, trivial⟩, rfl, rfl⟩
end Sx
end Go.Proofs.YtkjdkeolkigibaaGreat
end

section
/-
  The program's blocks and keys: names for what comes out, nil ones. No condition.
-/
namespace Go.Proofs.YtkjdkeolkigibaaGreat
set_option linter.unusedVariables false
namespace Sx
open Aes

theorem nthC_rep {x : SC} : ∀ {n j : Nat}, j < n → nthC (List.replicate n x) j = x
  | n + 1, 0, _ => rfl
  | n + 1, j + 1, h => nthC_rep (n := n) (j := j) (by omega)
/-- A key's block; its tables' name here. -/
abbrev keyD (i : Nat) (K : Nat → BitVec 8) : List Seg := [.one (.p i 0 0), .row 176 (fun i => .w8 (K i))]
theorem fn_key' (d : BitVec 32) (b : Nat → BitVec 8) (n : Int) (key K : Nat → BitVec 8) (hK : pKeys key = K) (hd : d = 0#32 ∨ d = 1#32 ∧ b = boxes) :
    Fn Tryz.prog tds 23 [tabs d 0 b n] [.c (.p 0 0 0), blk key] (fun _ => True) (fun x hs => x = .a (.c (.p 1 0 0)) ∧ hs = [tabs 1 0 boxes n, keyC K]) := by
  subst hK; exact fn_key d b n key hd
theorem fn_turn' (n : Int) (key b K R : Nat → BitVec 8) (hK : pKeys key = K) (hR : pTurn key b = R) (hn : -9223372036854775808 ≤ n + 1 ∧ n + 1 ≤ 9223372036854775807) :
    Fn Tryz.prog tds 38 [tabs 1 0 boxes n, keyC K] [.c (.p 1 0 0), blk b] (fun _ => True) (fun x hs => x = .a (blk R) ∧ hs = [tabs 1 0 boxes (n + 1), keyC K]) := by
  subst hK hR; exact fn_turn n key b hn
end Sx
end Go.Proofs.YtkjdkeolkigibaaGreat
end

section
/-
  The program's sealer: counted blocks, bytes turned, what is gone over, marks. No condition.
-/
namespace Go.Proofs.YtkjdkeolkigibaaGreat
set_option linter.unusedVariables false
namespace Gcm
open Sha
/-- A nonce and a counter. -/
def ctrB (nn : Nat → BitVec 8) (c : BitVec 32) (i : Nat) : BitVec 8 := if i < 12 then nn i else (c >>> (8 * (15 - i))).setWidth 8
def cryB (E : (Nat → BitVec 8) → Nat → BitVec 8) (nn : Nat → BitVec 8) (l : Bs) (j : Nat) : BitVec 8 := L l j ^^^ E (ctrB nn (BitVec.ofNat 32 (2 + j / 16))) (j % 16)
def cryL (E : (Nat → BitVec 8) → Nat → BitVec 8) (nn : Nat → BitVec 8) (l : Bs) : Bs := tab l.length (cryB E nn l)
@[simp] theorem cryL_len (E : (Nat → BitVec 8) → Nat → BitVec 8) (nn : Nat → BitVec 8) (l : Bs) : (cryL E nn l).length = l.length := tab_len _ _
def withB (E : (Nat → BitVec 8) → Nat → BitVec 8) (nn : Nat → BitVec 8) (i : Nat) : Nat → BitVec 8 := if i = 0 then fun _ => 0#8 else E (ctrB nn (BitVec.ofNat 32 (1 + (i + 15) / 16)))
/-- Sixteen bytes, filled up. -/
def partB (l : Bs) (k i : Nat) : BitVec 8 := if 16 * k + i < l.length then L l (16 * k + i) else 0#8
def hS (H e : E) (l : Bs) : Nat → E
  | 0 => e
  | k + 1 => mul (hS H e l k ^^^ toE (partB l k)) H
def hL (H e : E) (l : Bs) : E := hS H e l ((l.length + 15) / 16)
def lenE (a b : Nat) : E := mk (BitVec.ofNat 64 a * 8#64) (BitVec.ofNat 64 b * 8#64)
def tagE (H : E) (a h : Bs) : E := mul (hL H (hL H 0#128 a) h ^^^ lenE a.length h.length) H
def tagB (E : (Nat → BitVec 8) → Nat → BitVec 8) (H : Gcm.E) (nn : Nat → BitVec 8) (a h : Bs) (i : Nat) : BitVec 8 := byE (tagE H a h) i ^^^ E (ctrB nn 1#32) i
def sealL (E : (Nat → BitVec 8) → Nat → BitVec 8) (H : Gcm.E) (nn : Nat → BitVec 8) (a p : Bs) : Bs := cryL E nn p ++ tab 16 (tagB E H nn a (cryL E nn p))
theorem sealL_len (E : (Nat → BitVec 8) → Nat → BitVec 8) (H : Gcm.E) (nn : Nat → BitVec 8) (a p : Bs) : (sealL E H nn a p).length = p.length + 16 := by simp [sealL]
end Gcm
namespace Sx
open Aes Gcm Sha

abbrev nonA (nn : Nat → BitVec 8) : SA := .agg [.row 12 fun i => .w8 (nn i)]
abbrev sealC (i : Nat) (H : E) : List Seg := [.one (.p i 0 0), .one (.w64 (hi H)), .one (.w64 (lo H))]
theorem sh3 : ∀ k : Nat, k < 4 → (8#64 * BitVec.ofInt 64 (3 - (k : Int))).toNat = 8 * (15 - (12 + k)) := by decide
set_option maxRecDepth 20000 in
theorem fn_counted (cnt : Int) (key K : Nat → BitVec 8) (E : (Nat → BitVec 8) → Nat → BitVec 8) (hK : pKeys key = K) (hE : pTurn key = E) (H : Gcm.E) (nn : Nat → BitVec 8) (c : BitVec 32) (hn : 0 ≤ cnt ∧ cnt ≤ 1000000000) :
    Fn Tryz.prog tds 94 [tabs 1 0 boxes cnt, keyC K, sealC 1 H] [.c (.p 2 0 0), nonA nn, .c (.w32 c)] (fun _ => True) (fun x hs => x = .a (blk (E (ctrB nn c))) ∧ hs = [tabs 1 0 boxes (cnt + 1), keyC K, sealC 1 H]) := by
  refine fn_of_body tds_ok follows_ Tryz.func94 rfl (t := .a (.c (.p 2 0 0)) :: .a (nonA nn) :: .a (.c (.w32 c)) :: anys 29) rfl (fun w r0 hr _ => ?_)
  obtain ⟨x0, x1, x2, rfl⟩ := len3' hr
  refine ⟨rfl, none, [], [(0, true), (1, true)], [2], by kernel_rfl, ?_⟩
  (repeat first | refine ⟨by omega, ?_⟩ | refine ⟨by decide, ?_⟩ | refine ⟨idx8 _, ?_⟩ | refine ⟨lt8 (Nat.le_refl _) _, ?_⟩)
  refine .inl ⟨Nat, fun k => ⟨[.a (.c (.p 2 0 0)), .any, .a (.c (.w32 (c))), .any, .a (.c (.p 3 0 0)), .any, .a (.c (.p 4 0 0)), .a (.c (.p 5 0 0)), .any, .any, .any, .any, .a (.c (.int .i64 (↑k))), .any, .any, .any, .any, .any, .any, .any, .any, .any, .any, .any, .any, .any, .any, .any, .any, .any, .any, .any], [tabs 1 0 boxes cnt, keyC K, sealC 1 H, [.row 12 fun i => .w8 (nn i)], [.row 16 fun _ => .w8 0], [.row 16 fun i => .w8 (if i < 12 + k then ctrB nn c i else 0#8)]]⟩, fun k => k ≤ 4, fun k => 4 - k, ⟨0, [0, 1, 2, 3, 4, 5], ⟨⟨rfl, rfl, rfl⟩, ?_⟩, by omega⟩, fun k hk => ⟨fun h => ?_, fun h => ?_⟩⟩
  · (repeat first | exact trivial | refine ent1 ?_)
    refine ⟨fun j hj => eqC_w8 ?_, trivial⟩
    show updN _ _ _ _ _ = _
    unfold updN
    by_cases h : j < 12
    · rw [if_pos ⟨Nat.zero_le _, by show j < 0 + 12; omega⟩, if_pos (by omega)]
      unfold ctrB
      rw [if_pos h]
      rfl
    · rw [if_neg (by show ¬ (0 ≤ j ∧ j < 0 + 12); omega), if_neg (by omega)]
      rfl
  · have hlt : (k : Int) < 4 := of_decide_eq_true h
    have hl : k < 4 := by omega
    (repeat first | refine ⟨by omega, ?_⟩ | refine ⟨by decide, ?_⟩ | refine ⟨idx8 _, ?_⟩ | refine ⟨lt8 (Nat.le_refl _) _, ?_⟩)
    refine ⟨rfl, ⟨by omega, by omega⟩, k + 1, [0, 1, 2, 3, 4, 5], ⟨⟨rfl, rfl, rfl⟩, ?_⟩, by dsimp only; omega, by dsimp only; omega⟩
    (repeat first | exact trivial | refine ent1 ?_)
    refine ⟨fun j hj => eqC_w8 ?_, trivial⟩
    have e0 : (12 + (k : Int)).toNat + 0 = 12 + k := by omega
    rw [e0, sh3 k hl]
    refine (upd_w8 (g := fun i => .w8 (if i < 12 + (k + 1) then ctrB nn c i else 0#8)) ?_ (fun i hi => ?_) j)
    · refine congrArg SC.w8 ?_
      rw [if_pos (by omega)]
      unfold ctrB
      rw [if_neg (by omega)]
    · have : i < 12 + k ↔ i < 12 + (k + 1) := by omega
      simp only [this]
  · obtain rfl : k = 4 := by have : ¬ (k : Int) < 4 := of_decide_eq_false h; have hk : k ≤ 4 := hk; omega
    refine ⟨some [2,5], [], [(0, true), (1, true), (2, true), (3, true), (4, true), (5, false)], [6], by kernel_rfl, ?_⟩
    (repeat first | refine ⟨by omega, ?_⟩ | refine ⟨by decide, ?_⟩ | refine ⟨idx8 _, ?_⟩ | refine ⟨lt8 (Nat.le_refl _) _, ?_⟩)
    refine ⟨by kernel_rfl, call_same (fn_turn' cnt key (ctrB nn c) K (E (ctrB nn c)) hK (by rw [hE]) (by omega)) [0, 1] rfl ⟨rfl, rfl, rfl, fun j hj => eqC_w8 (congrArg SC.w8 (if_pos (by omega))), trivial⟩ (by (repeat first | exact trivial | refine ent1 ?_)) (fun _ _ => trivial) ?_⟩
    rintro x hs ⟨rfl, rfl⟩
    refine ⟨rfl, rfl, by omega, .a (blk (E (ctrB nn c))), [tabs 1 0 boxes (cnt + 1), keyC K, sealC 1 H], ⟨[0, 1, 2], ⟨rfl, rfl, rfl⟩, ?_⟩, rfl, rfl⟩
    (repeat first | exact trivial | refine ent1 ?_)
end Sx
end Go.Proofs.YtkjdkeolkigibaaGreat
end

section
/-
  The program's sealer: bytes turned; what is gone over. No condition.
-/
namespace Go.Proofs.YtkjdkeolkigibaaGreat
set_option linter.unusedVariables false
namespace Sx
open Aes Gcm Sha

set_option maxRecDepth 20000 in
theorem fn_crypt (z : Bool) (N o n c : Nat) (l : Bs) (cnt : Int) (key K : Nat → BitVec 8) (E : (Nat → BitVec 8) → Nat → BitVec 8) (hK : pKeys key = K) (hE : pTurn key = E) (H : Gcm.E) (nn : Nat → BitVec 8) (hl : l.length = n) (hN : o + n ≤ N) (hc : n ≤ c) (hz : z = true → n = 0) (hn : n ≤ 1000000) (hcnt : 0 ≤ cnt ∧ cnt + ((n + 15) / 16 : Nat) ≤ 1000000000) :
    FnR Tryz.prog tds 76 1 [bts z N o n (L l), tabs 1 0 boxes cnt, keyD 1 K, sealC 2 H] [.c (.p 3 0 0), nonA nn, .c (.sn z 0 0 o n c)] (fun _ => True)
      (fun x hs => x = .a (.c (.sl 4 0 0 n (n + 16))) ∧ hs = [bts z N o n (L l), tabs 1 0 boxes (cnt + ((n + 15) / 16 : Nat)), keyD 1 K, sealC 2 H, [.row (n + 16) (bytesF n (L (cryL E nn l)))]]) := by
  refine fn_of_body tds_ok follows_ Tryz.func76 rfl (t := .a (.c (.p 3 0 0)) :: .a (nonA nn) :: .a (.c (.sn z 0 0 o n c)) :: anys 42) rfl (fun w r0 hr _ => ?_)
  obtain ⟨x0, x1, x2, x3, rfl⟩ := len4' hr
  refine ⟨rfl, ⟨by omega, by omega⟩, ⟨by omega, by omega, by show ((n : Int) + 16) * 1 ≤ 140737488355328; omega, by omega⟩, ?_⟩
  have e1 : ((n : Nat) : Int).toNat = n := by omega
  have e2 : (((n : Nat) : Int) + 16).toNat = n + 16 := by omega
  refine frcN_of e1 (frcN_of e2 ?_)
  obtain ⟨C, hC⟩ : ∃ C, cryB E nn l = C := ⟨_, rfl⟩
  obtain ⟨W, hW⟩ : ∃ W, withB E nn = W := ⟨_, rfl⟩
  have hW0 : W 0 = fun _ => 0#8 := by rw [← hW]; rfl
  have hWs : ∀ k, W (k + 1) = E (ctrB nn (BitVec.ofNat 32 (2 + k / 16))) := fun k => by
    rw [← hW]; unfold withB; rw [if_neg (by omega), show 1 + (k + 1 + 15) / 16 = 2 + k / 16 by omega]
  have hWk : ∀ k, k % 16 ≠ 0 → W k = W (k + 1) := fun k h => by
    obtain ⟨k, rfl⟩ : ∃ i, k = i + 1 := ⟨k - 1, by omega⟩
    rw [hWs, hWs, show (k + 1) / 16 = k / 16 by omega]
  refine .inl ⟨Nat, fun k => ⟨[.a (.c (.p 3 0 0)), .any, .any, .any, .a (.c (.p 4 0 0)), .any, .any, .a (.c (.sl 5 0 0 n (n + 16))), .a (.c (.w32 ((BitVec.ofNat 32 (1 + (k + 15) / 16))))), .a (.c (.p 6 0 0)), .any, .any, .any, .any, .any, .any, .any, .any, .a (.c (.sn z 0 0 o n c)), .a (.c (.int .i64 (↑n))), .a (.c (.int .i64 (↑k))), .any, .any, .any, .any, .any, .any, .any, .any, .any, .any, .any, .any, .any, .any, .any, .any, .any, .any, .any, .any, .any, .any, .any, .any], [bts z N o n (L l), tabs 1 0 boxes (cnt + ((k + 15) / 16 : Nat)), keyD 1 K, sealC 2 H, [.row 12 fun i => .w8 (nn i)], [.row (n + 16) (fun j => .w8 (if j < k then C j else 0#8))], [.row 16 fun i => .w8 (W k i)]]⟩, fun k => k ≤ n, fun k => n - k, ⟨0, [0, 1, 2, 3, 4, 5, 6], ⟨⟨rfl, rfl, rfl⟩, ?_⟩, by omega⟩, fun k hk => ⟨fun h => ?_, fun h => ?_⟩⟩
  · (repeat first | exact trivial | refine ent1 ?_)
    refine eqC_bts ?_
    (repeat first | exact trivial | refine ent1 ?_)
    rw [hW0]
    (repeat first | exact trivial | refine ent1 ?_)
  · have hlt : k < n := by have : (k : Int) < n := of_decide_eq_true h; omega
    obtain rfl : z = false := by cases z; rfl; have := hz rfl; omega
    (repeat first | refine ⟨by omega, ?_⟩ | refine ⟨by decide, ?_⟩ | refine ⟨idx8 _, ?_⟩ | refine ⟨lt8 (Nat.le_refl _) _, ?_⟩)
    refine frc_win hlt ?_
    refine ⟨⟨by omega, by omega⟩, ?_⟩
    by_cases h16 : k % 16 = 0
    · have e3 : decide ((k : Int) % 16 = 0) = true := decide_eq_true (by omega)
      have ec : BitVec.ofNat 32 (1 + (k + 15) / 16) + 1#32 = BitVec.ofNat 32 (2 + k / 16) := by
        rw [show 2 + k / 16 = (1 + (k + 15) / 16) + 1 by omega]
        exact (BitVec.ofNat_add _ _).symm
      have hq : (k + 1 + 15) / 16 = (k + 15) / 16 + 1 := by omega
      (repeat first | refine ⟨fun _ => ?_, fun h => absurd h (by rw [e3]; decide)⟩ | refine ⟨fun h => absurd h (by rw [e3]; decide), fun _ => ?_⟩ | refine ⟨fun _ => ?_, fun h => Bool.noConfusion h⟩ | refine ⟨fun h => Bool.noConfusion h, fun _ => ?_⟩)
      (repeat first | refine And.intro (by omega) ?_ | refine And.intro (by decide) ?_ | (with_reducible refine frc_parts (by first | omega | decide) ?_) | (with_reducible refine frc_bytesL (by first | omega | decide) ?_) | refine And.intro rfl ?_)
      refine call_same (fn_counted (cnt + ((k + 15) / 16 : Nat)) key K E hK hE H nn (BitVec.ofNat 32 (2 + k / 16)) (by omega)) [1, 2, 3] rfl ⟨rfl, rfl, rfl, fun j hj => ⟨rfl, trivial⟩, ec, trivial⟩ (by (repeat first | exact trivial | refine ent1 ?_)) (fun _ _ => trivial) ?_
      rintro x hs ⟨rfl, rfl⟩
      rw [← hWs]
      (repeat first | refine And.intro (by omega) ?_ | refine And.intro (by decide) ?_ | (with_reducible refine frc_parts (by first | omega | decide) ?_) | (with_reducible refine frc_bytesL (by first | omega | decide) ?_) | refine And.intro rfl ?_)
      refine ⟨k + 1, [0, 1, 2, 3, 4, 5, 6], ⟨⟨rfl, rfl, rfl⟩, ?_⟩, by dsimp only; omega, by dsimp only; omega⟩
      (repeat first | exact trivial | refine ent1 ?_)
      refine ⟨by rw [show 1 + (k + 1 + 15) / 16 = 2 + k / 16 by omega]; exact ec, ?_⟩
      (repeat first | exact trivial | refine ent1 ?_)
      refine ⟨fun j hj => eqC_w8 ?_, ?_⟩
      · have e4 : (k : Int).toNat + 0 = k := by omega
        have e5 : ((k : Int) % 16).toNat + 0 = k % 16 := by omega
        rw [e4, e5]
        refine (upd_w8 (g := fun j => .w8 (if j < k + 1 then C j else 0#8)) ?_ (fun i hi => ?_) j)
        · rw [if_pos (by omega), ← hC]
          unfold cryB
          rw [← hWs]
          rfl
        · have : i < k + 1 ↔ i < k := by omega
          simp only [this]
      (repeat first | exact trivial | refine ent1 ?_)
    · have e3 : decide ((k : Int) % 16 = 0) = false := decide_eq_false (by omega)
      have hq : (k + 1 + 15) / 16 = (k + 15) / 16 := by omega
      (repeat first | refine ⟨fun _ => ?_, fun h => absurd h (by rw [e3]; decide)⟩ | refine ⟨fun h => absurd h (by rw [e3]; decide), fun _ => ?_⟩ | refine ⟨fun _ => ?_, fun h => Bool.noConfusion h⟩ | refine ⟨fun h => Bool.noConfusion h, fun _ => ?_⟩)
      (repeat first | refine And.intro (by omega) ?_ | refine And.intro (by decide) ?_ | (with_reducible refine frc_parts (by first | omega | decide) ?_) | (with_reducible refine frc_bytesL (by first | omega | decide) ?_) | refine And.intro rfl ?_)
      refine ⟨k + 1, [0, 1, 2, 3, 4, 5, 6], ⟨⟨rfl, rfl, rfl⟩, ?_⟩, by dsimp only; omega, by dsimp only; omega⟩
      (repeat first | exact trivial | refine ent1 ?_)
      refine ⟨by rw [hq], ?_⟩
      (repeat first | exact trivial | refine ent1 ?_)
      refine ⟨fun j hj => eqC_w8 ?_, ?_⟩
      · have e4 : (k : Int).toNat + 0 = k := by omega
        have e5 : ((k : Int) % 16).toNat + 0 = k % 16 := by omega
        rw [e4, e5]
        refine (upd_w8 (g := fun j => .w8 (if j < k + 1 then C j else 0#8)) ?_ (fun i hi => ?_) j)
        · rw [if_pos (by omega), ← hC]
          unfold cryB
          rw [← hWs, ← hWk k h16]
          rfl
        · have : i < k + 1 ↔ i < k := by omega
          simp only [this]
      (repeat first | exact trivial | refine ent1 ?_)
      exact ⟨fun j hj => eqC_w8 (by rw [hWk k h16]), trivial⟩
  · obtain rfl : k = n := by have : ¬ (k : Int) < n := of_decide_eq_false h; have hk : k ≤ n := hk; omega
    refine ⟨.a (.c (.sl 4 0 0 k (k + 16))), [bts z N o k (L l), tabs 1 0 boxes (cnt + ((k + 15) / 16 : Nat)), keyD 1 K, sealC 2 H, [.row (k + 16) (bytesF k (L (cryL E nn l)))]], ⟨[0, 1, 2, 3, 5], ⟨rfl, rfl, rfl⟩, ?_⟩, rfl, rfl⟩
    (repeat first | exact trivial | refine ent1 ?_)
    refine eqC_bts ?_
    (repeat first | exact trivial | refine ent1 ?_)
    refine ⟨fun j hj => eqC_bytes (f := fun j => SC.w8 (if j < k then C j else 0#8)) (fun i hi => ?_) j, trivial⟩
    rw [if_pos hi, ← hC]
    unfold cryL
    rw [hl, L_tab hi]
theorem len2s {α : Type} : ∀ {l : List α}, l.length = 2 → ∃ a b, l = [a, b]
  | [a, b], _ => ⟨a, b, rfl⟩
abbrev sealH (H : E) : List Seg := [.one .any, .one (.w64 (hi H)), .one (.w64 (lo H))]
set_option maxRecDepth 20000 in
theorem fn_hash (z : Bool) (N o n c : Nat) (l : Bs) (H e : E) (hl : l.length = n) (hN : o + n ≤ N) (hc : n ≤ c) (hz : z = true → n = 0) (hn : n ≤ 1000000) :
    FnR Tryz.prog tds 91 2 [bts z N o n (L l), sealH H] [.c (.p 1 0 0), eltA e, .c (.sn z 0 0 o n c)] (fun _ => True)
      (fun x hs => x = .a (eltA (hL H e l)) ∧ hs = [bts z N o n (L l), sealH H]) := by
  refine fn_of_body tds_ok follows_ Tryz.func91 rfl (t := .a (.c (.p 1 0 0)) :: .a (eltA e) :: .a (.c (.sn z 0 0 o n c)) :: anys 35) rfl (fun w r0 hr _ => ?_)
  obtain ⟨x0, x1, rfl⟩ := len2s hr
  cases z with
  | true =>
    obtain rfl := hz rfl
    refine ⟨rfl, ?_⟩
    refine .inl ⟨Unit, fun _ => ⟨[.a (.c (.p 1 0 0)), .any, .a (.c (.sn true 0 0 o 0 c)), .any, .a (.c (.p 2 0 0)), .any, .a (.c (.p 3 0 0)), .any, .any, .any, .any, .any, .any, .any, .any, .any, .any, .any, .any, .any, .any, .any, .any, .any, .any, .any, .any, .any, .any, .any, .any, .any, .any, .any, .any, .any, .any, .any], [bts true N o 0 (L l), sealH H, elt2 (hi e) (lo e), elt2 0 0]⟩,
      fun _ => True, fun _ => 0, ⟨(), [0, 1, 2, 3], ⟨⟨rfl, rfl, rfl⟩, ?_⟩, trivial⟩, fun _ _ => ⟨fun h => absurd (of_decide_eq_true h) (by decide), fun h => ?_⟩⟩
    · (repeat first | exact trivial | refine ⟨rfl, ?_⟩ | refine ⟨fun _ _ => ⟨rfl, trivial⟩, ?_⟩ | refine ⟨by omega, ?_⟩)
    · refine ⟨rfl, .a (eltA (hL H e l)), [bts true N o 0 (L l), sealH H], ⟨[0, 1], ⟨rfl, rfl, rfl⟩, ?_⟩, rfl, rfl⟩
      have e0 : hL H e l = e := by unfold hL; rw [hl]; rfl
      rw [e0]
      (repeat first | exact trivial | refine ⟨rfl, ?_⟩ | refine ⟨fun _ _ => ⟨rfl, trivial⟩, ?_⟩ | refine ⟨by omega, ?_⟩)
  | false =>
  refine ⟨rfl, ?_⟩
  refine .inl ⟨Nat × Nat × Nat, fun (k, oo, cc) => ⟨[.a (.c (.p 1 0 0)), .any, .a (.c (.sn false 0 0 oo (n - 16 * k) cc)), .any, .a (.c (.p 2 0 0)), .any, .a (.c (.p 3 0 0)), .any, .any, .any, .any, .any, .any, .any, .any, .any, .any, .any, .any, .any, .any, .any, .any, .any, .any, .any, .any, .any, .any, .any, .any, .any, .any, .any, .any, .any, .any, .any], [[.row N (winF o n (L l))], sealH H, elt2 (hi (hS H e l k)) (lo (hS H e l k)), elt2 0 0]⟩,
    fun (k, oo, cc) => k ≤ (n + 15) / 16 ∧ (16 * k < n → oo = o + 16 * k) ∧ n - 16 * k ≤ cc ∧ cc ≤ c, fun (k, _, _) => n - k, ⟨(0, o, c), [0, 1, 2, 3], ⟨⟨rfl, rfl, rfl⟩, ?_⟩, by omega, by omega, by omega, by omega⟩, fun (k, oo, cc) ⟨hk, hoo, hcc, hcc'⟩ => ⟨fun h => ?_, fun h => ?_⟩⟩
  · (repeat first | exact trivial | refine ent1 ?_)
  · have hlt : 16 * k < n := by have : ((n - 16 * k : Nat) : Int) > 0 := of_decide_eq_true h; omega
    obtain rfl : oo = o + 16 * k := hoo hlt
    (repeat first | refine ⟨by omega, ?_⟩ | refine ⟨by decide, ?_⟩ | refine ⟨idx8 _, ?_⟩ | refine ⟨lt8 (Nat.le_refl _) _, ?_⟩ | refine ⟨rfl, ?_⟩)
    refine ⟨fun q => winF o n (L l) (q + (o + 16 * k)), ⟨fun h => Bool.noConfusion h, fun _ => ⟨N, winF o n (L l), [], rfl, by simp only [scale]; omega, fun _ _ => rfl⟩⟩, ?_⟩
    refine ⟨(show 0 + min (n - 16 * k) 16 ≤ 16 by omega), ?_⟩
    obtain ⟨m, hm⟩ : ∃ m, min (n - 16 * k) 16 = m := ⟨_, rfl⟩
    have hm1 : m ≤ n - 16 * k ∧ m ≤ 16 ∧ 0 < m ∧ (m = n - 16 * k ∨ m = 16) := by omega
    rw [hm]
    refine ⟨⟨by omega, by omega, by omega⟩, ?_⟩
    have e2 : ((m : Nat) : Int).toNat = m := by omega
    have e3 : ((n - 16 * k : Nat) : Int).toNat = n - 16 * k := by omega
    obtain ⟨o2, ho2⟩ : ∃ o2, (if cc = m then o + 16 * k else o + 16 * k + m * 1) = o2 := ⟨_, rfl⟩
    have e5 : n - 16 * k - m = n - 16 * (k + 1) := by omega
    refine frcN_of e2 ?_
    refine frcN_of e3 ?_
    refine frcN_of ho2 ?_
    refine frcN_of e5 ?_
    refine frcN_of rfl ?_
    (repeat first | refine And.intro (by omega) ?_ | refine And.intro (by decide) ?_ | (with_reducible refine frc_parts (by first | omega | decide) ?_) | (with_reducible refine frc_bytesL (by first | omega | decide) ?_) | refine And.intro rfl ?_)
    refine call_same (fn_load (partB l k)) [] rfl ⟨rfl, rfl, fun j hj => eqC_w8 ?_, trivial⟩ trivial (fun _ _ => trivial) ?_
    · show updN (fun _ => SC.w8 0) 0 m (fun q => winF o n (L l) (q + (o + 16 * k))) (j + 0) = SC.w8 (partB l k j)
      unfold updN partB
      rw [hl]
      by_cases hjm : j < m
      · rw [if_pos ⟨Nat.zero_le _, by omega⟩, if_pos (by omega)]
        show winF o n (L l) (j + 0 - 0 + (o + 16 * k)) = _
        rw [show j + 0 - 0 + (o + 16 * k) = o + (16 * k + j) by omega, winF_at _ _ _ (by omega)]
      · rw [if_neg (by omega), if_neg (by omega)]
        rfl
    rintro x hs ⟨rfl, rfl⟩
    (repeat first | refine And.intro (by omega) ?_ | refine And.intro (by decide) ?_ | (with_reducible refine frc_parts (by first | omega | decide) ?_) | (with_reducible refine frc_bytesL (by first | omega | decide) ?_) | refine And.intro rfl ?_)
    refine ⟨none, [], [(0, true), (1, true), (2, true), (3, true), (4, true), (5, true), (6, true), (7, true), (8, true), (9, true), (10, true), (11, true), (12, true), (13, true), (14, true), (15, false)], [16], by kernel_rfl, ?_⟩
    (repeat first | refine And.intro (by omega) ?_ | refine And.intro (by decide) ?_ | (with_reducible refine frc_parts (by first | omega | decide) ?_) | (with_reducible refine frc_bytesL (by first | omega | decide) ?_) | refine And.intro rfl ?_)
    refine call_same (fn_gtimes (hS H e l k ^^^ toE (partB l k)) H) [] rfl ⟨rfl, (hi_xor _ _).symm, (lo_xor _ _).symm, rfl, rfl, rfl, trivial⟩ trivial (fun _ _ => trivial) ?_
    rintro x hs ⟨rfl, rfl⟩
    refine ⟨rfl, ?_⟩
    refine ⟨(k + 1, o2, cc - m), [0, 1, 2, 3], ⟨⟨rfl, rfl, rfl⟩, ?_⟩, ⟨by omega, fun h2 => ?_, by omega, by omega⟩, by dsimp only; omega⟩
    · (repeat first | exact trivial | refine ent1 ?_)
    · rw [← ho2, if_neg (by omega)]; omega
  · obtain rfl : k = (n + 15) / 16 := by have : ¬ ((n - 16 * k : Nat) : Int) > 0 := of_decide_eq_false h; omega
    refine ⟨rfl, .a (eltA (hL H e l)), [[.row N (winF o n (L l))], sealH H], ⟨[0, 1], ⟨rfl, rfl, rfl⟩, ?_⟩, rfl, rfl⟩
    unfold hL
    rw [hl]
    (repeat first | exact trivial | refine ent1 ?_)
end Sx
end Go.Proofs.YtkjdkeolkigibaaGreat
end

section
/-
  The program's sealer: marks; sealed, opened. No condition.
-/
namespace Go.Proofs.YtkjdkeolkigibaaGreat
set_option linter.unusedVariables false
namespace Sx
open Aes Gcm Sha

set_option maxRecDepth 20000 in
theorem fn_tag (za zh : Bool) (Na Nh oa oh na nh ca ch : Nat) (a b : Bs) (cnt : Int) (key K : Nat → BitVec 8) (E : (Nat → BitVec 8) → Nat → BitVec 8) (hK : pKeys key = K) (hE : pTurn key = E) (H : Gcm.E) (nn : Nat → BitVec 8)
    (hla : a.length = na) (hNa : oa + na ≤ Na) (hca : na ≤ ca) (hza : za = true → na = 0) (hna : na ≤ 1000000) (hlh : b.length = nh) (hNh : oh + nh ≤ Nh) (hch : nh ≤ ch) (hzh : zh = true → nh = 0) (hnh : nh ≤ 1000000) (hcnt : 0 ≤ cnt ∧ cnt ≤ 1000000000) :
    FnR Tryz.prog tds 75 2 [bts za Na oa na (L a), bts zh Nh oh nh (L b), tabs 1 0 boxes cnt, keyD 2 K, sealC 3 H] [.c (.p 4 0 0), nonA nn, .c (.sn za 0 0 oa na ca), .c (.sn zh 1 0 oh nh ch)] (fun _ => True)
      (fun x hs => x = .a (blk (tagB E H nn a b)) ∧ hs = [bts za Na oa na (L a), bts zh Nh oh nh (L b), tabs 1 0 boxes (cnt + 1), keyD 2 K, sealC 3 H]) := by
  refine fn_of_body tds_ok follows_ Tryz.func75 rfl (t := .a (.c (.p 4 0 0)) :: .a (nonA nn) :: .a (.c (.sn za 0 0 oa na ca)) :: .a (.c (.sn zh 1 0 oh nh ch)) :: anys 55) rfl (fun w r0 hr _ => ?_)
  obtain ⟨x0, x1, x2, x3, x4, rfl⟩ := len5' hr
  obtain ⟨e1, he1⟩ : ∃ e, hL H 0#128 a = e := ⟨_, rfl⟩
  obtain ⟨e2, he2⟩ : ∃ e, hL H e1 b = e := ⟨_, rfl⟩
  obtain ⟨e3, he3⟩ : ∃ e, mul (e2 ^^^ lenE na nh) H = e := ⟨_, rfl⟩
  have hT : tagE H a b = e3 := by unfold tagE; rw [he1, he2, hla, hlh, he3]
  refine ⟨rfl, ?_⟩
  refine ⟨by kernel_rfl, call_same (fn_hash za Na oa na ca a H 0#128 hla hNa hca hza hna) [0, 4] rfl ⟨rfl, rfl, hi0.symm, lo0.symm, rfl, rfl, rfl, rfl, trivial⟩ ?_ (fun _ _ => trivial) ?_⟩
  · refine eqC_bts ?_
    (repeat first | exact trivial | refine ent1 ?_)
  rintro x hs ⟨rfl, rfl⟩
  rw [he1]
  refine ⟨rfl, ?_⟩
  refine ⟨by kernel_rfl, call_same (fn_hash zh Nh oh nh ch b H e1 hlh hNh hch hzh hnh) [1, 4] rfl ⟨rfl, rfl, rfl, rfl, rfl, rfl, rfl, rfl, trivial⟩ ?_ (fun _ _ => trivial) ?_⟩
  · refine eqC_bts ?_
    (repeat first | exact trivial | refine ent1 ?_)
  rintro x hs ⟨rfl, rfl⟩
  rw [he2]
  (repeat first | refine ⟨by omega, ?_⟩ | refine ⟨by decide, ?_⟩ | refine ⟨idx8 _, ?_⟩ | refine ⟨lt8 (Nat.le_refl _) _, ?_⟩ | refine ⟨rfl, ?_⟩)
  refine ⟨none, [7], [(0, true), (1, true), (2, true), (3, true), (4, true), (5, false), (6, false), (7, false)], [8], by kernel_rfl, ?_⟩
  (repeat first | refine And.intro (by omega) ?_ | refine And.intro (by decide) ?_ | (with_reducible refine frc_parts (by first | omega | decide) ?_) | (with_reducible refine frc_bytesL (by first | omega | decide) ?_) | refine And.intro rfl ?_)
  refine call_same (fn_gtimes (e2 ^^^ lenE na nh) H) [] rfl ⟨rfl, ?_, ?_, rfl, rfl, rfl, trivial⟩ trivial (fun _ _ => trivial) ?_
  · rw [hi_xor]; unfold lenE; rw [hi_mk]; rfl
  · rw [lo_xor]; unfold lenE; rw [lo_mk]; rfl
  rintro x hs ⟨rfl, rfl⟩
  rw [he3]
  (repeat first | refine And.intro (by omega) ?_ | refine And.intro (by decide) ?_ | (with_reducible refine frc_parts (by first | omega | decide) ?_) | (with_reducible refine frc_bytesL (by first | omega | decide) ?_) | refine And.intro rfl ?_)
  refine call_same (fn_store e3) [] rfl ⟨rfl, rfl, rfl, trivial⟩ trivial (fun _ _ => trivial) ?_
  rintro x hs ⟨rfl, rfl⟩
  (repeat first | refine And.intro (by omega) ?_ | refine And.intro (by decide) ?_ | (with_reducible refine frc_parts (by first | omega | decide) ?_) | (with_reducible refine frc_bytesL (by first | omega | decide) ?_) | refine And.intro rfl ?_)
  refine call_same (fn_counted cnt key K E hK hE H nn 1#32 hcnt) [2, 3, 4] rfl ⟨rfl, rfl, rfl, fun j hj => ⟨rfl, trivial⟩, rfl, trivial⟩ (by (repeat first | exact trivial | refine ent1 ?_)) (fun _ _ => trivial) ?_
  rintro x hs ⟨rfl, rfl⟩
  obtain ⟨Y, hY⟩ : ∃ Y, E (ctrB nn 1#32) = Y := ⟨_, rfl⟩
  obtain ⟨T, hTT⟩ : ∃ T, byE e3 = T := ⟨_, rfl⟩
  rw [hY, hTT]
  refine .inl ⟨Nat, fun k => ⟨[.any, .any, .any, .any, .any, .any, .any, .any, .a (.c (.p 6 0 0)), .any, .a (.c (.p 8 0 0)), .any, .any, .any, .any, .any, .any, .any, .any, .any, .any, .any, .any, .any, .any, .any, .any, .any, .any, .any, .any, .any, .any, .any, .any, .any, .any, .any, .any, .any, .any, .any, .any, .any, .any, .any, .a (.agg [.row 16 fun i => .w8 (Y i)]), .a (.c (.int .i64 (↑k))), .any, .any, .any, .any, .any, .any, .any, .any, .any, .any, .any], [bts za Na oa na (L a), bts zh Nh oh nh (L b), tabs 1 0 boxes (cnt + 1), keyD 2 K, sealC 3 H, [.row 12 fun i => .w8 (nn i)], [.row 16 fun _ => .w8 0], [.one .any, .one .any], [.row 16 fun i => .w8 (if i < k then T i ^^^ Y i else T i)]]⟩, fun k => k ≤ 16, fun k => 16 - k, ⟨0, [0, 1, 2, 3, 4, 5, 6, 7, 8], ⟨⟨rfl, rfl, rfl⟩, ?_⟩, by omega⟩, fun k hk => ⟨fun h => ?_, fun h => ?_⟩⟩
  · (repeat first | exact trivial | refine ent1 ?_)
    refine eqC_bts (eqC_bts ?_)
    (repeat first | exact trivial | refine ent1 ?_)
  · have hlt : (k : Int) < 16 := of_decide_eq_true h
    (repeat first | refine And.intro (by omega) ?_ | refine And.intro (by decide) ?_ | (with_reducible refine frc_parts (by first | omega | decide) ?_) | (with_reducible refine frc_bytesL (by first | omega | decide) ?_) | refine And.intro rfl ?_)
    refine ⟨k + 1, [0, 1, 2, 3, 4, 5, 6, 7, 8], ⟨⟨rfl, rfl, rfl⟩, ?_⟩, by dsimp only; omega, by dsimp only; omega⟩
    (repeat first | exact trivial | refine ent1 ?_)
    refine eqC_bts (eqC_bts ?_)
    (repeat first | exact trivial | refine ent1 ?_)
    refine ⟨fun j hj => eqC_w8 ?_, trivial⟩
    have e4 : (k : Int).toNat + 0 = k := by omega
    rw [e4]
    refine (upd_w8 (g := fun i => .w8 (if i < k + 1 then T i ^^^ Y i else T i)) ?_ (fun i hi => ?_) j)
    · rw [if_neg (by omega : ¬ k < k), if_pos (by omega : k < k + 1)]
    · have : i < k + 1 ↔ i < k := by omega
      simp only [this]
  · obtain rfl : k = 16 := by have : ¬ (k : Int) < 16 := of_decide_eq_false h; have hk : k ≤ 16 := hk; omega
    (repeat first | refine And.intro (by omega) ?_ | refine And.intro (by decide) ?_ | (with_reducible refine frc_parts (by first | omega | decide) ?_) | (with_reducible refine frc_bytesL (by first | omega | decide) ?_) | refine And.intro rfl ?_)
    refine ⟨.a (blk (tagB E H nn a b)), [bts za Na oa na (L a), bts zh Nh oh nh (L b), tabs 1 0 boxes (cnt + 1), keyD 2 K, sealC 3 H], ⟨[0, 1, 2, 3, 4], ⟨rfl, rfl, rfl⟩, ?_⟩, rfl, rfl⟩
    (repeat first | exact trivial | refine ent1 ?_)
    refine ⟨fun j hj => eqC_w8 (congrArg SC.w8 ?_), ?_⟩
    · rw [if_pos (show j + 0 + 0 < 16 from hj)]
      unfold tagB
      rw [hT, hTT, hY]
      rfl
    refine eqC_bts (eqC_bts ?_)
    (repeat first | exact trivial | refine ent1 ?_)
set_option maxRecDepth 20000 in
theorem fn_gseal (za zh : Bool) (Na Nh oa oh na nh ca ch : Nat) (a b S : Bs) (cnt : Int) (key K : Nat → BitVec 8) (E : (Nat → BitVec 8) → Nat → BitVec 8) (hK : pKeys key = K) (hE : pTurn key = E) (H : Gcm.E) (nn : Nat → BitVec 8) (hS : sealL E H nn a b = S)
    (hla : a.length = na) (hNa : oa + na ≤ Na) (hca : na ≤ ca) (hza : za = true → na = 0) (hna : na ≤ 1000000) (hlh : b.length = nh) (hNh : oh + nh ≤ Nh) (hch : nh ≤ ch) (hzh : zh = true → nh = 0) (hnh : nh ≤ 1000000) (hcnt : 0 ≤ cnt ∧ cnt ≤ 900000000) :
    FnR Tryz.prog tds 62 2 [bts za Na oa na (L a), bts zh Nh oh nh (L b), tabs 1 0 boxes cnt, keyD 2 K, sealC 3 H] [.c (.p 4 0 0), nonA nn, .c (.sn za 0 0 oa na ca), .c (.sn zh 1 0 oh nh ch)] (fun _ => True)
      (fun x hs => ∃ c, nh + 16 ≤ c ∧ x = .a (.c (.sl 5 0 0 (nh + 16) c)) ∧ hs = [bts za Na oa na (L a), bts zh Nh oh nh (L b), tabs 1 0 boxes (cnt + ((nh + 15) / 16 : Nat) + 1), keyD 2 K, sealC 3 H, [.row c (bytesF (nh + 16) (L S))]]) := by
  refine fn_of_body tds_ok follows_ Tryz.func62 rfl (t := .a (.c (.p 4 0 0)) :: .a (nonA nn) :: .a (.c (.sn za 0 0 oa na ca)) :: .a (.c (.sn zh 1 0 oh nh ch)) :: anys 28) rfl (fun w r0 hr _ => ?_)
  obtain ⟨x0, x1, x2, x3, x4, rfl⟩ := len5' hr
  obtain ⟨C, hC⟩ : ∃ C, cryL E nn b = C := ⟨_, rfl⟩
  have hCl : C.length = nh := by rw [← hC, cryL_len, hlh]
  obtain ⟨T, hT⟩ : ∃ T, tagB E H nn a C = T := ⟨_, rfl⟩
  have hST : S = C ++ tab 16 T := by rw [← hS, sealL, hC, hT]
  refine ⟨rfl, ?_⟩
  (repeat first | refine ⟨fun _ => ?_, fun h => absurd h (by rw []; decide)⟩ | refine ⟨fun h => absurd h (by rw []; decide), fun _ => ?_⟩ | refine ⟨fun _ => ?_, fun h => Bool.noConfusion h⟩ | refine ⟨fun h => Bool.noConfusion h, fun _ => ?_⟩)
  (repeat first | refine And.intro (by omega) ?_ | refine And.intro (by decide) ?_ | (with_reducible refine frc_parts (by first | omega | decide) ?_) | (with_reducible refine frc_bytesL (by first | omega | decide) ?_) | refine And.intro rfl ?_)
  refine call_same (fn_crypt zh Nh oh nh ch b cnt key K E hK hE H nn hlh hNh hch hzh hnh (by omega)) [1, 2, 3, 4] rfl (by (repeat first | exact trivial | refine ent1 ?_)) ?_ (fun _ _ => trivial) ?_
  · refine eqC_bts ?_
    (repeat first | exact trivial | refine ent1 ?_)
  rintro x hs ⟨rfl, rfl⟩
  rw [hC]
  (repeat first | refine And.intro (by omega) ?_ | refine And.intro (by decide) ?_ | (with_reducible refine frc_parts (by first | omega | decide) ?_) | (with_reducible refine frc_bytesL (by first | omega | decide) ?_) | refine And.intro rfl ?_)
  refine call_same (fn_tag za false Na (nh + 16) oa 0 na nh ca (nh + 16) a C (cnt + ((nh + 15) / 16 : Nat)) key K E hK hE H nn hla hNa hca hza hna hCl (by omega) (by omega) (fun h => Bool.noConfusion h) hnh (by omega)) [0, 6, 2, 3, 4] rfl (by (repeat first | exact trivial | refine ent1 ?_)) ?_ (fun _ _ => trivial) ?_
  · refine eqC_bts ?_
    (repeat first | exact trivial | refine ent1 ?_)
    refine ⟨fun j hj => eqC_winBM (Nat.le_refl _), ?_⟩
    (repeat first | exact trivial | refine ent1 ?_)
  rintro x hs ⟨rfl, rfl⟩
  rw [hT]
  (repeat first | refine And.intro (by omega) ?_ | refine And.intro (by decide) ?_ | (with_reducible refine frc_parts (by first | omega | decide) ?_) | (with_reducible refine frc_bytesL (by first | omega | decide) ?_) | refine And.intro rfl ?_)
  refine ⟨⟨by omega, by simp only [scale]; omega, by show (nh + 16) * 1 ≤ 140737488355328; omega⟩, fun c' hc' => ?_⟩
  have hc'' : nh + 16 ≤ c' := hc'
  refine ⟨.a (.c (.sl 5 0 0 (nh + 16) c')), _, ⟨[0, 1, 2, 3, 4, 8], ⟨rfl, rfl, rfl⟩, ?_⟩, c', hc'', rfl, rfl⟩
  (repeat first | exact trivial | refine ent1 ?_)
  refine eqC_bts (eqC_bts ?_)
  (repeat first | exact trivial | refine ent1 ?_)
  refine ⟨fun j hj => eqC_bytes (fun i hi => ?_) j, trivial⟩
  rw [hST]
  refine app_row (l := C) (m := tab 16 T) hCl (tab_len _ _) (fun i hi => ?_) (fun i hi => ?_) i hi
  · show SC.mp _ (bytesF nh (L C) i) = _
    rw [bytesF_lt hi]
    rfl
  · rw [L_tab hi]
    rfl
end Sx
end Go.Proofs.YtkjdkeolkigibaaGreat
end

section
/-
  The program's sealer: opened; made; nil ones. No condition.
-/
namespace Go.Proofs.YtkjdkeolkigibaaGreat
set_option linter.unusedVariables false
namespace Gcm
open Sha
def wrB (S T : Nat → BitVec 8) : Nat → BitVec 8
  | 0 => 0#8
  | k + 1 => wrB S T k ||| (S k ^^^ T k)
theorem wrB_zero (S T : Nat → BitVec 8) : ∀ k, wrB S T k = 0#8 ↔ ∀ i, i < k → S i = T i
  | 0 => ⟨fun _ i h => absurd h (by omega), fun _ => rfl⟩
  | k + 1 => by
    simp only [wrB]
    rw [BitVec.or_eq_zero_iff, wrB_zero S T k]
    constructor
    · rintro ⟨h1, h2⟩ i hi
      by_cases h : i = k
      · subst h
        have := congrArg (· ^^^ T i) h2
        simpa [BitVec.xor_assoc] using this
      · exact h1 i (by omega)
    · intro h
      exact ⟨fun i hi => h i (by omega), by rw [h k (by omega), BitVec.xor_self]⟩
end Gcm
namespace Sx
open Aes Gcm Sha

set_option maxRecDepth 20000 in
theorem fn_gopen (za zh : Bool) (Na Nh oa oh na nh ca ch : Nat) (a b : Bs) (T : Nat → BitVec 8) (P : Bs) (cnt : Int) (key K : Nat → BitVec 8) (E : (Nat → BitVec 8) → Nat → BitVec 8) (hK : pKeys key = K) (hE : pTurn key = E) (H : Gcm.E) (nn : Nat → BitVec 8)
    (hT : tagB E H nn a (b.take (nh - 16)) = T) (hP : cryL E nn (b.take (nh - 16)) = P)
    (hla : a.length = na) (hNa : oa + na ≤ Na) (hca : na ≤ ca) (hza : za = true → na = 0) (hna : na ≤ 1000000) (hlh : b.length = nh) (hNh : oh + nh ≤ Nh) (hch : nh ≤ ch) (hzh : zh = true → nh = 0) (hnh : nh ≤ 1000000) (hcnt : 0 ≤ cnt ∧ cnt ≤ 900000000) :
    FnR Tryz.prog tds 53 2 [bts za Na oa na (L a), bts zh Nh oh nh (L b), tabs 1 0 boxes cnt, keyD 2 K, sealC 3 H] [.c (.p 4 0 0), nonA nn, .c (.sn za 0 0 oa na ca), .c (.sn zh 1 0 oh nh ch)] (fun _ => True)
      (fun x hs => (nh < 16 → x = .tup [.c (.slc none 0 0), .c (.int .i64 3)] ∧ hs = [bts za Na oa na (L a), bts zh Nh oh nh (L b), tabs 1 0 boxes cnt, keyD 2 K, sealC 3 H]) ∧
        (16 ≤ nh → (∀ i, i < 16 → L b (nh - 16 + i) = T i) → x = .tup [.c (.sl 5 0 0 (nh - 16) nh), .c (.int .i64 0)] ∧ hs = [bts za Na oa na (L a), bts zh Nh oh nh (L b), tabs 1 0 boxes (cnt + 1 + ((nh - 1) / 16 : Nat)), keyD 2 K, sealC 3 H, [.row nh (bytesF (nh - 16) (L P))]]) ∧
        (16 ≤ nh → (¬ ∀ i, i < 16 → L b (nh - 16 + i) = T i) → x = .tup [.c (.slc none 0 0), .c (.int .i64 8)] ∧ hs = [bts za Na oa na (L a), bts zh Nh oh nh (L b), tabs 1 0 boxes (cnt + 1), keyD 2 K, sealC 3 H])) := by
  refine fn_of_body tds_ok follows_ Tryz.func53 rfl (t := .a (.c (.p 4 0 0)) :: .a (nonA nn) :: .a (.c (.sn za 0 0 oa na ca)) :: .a (.c (.sn zh 1 0 oh nh ch)) :: anys 57) rfl (fun w r0 hr _ => ?_)
  obtain ⟨x0, x1, x2, x3, x4, rfl⟩ := len5' hr
  refine ⟨rfl, ?_⟩
  (repeat first | refine ⟨fun _ => ?_, fun h => absurd h (by rw []; decide)⟩ | refine ⟨fun h => absurd h (by rw []; decide), fun _ => ?_⟩ | refine ⟨fun _ => ?_, fun h => Bool.noConfusion h⟩ | refine ⟨fun h => Bool.noConfusion h, fun _ => ?_⟩)
  by_cases h16 : nh < 16
  · have e0 : decide ((nh : Int) < 16) = true := decide_eq_true (by omega)
    (repeat first | refine ⟨fun _ => ?_, fun h => absurd h (by rw [e0]; decide)⟩ | refine ⟨fun h => absurd h (by rw [e0]; decide), fun _ => ?_⟩ | refine ⟨fun _ => ?_, fun h => Bool.noConfusion h⟩ | refine ⟨fun h => Bool.noConfusion h, fun _ => ?_⟩)
    refine ⟨.tup [.c (.slc none 0 0), .c (.int .i64 3)], _, ⟨[0, 1, 2, 3, 4], ⟨rfl, rfl, rfl⟩, ?_⟩, fun _ => ⟨rfl, rfl⟩, fun h => absurd h (by omega), fun h => absurd h (by omega)⟩
    (repeat first | exact trivial | refine ent1 ?_)
    refine eqC_bts (eqC_bts ?_)
    (repeat first | exact trivial | refine ent1 ?_)
  have e0 : decide ((nh : Int) < 16) = false := decide_eq_false (by omega)
  (repeat first | refine ⟨fun _ => ?_, fun h => absurd h (by rw [e0]; decide)⟩ | refine ⟨fun h => absurd h (by rw [e0]; decide), fun _ => ?_⟩ | refine ⟨fun _ => ?_, fun h => Bool.noConfusion h⟩ | refine ⟨fun h => Bool.noConfusion h, fun _ => ?_⟩)
  obtain rfl : zh = false := by cases zh; rfl; have := hzh rfl; omega
  have hbl : (b.take (nh - 16)).length = nh - 16 := by rw [List.length_take]; omega
  have e1 : ((nh : Int) - 16).toNat = nh - 16 := by omega
  refine ⟨⟨by omega, by omega⟩, ⟨by omega, by omega, by omega⟩, ?_⟩
  have e2 : (if ch = 0 then oh else oh + 0 * 1) = oh := by split <;> omega
  refine frcN_of (m := 0) rfl ?_
  refine frcN_of e1 ?_
  refine frcN_of e2 ?_
  refine frcN_of (m := nh - 16) (by omega) ?_
  refine frcN_of (m := ch) (by omega) ?_
  (repeat first | refine And.intro (by omega) ?_ | refine And.intro (by decide) ?_ | (with_reducible refine frc_parts (by first | omega | decide) ?_) | (with_reducible refine frc_bytesL (by first | omega | decide) ?_) | refine And.intro rfl ?_)
  refine call_same (fn_tag za false Na Nh oa oh na (nh - 16) ca ch a (b.take (nh - 16)) cnt key K E hK hE H nn hla hNa hca hza hna hbl (by omega) (by omega) (fun h => Bool.noConfusion h) (by omega) (by omega)) [0, 1, 2, 3, 4] rfl (by (repeat first | exact trivial | refine ent1 ?_)) ?_ (fun _ _ => trivial) ?_
  · refine eqC_bts ?_
    refine ⟨rfl, fun j hj => eqC_win (fun i hi => ?_) j, ?_⟩
    · rw [winF_at _ _ _ (by omega), L_take _ _ _ hi]
    (repeat first | exact trivial | refine ent1 ?_)
  rintro x hs ⟨rfl, rfl⟩
  rw [hT]
  (repeat first | refine And.intro (by omega) ?_ | refine And.intro (by decide) ?_ | (with_reducible refine frc_parts (by first | omega | decide) ?_) | (with_reducible refine frc_bytesL (by first | omega | decide) ?_) | refine And.intro rfl ?_)
  have e3 : ((nh - 16 : Nat) : Int).toNat = nh - 16 := by omega
  have e4 : ((nh : Nat) : Int).toNat = nh := by omega
  have e5 : (if ch = nh - 16 then oh else oh + (nh - 16) * 1) = oh + (nh - 16) := by rw [if_neg (by omega)]; omega
  refine frcN_of e3 ?_
  refine frcN_of e4 ?_
  refine frcN_of e5 ?_
  refine frcN_of (m := 16) (by omega) ?_
  refine frcN_of (m := ch - (nh - 16)) rfl ?_
  refine .inl ⟨Nat, fun k => ⟨[.a (.c (.p 4 0 0)), .any, .any, .any, .any, .a (.c (.p 5 0 0)), .any, .any, .any, .any, .a (.c (.sn false 1 0 oh (nh - 16) ch)), .a (.c (.p 6 0 0)), .a (.c (.w8 ((wrB (fun i => L b (nh - 16 + i)) T k)))), .any, .any, .any, .any, .any, .any, .any, .any, .any, .any, .any, .any, .any, .any, .any, .any, .any, .any, .any, .any, .any, .any, .any, .any, .any, .any, .any, .a (.c (.sn false 1 0 (oh + (nh - 16)) 16 (ch - (nh - 16)))), .a (.c (.int .i64 (16))), .a (.c (.int .i64 (↑k))), .any, .any, .any, .any, .any, .any, .any, .any, .any, .any, .any, .any, .any, .any, .any, .any, .any, .any], [bts za Na oa na (L a), bts false Nh oh nh (L b), tabs 1 0 boxes (cnt + 1), keyD 2 K, sealC 3 H, [.row 12 fun i => .w8 (nn i)], [.row 16 fun i => .w8 (T i)]]⟩, fun k => k ≤ 16, fun k => 16 - k, ⟨0, [0, 1, 2, 3, 4, 5, 6], ⟨⟨rfl, rfl, rfl⟩, ?_⟩, by omega⟩, fun k hk => ⟨fun h => ?_, fun h => ?_⟩⟩
  · (repeat first | exact trivial | refine ent1 ?_)
    refine eqC_bts ?_
    (repeat first | exact trivial | refine ent1 ?_)
  · have hlt : (k : Int) < 16 := of_decide_eq_true h
    have hk1 : k < 16 := by omega
    have e6 : (k : Int).toNat + (oh + (nh - 16)) = nh - 16 + k + oh := by omega
    have e7 : (k : Int).toNat + 0 = k := by omega
    (repeat first | refine And.intro (by omega) ?_ | refine And.intro (by decide) ?_ | (with_reducible refine frc_parts (by first | omega | decide) ?_) | (with_reducible refine frc_bytesL (by first | omega | decide) ?_) | refine And.intro rfl ?_)
    rw [e6]
    refine frc_win (i := nh - 16 + k) (by omega) ?_
    (repeat first | refine And.intro (by omega) ?_ | refine And.intro (by decide) ?_ | (with_reducible refine frc_parts (by first | omega | decide) ?_) | (with_reducible refine frc_bytesL (by first | omega | decide) ?_) | refine And.intro rfl ?_)
    refine ⟨k + 1, [0, 1, 2, 3, 4, 5, 6], ⟨⟨rfl, rfl, rfl⟩, ?_⟩, by dsimp only; omega, by dsimp only; omega⟩
    (repeat first | exact trivial | refine ent1 ?_)
    refine eqC_bts ?_
    (repeat first | exact trivial | refine ent1 ?_)
  · obtain rfl : k = 16 := by have : ¬ (k : Int) < 16 := of_decide_eq_false h; have hk : k ≤ 16 := hk; omega
    have hw := wrB_zero (fun i => L b (nh - 16 + i)) T 16
    by_cases hall : ∀ i, i < 16 → L b (nh - 16 + i) = T i
    · have e8 : decide (wrB (fun i => L b (nh - 16 + i)) T 16 ≠ 0#8) = false := decide_eq_false (fun h => h (hw.2 hall))
      (repeat first | refine ⟨fun _ => ?_, fun h => absurd h (by rw [e8]; decide)⟩ | refine ⟨fun h => absurd h (by rw [e8]; decide), fun _ => ?_⟩ | refine ⟨fun _ => ?_, fun h => Bool.noConfusion h⟩ | refine ⟨fun h => Bool.noConfusion h, fun _ => ?_⟩)
      (repeat first | refine And.intro (by omega) ?_ | refine And.intro (by decide) ?_ | (with_reducible refine frc_parts (by first | omega | decide) ?_) | (with_reducible refine frc_bytesL (by first | omega | decide) ?_) | refine And.intro rfl ?_)
      refine call_same (fn_crypt false Nh oh (nh - 16) ch (b.take (nh - 16)) (cnt + 1) key K E hK hE H nn hbl (by omega) (by omega) (fun h => Bool.noConfusion h) (by omega) (by omega)) [1, 2, 3, 4] rfl (by (repeat first | exact trivial | refine ent1 ?_)) ?_ (fun _ _ => trivial) ?_
      · refine ⟨rfl, fun j hj => eqC_win (fun i hi => ?_) j, ?_⟩
        · rw [winF_at _ _ _ (by omega), L_take _ _ _ hi]
        (repeat first | exact trivial | refine ent1 ?_)
      rintro x hs ⟨rfl, rfl⟩
      rw [hP]
      refine ⟨.tup [.c (.sl 5 0 0 (nh - 16) nh), .c (.int .i64 0)], [bts za Na oa na (L a), bts false Nh oh nh (L b), tabs 1 0 boxes (cnt + 1 + ((nh - 1) / 16 : Nat)), keyD 2 K, sealC 3 H, [.row nh (bytesF (nh - 16) (L P))]], ⟨[0, 1, 2, 3, 4, 7], ⟨rfl, rfl, rfl⟩, ?_⟩, fun h => absurd h (by omega), fun _ _ => ⟨rfl, rfl⟩, fun _ h => absurd hall h⟩
      refine ⟨rfl, rfl, by omega, rfl, ?_⟩
      refine eqC_bts ?_
      (repeat first | exact trivial | refine ent1 ?_)
    · have e8 : decide (wrB (fun i => L b (nh - 16 + i)) T 16 ≠ 0#8) = true := decide_eq_true (mt hw.1 hall)
      (repeat first | refine ⟨fun _ => ?_, fun h => absurd h (by rw [e8]; decide)⟩ | refine ⟨fun h => absurd h (by rw [e8]; decide), fun _ => ?_⟩ | refine ⟨fun _ => ?_, fun h => Bool.noConfusion h⟩ | refine ⟨fun h => Bool.noConfusion h, fun _ => ?_⟩)
      refine ⟨.tup [.c (.slc none 0 0), .c (.int .i64 8)], _, ⟨[0, 1, 2, 3, 4], ⟨rfl, rfl, rfl⟩, ?_⟩, fun h => absurd h (by omega), fun _ h => absurd h hall, fun _ _ => ⟨rfl, rfl⟩⟩
      (repeat first | exact trivial | refine ent1 ?_)
      refine eqC_bts ?_
      (repeat first | exact trivial | refine ent1 ?_)
set_option maxRecDepth 20000 in
theorem fn_gnew (d : BitVec 32) (b : Nat → BitVec 8) (cnt : Int) (key K : Nat → BitVec 8) (E : (Nat → BitVec 8) → Nat → BitVec 8) (hK : pKeys key = K) (hE : pTurn key = E) (H : Gcm.E) (hH : toE (E fun _ => 0#8) = H) (hd : d = 0#32 ∨ d = 1#32 ∧ b = boxes) (hcnt : 0 ≤ cnt ∧ cnt ≤ 1000000000) :
    Fn Tryz.prog tds 20 [tabs d 0 b cnt] [.c (.p 0 0 0), blk key] (fun _ => True) (fun x hs => x = .a (.c (.p 2 0 0)) ∧ hs = [tabs 1 0 boxes (cnt + 1), keyC K, sealC 1 H]) := by
  refine fn_of_body tds_ok follows_ Tryz.func20 rfl (t := .a (.c (.p 0 0 0)) :: .a (blk key) :: anys 16) rfl (fun w r0 hr _ => ?_)
  obtain ⟨x0, rfl⟩ := List.length_eq_one_iff.1 hr
  refine ⟨rfl, ?_⟩
  (repeat first | refine And.intro (by omega) ?_ | refine And.intro (by decide) ?_ | (with_reducible refine frc_parts (by first | omega | decide) ?_) | (with_reducible refine frc_bytesL (by first | omega | decide) ?_) | refine And.intro rfl ?_)
  refine call_same (fn_key' d b cnt key K hK hd) [0] rfl (by (repeat first | exact trivial | refine ent1 ?_)) (by (repeat first | exact trivial | refine ent1 ?_)) (fun _ _ => trivial) ?_
  rintro x hs ⟨rfl, rfl⟩
  (repeat first | refine ⟨fun _ => ?_, fun h => absurd h (by rw []; decide)⟩ | refine ⟨fun h => absurd h (by rw []; decide), fun _ => ?_⟩ | refine ⟨fun _ => ?_, fun h => Bool.noConfusion h⟩ | refine ⟨fun h => Bool.noConfusion h, fun _ => ?_⟩)
  (repeat first | refine And.intro (by omega) ?_ | refine And.intro (by decide) ?_ | (with_reducible refine frc_parts (by first | omega | decide) ?_) | (with_reducible refine frc_bytesL (by first | omega | decide) ?_) | refine And.intro rfl ?_)
  refine call_same (fn_turn' cnt key (fun _ => 0#8) K (E fun _ => 0#8) hK (by rw [hE]) (by omega)) [0, 2] rfl ⟨rfl, rfl, rfl, fun j hj => eqC_w8 (nthC_rep (n := 16) (x := .w8 0) hj), trivial⟩ (by (repeat first | exact trivial | refine ent1 ?_)) (fun _ _ => trivial) ?_
  rintro x hs ⟨rfl, rfl⟩
  (repeat first | refine And.intro (by omega) ?_ | refine And.intro (by decide) ?_ | (with_reducible refine frc_parts (by first | omega | decide) ?_) | (with_reducible refine frc_bytesL (by first | omega | decide) ?_) | refine And.intro rfl ?_)
  refine call_same (fn_load (E fun _ => 0#8)) [] rfl (by (repeat first | exact trivial | refine ent1 ?_)) trivial (fun _ _ => trivial) ?_
  rintro x hs ⟨rfl, rfl⟩
  rw [hH]
  (repeat first | refine And.intro (by omega) ?_ | refine And.intro (by decide) ?_ | (with_reducible refine frc_parts (by first | omega | decide) ?_) | (with_reducible refine frc_bytesL (by first | omega | decide) ?_) | refine And.intro rfl ?_)
  refine ⟨.a (.c (.p 2 0 0)), [tabs 1 0 boxes (cnt + 1), keyC K, sealC 1 H], ⟨[0, 2, 3], ⟨rfl, rfl, rfl⟩, ?_⟩, rfl, rfl⟩
  (repeat first | exact trivial | refine ent1 ?_)
end Sx
end Go.Proofs.YtkjdkeolkigibaaGreat
end

section
/-
  The program's keys: what a secret gives for a label. No condition.
-/
namespace Go.Proofs.YtkjdkeolkigibaaGreat
set_option linter.unusedVariables false
namespace Sx
open Aes Gcm Sha

set_option maxRecDepth 20000 in
theorem fn_kblock (s : Bs) (lab : List UInt8) (dn : BitVec 32) (f g : Nat → BitVec 32) (hd : dn = 0#32 ∨ dn = 1#32 ∧ f = first ∧ g = steps) (hs : s.length = 32) (hl : lab.length ≤ 249) :
    FnR Tryz.prog tds 21 1 [[.one (.p 1 0 0), .one .any], shaT dn 0 f g] [.c (.p 0 0 0), .agg [.row 32 fun i => .w8 (L s i)], .c (.str lab)] (fun _ => True)
      (fun x hs => ∃ (dn' : BitVec 32) (f' g' : Nat → BitVec 32), (dn' = 0#32 ∨ dn' = 1#32 ∧ f' = first ∧ g' = steps) ∧ x = .a (blk (exF s (labT lab [] 16))) ∧ hs = [[.one (.p 1 0 0), .one .any], shaT dn' 0 f' g']) := by
  refine fn_of_body tds_ok follows_ Tryz.func21 rfl (t := .a (.c (.p 0 0 0)) :: .a (.agg [.row 32 fun i => .w8 (L s i)]) :: .a (.c (.str lab)) :: anys 20) rfl (fun w r0 hr _ => ?_)
  obtain ⟨x0, x1, rfl⟩ := len2s hr
  refine ⟨rfl, some [2], [], [(0, true), (1, true), (2, true), (3, true), (4, true), (5, true), (6, false), (7, true), (8, true), (9, true), (10, true), (11, true)], [], by kernel_rfl, ?_⟩
  (repeat first | refine And.intro (by omega) ?_ | refine And.intro (by decide) ?_ | (with_reducible refine frc_parts (by first | omega | decide) ?_) | (with_reducible refine frc_bytesL (by first | omega | decide) ?_) | refine And.intro rfl ?_)
  refine call_same (fn_klabel true 0 0 0 s [] lab 16 dn f g hd hs (by decide) (by decide) (fun _ => rfl)) [2, 1] rfl (by (repeat first | exact trivial | refine ent1 ?_)) ?_ (fun _ _ => trivial) ?_
  · refine eqSegs_nil ?_
    (repeat first | exact trivial | refine ent1 ?_)
  rintro x hs' ⟨-, -, hgood⟩
  obtain ⟨z, N, dn', f', g', hd', -, hz2, hN, rfl, rfl⟩ := hgood hl (by decide) (by decide) (by decide)
  obtain rfl := hz2 (by decide)
  clear hgood
  have hN' : 16 ≤ N := hN
  obtain ⟨F, hF⟩ : ∃ F, exF s (labT lab [] 16) = F := ⟨_, rfl⟩
  have e16 : ((16 : Int)).toNat = 16 := rfl
  rw [e16, hF]
  (repeat first | refine And.intro (by omega) ?_ | refine And.intro (by decide) ?_ | (with_reducible refine frc_parts (by first | omega | decide) ?_) | (with_reducible refine frc_bytesL (by first | omega | decide) ?_) | refine And.intro rfl ?_)
  refine sn_btsM (g := bk 4 [2, 1]) (N := N) (b := F) rfl (by omega) (fun h => Bool.noConfusion h) (fun gx hg => ?_)
  refine ⟨(show 0 + min 16 16 ≤ 16 by decide), ?_⟩
  (repeat first | refine And.intro (by omega) ?_ | refine And.intro (by decide) ?_ | (with_reducible refine frc_parts (by first | omega | decide) ?_) | (with_reducible refine frc_bytesL (by first | omega | decide) ?_) | refine And.intro rfl ?_)
  refine ⟨_, [[.one (.p 1 0 0), .one .any], shaT dn' 0 f' g'], ⟨[0, 1], ⟨rfl, rfl, rfl⟩, ?_⟩, dn', f', g', hd', rfl, rfl⟩
  (repeat first | exact trivial | refine ent1 ?_)
  refine ⟨fun j hj => eqC_w8 ?_, ?_⟩
  · show updN (fun _ => SC.w8 0) 0 (min 16 16) gx j = SC.w8 (F j)
    unfold updN
    rw [if_pos ⟨Nat.zero_le _, by have : min 16 16 = 16 := rfl; omega⟩]
    exact hg j hj
  (repeat first | exact trivial | refine ent1 ?_)
end Sx
end Go.Proofs.YtkjdkeolkigibaaGreat
end

section
/-
  The program's keys: made of a secret; nonces; sealed, opened. No condition.
-/
namespace Go.Proofs.YtkjdkeolkigibaaGreat
set_option linter.unusedVariables false
namespace Gcm
/-- The IV with a number. -/
def nonB (iv : Nat → BitVec 8) (num : BitVec 64) (i : Nat) : BitVec 8 := if i < 4 then iv i else iv i ^^^ (num >>> (8 * (11 - i))).setWidth 8
end Gcm
namespace Sx
open Aes Gcm Sha

abbrev makC (i j : Nat) : List Seg := [.one (.p i 0 0), .one (.p j 0 0)]
abbrev kysC (i j : Nat) (s iv : Nat → BitVec 8) : List Seg := [.row 32 fun i => .w8 (s i), .one (.p i 0 0), .row 12 fun i => .w8 (iv i), .one (.p j 0 0)]
set_option maxRecDepth 20000 in
theorem fn_keysNew : Fn Tryz.prog tds 7 [] [] (fun _ => True) (fun x hs => x = .a (.c (.p 2 0 0)) ∧ hs = [shaT 0 0 (fun _ => 0#32) (fun _ => 0#32), tabs 0 0 (fun _ => 0#8) 0, makC 0 1]) := by
  refine fn_of_body tds_ok follows_ Tryz.func7 rfl (t := anys 5) rfl (fun w r0 hr _ => ?_)
  obtain rfl : r0 = [] := List.eq_nil_of_length_eq_zero hr
  refine ⟨by kernel_rfl, call_same fn_knew [] rfl trivial trivial (fun _ _ => trivial) ?_⟩
  rintro x hs ⟨rfl, rfl⟩
  (repeat first | refine And.intro (by omega) ?_ | refine And.intro (by decide) ?_ | (with_reducible refine frc_parts (by first | omega | decide) ?_) | (with_reducible refine frc_bytesL (by first | omega | decide) ?_) | refine And.intro rfl ?_)
  refine call_same fn_new [] rfl trivial trivial (fun _ _ => trivial) ?_
  rintro x hs ⟨rfl, rfl⟩
  (repeat first | refine And.intro (by omega) ?_ | refine And.intro (by decide) ?_ | (with_reducible refine frc_parts (by first | omega | decide) ?_) | (with_reducible refine frc_bytesL (by first | omega | decide) ?_) | refine And.intro rfl ?_)
  refine ⟨.a (.c (.p 2 0 0)), _, ⟨[0, 1, 2], ⟨rfl, rfl, rfl⟩, ?_⟩, rfl, rfl⟩
  (repeat first | exact trivial | refine ent1 ?_)
theorem len6s {α : Type} : ∀ {l : List α}, l.length = 6 → ∃ a b c d e f, l = [a, b, c, d, e, f]
  | [a, b, c, d, e, f], _ => ⟨a, b, c, d, e, f, rfl⟩
def qKey : List UInt8 := [113, 117, 105, 99, 32, 107, 101, 121]
def qIv : List UInt8 := [113, 117, 105, 99, 32, 105, 118]
def qHp : List UInt8 := [113, 117, 105, 99, 32, 104, 112]
set_option maxRecDepth 20000 in
set_option maxHeartbeats 2000000 in
theorem fn_kOf (s : Bs) (dn : BitVec 32) (f g : Nat → BitVec 32) (hd : dn = 0#32 ∨ dn = 1#32 ∧ f = first ∧ g = steps) (hs : s.length = 32) (d : BitVec 32) (b : Nat → BitVec 8) (cnt : Int) (hdt : d = 0#32 ∨ d = 1#32 ∧ b = boxes) (hcnt : 0 ≤ cnt ∧ cnt ≤ 900000000)
    (kq K kh K2 iv : Nat → BitVec 8) (E : (Nat → BitVec 8) → Nat → BitVec 8) (H : Gcm.E) (hkq : exF s (labT qKey [] 16) = kq) (hiv : exF s (labT qIv [] 12) = iv) (hkh : exF s (labT qHp [] 16) = kh) (hK : pKeys kq = K) (hE : pTurn kq = E) (hH : toE (E fun _ => 0#8) = H) (hK2 : pKeys kh = K2) :
    FnR Tryz.prog tds 8 1 [makC 1 2, shaT dn 0 f g, tabs d 0 b cnt] [.c (.p 0 0 0), .agg [.row 32 fun i => .w8 (L s i)]] (fun _ => True)
      (fun x hs => ∃ (dn' : BitVec 32) (f' g' : Nat → BitVec 32), (dn' = 0#32 ∨ dn' = 1#32 ∧ f' = first ∧ g' = steps) ∧ x = .a (.c (.p 3 0 0)) ∧ hs = [makC 1 2, shaT dn' 0 f' g', tabs 1 0 boxes (cnt + 1), kysC 5 6 (L s) iv, keyD 2 K, sealC 4 H, keyD 2 K2]) := by
  refine fn_of_body tds_ok follows_ Tryz.func8 rfl (t := .a (.c (.p 0 0 0)) :: .a (.agg [.row 32 fun i => .w8 (L s i)]) :: anys 49) rfl (fun w r0 hr _ => ?_)
  obtain ⟨x0, x1, x2, rfl⟩ := len3' hr
  refine ⟨rfl, ?_⟩
  (repeat first | refine ⟨fun _ => ?_, fun h => absurd h (by rw []; decide)⟩ | refine ⟨fun h => absurd h (by rw []; decide), fun _ => ?_⟩ | refine ⟨fun _ => ?_, fun h => Bool.noConfusion h⟩ | refine ⟨fun h => Bool.noConfusion h, fun _ => ?_⟩)
  (repeat first | refine And.intro (by omega) ?_ | refine And.intro (by decide) ?_ | (with_reducible refine frc_parts (by first | omega | decide) ?_) | (with_reducible refine frc_bytesL (by first | omega | decide) ?_) | refine And.intro rfl ?_)
  refine ⟨some [3], [], [(0, true), (1, true), (2, true), (3, true), (4, true), (5, true), (6, true), (7, false), (8, false), (9, true), (10, true)], [11], by kernel_rfl, ?_⟩
  (repeat first | refine And.intro (by omega) ?_ | refine And.intro (by decide) ?_ | (with_reducible refine frc_parts (by first | omega | decide) ?_) | (with_reducible refine frc_bytesL (by first | omega | decide) ?_) | refine And.intro rfl ?_)
  refine call_same (fn_kblock s qKey dn f g hd hs (by decide)) [0, 1] rfl (by (repeat first | exact trivial | refine ent1 ?_)) (by (repeat first | exact trivial | refine ent1 ?_)) (fun _ _ => trivial) ?_
  rintro x hs' ⟨dn1, f1, g1, hd1, rfl, rfl⟩
  rw [hkq]
  (repeat first | refine And.intro (by omega) ?_ | refine And.intro (by decide) ?_ | (with_reducible refine frc_parts (by first | omega | decide) ?_) | (with_reducible refine frc_bytesL (by first | omega | decide) ?_) | refine And.intro rfl ?_)
  refine call_same (fn_gnew d b cnt kq K E hK hE H hH hdt (by omega)) [2] rfl (by (repeat first | exact trivial | refine ent1 ?_)) (by (repeat first | exact trivial | refine ent1 ?_)) (fun _ _ => trivial) ?_
  rintro x hs' ⟨rfl, rfl⟩
  (repeat first | refine And.intro (by omega) ?_ | refine And.intro (by decide) ?_ | (with_reducible refine frc_parts (by first | omega | decide) ?_) | (with_reducible refine frc_bytesL (by first | omega | decide) ?_) | refine And.intro rfl ?_)
  refine ⟨some [3], [], [(0, true), (1, true), (2, true), (3, true), (4, true), (5, false), (6, true), (7, true), (8, true), (9, true), (10, true)], [], by kernel_rfl, ?_⟩
  (repeat first | refine And.intro (by omega) ?_ | refine And.intro (by decide) ?_ | (with_reducible refine frc_parts (by first | omega | decide) ?_) | (with_reducible refine frc_bytesL (by first | omega | decide) ?_) | refine And.intro rfl ?_)
  refine call_same (fn_klabel true 0 0 0 s [] qIv 12 dn1 f1 g1 hd1 hs (by decide) (by decide) (fun _ => rfl)) [3, 1] rfl (by (repeat first | exact trivial | refine ent1 ?_)) ?_ (fun _ _ => trivial) ?_
  · refine eqSegs_nil ?_
    (repeat first | exact trivial | refine ent1 ?_)
  rintro x hs' ⟨-, -, hgood⟩
  obtain ⟨z, N, dn2, f2, g2, hd2, -, hz2, hN, rfl, rfl⟩ := hgood (by decide) (by decide) (by decide) (by decide)
  obtain rfl := hz2 (by decide)
  clear hgood
  have hN' : 12 ≤ N := hN
  have e16 : ((12 : Int)).toNat = 12 := rfl
  rw [e16, hiv]
  (repeat first | refine And.intro (by omega) ?_ | refine And.intro (by decide) ?_ | (with_reducible refine frc_parts (by first | omega | decide) ?_) | (with_reducible refine frc_bytesL (by first | omega | decide) ?_) | refine And.intro rfl ?_)
  refine sn_btsM (N := N) (b := iv) rfl (by omega) (fun h => Bool.noConfusion h) (fun gx hg => ?_)
  refine ⟨(show 0 + min 12 12 ≤ 12 by decide), ?_⟩
  (repeat first | refine And.intro (by omega) ?_ | refine And.intro (by decide) ?_ | (with_reducible refine frc_parts (by first | omega | decide) ?_) | (with_reducible refine frc_bytesL (by first | omega | decide) ?_) | refine And.intro rfl ?_)
  refine ⟨some [3], [], [(0, true), (1, true), (2, true), (3, true), (4, true), (5, true), (6, true), (7, false), (8, false), (9, true), (10, true)], [11], by kernel_rfl, ?_⟩
  (repeat first | refine And.intro (by omega) ?_ | refine And.intro (by decide) ?_ | (with_reducible refine frc_parts (by first | omega | decide) ?_) | (with_reducible refine frc_bytesL (by first | omega | decide) ?_) | refine And.intro rfl ?_)
  refine call_same (fn_kblock s qHp dn2 f2 g2 hd2 hs (by decide)) [0, 1] rfl (by (repeat first | exact trivial | refine ent1 ?_)) (by (repeat first | exact trivial | refine ent1 ?_)) (fun _ _ => trivial) ?_
  rintro x hs' ⟨dn3, f3, g3, hd3, rfl, rfl⟩
  rw [hkh]
  (repeat first | refine And.intro (by omega) ?_ | refine And.intro (by decide) ?_ | (with_reducible refine frc_parts (by first | omega | decide) ?_) | (with_reducible refine frc_bytesL (by first | omega | decide) ?_) | refine And.intro rfl ?_)
  refine call_same (fn_key' 1 boxes (cnt + 1) kh K2 hK2 (.inr ⟨rfl, rfl⟩)) [2] rfl (by (repeat first | exact trivial | refine ent1 ?_)) (by (repeat first | exact trivial | refine ent1 ?_)) (fun _ _ => trivial) ?_
  rintro x hs' ⟨rfl, rfl⟩
  (repeat first | refine And.intro (by omega) ?_ | refine And.intro (by decide) ?_ | (with_reducible refine frc_parts (by first | omega | decide) ?_) | (with_reducible refine frc_bytesL (by first | omega | decide) ?_) | refine And.intro rfl ?_)
  refine ⟨_, _, ⟨[0, 1, 2, 4, 5, 6, 8], ⟨rfl, rfl, rfl⟩, ?_⟩, dn3, f3, g3, hd3, rfl, rfl⟩
  (repeat first | exact trivial | refine ent1 ?_)
  refine ⟨fun j hj => eqC_w8 ?_, ?_⟩
  · show updN (fun _ => SC.w8 0) 0 (min 12 12) gx j = SC.w8 (iv j)
    unfold updN
    rw [if_pos ⟨Nat.zero_le _, by have : min 12 12 = 12 := rfl; omega⟩]
    exact hg j hj
  (repeat first | exact trivial | refine ent1 ?_)
abbrev kysN (iv : Nat → BitVec 8) : List Seg := [.row 32 fun _ => .any, .one .any, .row 12 fun i => .w8 (iv i), .one .any]
set_option maxRecDepth 20000 in
theorem fn_knonce (iv : Nat → BitVec 8) (num : BitVec 64) : FnR Tryz.prog tds 54 1 [kysN iv] [.c (.p 0 0 0), .c (.w64 num)] (fun _ => True) (fun x hs => x = .a (nonA (nonB iv num)) ∧ hs = [kysN iv]) := by
  refine fn_of_body tds_ok follows_ Tryz.func54 rfl (t := .a (.c (.p 0 0 0)) :: .a (.c (.w64 num)) :: anys 25) rfl (fun w r0 hr _ => ?_)
  obtain ⟨x0, rfl⟩ := List.length_eq_one_iff.1 hr
  (repeat first | refine And.intro (by omega) ?_ | refine And.intro (by decide) ?_ | (with_reducible refine frc_parts (by first | omega | decide) ?_) | (with_reducible refine frc_bytesL (by first | omega | decide) ?_) | refine And.intro rfl ?_)
  obtain ⟨Y, hY⟩ : ∃ Y, nonB iv num = Y := ⟨_, rfl⟩
  refine .inl ⟨Nat, fun k => ⟨[.any, .a (.c (.w64 (num))), .any, .any, .a (.c (.p 1 0 0)), .a (.c (.p 2 0 0)), .any, .any, .any, .any, .any, .a (.c (.int .i64 (↑k))), .any, .any, .any, .any, .any, .any, .any, .any, .any, .any, .any, .any, .any, .any, .any], [kysN iv, [.row 12 fun _ => .w8 0], [.row 12 fun i => .w8 (if 12 ≤ i + k then Y i else iv i)]]⟩, fun k => k ≤ 8, fun k => 8 - k, ⟨0, [0, 1, 2], ⟨⟨rfl, rfl, rfl⟩, ?_⟩, by omega⟩, fun k hk => ⟨fun h => ?_, fun h => ?_⟩⟩
  · (repeat first | exact trivial | refine ent1 ?_)
    exact ⟨fun j hj => eqC_w8 (congrArg SC.w8 (by rw [if_neg (by omega)]; rfl)), trivial⟩
  · have hlt : (k : Int) < 8 := of_decide_eq_true h
    refine ⟨none, [], [(0, true), (1, true), (2, true), (3, true), (4, true), (5, true), (6, true), (7, true), (8, true), (9, true), (10, true)], [11], by kernel_rfl, ?_⟩
    (repeat first | refine And.intro (by omega) ?_ | refine And.intro (by decide) ?_ | (with_reducible refine frc_parts (by first | omega | decide) ?_) | (with_reducible refine frc_bytesL (by first | omega | decide) ?_) | refine And.intro rfl ?_)
    refine ⟨k + 1, [0, 1, 2], ⟨⟨rfl, rfl, rfl⟩, ?_⟩, by dsimp only; omega, by dsimp only; omega⟩
    (repeat first | exact trivial | refine ent1 ?_)
    refine ⟨fun j hj => eqC_w8 ?_, trivial⟩
    have e0 : (11 - (k : Int)).toNat + 0 = 11 - k := by omega
    have e1 : (8 * (k : Int)).toNat = 8 * k := by omega
    rw [e0, e1]
    refine (upd_w8 (g := fun i => .w8 (if 12 ≤ i + (k + 1) then Y i else iv i)) ?_ (fun i hi => ?_) j)
    · rw [if_neg (by omega), if_pos (by omega), ← hY]
      unfold nonB
      rw [if_neg (by omega), show 11 - (11 - k) = k by omega]
    · have : 12 ≤ i + k ↔ 12 ≤ i + (k + 1) := by omega
      simp only [this]
  · obtain rfl : k = 8 := by have : ¬ (k : Int) < 8 := of_decide_eq_false h; have hk : k ≤ 8 := hk; omega
    (repeat first | refine And.intro (by omega) ?_ | refine And.intro (by decide) ?_ | (with_reducible refine frc_parts (by first | omega | decide) ?_) | (with_reducible refine frc_bytesL (by first | omega | decide) ?_) | refine And.intro rfl ?_)
    refine ⟨.a (nonA (nonB iv num)), [kysN iv], ⟨[0], ⟨rfl, rfl, rfl⟩, ?_⟩, rfl, rfl⟩
    (repeat first | exact trivial | refine ent1 ?_)
    refine ⟨fun j hj => eqC_w8 (congrArg SC.w8 ?_), ?_⟩
    · show (if 12 ≤ j + 0 + 0 + 8 then Y (j + 0 + 0) else iv (j + 0 + 0)) = nonB iv num j
      rw [← hY]
      unfold nonB
      simp only [Nat.add_zero]
      by_cases h4 : j < 4
      · rw [if_neg (by omega), if_pos h4]
      · rw [if_pos (by omega)]
    (repeat first | exact trivial | refine ent1 ?_)
abbrev kysS (i : Nat) (iv : Nat → BitVec 8) : List Seg := [.row 32 fun _ => .any, .one (.p i 0 0), .row 12 fun i => .w8 (iv i), .one .any]
set_option maxRecDepth 20000 in
theorem fn_kseal (za zh : Bool) (Na Nh oa oh na nh ca ch : Nat) (a b S : Bs) (cnt : Int) (key K iv : Nat → BitVec 8) (num : BitVec 64) (E : (Nat → BitVec 8) → Nat → BitVec 8) (hK : pKeys key = K) (hE : pTurn key = E) (H : Gcm.E) (hS : sealL E H (nonB iv num) a b = S)
    (hla : a.length = na) (hNa : oa + na ≤ Na) (hca : na ≤ ca) (hza : za = true → na = 0) (hna : na ≤ 1000000) (hlh : b.length = nh) (hNh : oh + nh ≤ Nh) (hch : nh ≤ ch) (hzh : zh = true → nh = 0) (hnh : nh ≤ 1000000) (hcnt : 0 ≤ cnt ∧ cnt ≤ 900000000) :
    FnR Tryz.prog tds 35 3 [bts za Na oa na (L a), bts zh Nh oh nh (L b), kysS 5 iv, tabs 1 0 boxes cnt, keyD 3 K, sealC 4 H] [.c (.p 2 0 0), .c (.w64 num), .c (.sn za 0 0 oa na ca), .c (.sn zh 1 0 oh nh ch)] (fun _ => True)
      (fun x hs => ∃ c, nh + 16 ≤ c ∧ x = .a (.c (.sl 6 0 0 (nh + 16) c)) ∧ hs = [bts za Na oa na (L a), bts zh Nh oh nh (L b), kysS 5 iv, tabs 1 0 boxes (cnt + ((nh + 15) / 16 : Nat) + 1), keyD 3 K, sealC 4 H, [.row c (bytesF (nh + 16) (L S))]]) := by
  refine fn_of_body tds_ok follows_ Tryz.func35 rfl (t := [.a (.c (.p 2 0 0)), .a (.c (.w64 num)), .a (.c (.sn za 0 0 oa na ca)), .a (.c (.sn zh 1 0 oh nh ch)), .any, .any, .any, .any, .any, .any, .any, .any, .any, .any, .any, .any, .any, .any, .any, .any, .any]) rfl (fun w r0 hr _ => ?_)
  obtain ⟨x0, x1, x2, x3, x4, x5, rfl⟩ := len6s hr
  (repeat first | refine ⟨fun _ => ?_, fun h => absurd h (by rw []; decide)⟩ | refine ⟨fun h => absurd h (by rw []; decide), fun _ => ?_⟩ | refine ⟨fun _ => ?_, fun h => Bool.noConfusion h⟩ | refine ⟨fun h => Bool.noConfusion h, fun _ => ?_⟩)
  refine ⟨some [2], [], [(0, true), (1, true), (2, true), (3, true), (4, true), (5, true), (7, true), (8, true), (6, false), (9, false), (10, true)], [], by kernel_rfl, ?_⟩
  (repeat first | refine And.intro (by omega) ?_ | refine And.intro (by decide) ?_ | (with_reducible refine frc_parts (by first | omega | decide) ?_) | (with_reducible refine frc_bytesL (by first | omega | decide) ?_) | refine And.intro rfl ?_)
  refine call_same (fn_knonce iv num) [2] rfl (by (repeat first | exact trivial | refine ent1 ?_)) (by (repeat first | exact trivial | refine ent1 ?_)) (fun _ _ => trivial) ?_
  rintro x hs' ⟨rfl, rfl⟩
  (repeat first | refine And.intro (by omega) ?_ | refine And.intro (by decide) ?_ | (with_reducible refine frc_parts (by first | omega | decide) ?_) | (with_reducible refine frc_bytesL (by first | omega | decide) ?_) | refine And.intro rfl ?_)
  refine call_same (fn_gseal za zh Na Nh oa oh na nh ca ch a b S cnt key K E hK hE H (nonB iv num) hS hla hNa hca hza hna hlh hNh hch hzh hnh hcnt) [0, 1, 3, 4, 5] rfl (by (repeat first | exact trivial | refine ent1 ?_)) ?_ (fun _ _ => trivial) ?_
  · refine eqC_bts (eqC_bts ?_)
    (repeat first | exact trivial | refine ent1 ?_)
  rintro x hs' ⟨c, hc, rfl, rfl⟩
  (repeat first | refine And.intro (by omega) ?_ | refine And.intro (by decide) ?_ | (with_reducible refine frc_parts (by first | omega | decide) ?_) | (with_reducible refine frc_bytesL (by first | omega | decide) ?_) | refine And.intro rfl ?_)
  refine ⟨_, _, ⟨[0, 1, 2, 3, 4, 5, 6], ⟨rfl, rfl, rfl⟩, ?_⟩, c, hc, rfl, rfl⟩
  (repeat first | exact trivial | refine ent1 ?_)
  refine eqC_bts (eqC_bts ?_)
  (repeat first | exact trivial | refine ent1 ?_)
set_option maxRecDepth 20000 in
theorem fn_kopen (za zh : Bool) (Na Nh oa oh na nh ca ch : Nat) (a b : Bs) (T : Nat → BitVec 8) (P : Bs) (cnt : Int) (key K iv : Nat → BitVec 8) (num : BitVec 64) (E : (Nat → BitVec 8) → Nat → BitVec 8) (hK : pKeys key = K) (hE : pTurn key = E) (H : Gcm.E)
    (hT : tagB E H (nonB iv num) a (b.take (nh - 16)) = T) (hP : cryL E (nonB iv num) (b.take (nh - 16)) = P)
    (hla : a.length = na) (hNa : oa + na ≤ Na) (hca : na ≤ ca) (hza : za = true → na = 0) (hna : na ≤ 1000000) (hlh : b.length = nh) (hNh : oh + nh ≤ Nh) (hch : nh ≤ ch) (hzh : zh = true → nh = 0) (hnh : nh ≤ 1000000) (hcnt : 0 ≤ cnt ∧ cnt ≤ 900000000) :
    FnR Tryz.prog tds 32 3 [bts za Na oa na (L a), bts zh Nh oh nh (L b), kysS 5 iv, tabs 1 0 boxes cnt, keyD 3 K, sealC 4 H] [.c (.p 2 0 0), .c (.w64 num), .c (.sn za 0 0 oa na ca), .c (.sn zh 1 0 oh nh ch)] (fun _ => True)
      (fun x hs => (nh < 16 → x = .tup [.c (.slc none 0 0), .c (.int .i64 3)] ∧ hs = [bts za Na oa na (L a), bts zh Nh oh nh (L b), kysS 5 iv, tabs 1 0 boxes cnt, keyD 3 K, sealC 4 H]) ∧
        (16 ≤ nh → (∀ i, i < 16 → L b (nh - 16 + i) = T i) → x = .tup [.c (.sl 6 0 0 (nh - 16) nh), .c (.int .i64 0)] ∧ hs = [bts za Na oa na (L a), bts zh Nh oh nh (L b), kysS 5 iv, tabs 1 0 boxes (cnt + 1 + ((nh - 1) / 16 : Nat)), keyD 3 K, sealC 4 H, [.row nh (bytesF (nh - 16) (L P))]]) ∧
        (16 ≤ nh → (¬ ∀ i, i < 16 → L b (nh - 16 + i) = T i) → x = .tup [.c (.slc none 0 0), .c (.int .i64 8)] ∧ hs = [bts za Na oa na (L a), bts zh Nh oh nh (L b), kysS 5 iv, tabs 1 0 boxes (cnt + 1), keyD 3 K, sealC 4 H])) := by
  refine fn_of_body tds_ok follows_ Tryz.func32 rfl (t := [.a (.c (.p 2 0 0)), .a (.c (.w64 num)), .a (.c (.sn za 0 0 oa na ca)), .a (.c (.sn zh 1 0 oh nh ch)), .any, .any, .any, .any, .any, .any, .any, .any, .any, .any, .any, .any, .any, .any, .any, .any, .any, .any, .any, .any]) rfl (fun w r0 hr _ => ?_)
  obtain ⟨x0, x1, x2, x3, x4, x5, rfl⟩ := len6s hr
  (repeat first | refine ⟨fun _ => ?_, fun h => absurd h (by rw []; decide)⟩ | refine ⟨fun h => absurd h (by rw []; decide), fun _ => ?_⟩ | refine ⟨fun _ => ?_, fun h => Bool.noConfusion h⟩ | refine ⟨fun h => Bool.noConfusion h, fun _ => ?_⟩)
  refine ⟨some [2], [], [(0, true), (1, true), (2, true), (3, true), (4, true), (5, true), (7, true), (8, true), (6, false), (9, false), (10, true), (11, true), (12, true), (13, true)], [], by kernel_rfl, ?_⟩
  (repeat first | refine And.intro (by omega) ?_ | refine And.intro (by decide) ?_ | (with_reducible refine frc_parts (by first | omega | decide) ?_) | (with_reducible refine frc_bytesL (by first | omega | decide) ?_) | refine And.intro rfl ?_)
  refine call_same (fn_knonce iv num) [2] rfl (by (repeat first | exact trivial | refine ent1 ?_)) (by (repeat first | exact trivial | refine ent1 ?_)) (fun _ _ => trivial) ?_
  rintro x hs' ⟨rfl, rfl⟩
  (repeat first | refine And.intro (by omega) ?_ | refine And.intro (by decide) ?_ | (with_reducible refine frc_parts (by first | omega | decide) ?_) | (with_reducible refine frc_bytesL (by first | omega | decide) ?_) | refine And.intro rfl ?_)
  refine call_same (fn_gopen za zh Na Nh oa oh na nh ca ch a b T P cnt key K E hK hE H (nonB iv num) hT hP hla hNa hca hza hna hlh hNh hch hzh hnh hcnt) [0, 1, 3, 4, 5] rfl (by (repeat first | exact trivial | refine ent1 ?_)) ?_ (fun _ _ => trivial) ?_
  · refine eqC_bts (eqC_bts ?_)
    (repeat first | exact trivial | refine ent1 ?_)
  rintro x hs' ⟨hx1, hx2, hx3⟩
  by_cases h16 : nh < 16
  · obtain ⟨rfl, rfl⟩ := hx1 h16
    (repeat first | refine And.intro (by omega) ?_ | refine And.intro (by decide) ?_ | (with_reducible refine frc_parts (by first | omega | decide) ?_) | (with_reducible refine frc_bytesL (by first | omega | decide) ?_) | refine And.intro rfl ?_)
    refine ⟨_, _, ⟨[0, 1, 2, 3, 4, 5], ⟨rfl, rfl, rfl⟩, ?_⟩, fun _ => ⟨rfl, rfl⟩, fun h => absurd h16 (by omega), fun h => absurd h16 (by omega)⟩
    (repeat first | exact trivial | refine ent1 ?_)
    refine eqC_bts (eqC_bts ?_)
    (repeat first | exact trivial | refine ent1 ?_)
  by_cases hall : ∀ i, i < 16 → L b (nh - 16 + i) = T i
  · obtain ⟨rfl, rfl⟩ := hx2 (by omega) hall
    (repeat first | refine And.intro (by omega) ?_ | refine And.intro (by decide) ?_ | (with_reducible refine frc_parts (by first | omega | decide) ?_) | (with_reducible refine frc_bytesL (by first | omega | decide) ?_) | refine And.intro rfl ?_)
    refine ⟨_, _, ⟨[0, 1, 2, 3, 4, 5, 6], ⟨rfl, rfl, rfl⟩, ?_⟩, fun h => absurd h h16, fun _ _ => ⟨rfl, rfl⟩, fun _ h => absurd hall h⟩
    (repeat first | exact trivial | refine ent1 ?_)
    refine eqC_bts (eqC_bts ?_)
    (repeat first | exact trivial | refine ent1 ?_)
  · obtain ⟨rfl, rfl⟩ := hx3 (by omega) hall
    (repeat first | refine And.intro (by omega) ?_ | refine And.intro (by decide) ?_ | (with_reducible refine frc_parts (by first | omega | decide) ?_) | (with_reducible refine frc_bytesL (by first | omega | decide) ?_) | refine And.intro rfl ?_)
    refine ⟨_, _, ⟨[0, 1, 2, 3, 4, 5], ⟨rfl, rfl, rfl⟩, ?_⟩, fun h => absurd h h16, fun _ h => absurd h hall, fun _ _ => ⟨rfl, rfl⟩⟩
    (repeat first | exact trivial | refine ent1 ?_)
    refine eqC_bts (eqC_bts ?_)
    (repeat first | exact trivial | refine ent1 ?_)
end Sx
end Go.Proofs.YtkjdkeolkigibaaGreat
end

section
/-
  The program's numbers put behind other bytes: mark, attach. No condition.
-/
namespace Go.Proofs.YtkjdkeolkigibaaGreat
set_option linter.unusedVariables false
namespace Vi
open Sha
/-- The first j bytes of k, without what tells how many there are. -/
def partL (n : BitVec 64) (k j : Nat) : Bs := tab j fun i => byteN n (k - 1 - i)
@[simp] theorem partL_len (n : BitVec 64) (k j : Nat) : (partL n k j).length = j := tab_len _ _
theorem L_part {n : BitVec 64} {k j i : Nat} (h : i < j) : L (partL n k j) i = byteN n (k - 1 - i) := L_tab h
theorem L_wide {n : BitVec 64} {k i : Nat} (h : i < k) : L (wideL n k) i = if i = 0 then byteN n (k - 1) ||| markB k else byteN n (k - 1 - i) := L_tab h
theorem partL_succ (n : BitVec 64) (k j : Nat) : partL n k (j + 1) = partL n k j ++ [byteN n (k - 1 - j)] := by
  unfold partL tab
  rw [List.range_succ, List.map_append]
  rfl
theorem partL_one (n : BitVec 64) (k : Nat) : partL n k 1 = [byteN n (k - 1)] := rfl
theorem shl8 : ∀ i : Nat, i < 8 → (8#64 * BitVec.ofInt 64 (i : Int)).toNat = 8 * i := by decide +kernel
theorem byte_at (n : BitVec 64) (k j : Nat) (hj : j < k) (hk : k ≤ 8) : BitVec.setWidth 8 (n >>> (8#64 * BitVec.ofInt 64 ((k : Int) - 1 - (j : Int))).toNat) = byteN n (k - 1 - j) := by
  rw [show (k : Int) - 1 - (j : Int) = ((k - 1 - j : Nat) : Int) by omega, shl8 _ (by omega)]
  rfl
end Vi
namespace Sx
open Sha Vi

/-- Bytes of an own slice, room behind them. -/
abbrev lsC (b : Bs) (c : Nat) : List Seg := [.row c (bytesF b.length (L b))]
theorem fn_vmark (k : Nat) (hk : okSz k) : Fn Tryz.prog tds 79 [] [.c (.int .i64 (k : Nat))] (fun _ => True) (fun x hs => x = .tup [.c (.w8 (markB k)), .c (.bool true)] ∧ hs = []) := by
  refine fn_of_body tds_ok follows_ Tryz.func79 rfl (t := .a (.c (.int .i64 (k : Nat))) :: anys (Tryz.f79.ntmps - 1)) rfl (fun w r0 hr _ => ?_)
  obtain rfl : r0 = [] := List.eq_nil_of_length_eq_zero hr
  rcases hk with rfl | rfl | rfl | rfl
  · refine ⟨fun h => ?_, fun h => absurd h (by decide)⟩
    exact ⟨.tup [.c (.w8 0#8), .c (.bool true)], [], ⟨[], ⟨rfl, rfl, rfl⟩, rfl, rfl, trivial⟩, rfl, rfl⟩
  · refine ⟨fun h => absurd h (by decide), fun _ => ⟨fun h => ?_, fun h => absurd h (by decide)⟩⟩
    exact ⟨.tup [.c (.w8 64#8), .c (.bool true)], [], ⟨[], ⟨rfl, rfl, rfl⟩, rfl, rfl, trivial⟩, rfl, rfl⟩
  · refine ⟨fun h => absurd h (by decide), fun _ => ⟨fun h => absurd h (by decide), fun _ => ⟨fun h => ?_, fun h => absurd h (by decide)⟩⟩⟩
    exact ⟨.tup [.c (.w8 128#8), .c (.bool true)], [], ⟨[], ⟨rfl, rfl, rfl⟩, rfl, rfl, trivial⟩, rfl, rfl⟩
  · refine ⟨fun h => absurd h (by decide), fun _ => ⟨fun h => absurd h (by decide), fun _ => ⟨fun h => absurd h (by decide), fun _ => ⟨fun h => ?_, fun h => absurd h (by decide)⟩⟩⟩⟩
    exact ⟨.tup [.c (.w8 192#8), .c (.bool true)], [], ⟨[], ⟨rfl, rfl, rfl⟩, rfl, rfl, trivial⟩, rfl, rfl⟩
theorem wide_row {b : Bs} {n : BitVec 64} {j : Nat} (hj : 1 ≤ j) (i : Nat) (hi : i < b.length + j) :
    upd (bytesF (b.length + j) (L (b ++ partL n j j))) b.length (.w8 (L (b ++ partL n j j) b.length ||| markB j)) i = .w8 (L (b ++ wideL n j) i) := by
  refine upd_bytes (by omega) (congrArg SC.w8 ?_) (fun q hq => ?_) i hi
  · rw [L_app, L_app, if_neg (by omega), if_neg (by omega), Nat.sub_self, L_part (by omega), L_wide (by omega), if_pos rfl, Nat.sub_zero]
  · by_cases h : q < b.length + j
    · rw [L_app, L_app]
      by_cases h1 : q < b.length
      · rw [if_pos h1, if_pos h1]
      · rw [if_neg h1, if_neg h1, L_part (by omega), L_wide (by omega), if_neg (by omega)]
    · have e1 : (b ++ partL n j j).length ≤ q := by simp; omega
      have e2 : (b ++ wideL n j).length ≤ q := by simp; omega
      unfold L
      rw [List.getD_eq_getElem?_getD, List.getD_eq_getElem?_getD, List.getElem?_eq_none e1, List.getElem?_eq_none e2]
set_option maxRecDepth 20000 in
theorem fn_vattach (b : Bs) (c : Nat) (n : BitVec 64) (k : Nat) (hk : okSz k) (hb : b.length ≤ 1000000) (hc : b.length ≤ c) : Fn Tryz.prog tds 80 [lsC b c] [.c (.sl 0 0 0 b.length c), .c (.w64 n), .c (.int .i64 (k : Nat))] (fun _ => True)
    (fun x hs => ∃ c', b.length + k ≤ c' ∧ x = .a (.c (.sl 1 0 0 (b ++ wideL n k).length c')) ∧ hs = [[], lsC (b ++ wideL n k) c']) := by
  refine fn_of_body tds_ok follows_ Tryz.func80 rfl (t := [.a (.c (.sl 0 0 0 b.length c)), .a (.c (.w64 (n))), .a (.c (.int .i64 ((k : Nat)))), .any, .any, .any, .any, .any, .any, .any, .any, .any, .any, .any, .any, .any, .any, .any, .any, .any, .any, .any, .any, .any, .any, .any, .any, .any, .any, .any, .any, .any, .any, .any, .any, .any, .any, .any, .any, .any, .any]) rfl (fun w r0 hr _ => ?_)
  obtain ⟨x0, rfl⟩ := List.length_eq_one_iff.1 hr
  have hk8 : 1 ≤ k ∧ k ≤ 8 := by rcases hk with rfl | rfl | rfl | rfl <;> omega
  (repeat first | refine And.intro (by omega) ?_ | refine And.intro (by decide) ?_ | (with_reducible refine frc_parts (by first | omega | decide) ?_) | (with_reducible refine frc_bytesL (by first | omega | decide) ?_) | refine And.intro rfl ?_)
  refine call_same (fn_vmark k hk) [] rfl (by (repeat first | exact trivial | refine ent1 ?_)) trivial (fun _ _ => trivial) ?_
  rintro x hs ⟨rfl, rfl⟩
  (repeat first | refine And.intro (by omega) ?_ | refine And.intro (by decide) ?_ | (with_reducible refine frc_parts (by first | omega | decide) ?_) | (with_reducible refine frc_bytesL (by first | omega | decide) ?_) | refine And.intro rfl ?_)
  refine .inl ⟨Option (Nat × Nat), fun x => match x with
    | none => ⟨[.a (.c (.sl 0 0 0 b.length c)), .a (.c (.w64 (n))), .a (.c (.int .i64 ((k : Nat)))), .any, .any, .any, .any, .a (.c (.w8 (markB k))), .any, .a (.c (.int .i64 ((b.length : Nat)))), .a (.c (.int .i64 ((k : Int) - 1))), .any, .any, .any, .any, .any, .any, .any, .any, .any, .any, .any, .any, .any, .any, .any, .any, .any, .any, .any, .any, .any, .any, .any, .any, .any, .any, .any, .any, .any, .any], [lsC b c]⟩
    | some (j, c') => ⟨[.a (.c (.sl 1 0 0 (b.length + j) c')), .a (.c (.w64 (n))), .a (.c (.int .i64 ((k : Nat)))), .any, .any, .any, .any, .a (.c (.w8 (markB k))), .any, .a (.c (.int .i64 ((b.length : Nat)))), .a (.c (.int .i64 ((k : Int) - 1 - (j : Int)))), .any, .any, .any, .any, .any, .any, .any, .any, .any, .any, .any, .any, .any, .any, .any, .any, .any, .any, .any, .any, .any, .any, .any, .any, .any, .any, .any, .any, .any, .any], [[], [.row c' (bytesF (b.length + j) (L (b ++ partL n k j)))]]⟩,
    fun x => match x with
    | none => True
    | some (j, c') => 1 ≤ j ∧ j ≤ k ∧ b.length + j ≤ c', fun x => match x with
    | none => 9
    | some (j, _) => 8 - j, ⟨none, [0], ⟨⟨rfl, rfl, rfl⟩, ?_⟩, trivial⟩, fun x => ?_⟩
  · (repeat first | exact trivial | refine ent1 ?_)
  rcases x with _ | ⟨j, c'⟩
  · intro _
    have e1 : decide (0 ≤ (k : Int) - 1) = true := decide_eq_true (by omega)
    (repeat first | refine And.intro (by omega) ?_ | refine And.intro (by decide) ?_ | refine And.intro rfl ?_ | refine And.intro (fun _ => ?_) (fun h => Bool.noConfusion h) | refine And.intro (fun h => Bool.noConfusion h) (fun _ => ?_) | refine And.intro (fun _ => ?_) (fun h => absurd h (by rw [e1]; decide)) | refine And.intro (fun h => absurd h (by rw [e1]; decide)) (fun _ => ?_))
    refine ⟨⟨by omega, by simp only [scale]; omega, by show (b.length + 1) * 1 ≤ 140737488355328; omega⟩, fun c' hc' => ?_⟩
    refine ⟨⟨by omega, by omega⟩, some (1, c'), [0, 2], ⟨⟨rfl, rfl, rfl⟩, ?_⟩, ⟨by omega, by omega, by omega⟩, by show 8 - 1 < 9; omega⟩
    (repeat first | exact trivial | refine ent1 ?_)
    refine ⟨fun j hj => eqC_bytes (fun i hi => ?_) j, trivial⟩
    rw [partL_one]
    exact app_row rfl rfl (fun i hi => bytesF_lt hi) (fun i hi => one_row (by have := byte_at n k 0 (by omega) (by omega); simpa using this) i hi) i hi
  · rintro ⟨h1, h2, h3⟩
    refine ⟨fun h => ?_, fun h => ?_⟩
    · have hj : j < k := by have : (0 : Int) ≤ (k : Int) - 1 - j := of_decide_eq_true h; omega
      (repeat first | refine And.intro (by omega) ?_ | refine And.intro (by decide) ?_ | (with_reducible refine frc_parts (by first | omega | decide) ?_) | (with_reducible refine frc_bytesL (by first | omega | decide) ?_) | refine And.intro rfl ?_)
      refine ⟨⟨by omega, by simp only [scale]; omega, by show (b.length + j + 1) * 1 ≤ 140737488355328; omega⟩, fun c2 hc2 => ?_⟩
      refine ⟨⟨by omega, by omega⟩, some (j + 1, c2), [0, 3], ⟨⟨rfl, rfl, rfl⟩, ?_⟩, ⟨by omega, by omega, by omega⟩, by dsimp only; omega⟩
      (repeat first | exact trivial | refine ent1 ?_)
      refine ⟨fun j' hj' => eqC_bytes (fun i hi => ?_) j', trivial⟩
      rw [partL_succ, ← List.append_assoc]
      exact app_row (by simp) rfl (fun i hi => bytesF_lt hi) (fun i hi => one_row (byte_at n k j hj (by omega)) i hi) i hi
    · obtain rfl : j = k := by have : ¬ (0 : Int) ≤ (k : Int) - 1 - j := of_decide_eq_false h; omega
      (repeat first | refine And.intro (by omega) ?_ | refine And.intro (by decide) ?_ | (with_reducible refine frc_parts (by first | omega | decide) ?_) | (with_reducible refine frc_bytesL (by first | omega | decide) ?_) | refine And.intro rfl ?_)
      refine ⟨.a (.c (.sl 1 0 0 (b ++ wideL n j).length c')), _, ⟨[0, 1], ⟨rfl, rfl, rfl⟩, ?_⟩, c', h3, rfl, rfl⟩
      refine ⟨rfl, by simp, rfl, ?_⟩
      (repeat first | exact trivial | refine ent1 ?_)
      refine ⟨fun i hi => eqC_bytes (fun i hi => ?_) i, trivial⟩
      have hi : i < b.length + j := by simpa using hi
      exact wide_row (by omega) i hi
end Sx
end Go.Proofs.YtkjdkeolkigibaaGreat
end

section
/-
  The program's writer of numbers and bytes; Wide. No condition.
-/
namespace Go.Proofs.YtkjdkeolkigibaaGreat
set_option linter.unusedVariables false
namespace Vi
open Sha
/-- Numbers, one behind the other. -/
def putAll : List (BitVec 64) → Bs
  | [] => []
  | n :: r => putL n ++ putAll r
theorem putAll_snoc : ∀ (l : List (BitVec 64)) (n : BitVec 64), putAll (l ++ [n]) = putAll l ++ putL n
  | [], n => by simp [putAll]
  | x :: l, n => by simp [putAll, putAll_snoc l n]
theorem putL_len (n : BitVec 64) : (putL n).length = lenN n := wideL_len _ _
theorem lenN_le (n : BitVec 64) : lenN n ≤ 8 := by have := lenN_spec n; omega
theorem putAll_len : ∀ l : List (BitVec 64), (putAll l).length ≤ 8 * l.length
  | [] => Nat.le_refl _
  | x :: l => by
    have := putAll_len l
    have := lenN_le x
    simp only [putAll, List.length_append, putL_len, List.length_cons]
    omega
theorem take_succ {α : Type} {l : List α} {i : Nat} {x : α} (h : l[i]? = some x) : l.take (i + 1) = l.take i ++ [x] := by
  rw [List.take_add_one, h]; rfl
end Vi
namespace Sx
open Sha Vi

/-- A writer with nothing in it; with bytes in block i. -/
abbrev wrN : List Seg := [.one (.slc none 0 0), .one (.int .i64 0)]
abbrev wrC (i : Nat) (b : Bs) (c : Nat) : List Seg := [.one (.sl i 0 0 b.length c), .one (.int .i64 0)]
set_option maxRecDepth 20000 in
theorem fn_wbytes0 (s : Sl) (hs : s.Ok) (h0 : 0 < s.l.length) : FnR Tryz.prog tds 58 1 [svB s, wrN] [.c (.p 1 0 0), .c (svC 0 s)] (fun _ => True)
    (fun y hs => ∃ c, s.l.length ≤ c ∧ y = .tup [] ∧ hs = [svB s, wrC 2 s.l c, lsC s.l c]) := by
  refine fn_of_body tds_ok follows_ Tryz.func58 rfl (t := .a (.c (.p 1 0 0)) :: .a (.c (svC 0 s)) :: anys (Tryz.f58.ntmps - 2)) rfl (fun w r0 hr0 _ => ?_)
  obtain ⟨x0, x1, rfl⟩ := len2' hr0
  have hsm := hs.small
  (repeat first | refine And.intro (by omega) ?_ | refine And.intro (by decide) ?_ | refine And.intro rfl ?_ | refine And.intro (fun _ => ?_) (fun h => Bool.noConfusion h) | refine And.intro (fun h => Bool.noConfusion h) (fun _ => ?_))
  refine sn_bts rfl hs.fit (fun h => by rw [hs.nil h]; rfl) (fun g hg => ?_)
  refine ⟨⟨rfl, rfl⟩, by show s.l.length * 1 ≤ 140737488355328; omega, fun hm0 => absurd hm0 (by omega), fun hm0 c' hc' => ?_⟩
  (repeat first | refine And.intro (by omega) ?_ | refine And.intro (by decide) ?_ | refine And.intro rfl ?_ | refine And.intro (fun _ => ?_) (fun h => Bool.noConfusion h) | refine And.intro (fun h => Bool.noConfusion h) (fun _ => ?_))
  refine ⟨.tup [], _, ⟨[0, 1, 2], ⟨rfl, rfl, rfl⟩, ?_⟩, c', hc', rfl, rfl⟩
  refine eqC_bts ?_
  (repeat first | exact trivial | refine ent1 ?_)
  exact ⟨fun j hj => eqC_bytes (fun i hi => new_row hg i hi) j, trivial⟩
set_option maxRecDepth 20000 in
theorem fn_wbytes (s : Sl) (hs : s.Ok) (b : Bs) (c : Nat) (hb : b.length ≤ 1000000) (hc : b.length ≤ c) : FnR Tryz.prog tds 58 1 [svB s, wrC 2 b c, lsC b c] [.c (.p 1 0 0), .c (svC 0 s)] (fun _ => True)
    (fun y hs => ∃ c', (b ++ s.l).length ≤ c' ∧ y = .tup [] ∧ hs = [svB s, wrC 3 (b ++ s.l) c', [], lsC (b ++ s.l) c']) := by
  refine fn_of_body tds_ok follows_ Tryz.func58 rfl (t := .a (.c (.p 1 0 0)) :: .a (.c (svC 0 s)) :: anys (Tryz.f58.ntmps - 2)) rfl (fun w r0 hr0 _ => ?_)
  obtain ⟨x0, x1, x2, rfl⟩ := len3' hr0
  have hsm := hs.small
  (repeat first | refine And.intro (by omega) ?_ | refine And.intro (by decide) ?_ | refine And.intro rfl ?_ | refine And.intro (fun _ => ?_) (fun h => Bool.noConfusion h) | refine And.intro (fun h => Bool.noConfusion h) (fun _ => ?_))
  refine sn_bts rfl hs.fit (fun h => by rw [hs.nil h]; rfl) (fun g hg => ?_)
  refine ⟨⟨hc, by simp only [scale]; omega, by show (b.length + s.l.length) * 1 ≤ 140737488355328; omega⟩, fun c' hc' => ?_⟩
  (repeat first | refine And.intro (by omega) ?_ | refine And.intro (by decide) ?_ | refine And.intro rfl ?_ | refine And.intro (fun _ => ?_) (fun h => Bool.noConfusion h) | refine And.intro (fun h => Bool.noConfusion h) (fun _ => ?_))
  refine ⟨.tup [], _, ⟨[0, 1, 2, 3], ⟨rfl, rfl, rfl⟩, ?_⟩, c', by simpa using hc', rfl, rfl⟩
  refine eqC_bts ?_
  refine ⟨rfl, by simp, ?_⟩
  (repeat first | exact trivial | refine ent1 ?_)
  refine ⟨fun j hj => eqC_bytes (fun i hi => ?_) j, trivial⟩
  exact app_row rfl rfl (fun i hi => bytesF_lt hi) hg i (by simpa using hi)
/-- Numbers in a row. -/
def numsF (l : List (BitVec 64)) : Nat → SC := fun j => match l[j]? with
  | some x => .w64 x
  | none => .any
theorem frc_nums {l : List (BitVec 64)} {j : Nat} {x : BitVec 64} {k : SC → Prop} (h : l[j]? = some x) (hk : k (.w64 x)) : frcSC (numsF l j) k := by
  unfold numsF; rw [h]; exact hk
theorem eqC_nums {q : List Nat} {l : List (BitVec 64)} {f : Nat → SC} (h : ∀ (j : Nat) (x : BitVec 64), l[j]? = some x → f j = .w64 x) (j : Nat) : eqC q (f j) (numsF l j) True := by
  unfold numsF
  cases e : l[j]? with
  | none => trivial
  | some x => rw [h j x e]; exact ⟨rfl, trivial⟩
theorem eqC_numsS {q : List Nat} {l : List (BitVec 64)} {j : Nat} : eqC q (numsF l j) (numsF l j) True := eqC_nums (fun j x h => by unfold numsF; rw [h]) j
set_option maxRecDepth 20000 in
theorem fn_wint (l : List (BitVec 64)) (M cm : Nat) (b : Bs) (c : Nat) (hl : ∀ n ∈ l, lenN n ≠ 0) (hM : l.length ≤ M) (hlm : l.length ≤ 1000) (hb : b.length ≤ 500000) (hc : b.length ≤ c) :
    FnR Tryz.prog tds 77 1 [[.row M (numsF l)], wrC 2 b c, lsC b c] [.c (.p 1 0 0), .c (.sl 0 0 0 l.length cm)] (fun _ => True)
    (fun y hs => (l = [] → y = .tup [] ∧ hs = [[.row M (numsF l)], wrC 2 b c, lsC b c]) ∧ (l ≠ [] → ∃ c', (b ++ putAll l).length ≤ c' ∧ y = .tup [] ∧ hs = [[.row M (numsF l)], wrC 3 (b ++ putAll l) c', [], lsC (b ++ putAll l) c'])) := by
  refine fn_of_body tds_ok follows_ Tryz.func77 rfl (t := .a (.c (.p 1 0 0)) :: .a (.c (.sl 0 0 0 l.length cm)) :: anys (Tryz.f77.ntmps - 2)) rfl (fun w r0 hr0 _ => ?_)
  obtain ⟨x0, x1, x2, rfl⟩ := len3' hr0
  (repeat first | refine And.intro (by omega) ?_ | refine And.intro (by decide) ?_ | refine And.intro rfl ?_ | refine And.intro (fun _ => ?_) (fun h => Bool.noConfusion h) | refine And.intro (fun h => Bool.noConfusion h) (fun _ => ?_))
  refine .inl ⟨Option (Nat × Nat × Bs), fun x => match x with
    | none => ⟨[.a (.c (.p 1 0 0)), .any, .any, .any, .any, .any, .any, .any, .any, .any, .any, .any, .any, .any, .any, .any, .a (.c (.sl 0 0 0 l.length cm)), .a (.c (.int .i64 ((l.length : Nat)))), .a (.c (.int .i64 (0))), .any, .any, .any, .any, .any, .any, .any, .any, .any, .any, .any, .any, .any, .any, .any, .any, .any, .any, .any, .any, .any], [[.row M (numsF l)], wrC 2 b c, lsC b c]⟩
    | some (j, c', B) => ⟨[.a (.c (.p 1 0 0)), .any, .any, .any, .any, .any, .any, .any, .any, .any, .any, .any, .any, .any, .any, .any, .a (.c (.sl 0 0 0 l.length cm)), .a (.c (.int .i64 ((l.length : Nat)))), .a (.c (.int .i64 ((j : Nat)))), .any, .any, .any, .any, .any, .any, .any, .any, .any, .any, .any, .any, .any, .any, .any, .any, .any, .any, .any, .any, .any], [[.row M (numsF l)], wrC 3 B c', [], lsC B c']⟩,
    fun x => match x with
    | none => True
    | some (j, c', B) => 1 ≤ j ∧ j ≤ l.length ∧ B.length ≤ c' ∧ B = b ++ putAll (l.take j), fun x => match x with
    | none => l.length + 1
    | some (j, _, _) => l.length - j, ⟨none, [0, 1, 2], ⟨⟨rfl, rfl, rfl⟩, ?_⟩, trivial⟩, fun x => ?_⟩
  · (repeat first | exact trivial | refine ent1 ?_)
    exact ⟨fun j hj => eqC_numsS, by (repeat first | exact trivial | refine ent1 ?_)⟩
  rcases x with _ | ⟨j, c', B⟩
  · intro _
    refine ⟨fun h => ?_, fun h => ?_⟩
    · have hl0 : 0 < l.length := by have : (0 : Int) < (l.length : Int) := of_decide_eq_true h; omega
      obtain ⟨n, hn⟩ : ∃ n, l[0]? = some n := ⟨l[0], List.getElem?_eq_getElem hl0⟩
      have hne := hl n (List.mem_of_getElem? hn)
      (repeat first | refine And.intro (by omega) ?_ | refine And.intro (by decide) ?_ | (with_reducible refine frc_parts (by first | omega | decide) ?_) | (with_reducible refine frc_bytesL (by first | omega | decide) ?_) | refine And.intro rfl ?_)
      have hn' : l[Int.toNat 0 + 0]? = some n := hn
      with_reducible refine frc_nums hn' ?_
      (repeat first | refine And.intro (by omega) ?_ | refine And.intro (by decide) ?_ | (with_reducible refine frc_parts (by first | omega | decide) ?_) | (with_reducible refine frc_bytesL (by first | omega | decide) ?_) | refine And.intro rfl ?_)
      refine call_same (fn_vlen n) [] rfl (by (repeat first | exact trivial | refine ent1 ?_)) trivial (fun _ _ => trivial) ?_
      rintro x hs ⟨rfl, rfl⟩
      have e1 : decide ((lenN n : Int) = 0) = false := decide_eq_false (by omega)
      (repeat first | refine And.intro (by omega) ?_ | refine And.intro (by decide) ?_ | refine And.intro rfl ?_ | refine And.intro (fun _ => ?_) (fun h => Bool.noConfusion h) | refine And.intro (fun h => Bool.noConfusion h) (fun _ => ?_) | refine And.intro (fun _ => ?_) (fun h => absurd h (by rw [e1]; decide)) | refine And.intro (fun h => absurd h (by rw [e1]; decide)) (fun _ => ?_))
      refine call_same (fn_vattach b c n (lenN n) (lenN_ok hne) (by omega) hc) [2] rfl (by (repeat first | exact trivial | refine ent1 ?_)) ?_ (fun _ _ => trivial) ?_
      · (repeat first | exact trivial | refine ent1 ?_)
      rintro x hs ⟨c', hc', rfl, rfl⟩
      have ep : putAll (l.take 1) = wideL n (lenN n) := by
        rw [take_succ hn, putAll_snoc]; simp [putAll, putL]
      (repeat first | refine And.intro (by omega) ?_ | refine And.intro (by decide) ?_ | (with_reducible refine frc_parts (by first | omega | decide) ?_) | (with_reducible refine frc_bytesL (by first | omega | decide) ?_) | refine And.intro rfl ?_)
      refine ⟨some (1, c', b ++ wideL n (lenN n)), [0, 1, 2, 3], ⟨⟨rfl, rfl, rfl⟩, ?_⟩, ⟨by omega, by omega, by simpa using hc', by rw [ep]⟩, by dsimp only; omega⟩
      (repeat first | exact trivial | refine ent1 ?_)
      exact ⟨fun j hj => eqC_numsS, by (repeat first | exact trivial | refine ent1 ?_)⟩
    · have hl0 : l = [] := List.eq_nil_of_length_eq_zero (by have : ¬ (0 : Int) < (l.length : Int) := of_decide_eq_false h; omega)
      (repeat first | refine And.intro (by omega) ?_ | refine And.intro (by decide) ?_ | (with_reducible refine frc_parts (by first | omega | decide) ?_) | (with_reducible refine frc_bytesL (by first | omega | decide) ?_) | refine And.intro rfl ?_)
      refine ⟨.tup [], _, ⟨[0, 1, 2], ⟨rfl, rfl, rfl⟩, ?_⟩, fun _ => ⟨rfl, rfl⟩, fun h => absurd hl0 h⟩
      exact ⟨rfl, fun j hj => eqC_numsS, by (repeat first | exact trivial | refine ent1 ?_)⟩
  · rintro ⟨h1, h2, h3, hB⟩
    refine ⟨fun h => ?_, fun h => ?_⟩
    · have hj : j < l.length := by have : (j : Int) < (l.length : Int) := of_decide_eq_true h; omega
      obtain ⟨n, hn⟩ : ∃ n, l[j]? = some n := ⟨l[j], List.getElem?_eq_getElem hj⟩
      have hne := hl n (List.mem_of_getElem? hn)
      (repeat first | refine And.intro (by omega) ?_ | refine And.intro (by decide) ?_ | (with_reducible refine frc_parts (by first | omega | decide) ?_) | (with_reducible refine frc_bytesL (by first | omega | decide) ?_) | refine And.intro rfl ?_)
      have hn' : l[((j : Nat) : Int).toNat + 0]? = some n := hn
      with_reducible refine frc_nums hn' ?_
      (repeat first | refine And.intro (by omega) ?_ | refine And.intro (by decide) ?_ | (with_reducible refine frc_parts (by first | omega | decide) ?_) | (with_reducible refine frc_bytesL (by first | omega | decide) ?_) | refine And.intro rfl ?_)
      refine call_same (fn_vlen n) [] rfl (by (repeat first | exact trivial | refine ent1 ?_)) trivial (fun _ _ => trivial) ?_
      rintro x hs ⟨rfl, rfl⟩
      have e1 : decide ((lenN n : Int) = 0) = false := decide_eq_false (by omega)
      (repeat first | refine And.intro (by omega) ?_ | refine And.intro (by decide) ?_ | refine And.intro rfl ?_ | refine And.intro (fun _ => ?_) (fun h => Bool.noConfusion h) | refine And.intro (fun h => Bool.noConfusion h) (fun _ => ?_) | refine And.intro (fun _ => ?_) (fun h => absurd h (by rw [e1]; decide)) | refine And.intro (fun h => absurd h (by rw [e1]; decide)) (fun _ => ?_))
      have hpl := putAll_len (l.take j)
      have htl : (l.take j).length ≤ 1000 := by rw [List.length_take]; omega
      refine call_same (fn_vattach B c' n (lenN n) (lenN_ok hne) (by rw [hB, List.length_append]; have : (putAll (l.take j)).length ≤ 8 * (l.take j).length := hpl; omega) h3) [3] rfl (by (repeat first | exact trivial | refine ent1 ?_)) ?_ (fun _ _ => trivial) ?_
      · (repeat first | exact trivial | refine ent1 ?_)
      rintro x hs ⟨c2, hc2, rfl, rfl⟩
      have ep : b ++ putAll (l.take (j + 1)) = b ++ putAll (l.take j) ++ wideL n (lenN n) := by
        rw [take_succ hn, putAll_snoc, List.append_assoc]; rfl
      (repeat first | refine And.intro (by omega) ?_ | refine And.intro (by decide) ?_ | (with_reducible refine frc_parts (by first | omega | decide) ?_) | (with_reducible refine frc_bytesL (by first | omega | decide) ?_) | refine And.intro rfl ?_)
      refine ⟨some (j + 1, c2, B ++ wideL n (lenN n)), [0, 1, 2, 4], ⟨⟨rfl, rfl, rfl⟩, ?_⟩, ⟨by omega, by omega, by simpa using hc2, by rw [ep, hB]⟩, by dsimp only; omega⟩
      (repeat first | exact trivial | refine ent1 ?_)
      exact ⟨fun j hj => eqC_numsS, by (repeat first | exact trivial | refine ent1 ?_)⟩
    · have hj : j = l.length := by have : ¬ (j : Int) < (l.length : Int) := of_decide_eq_false h; omega
      subst hj
      rw [List.take_length] at hB
      subst hB
      (repeat first | refine And.intro (by omega) ?_ | refine And.intro (by decide) ?_ | (with_reducible refine frc_parts (by first | omega | decide) ?_) | (with_reducible refine frc_bytesL (by first | omega | decide) ?_) | refine And.intro rfl ?_)
      refine ⟨.tup [], _, ⟨[0, 1, 2, 3], ⟨rfl, rfl, rfl⟩, ?_⟩, fun h => absurd h (by intro e; subst e; simp at h1), fun _ => ⟨c', h3, rfl, rfl⟩⟩
      exact ⟨rfl, fun j hj => eqC_numsS, by (repeat first | exact trivial | refine ent1 ?_)⟩
end Sx
end Go.Proofs.YtkjdkeolkigibaaGreat
end

section
/-
  The program's writer: long ones, all of it; Wide. No condition.
-/
namespace Go.Proofs.YtkjdkeolkigibaaGreat
set_option linter.unusedVariables false
namespace Vi
open Sha
/-- Some bytes, their number ahead. -/
def longL (l : Bs) : Bs := putL (BitVec.ofNat 64 l.length) ++ l
theorem lenN_of {n : Nat} (h : n ≤ 1000000) : lenN (BitVec.ofNat 64 n) ≠ 0 := by
  have := lenN_spec (BitVec.ofNat 64 n)
  rw [BitVec.toNat_ofNat, Nat.mod_eq_of_lt (by omega)] at this
  omega
theorem longL_len (l : Bs) : (longL l).length ≤ 8 + l.length := by
  have := lenN_le (BitVec.ofNat 64 l.length)
  simp only [longL, List.length_append, putL_len]
  omega
end Vi
namespace Sx
open Sha Vi

set_option maxRecDepth 20000 in
theorem fn_wlong (s : Sl) (hs : s.Ok) (b : Bs) (c : Nat) (hb : b.length ≤ 400000) (hc : b.length ≤ c) : FnR Tryz.prog tds 60 1 [svB s, wrC 2 b c, lsC b c] [.c (.p 1 0 0), .c (svC 0 s)] (fun _ => True)
    (fun y hs => ∃ c', (b ++ longL s.l).length ≤ c' ∧ y = .tup [] ∧ hs = [svB s, wrC 3 (b ++ longL s.l) c', [], lsC (b ++ longL s.l) c']) := by
  refine fn_of_body tds_ok follows_ Tryz.func60 rfl (t := .a (.c (.p 1 0 0)) :: .a (.c (svC 0 s)) :: anys (Tryz.f60.ntmps - 2)) rfl (fun w r0 hr0 _ => ?_)
  obtain ⟨x0, x1, x2, rfl⟩ := len3' hr0
  have hsm := hs.small
  have hne := lenN_of hsm
  (repeat first | refine And.intro (by omega) ?_ | refine And.intro (by decide) ?_ | (with_reducible refine frc_parts (by first | omega | decide) ?_) | (with_reducible refine frc_bytesL (by first | omega | decide) ?_) | refine And.intro rfl ?_)
  refine call_same (fn_wint [BitVec.ofNat 64 s.l.length] 1 1 b c (fun n hn => by simp at hn; rw [hn]; exact hne) (Nat.le_refl _) (by simp) (by omega) hc) [3, 1, 2] rfl (by (repeat first | exact trivial | refine ent1 ?_)) ?_ (fun _ _ => trivial) ?_
  · refine ⟨rfl, fun j hj => eqC_nums (fun i x h => ?_) j, ?_⟩
    · have hi : i = 0 := by
        have := (List.getElem?_eq_some_iff.1 h).1
        simp at this
        exact this
      subst hi
      simp at h
      subst h
      show SC.w64 (BitVec.ofInt 64 ((s.l.length : Nat) : Int)) = _
      rw [BitVec.ofInt_natCast]
    (repeat first | exact trivial | refine ent1 ?_)
  rintro x hs' ⟨-, hx⟩
  obtain ⟨c1, hc1, rfl, rfl⟩ := hx (by simp)
  clear hx
  obtain ⟨B, hB⟩ : ∃ B, b ++ putAll [BitVec.ofNat 64 s.l.length] = B := ⟨_, rfl⟩
  have hBl : B.length ≤ 400008 := by
    have := putAll_len [BitVec.ofNat 64 s.l.length]
    rw [← hB, List.length_append]
    simp only [List.length_cons, List.length_nil] at this
    omega
  rw [hB] at hc1 ⊢
  have hf : b ++ longL s.l = B ++ s.l := by rw [← hB]; simp [longL, putAll]
  rw [hf]
  (repeat first | refine And.intro (by omega) ?_ | refine And.intro (by decide) ?_ | (with_reducible refine frc_parts (by first | omega | decide) ?_) | (with_reducible refine frc_bytesL (by first | omega | decide) ?_) | refine And.intro rfl ?_)
  refine call_same (fn_wbytes s hs B c1 (by omega) hc1) [0, 1, 4] rfl (by (repeat first | exact trivial | refine ent1 ?_)) ?_ (fun _ _ => trivial) ?_
  · refine eqC_bts ?_
    (repeat first | exact trivial | refine ent1 ?_)
  rintro x hs' ⟨c2, hc2, rfl, rfl⟩
  refine ⟨.tup [], _, ⟨[0, 1, 2, 5], ⟨rfl, rfl, rfl⟩, ?_⟩, c2, hc2, rfl, rfl⟩
  refine eqC_bts ?_
  (repeat first | exact trivial | refine ent1 ?_)
set_option maxRecDepth 20000 in
theorem fn_wdone (b : Bs) (c : Nat) (hb : b.length ≤ 1000000) (hc : b.length ≤ c) (h0 : 0 < b.length) : FnR Tryz.prog tds 59 2 [wrC 1 b c, lsC b c] [.c (.p 0 0 0)] (fun _ => True)
    (fun y hs => ∃ c', b.length ≤ c' ∧ y = .tup [.c (.sl 2 0 0 b.length c'), .c (.int .i64 0)] ∧ hs = [wrC 1 b c, lsC b c, lsC b c']) := by
  refine fn_of_body tds_ok follows_ Tryz.func59 rfl (t := .a (.c (.p 0 0 0)) :: anys (Tryz.f59.ntmps - 1)) rfl (fun w r0 hr0 _ => ?_)
  obtain ⟨x0, x1, rfl⟩ := len2' hr0
  (repeat first | refine And.intro (by omega) ?_ | refine And.intro (by decide) ?_ | refine And.intro rfl ?_ | refine And.intro (fun _ => ?_) (fun h => Bool.noConfusion h) | refine And.intro (fun h => Bool.noConfusion h) (fun _ => ?_))
  refine ⟨by show 0 + b.length ≤ c; omega, ⟨rfl, rfl⟩, by show b.length * 1 ≤ 140737488355328; omega, fun hm0 => absurd hm0 (by omega), fun hm0 c' hc' => ?_⟩
  refine ⟨.tup [.c (.sl 2 0 0 b.length c'), .c (.int .i64 0)], _, ⟨[0, 1, 2], ⟨rfl, rfl, rfl⟩, ?_⟩, c', hc', rfl, rfl⟩
  (repeat first | exact trivial | refine ent1 ?_)
  exact ⟨fun j hj => eqC_bytes (fun i hi => new_row (m := b) (fun q hq => bytesF_lt hq) i hi) j, trivial⟩
set_option maxRecDepth 20000 in
theorem fn_vwide (n : BitVec 64) (k : Nat) (hk : okSz k) (h0 : lenN n ≠ 0) (h1 : lenN n ≤ k) : Fn Tryz.prog tds 61 [] [.c (.slc none 0 0), .c (.w64 n), .c (.int .i64 (k : Nat))] (fun _ => True)
    (fun y hs => ∃ c', k ≤ c' ∧ y = .tup [.c (.sl 0 0 0 (wideL n k).length c'), .c (.int .i64 0)] ∧ hs = [lsC (wideL n k) c']) := by
  refine fn_of_body tds_ok follows_ Tryz.func61 rfl (t := .a (.c (.slc none 0 0)) :: .a (.c (.w64 n)) :: .a (.c (.int .i64 (k : Nat))) :: anys (Tryz.f61.ntmps - 3)) rfl (fun w r0 hr _ => ?_)
  obtain rfl : r0 = [] := List.eq_nil_of_length_eq_zero hr
  have hk8 : 1 ≤ k ∧ k ≤ 8 := by rcases hk with rfl | rfl | rfl | rfl <;> omega
  (repeat first | refine And.intro (by omega) ?_ | refine And.intro (by decide) ?_ | (with_reducible refine frc_parts (by first | omega | decide) ?_) | (with_reducible refine frc_bytesL (by first | omega | decide) ?_) | refine And.intro rfl ?_)
  refine call_same (fn_vlen n) [] rfl (by (repeat first | exact trivial | refine ent1 ?_)) trivial (fun _ _ => trivial) ?_
  rintro x hs ⟨rfl, rfl⟩
  (repeat first | refine And.intro (by omega) ?_ | refine And.intro (by decide) ?_ | (with_reducible refine frc_parts (by first | omega | decide) ?_) | (with_reducible refine frc_bytesL (by first | omega | decide) ?_) | refine And.intro rfl ?_)
  refine call_same (fn_vmark k hk) [] rfl (by (repeat first | exact trivial | refine ent1 ?_)) trivial (fun _ _ => trivial) ?_
  rintro x hs ⟨rfl, rfl⟩
  have e1 : decide ((lenN n : Int) = 0) = false := decide_eq_false (by omega)
  have e2 : decide ((k : Int) < (lenN n : Int)) = false := decide_eq_false (by omega)
  (repeat first | refine And.intro (by omega) ?_ | refine And.intro (by decide) ?_ | refine And.intro rfl ?_ | refine And.intro (fun _ => ?_) (fun h => Bool.noConfusion h) | refine And.intro (fun h => Bool.noConfusion h) (fun _ => ?_) | refine And.intro (fun _ => ?_) (fun h => absurd h (by rw [e1]; decide)) | refine And.intro (fun h => absurd h (by rw [e1]; decide)) (fun _ => ?_) | refine And.intro (fun _ => ?_) (fun h => absurd h (by rw [e2]; decide)) | refine And.intro (fun h => absurd h (by rw [e2]; decide)) (fun _ => ?_))
  refine ⟨by show (0 : Int) ≤ 0 ∧ (0 : Int) ≤ 0 + (k : Int) ∧ (0 + (k : Int)) * 1 ≤ 140737488355328 ∧ 0 + (k : Int) ≤ 9223372036854775807; omega, ?_⟩
  refine frcN_of (m := 0) rfl ?_
  refine frcN_of (m := k) (by omega) ?_
  (repeat first | refine And.intro (by omega) ?_ | refine And.intro (by decide) ?_ | (with_reducible refine frc_parts (by first | omega | decide) ?_) | (with_reducible refine frc_bytesL (by first | omega | decide) ?_) | refine And.intro rfl ?_)
  refine call_same (fn_vattach [] k n k hk (Nat.zero_le _) (Nat.zero_le _)) [0] rfl (by (repeat first | exact trivial | refine ent1 ?_)) ?_ (fun _ _ => trivial) ?_
  · refine ⟨rfl, fun j hj => eqC_bytes (fun i hi => by simp at hi) j, trivial⟩
  rintro x hs ⟨c', hc', rfl, rfl⟩
  refine ⟨.tup [.c (.sl 0 0 0 (wideL n k).length c'), .c (.int .i64 0)], _, ⟨[1], ⟨rfl, rfl, rfl⟩, ?_⟩, c', by simpa using hc', rfl, rfl⟩
  (repeat first | exact trivial | refine ent1 ?_)
end Sx
end Go.Proofs.YtkjdkeolkigibaaGreat
end
