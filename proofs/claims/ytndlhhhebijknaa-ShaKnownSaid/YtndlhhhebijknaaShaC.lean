/-
  SHA-256: one block gone through. No condition.
-/
import Derived.Test.YtndlhhhebijknaaShaB
namespace Go.Proofs.Ytndlhhhebijknaa
set_option linter.unusedVariables false
namespace Sx
open Sha

theorem upd_w32 {f g : Nat → SC} {k : Nat} {v : SC} (hv : v = g k) (hf : ∀ j, j ≠ k → f j = g j) (j : Nat) : upd f k v j = g j := by
  unfold upd
  split
  · rename_i h; rw [h, hv]
  · rename_i h; exact hf j h
set_option maxHeartbeats 4000000 in
set_option maxRecDepth 20000 in
theorem fn_smix (V : Nat → BitVec 32) (P : Nat → BitVec 8) (hv : Int) (a : BitVec 64) :
    FnR Try.prog tds 65 1 [shaT 1 0 first steps, digC 0 V P hv a] [.c (.p 1 0 0)] (fun _ => True) (fun x hs => x = .tup [] ∧ hs = [shaT 1 0 first steps, digC 0 (compress V P) P hv a]) := by
  refine fn_of_body tds_ok follows_ Try.func65 rfl (t := .a (.c (.p 1 0 0)) :: anys 206) rfl (fun w r0 hr _ => ?_)
  obtain ⟨x0, x1, rfl⟩ := len2' hr
  refine .inl ⟨Nat, fun k => ⟨.a (.c (.p 1 0 0)) :: .any :: .a (.c (.p 2 0 0)) :: (anys 20 ++ (.a (.c (.int .i64 (k : Int))) :: anys 183)), [shaT 1 0 first steps, digC 0 V P hv a, [.row 64 fun i => .w32 (if i < k then w0 P i else 0#32)]]⟩, fun k => k ≤ 16, fun k => 16 - k, ⟨0, [0, 1, 2], ⟨⟨rfl, rfl, rfl⟩, ?_⟩, by omega⟩, fun k hk => ⟨fun h => ?_, fun h => ?_⟩⟩
  · (repeat first | exact trivial | refine ⟨rfl, ?_⟩ | refine ⟨fun _ _ => ⟨rfl, trivial⟩, ?_⟩ | refine ⟨by omega, ?_⟩)
  · have hlt : (k : Int) < 16 := of_decide_eq_true h
    (repeat first | refine ⟨by omega, ?_⟩ | refine ⟨by decide, ?_⟩ | refine ⟨idx8 _, ?_⟩ | refine ⟨lt8 (Nat.le_refl _) _, ?_⟩ | refine ⟨rfl, ?_⟩)
    have e4 : (4 * (k : Int)).toNat = 4 * k := by omega
    have e64 : ((64 : Nat) : Int).toNat = 64 := rfl
    simp only [frcN_eq, e4, e64, if_neg (show ¬ 64 = 4 * k by omega)]
    refine ⟨none, [], [(0, true), (1, true), (2, true), (3, true), (4, true), (5, true), (6, true), (7, true), (8, true), (9, true), (10, true), (11, true), (12, true), (13, true), (14, true), (15, true), (16, true), (17, true), (18, true), (19, true), (20, true), (21, true), (22, true), (23, true)], [24], by kernel_rfl, ?_⟩
    repeat first
      | refine ⟨by omega, ?_⟩
    refine ⟨rfl, ⟨by omega, by omega⟩, k + 1, [0, 1, 2], ⟨⟨rfl, rfl, rfl⟩, ?_⟩, by first | omega | (dsimp only; omega), by first | omega | (dsimp only; omega)⟩
    (repeat first | exact trivial | refine ⟨rfl, ?_⟩ | refine ⟨fun _ _ => ⟨rfl, trivial⟩, ?_⟩ | refine ⟨by omega, ?_⟩)
    refine ⟨fun j hj => ?_, trivial⟩
    have e0 : (k : Int).toNat + 0 = k := by omega
    have i0 : Int.toNat 0 + (0 + 4 * k * 1) = 4 * k := by omega
    have i1 : Int.toNat 1 + (0 + 4 * k * 1) = 4 * k + 1 := by omega
    have i2 : Int.toNat 2 + (0 + 4 * k * 1) = 4 * k + 2 := by omega
    have i3 : Int.toNat 3 + (0 + 4 * k * 1) = 4 * k + 3 := by omega
    rw [e0, i0, i1, i2, i3]
    refine eqC_w32 ((upd_w32 (g := fun i => .w32 (if i < k + 1 then w0 P i else 0#32)) ?_ ?_ j).trans rfl)
    · simp only [if_pos (show k < k + 1 by omega)]
      rfl
    · intro j hjk
      have : j < k + 1 ↔ j < k := by omega
      simp only [this]
  · obtain rfl : k = 16 := by have : ¬ (k : Int) < 16 := of_decide_eq_false h; have hk : k ≤ 16 := hk; omega
    refine .inl ⟨Nat, fun k => ⟨.a (.c (.p 1 0 0)) :: .any :: .a (.c (.p 2 0 0)) :: .any :: .any :: .a (.c (.int .i64 ((16 + k : Nat) : Int))) :: anys 201, [shaT 1 0 first steps, digC 0 V P hv a, [.row 64 fun i => .w32 (wS P k i)]]⟩, fun k => k ≤ 48, fun k => 48 - k, ⟨0, [0, 1, 2], ⟨⟨rfl, rfl, rfl⟩, ?_⟩, by omega⟩, fun k hk => ⟨fun h => ?_, fun h => ?_⟩⟩
    · (repeat first | exact trivial | refine ⟨rfl, ?_⟩ | refine ⟨fun _ _ => ⟨rfl, trivial⟩, ?_⟩ | refine ⟨by omega, ?_⟩)
    · have hlt : ((16 + k : Nat) : Int) < 64 := of_decide_eq_true h
      refine ⟨none, [], [(0, true), (1, true), (2, true), (3, true), (4, true), (5, true), (6, true), (7, true), (8, true), (9, true)], [], by kernel_rfl, ?_⟩
      (repeat first | refine ⟨by omega, ?_⟩ | refine ⟨by decide, ?_⟩ | refine ⟨idx8 _, ?_⟩ | refine ⟨lt8 (Nat.le_refl _) _, ?_⟩)
      refine ⟨by kernel_rfl, call_same (fn_rot32 _ 7 (by omega) (by omega)) [] rfl ⟨rfl, rfl, trivial⟩ trivial (fun _ _ => trivial) ?_⟩
      rintro v hs ⟨rfl, rfl⟩
      refine ⟨by kernel_rfl, call_same (fn_rot32 _ 18 (by omega) (by omega)) [] rfl ⟨rfl, rfl, trivial⟩ trivial (fun _ _ => trivial) ?_⟩
      rintro v hs ⟨rfl, rfl⟩
      refine ⟨by kernel_rfl, call_same (fn_rot32 _ 17 (by omega) (by omega)) [] rfl ⟨rfl, rfl, trivial⟩ trivial (fun _ _ => trivial) ?_⟩
      rintro v hs ⟨rfl, rfl⟩
      refine ⟨by kernel_rfl, call_same (fn_rot32 _ 19 (by omega) (by omega)) [] rfl ⟨rfl, rfl, trivial⟩ trivial (fun _ _ => trivial) ?_⟩
      rintro v hs ⟨rfl, rfl⟩
      refine ⟨none, [], [(0, true), (1, true), (2, true), (3, true), (4, true), (5, true), (6, true), (7, true), (8, true), (9, true), (10, true), (11, true), (12, true), (13, true), (14, true)], [15], by kernel_rfl, ?_⟩
      (repeat first | refine ⟨by omega, ?_⟩ | refine ⟨by decide, ?_⟩ | refine ⟨idx8 _, ?_⟩ | refine ⟨lt8 (Nat.le_refl _) _, ?_⟩)
      refine ⟨rfl, ⟨by omega, by omega⟩, k + 1, [0, 1, 2], ⟨⟨rfl, rfl, rfl⟩, ?_⟩, by first | omega | (dsimp only; omega), by first | omega | (dsimp only; omega)⟩
      (repeat first | exact trivial | refine ⟨rfl, ?_⟩ | refine ⟨fun _ _ => ⟨rfl, trivial⟩, ?_⟩ | refine ⟨by omega, ?_⟩)
      refine ⟨fun j hj => ?_, trivial⟩
      have j0 : ((16 + k : Nat) : Int).toNat + 0 = 16 + k := by omega
      have j1 : (((16 + k : Nat) : Int) - 16).toNat + 0 = k := by omega
      have j2 : (((16 + k : Nat) : Int) - 15).toNat + 0 = k + 1 := by omega
      have j3 : (((16 + k : Nat) : Int) - 7).toNat + 0 = k + 9 := by omega
      have j4 : (((16 + k : Nat) : Int) - 2).toNat + 0 = k + 14 := by omega
      rw [j0, j1, j2, j3, j4]
      refine eqC_w32 ((upd_w32 (g := fun i => .w32 (wS P (k + 1) i)) ?_ ?_ j).trans rfl)
      · simp only [wS]
        rfl
      · intro i hi
        simp only [wS, if_neg hi]
    · obtain rfl : k = 48 := by have : ¬ ((16 + k : Nat) : Int) < 64 := of_decide_eq_false h; have hk : k ≤ 48 := hk; omega
      obtain ⟨W, hW⟩ : ∃ W, wS P 48 = W := ⟨_, rfl⟩
      rw [hW]
      (repeat first | refine ⟨by omega, ?_⟩ | refine ⟨by decide, ?_⟩ | refine ⟨idx8 _, ?_⟩ | refine ⟨lt8 (Nat.le_refl _) _, ?_⟩ | refine ⟨rfl, ?_⟩)
      refine .inl ⟨Nat, fun k => ⟨.a (.c (.p 1 0 0)) :: .any :: .a (.c (.p 2 0 0)) :: (anys 7 ++ (.a (.c (.p 3 0 0)) :: (anys 93 ++ (.a (.c (.int .i64 (k : Int))) :: anys 102)))), [shaT 1 0 first steps, digC 0 V P hv a, [.row 64 fun i => .w32 (W i)], [.row 8 fun i => .w32 (vR W V k i)]]⟩, fun k => k ≤ 64, fun k => 64 - k, ⟨0, [0, 1, 2, 3], ⟨⟨rfl, rfl, rfl⟩, ?_⟩, by omega⟩, fun k hk => ⟨fun h => ?_, fun h => ?_⟩⟩
      · (repeat first | exact trivial | refine ⟨rfl, ?_⟩ | refine ⟨fun _ _ => ⟨rfl, trivial⟩, ?_⟩ | refine ⟨by omega, ?_⟩)
      · have hlt : (k : Int) < 64 := of_decide_eq_true h
        obtain ⟨v, hv⟩ : ∃ v, vR W V k = v := ⟨_, rfl⟩
        rw [hv]
        refine ⟨none, [], [(0, true), (1, true), (2, true), (3, true), (4, true), (5, true), (6, true), (7, true), (8, true), (9, true), (10, true), (11, true), (12, true), (13, true), (14, true), (15, true), (16, true), (17, true)], [], by kernel_rfl, ?_⟩
        (repeat first | refine ⟨by omega, ?_⟩ | refine ⟨by decide, ?_⟩ | refine ⟨idx8 _, ?_⟩ | refine ⟨lt8 (Nat.le_refl _) _, ?_⟩)
        refine ⟨by kernel_rfl, call_same (fn_rot32 _ 6 (by omega) (by omega)) [] rfl ⟨rfl, rfl, trivial⟩ trivial (fun _ _ => trivial) ?_⟩
        rintro v hs ⟨rfl, rfl⟩
        refine ⟨by kernel_rfl, call_same (fn_rot32 _ 11 (by omega) (by omega)) [] rfl ⟨rfl, rfl, trivial⟩ trivial (fun _ _ => trivial) ?_⟩
        rintro v hs ⟨rfl, rfl⟩
        refine ⟨by kernel_rfl, call_same (fn_rot32 _ 25 (by omega) (by omega)) [] rfl ⟨rfl, rfl, trivial⟩ trivial (fun _ _ => trivial) ?_⟩
        rintro v hs ⟨rfl, rfl⟩
        refine ⟨none, [], [(0, true), (1, true), (2, true), (3, true), (4, true), (5, true), (6, true), (7, true), (8, true), (9, true), (10, true), (11, true), (12, true), (13, true), (14, true), (15, true), (16, true), (17, true), (18, true), (19, true), (20, true), (21, true), (22, true), (23, true), (24, true), (25, true), (26, true), (27, true)], [], by kernel_rfl, ?_⟩
        (repeat first | refine ⟨by omega, ?_⟩ | refine ⟨by decide, ?_⟩ | refine ⟨idx8 _, ?_⟩ | refine ⟨lt8 (Nat.le_refl _) _, ?_⟩)
        refine ⟨by kernel_rfl, call_same (fn_rot32 _ 2 (by omega) (by omega)) [] rfl ⟨rfl, rfl, trivial⟩ trivial (fun _ _ => trivial) ?_⟩
        rintro v hs ⟨rfl, rfl⟩
        refine ⟨by kernel_rfl, call_same (fn_rot32 _ 13 (by omega) (by omega)) [] rfl ⟨rfl, rfl, trivial⟩ trivial (fun _ _ => trivial) ?_⟩
        rintro v hs ⟨rfl, rfl⟩
        refine ⟨by kernel_rfl, call_same (fn_rot32 _ 22 (by omega) (by omega)) [] rfl ⟨rfl, rfl, trivial⟩ trivial (fun _ _ => trivial) ?_⟩
        rintro v hs ⟨rfl, rfl⟩
        (repeat first | refine ⟨by omega, ?_⟩ | refine ⟨by decide, ?_⟩ | refine ⟨idx8 _, ?_⟩ | refine ⟨lt8 (Nat.le_refl _) _, ?_⟩)
        refine ⟨rfl, ⟨by omega, by omega⟩, k + 1, [0, 1, 2, 3], ⟨⟨rfl, rfl, rfl⟩, ?_⟩, by first | omega | (dsimp only; omega), by first | omega | (dsimp only; omega)⟩
        (repeat first | exact trivial | refine ⟨rfl, ?_⟩ | refine ⟨fun _ _ => ⟨rfl, trivial⟩, ?_⟩ | refine ⟨by omega, ?_⟩)
        refine ⟨fun j hj => ?_, trivial⟩
        have e0 : (k : Int).toNat + 0 = k := by omega
        rw [e0, show vR W V (k + 1) = next v (steps k) (W k) by simp only [vR, hv]]
        have hj8 : j = 0 ∨ j = 1 ∨ j = 2 ∨ j = 3 ∨ j = 4 ∨ j = 5 ∨ j = 6 ∨ j = 7 := by omega
        rcases hj8 with rfl | rfl | rfl | rfl | rfl | rfl | rfl | rfl <;> exact ⟨rfl, trivial⟩
      · obtain rfl : k = 64 := by have : ¬ (k : Int) < 64 := of_decide_eq_false h; have hk : k ≤ 64 := hk; omega
        obtain ⟨v, hv'⟩ : ∃ v, vR W V 64 = v := ⟨_, rfl⟩
        rw [hv']
        refine .inl ⟨Nat, fun k => ⟨.a (.c (.p 1 0 0)) :: .any :: .a (.c (.p 2 0 0)) :: (anys 7 ++ (.a (.c (.p 3 0 0)) :: (anys 179 ++ (.a (.c (.int .i64 (k : Int))) :: anys 16)))), [shaT 1 0 first steps, digC 0 (fun i => if i < k then V i + v i else V i) P hv a, [.row 64 fun i => .w32 (W i)], [.row 8 fun i => .w32 (v i)]]⟩, fun k => k ≤ 8, fun k => 8 - k, ⟨0, [0, 1, 2, 3], ⟨⟨rfl, rfl, rfl⟩, ?_⟩, by omega⟩, fun k hk => ⟨fun h => ?_, fun h => ?_⟩⟩
        · (repeat first | exact trivial | refine ⟨rfl, ?_⟩ | refine ⟨fun _ _ => ⟨rfl, trivial⟩, ?_⟩ | refine ⟨by omega, ?_⟩)
        · have hlt : (k : Int) < 8 := of_decide_eq_true h
          refine ⟨none, [], [(0, true), (1, true), (2, true), (3, true), (4, true), (5, true), (6, true), (7, true), (8, true), (9, true), (10, true), (11, true), (12, true)], [13], by kernel_rfl, ?_⟩
          (repeat first | refine ⟨by omega, ?_⟩ | refine ⟨by decide, ?_⟩ | refine ⟨idx8 _, ?_⟩ | refine ⟨lt8 (Nat.le_refl _) _, ?_⟩)
          refine ⟨rfl, ⟨by omega, by omega⟩, k + 1, [0, 1, 2, 3], ⟨⟨rfl, rfl, rfl⟩, ?_⟩, by first | omega | (dsimp only; omega), by first | omega | (dsimp only; omega)⟩
          (repeat first | exact trivial | refine ⟨rfl, ?_⟩ | refine ⟨fun _ _ => ⟨rfl, trivial⟩, ?_⟩ | refine ⟨by omega, ?_⟩)
          have e0 : (k : Int).toNat + 0 = k := by omega
          refine ⟨fun j hj => ?_, ?_⟩
          · rw [e0]
            refine eqC_w32 ((upd_w32 (g := fun i => .w32 (if i < k + 1 then V i + v i else V i)) ?_ ?_ j).trans rfl)
            · simp only [if_pos (show k < k + 1 by omega), if_neg (Nat.lt_irrefl k)]
            · intro i hi
              have : i < k + 1 ↔ i < k := by omega
              simp only [this]
          · (repeat first | exact trivial | refine ⟨rfl, ?_⟩ | refine ⟨fun _ _ => ⟨rfl, trivial⟩, ?_⟩ | refine ⟨by omega, ?_⟩)
        · obtain rfl : k = 8 := by have : ¬ (k : Int) < 8 := of_decide_eq_false h; have hk : k ≤ 8 := hk; omega
          refine ⟨.tup [], [shaT 1 0 first steps, digC 0 (compress V P) P hv a], ⟨[0, 1], ⟨rfl, rfl, rfl⟩, ?_⟩, rfl, rfl⟩
          (repeat first | exact trivial | refine ⟨rfl, ?_⟩ | refine ⟨fun _ _ => ⟨rfl, trivial⟩, ?_⟩ | refine ⟨by omega, ?_⟩)
          refine ⟨fun j hj => eqC_w32 (congrArg SC.w32 ?_), ?_⟩
          · show (if j < 8 then V j + v j else V j) = compress V P j
            rw [if_pos hj, ← hv', ← hW]
            rfl
          · (repeat first | exact trivial | refine ⟨rfl, ?_⟩ | refine ⟨fun _ _ => ⟨rfl, trivial⟩, ?_⟩ | refine ⟨by omega, ?_⟩)
end Sx
end Go.Proofs.Ytndlhhhebijknaa
