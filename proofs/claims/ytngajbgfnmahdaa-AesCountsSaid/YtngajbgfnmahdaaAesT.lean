/-
  The program's tables: filled; blocks shifted. No condition.
-/
import Derived.Test.YtngajbgfnmahdaaSxr
import Derived.Test.YtngajbgfnmahdaaAesR3
namespace Go.Proofs.Ytngajbgfnmahdaa
namespace Sx
open Aes

/-- Tables: done or not, the lock, the boxes, the counter. -/
abbrev tabs (d : BitVec 32) (m : Int) (b : Nat → BitVec 8) (n : Int) : List Seg := [.one (.w32 d), .one (.int .i32 m), .one (.w32 0), .row 256 (fun i => .w8 (b i)), .one (.int .i64 n)]
def boxes (i : Nat) : BitVec 8 := box (BitVec.ofNat 8 i)
theorem fn_fill (d : BitVec 32) (m : Int) (b : Nat → BitVec 8) (n : Int) : Fn Try.prog tds 43 [tabs d m b n] [.c (.p 0 0 0)] (fun _ => True) (fun x hs => x = .tup [] ∧ hs = [tabs d m boxes n]) := by
  refine fn_of_body tds_ok follows_ Try.func43 rfl (t := [.a (.c (.p 0 0 0)), .any, .any, .any, .any, .any, .any, .any, .any, .any, .any, .any, .any, .any, .any, .any, .any, .any, .any, .any, .any, .any, .any, .any, .any, .any, .any, .any, .any, .any, .any]) rfl (fun w r0 hr _ => ?_)
  obtain ⟨x0, rfl⟩ := List.length_eq_one_iff.1 hr
  refine .inl ⟨Nat, fun k => ⟨[.a (.c (.p 0 0 0)), .any, .any, .any, .any, .any, .a (.c (.int .i64 (↑k))), .any, .any, .any, .any, .any, .any, .any, .any, .any, .any, .any, .any, .any, .any, .any, .any, .any, .any, .any, .any, .any, .any, .any, .any], [tabs d m (fun i => if i < k then boxes i else b i) n]⟩, fun k => k ≤ 256, fun k => 256 - k, ⟨0, [0], ⟨⟨rfl, rfl, rfl⟩, ?_⟩, by omega⟩, fun k hk => ⟨fun h => ?_, fun h => ?_⟩⟩
  · exact ⟨rfl, rfl, rfl, rfl, rfl, rfl, fun j hj => ⟨by simp, trivial⟩, rfl, trivial⟩
  · have hlt : (k : Int) < 256 := of_decide_eq_true h
    refine ⟨by kernel_rfl, call_same (fn_inverse _) [] rfl ⟨rfl, trivial⟩ trivial (fun _ _ => trivial) ?_⟩
    rintro x hs ⟨rfl, rfl⟩
    refine .inl ⟨Nat, fun j => ⟨[.a (.c (.p 0 0 0)), .any, .a (.c (.int .i64 (↑k))), .a (.c (.w8 ((inverse (BitVec.ofNat 8 k))))), .a (.c (.w8 ((boxS (inverse (BitVec.ofNat 8 k)) j)))), .any, .a (.c (.int .i64 (↑k))), .any, .any, .any, .any, .any, .any, .any, .a (.c (.int .i64 (↑j))), .any, .any, .any, .any, .any, .any, .any, .any, .any, .any, .any, .any, .any, .any, .any, .any], [tabs d m (fun i => if i < k then boxes i else b i) n]⟩, fun j => j ≤ 4, fun j => 4 - j, ⟨0, [0], ⟨⟨rfl, rfl, rfl⟩, ?_⟩, by omega⟩, fun j hj => ⟨fun h => ?_, fun h => ?_⟩⟩
    · rw [ofIntN]
      exact ⟨rfl, rfl, rfl, rfl, rfl, rfl, rfl, rfl, rfl, rfl, fun j hj => ⟨rfl, trivial⟩, rfl, trivial⟩
    · have hlj : (j : Int) < 4 := of_decide_eq_true h
      refine ⟨⟨by omega, by omega⟩, by kernel_rfl, call_same (fn_rot8 _ (j + 1) (by omega)) [] rfl ⟨rfl, rfl, trivial⟩ trivial (fun _ _ => trivial) ?_⟩
      rintro x hs ⟨rfl, rfl⟩
      exact ⟨⟨by omega, by omega⟩, j + 1, [0], ⟨⟨rfl, rfl, rfl⟩, rfl, rfl, rfl, rfl, rfl, rfl, rfl, rfl, rfl, rfl, fun j hj => ⟨rfl, trivial⟩, rfl, trivial⟩, by dsimp only; omega, by dsimp only; omega⟩
    · obtain rfl : j = 4 := by have : ¬ (j : Int) < 4 := of_decide_eq_false h; have hj : j ≤ 4 := hj; omega
      refine ⟨by omega, by omega, rfl, ⟨by omega, by omega⟩, k + 1, [0], ⟨⟨rfl, rfl, rfl⟩, rfl, rfl, rfl, rfl, rfl, rfl, fun j hj => eqC_w8 ?_, rfl, trivial⟩, by dsimp only; omega, by dsimp only; omega⟩
      have e : (k : Int).toNat + 0 = k := by omega
      rw [e]
      refine (upd_w8 (g := fun i => .w8 (if i < k + 1 then boxes i else b i)) ?_ ?_ j).trans rfl
      · simp only [if_pos (show k < k + 1 by omega)]
        rfl
      · intro j hjk
        have : j < k + 1 ↔ j < k := by omega
        simp only [this]
  · obtain rfl : k = 256 := by have : ¬ (k : Int) < 256 := of_decide_eq_false h; have hk : k ≤ 256 := hk; omega
    exact ⟨.tup [], [tabs d m boxes n], ⟨[0], ⟨rfl, rfl, rfl⟩, rfl, rfl, rfl, rfl, fun j hj => eqC_w8 (by simp [hj]), rfl, trivial⟩, rfl, rfl⟩
theorem fn_do (d : BitVec 32) (b : Nat → BitVec 8) (n : Int) (hd : d = 0#32 ∨ d = 1#32 ∧ b = boxes) : Fn Try.prog tds 42 [tabs d 0 b n] [.c (.p 0 0 0), .c (.clo 43 0 0 0)] (fun _ => True) (fun x hs => x = .tup [] ∧ hs = [tabs 1 0 boxes n]) := by
  rcases hd with rfl | ⟨rfl, rfl⟩
  · exact fn_once (by kernel_rfl) (fn_fill 0#32 1 b n)
  · exact fn_once_done
theorem boxes_at (c : BitVec 8) : boxes c.toNat = box c := by unfold boxes; rw [BitVec.ofNat_toNat, BitVec.setWidth_eq]
theorem fn_tbox (d : BitVec 32) (b : Nat → BitVec 8) (n : Int) (c : BitVec 8) (hd : d = 0#32 ∨ d = 1#32 ∧ b = boxes) : Fn Try.prog tds 23 [tabs d 0 b n] [.c (.p 0 0 0), .c (.w8 c)] (fun _ => True) (fun x hs => x = .a (.c (.w8 (box c))) ∧ hs = [tabs 1 0 boxes n]) := by
  refine fn_of_body tds_ok follows_ Try.func23 rfl (t := [.a (.c (.p 0 0 0)), .a (.c (.w8 (c))), .any, .any, .any, .any, .any, .any, .any, .any, .any, .any, .any, .any, .any, .any, .any, .any, .any]) rfl (fun w r0 hr _ => ?_)
  obtain ⟨x0, rfl⟩ := List.length_eq_one_iff.1 hr
  refine ⟨fun h => absurd h (by decide), fun _ => ?_⟩
  refine ⟨by kernel_rfl, call_same (fn_do d b n hd) [0] rfl ⟨rfl, rfl, rfl, trivial⟩ ⟨rfl, rfl, rfl, rfl, fun j hj => ⟨rfl, trivial⟩, rfl, trivial⟩ (fun _ _ => trivial) ?_⟩
  rintro x hs ⟨rfl, rfl⟩
  refine ⟨idx8 _, by have := c.isLt; omega, .a (.c (.w8 (box c))), [tabs 1 0 boxes n], ⟨[0], ⟨rfl, rfl, rfl⟩, boxes_at c, rfl, rfl, rfl, rfl, fun j hj => ⟨rfl, trivial⟩, rfl, trivial⟩, rfl, rfl⟩
theorem fn_shift (b : Nat → BitVec 8) (n : Int) : Fn Try.prog tds 47 [tabs 1 0 boxes n] [.c (.p 0 0 0), blk b] (fun _ => True) (fun x hs => x = .a (blk (shiftAt b)) ∧ hs = [tabs 1 0 boxes n]) := by
  refine fn_of_body tds_ok follows_ Try.func47 rfl (t := .a (.c (.p 0 0 0)) :: .a (blk b) :: anys 32) rfl (fun w r0 hr _ => ?_)
  obtain ⟨x0, rfl⟩ := List.length_eq_one_iff.1 hr
  refine ⟨rfl, .inl ⟨Nat, fun k => ⟨[.a (.c (.p 0 0 0)), .any, .any, .a (.c (.p 1 0 0)), .a (.c (.p 2 0 0)), .a (.c (.p 3 0 0)), .any, .any, .any, .a (.c (.int .i64 (↑k))), .any, .any, .any, .any, .any, .any, .any, .any, .any, .any, .any, .any, .any, .any, .any, .any, .any, .any, .any, .any, .any, .any, .any, .any], [tabs 1 0 boxes n, [.row 16 fun i => .w8 (b i)], [.row 16 fun _ => .w8 0], [.row 16 fun i => .w8 (if i < k then shiftAt b i else 0#8)]]⟩, fun k => k ≤ 16, fun k => 16 - k, ⟨0, [0, 1, 2, 3], ⟨⟨rfl, rfl, rfl⟩, ?_⟩, by omega⟩, fun k hk => ⟨fun h => ?_, fun h => ?_⟩⟩⟩
  · exact ⟨rfl, rfl, rfl, rfl, rfl, rfl, rfl, rfl, rfl, fun j hj => ⟨rfl, trivial⟩, rfl, rfl, fun j hj => ⟨rfl, trivial⟩, rfl, fun j hj => ⟨rfl, trivial⟩, rfl, fun j hj => ⟨by simp, trivial⟩, trivial⟩
  · have hlt : (k : Int) < 16 := of_decide_eq_true h
    repeat refine ⟨by omega, ?_⟩
    refine ⟨none, [], [(0, true), (1, true), (2, true), (3, true), (4, true), (5, true), (6, true), (7, true), (8, true), (9, true), (10, true), (11, true), (12, true), (13, true), (14, true), (15, true)], [16], by kernel_rfl, ?_⟩
    repeat first
      | refine ⟨by omega, ?_⟩
      | refine ⟨idx8 _, ?_⟩
      | refine ⟨lt8 (Nat.le_refl _) _, ?_⟩
    refine ⟨rfl, ⟨by omega, by omega⟩, k + 1, [0, 1, 2, 3], ⟨⟨rfl, rfl, rfl⟩, ?_⟩, by dsimp only; omega, by dsimp only; omega⟩
    refine ⟨rfl, rfl, rfl, rfl, rfl, rfl, rfl, rfl, rfl, fun j hj => ⟨rfl, trivial⟩, rfl, rfl, fun j hj => ⟨rfl, trivial⟩, rfl, fun j hj => ⟨rfl, trivial⟩, rfl, fun j hj => eqC_w8 ?_, trivial⟩
    have e0 : (k : Int).toNat + 0 = k := by omega
    have e1 : (4 * (((k : Int) / 4 + (k : Int) % 4) % 4) + (k : Int) % 4).toNat + 0 = 4 * ((k / 4 + k % 4) % 4) + k % 4 := by omega
    have e2 : ∀ x : BitVec 8, ((x.toNat : Int)).toNat + 0 = x.toNat := fun x => by omega
    rw [e0, e1, e2, boxes_at]
    refine (upd_w8 (g := fun i => .w8 (if i < k + 1 then shiftAt b i else 0#8)) ?_ ?_ j).trans rfl
    · simp only [if_pos (show k < k + 1 by omega)]
      rfl
    · intro j hjk
      have : j < k + 1 ↔ j < k := by omega
      simp only [this]
  · obtain rfl : k = 16 := by have : ¬ (k : Int) < 16 := of_decide_eq_false h; have hk : k ≤ 16 := hk; omega
    exact ⟨by omega, rfl, rfl, by omega, .a (blk (shiftAt b)), [tabs 1 0 boxes n], ⟨[0], ⟨rfl, rfl, rfl⟩, rfl, rfl, fun j hj => eqC_w8 (by simp [hj]), rfl, rfl, rfl, rfl, fun j hj => ⟨rfl, trivial⟩, rfl, trivial⟩, rfl, rfl⟩
end Sx
end Go.Proofs.Ytngajbgfnmahdaa
