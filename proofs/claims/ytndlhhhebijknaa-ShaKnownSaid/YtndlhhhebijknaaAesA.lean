/-
  The program's field of 256. No condition.
-/
import Derived.Test.YtndlhhhebijknaaSxq
import Derived.Test.YtndlhhhebijknaaTds
import Derived.Test.YtndlhhhebijknaaAesM
namespace Go.Proofs.Ytndlhhhebijknaa
set_option linter.unusedVariables false
namespace Sx
open Aes

theorem follows_ : Try.prog.follows .mixedOrders = true := by kernel_rfl
theorem fn_twice (a : BitVec 8) : Fn Try.prog tds 88 [] [.c (.w8 a)] (fun _ => True) (fun x hs => x = .a (.c (.w8 (twice a))) ∧ hs = []) := by
  refine fn_of_body tds_ok follows_ Try.func88 rfl (t := [.a (.c (.w8 (a))), .any, .any, .any, .any, .any, .any, .any, .any, .any, .any]) rfl (fun w r0 hr _ => ?_)
  obtain rfl : r0 = [] := List.eq_nil_of_length_eq_zero hr
  refine ⟨fun h => ?_, fun h => ?_⟩
  · exact ⟨.a (.c (.w8 (twice a))), [], ⟨[], ⟨rfl, rfl, rfl⟩, (if_neg (of_decide_eq_true h)).symm, trivial⟩, rfl, rfl⟩
  · exact ⟨.a (.c (.w8 (twice a))), [], ⟨[], ⟨rfl, rfl, rfl⟩, (if_pos (by simpa using h)).symm, trivial⟩, rfl, rfl⟩
theorem fn_times (a b : BitVec 8) : Fn Try.prog tds 67 [] [.c (.w8 a), .c (.w8 b)] (fun _ => True) (fun x hs => x = .a (.c (.w8 (times a b))) ∧ hs = []) := by
  refine fn_of_body tds_ok follows_ Try.func67 rfl (t := [.a (.c (.w8 (a))), .a (.c (.w8 (b))), .any, .any, .any, .any, .any, .any, .any, .any, .any, .any, .any, .any, .any, .any, .any, .any, .any, .any, .any, .any, .any]) rfl (fun w r0 hr _ => ?_)
  obtain rfl : r0 = [] := List.eq_nil_of_length_eq_zero hr
  refine .inl ⟨Nat, fun k => ⟨[.a (.c (.w8 ((timesS b k (0#8, a)).2))), .a (.c (.w8 (b))), .any, .any, .any, .a (.c (.w8 ((timesS b k (0#8, a)).1))), .any, .a (.c (.int .i64 (↑k))), .any, .any, .any, .any, .any, .any, .any, .any, .any, .any, .any, .any, .any, .any, .any], []⟩, fun k => k ≤ 8, fun k => 8 - k, ⟨0, [], ⟨⟨rfl, rfl, rfl⟩, rfl, rfl, rfl, rfl, trivial⟩, by omega⟩, fun k hk => ⟨fun h => ?_, fun h => ?_⟩⟩
  · have hlt : (k : Int) < 8 := of_decide_eq_true h
    have e : ∀ y : BitVec 8, y >>> (BitVec.ofInt 64 (k : Int)).toNat = y >>> k := fun y => by
      rw [BitVec.ofInt_natCast, BitVec.toNat_ofNat, Nat.mod_eq_of_lt (by omega)]
    refine ⟨fun h2 => ?_, fun h2 => ?_⟩
    all_goals
      rw [e] at h2
      refine ⟨by kernel_rfl, call_same (fn_twice _) [] rfl ⟨rfl, trivial⟩ trivial (fun _ _ => trivial) ?_⟩
      rintro x hs ⟨rfl, rfl⟩
      refine ⟨⟨by omega, by omega⟩, k + 1, [], ⟨⟨rfl, rfl, rfl⟩, rfl, rfl, ?_, rfl, trivial⟩, by dsimp only; omega, by dsimp only; omega⟩
      first | exact (if_pos (of_decide_eq_true h2)).symm | exact (if_neg (of_decide_eq_false h2)).symm
  · obtain rfl : k = 8 := by have : ¬ (k : Int) < 8 := of_decide_eq_false h; have hk : k ≤ 8 := hk; omega
    exact ⟨.a (.c (.w8 (times a b))), [], ⟨[], ⟨rfl, rfl, rfl⟩, rfl, trivial⟩, rfl, rfl⟩
theorem cast64 {k : Nat} (h : k < 64) : (BitVec.ofInt 64 (k : Int)).toNat = k := by
  rw [BitVec.ofInt_natCast, BitVec.toNat_ofNat, Nat.mod_eq_of_lt (by omega)]
theorem bit254 : ∀ k, k < 8 → (((((254 : Int) / 2 ^ k).toNat &&& (1 : Int).toNat : Nat) : Int) = 1 ↔ (254 >>> k) % 2 = 1) := by decide
theorem d254 (n : Nat) : 0 ≤ (254 : Int) / 2 ^ n ∧ (254 : Int) / 2 ^ n ≤ 254 :=
  ⟨Int.ediv_nonneg (by omega) (Int.le_of_lt (Int.pow_pos (by omega))), Int.ediv_le_self _ (by omega)⟩
theorem eqC_w8 {q : List Nat} {x : SC} {b : BitVec 8} (h : x = .w8 b) : eqC q x (.w8 b) True := by subst h; exact ⟨rfl, trivial⟩
theorem fn_inverse (a : BitVec 8) : Fn Try.prog tds 86 [] [.c (.w8 a)] (fun _ => True) (fun x hs => x = .a (.c (.w8 (inverse a))) ∧ hs = []) := by
  refine fn_of_body tds_ok follows_ Try.func86 rfl (t := [.a (.c (.w8 (a))), .any, .any, .any, .any, .any, .any, .any, .any, .any, .any, .any, .any, .any, .any, .any, .any, .any, .any, .any, .any, .any, .any]) rfl (fun w r0 hr _ => ?_)
  obtain rfl : r0 = [] := List.eq_nil_of_length_eq_zero hr
  refine .inl ⟨Nat, fun k => ⟨[.any, .any, .any, .a (.c (.w8 ((invS k (1#8, a)).1))), .a (.c (.w8 ((invS k (1#8, a)).2))), .any, .any, .a (.c (.int .i64 (↑k))), .any, .any, .any, .any, .any, .any, .any, .any, .any, .any, .any, .any, .any, .any, .any], []⟩, fun k => k ≤ 8, fun k => 8 - k, ⟨0, [], ⟨⟨rfl, rfl, rfl⟩, rfl, rfl, rfl, trivial⟩, by omega⟩, fun k hk => ⟨fun h => ?_, fun h => ?_⟩⟩
  · have hlt : (k : Int) < 8 := of_decide_eq_true h
    have hd := d254 (BitVec.ofInt 64 (k : Int)).toNat
    refine ⟨by rw [cast64 (by omega)]; omega, ⟨by omega, by omega, by omega, by omega⟩, fun h2 => ?_, fun h2 => ?_⟩
    all_goals rw [cast64 (by omega)] at h2
    · have h3 := (bit254 k (by omega)).1 (of_decide_eq_true h2)
      refine ⟨by kernel_rfl, call_same (fn_times _ _) [] rfl ⟨rfl, rfl, trivial⟩ trivial (fun _ _ => trivial) ?_⟩
      rintro x hs ⟨rfl, rfl⟩
      refine ⟨by kernel_rfl, call_same (fn_times _ _) [] rfl ⟨rfl, rfl, trivial⟩ trivial (fun _ _ => trivial) ?_⟩
      rintro x hs ⟨rfl, rfl⟩
      exact ⟨⟨by omega, by omega⟩, k + 1, [], ⟨⟨rfl, rfl, rfl⟩, (if_pos h3).symm, rfl, rfl, trivial⟩, by dsimp only; omega, by dsimp only; omega⟩
    · have h3 := mt (bit254 k (by omega)).2 (of_decide_eq_false h2)
      refine ⟨by kernel_rfl, call_same (fn_times _ _) [] rfl ⟨rfl, rfl, trivial⟩ trivial (fun _ _ => trivial) ?_⟩
      rintro x hs ⟨rfl, rfl⟩
      exact ⟨⟨by omega, by omega⟩, k + 1, [], ⟨⟨rfl, rfl, rfl⟩, (if_neg h3).symm, rfl, rfl, trivial⟩, by dsimp only; omega, by dsimp only; omega⟩
  · obtain rfl : k = 8 := by have : ¬ (k : Int) < 8 := of_decide_eq_false h; have hk : k ≤ 8 := hk; omega
    exact ⟨.a (.c (.w8 (inverse a))), [], ⟨[], ⟨rfl, rfl, rfl⟩, rfl, trivial⟩, rfl, rfl⟩
theorem rot_eq (a : BitVec 8) : ∀ k : Nat, k < 5 → a <<< ((BitVec.ofInt 64 (k : Int)) &&& 7#64).toNat ||| a >>> (8#64 - ((BitVec.ofInt 64 (k : Int)) &&& 7#64)).toNat = rot8 a (k % 8) := by
  intro k hk
  have : k = 0 ∨ k = 1 ∨ k = 2 ∨ k = 3 ∨ k = 4 := by omega
  rcases this with rfl | rfl | rfl | rfl | rfl <;> rfl
theorem fn_rot8 (a : BitVec 8) (k : Nat) (hk : k < 5) : Fn Try.prog tds 87 [] [.c (.w8 a), .c (.int .i64 (k : Int))] (fun _ => True) (fun x hs => x = .a (.c (.w8 (rot8 a (k % 8)))) ∧ hs = []) := by
  refine fn_of_body tds_ok follows_ Try.func87 rfl (t := [.a (.c (.w8 (a))), .a (.c (.int .i64 (↑k))), .any, .any, .any, .any, .any, .any, .any, .any, .any, .any, .any, .any, .any, .any, .any]) rfl (fun w r0 hr _ => ?_)
  obtain rfl : r0 = [] := List.eq_nil_of_length_eq_zero hr
  exact ⟨.a (.c (.w8 (rot8 a (k % 8)))), [], ⟨[], ⟨rfl, rfl, rfl⟩, rot_eq a k hk, trivial⟩, rfl, rfl⟩
/-- A block as a value. -/
abbrev blk (a : Nat → BitVec 8) : SA := .agg [.row 16 fun i => .w8 (a i)]
def xorB (a b : Nat → BitVec 8) : Nat → BitVec 8 := fun i => a i ^^^ b i
theorem fn_sum (a b : Nat → BitVec 8) : Fn Try.prog tds 69 [] [blk a, blk b] (fun _ => True) (fun x hs => x = .a (blk (xorB a b)) ∧ hs = []) := by
  refine fn_of_body tds_ok follows_ Try.func69 rfl (t := [.a (blk a), .a (blk b), .any, .any, .any, .any, .any, .any, .any, .any, .any, .any, .any, .any, .any, .any, .any, .any, .any]) rfl (fun w r0 hr _ => ?_)
  obtain rfl : r0 = [] := List.eq_nil_of_length_eq_zero hr
  refine ⟨rfl, rfl, .inl ⟨Nat, fun k => ⟨[.any, .any, .a (.c (.p 0 0 0)), .a (.c (.p 1 0 0)), .a (.c (.p 2 0 0)), .any, .a (.c (.int .i64 (↑k))), .any, .any, .any, .any, .any, .any, .any, .any, .any, .any, .any, .any], [[.row 16 fun i => .w8 (if i < k then a i ^^^ b i else a i)], [.row 16 fun i => .w8 (b i)], [.row 16 fun _ => .w8 0]]⟩, fun k => k ≤ 16, fun k => 16 - k, ⟨0, [0, 1, 2], ⟨⟨rfl, rfl, rfl⟩, rfl, rfl, rfl, rfl, rfl, fun j hj => ⟨by simp, trivial⟩, rfl, fun j hj => ⟨rfl, trivial⟩, rfl, fun j hj => ⟨rfl, trivial⟩, trivial⟩, by omega⟩, fun k hk => ⟨fun h => ?_, fun h => ?_⟩⟩⟩
  · have hlt : (k : Int) < 16 := of_decide_eq_true h
    refine ⟨none, [], [(0, true), (1, true), (2, true), (3, true), (4, true), (5, true), (6, true), (7, true)], [8], by kernel_rfl, ⟨by omega, by omega⟩, by omega, ⟨by omega, by omega⟩, by omega, ⟨by omega, by omega⟩, by omega, rfl, ⟨by omega, by omega⟩, k + 1, [0, 1, 2], ⟨⟨rfl, rfl, rfl⟩, rfl, rfl, rfl, rfl, rfl, fun j hj => ?_, rfl, fun j hj => ⟨rfl, trivial⟩, rfl, fun j hj => ⟨rfl, trivial⟩, trivial⟩, by dsimp only; omega, by dsimp only; omega⟩
    refine eqC_w8 ?_
    by_cases hjk : j = k
    · subst hjk; simp [upd]
    · have : j < k + 1 ↔ j < k := by omega
      simp [upd, hjk, this]
  · obtain rfl : k = 16 := by have : ¬ (k : Int) < 16 := of_decide_eq_false h; have hk : k ≤ 16 := hk; omega
    exact ⟨by omega, rfl, rfl, by omega, .a (blk (xorB a b)), [], ⟨[], ⟨rfl, rfl, rfl⟩, rfl, rfl, fun j hj => eqC_w8 (by simp [hj, xorB]), trivial⟩, rfl, rfl⟩
/-- Loads out of rows, by cases on the place. -/
theorem upd_w8 {f g : Nat → SC} {k : Nat} {v : SC} (hv : v = g k) (hf : ∀ j, j ≠ k → f j = g j) (j : Nat) : upd f k v j = g j := by
  unfold upd
  split
  · rename_i h; rw [h, hv]
  · rename_i h; exact hf j h
theorem fn_mix (b : Nat → BitVec 8) : Fn Try.prog tds 70 [] [blk b] (fun _ => True) (fun x hs => x = .a (blk (mixAt b)) ∧ hs = []) := by
  refine fn_of_body tds_ok follows_ Try.func70 rfl (t := .a (blk b) :: anys 50) rfl (fun w r0 hr _ => ?_)
  obtain rfl : r0 = [] := List.eq_nil_of_length_eq_zero hr
  refine ⟨rfl, .inl ⟨Nat, fun k => ⟨[.any, .a (.c (.p 0 0 0)), .a (.c (.p 1 0 0)), .a (.c (.p 2 0 0)), .any, .any, .any, .any, .a (.c (.int .i64 (↑k))), .any, .any, .any, .any, .any, .any, .any, .any, .any, .any, .any, .any, .any, .any, .any, .any, .any, .any, .any, .any, .any, .any, .any, .any, .any, .any, .any, .any, .any, .any, .any, .any, .any, .any, .any, .any, .any, .any, .any, .any, .any, .any], [[.row 16 fun i => .w8 (b i)], [.row 16 fun _ => .w8 0], [.row 16 fun i => .w8 (if i < k then mixAt b i else 0#8)]]⟩, fun k => k ≤ 16, fun k => 16 - k, ⟨0, [0, 1, 2], ⟨⟨rfl, rfl, rfl⟩, rfl, rfl, rfl, rfl, rfl, fun j hj => ⟨rfl, trivial⟩, rfl, fun j hj => ⟨rfl, trivial⟩, rfl, fun j hj => ⟨by simp, trivial⟩, trivial⟩, by omega⟩, fun k hk => ⟨fun h => ?_, fun h => ?_⟩⟩⟩
  · have hlt : (k : Int) < 16 := of_decide_eq_true h
    refine ⟨⟨by omega, by omega, by omega⟩, ⟨by omega, by omega⟩, none, [], [(0, true), (1, true), (2, true), (3, true), (4, true), (5, true), (6, true), (7, true), (8, true), (9, true), (10, true), (11, true)], [], by kernel_rfl, ?_⟩
    refine ⟨⟨by omega, by omega⟩, by omega, ⟨by omega, by omega⟩, ⟨by omega, by omega⟩, ⟨by omega, by omega⟩, ⟨by omega, by omega⟩, by omega, none, [], [(0, true), (1, true), (3, true), (6, true), (8, true), (9, true), (10, true), (11, true), (12, true), (13, true), (14, true), (16, true), (17, true), (18, true), (19, true), (20, true), (21, true), (22, true), (2, false), (4, false), (5, true), (7, true), (15, true), (23, true), (24, true)], [25], by kernel_rfl, ?_⟩
    repeat refine ⟨by omega, ?_⟩
    refine ⟨by kernel_rfl, call_same (fn_twice _) [] rfl ⟨rfl, trivial⟩ trivial (fun _ _ => trivial) ?_⟩
    rintro x hs ⟨rfl, rfl⟩
    refine ⟨by kernel_rfl, call_same (fn_twice _) [] rfl ⟨rfl, trivial⟩ trivial (fun _ _ => trivial) ?_⟩
    rintro x hs ⟨rfl, rfl⟩
    repeat refine ⟨by omega, ?_⟩
    refine ⟨rfl, ⟨by omega, by omega⟩, k + 1, [0, 1, 2], ⟨⟨rfl, rfl, rfl⟩, rfl, rfl, rfl, rfl, rfl, fun j hj => ⟨rfl, trivial⟩, rfl, fun j hj => ⟨rfl, trivial⟩, rfl, fun j hj => eqC_w8 ?_, trivial⟩, by dsimp only; omega, by dsimp only; omega⟩
    refine (upd_w8 (g := fun i => .w8 (if i < k + 1 then mixAt b i else 0#8)) ?_ ?_ j).trans rfl
    · have e0 : (k : Int).toNat + 0 = k := by omega
      have e1 : ((k : Int) / 4 * 4 + ((k : Int) + 1) % 4).toNat + 0 = k / 4 * 4 + (k + 1) % 4 := by omega
      have e2 : ((k : Int) / 4 * 4 + ((k : Int) + 2) % 4).toNat + 0 = k / 4 * 4 + (k + 2) % 4 := by omega
      have e3 : ((k : Int) / 4 * 4 + ((k : Int) + 3) % 4).toNat + 0 = k / 4 * 4 + (k + 3) % 4 := by omega
      simp only [e0, e1, e2, e3, if_pos (show k < k + 1 by omega)]
      rfl
    · intro j hjk
      have hjk' : j ≠ k := by simpa using hjk
      have : j < k + 1 ↔ j < k := by omega
      simp only [this]
  · obtain rfl : k = 16 := by have : ¬ (k : Int) < 16 := of_decide_eq_false h; have hk : k ≤ 16 := hk; omega
    exact ⟨by omega, rfl, rfl, by omega, .a (blk (mixAt b)), [], ⟨[], ⟨rfl, rfl, rfl⟩, rfl, rfl, fun j hj => eqC_w8 (by simp [hj]), trivial⟩, rfl, rfl⟩
end Sx
end Go.Proofs.Ytndlhhhebijknaa
