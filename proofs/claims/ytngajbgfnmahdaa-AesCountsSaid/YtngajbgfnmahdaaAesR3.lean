/-
  The document's columns, mixed; a key's words. No condition.
-/
import Derived.Test.YtngajbgfnmahdaaAesR2
namespace Go.Proofs.Ytngajbgfnmahdaa
namespace Sx
open Aes

theorem fn_rmixed (b : Nat → BitVec 8) : Fn Try.prog tds 49 [[.row 16 fun j => .w8 (b j)]] [.c (.sl 0 0 0 16 16)] (fun _ => True) (fun x hs => x = .a (.c (.sl 1 0 0 16 16)) ∧ hs = [[.row 16 fun j => .w8 (b j)], [.row 16 fun j => .w8 (rMixAt b j)]]) := by
  refine fn_of_body tds_ok follows_ Try.func49 rfl (t := [.a (.c (.sl 0 0 0 16 16)), .any, .any, .any, .any, .any, .any, .any, .any, .any, .any, .any, .any, .any, .any, .any, .any, .any, .any, .any, .any, .any, .any, .any, .any, .any, .any, .any, .any, .any, .any, .any, .any, .any, .any, .any, .any, .any, .any, .any, .any, .any, .any, .any, .any, .any, .any, .any, .any, .any, .any, .any, .any, .any, .any, .any]) rfl (fun w r0 hr _ => ?_)
  obtain ⟨x0, rfl⟩ := List.length_eq_one_iff.1 hr
  refine ⟨by decide, .inl ⟨Nat, fun m => ⟨[.a (.c (.sl 0 0 0 16 16)), .any, .any, .a (.c (.sl 1 0 0 16 16)), .a (.c (.int .i64 ((4 * ↑m)))), .any, .any, .any, .any, .any, .any, .any, .any, .any, .any, .any, .any, .any, .any, .any, .any, .any, .any, .any, .any, .any, .any, .any, .any, .any, .any, .any, .any, .any, .any, .any, .any, .any, .any, .any, .any, .any, .any, .any, .any, .any, .any, .any, .any, .any, .any, .any, .any, .any, .any, .any], [[.row 16 fun j => .w8 (b j)], [.row 16 fun j => .w8 (if j < 4 * m then rMixAt b j else 0#8)]]⟩, fun m => m ≤ 4, fun m => 4 - m, ⟨0, [0, 1], ⟨⟨rfl, rfl, rfl⟩, ?_⟩, by omega⟩, fun m hm => ⟨fun h => ?_, fun h => ?_⟩⟩⟩
  · exact ⟨rfl, rfl, rfl, rfl, rfl, rfl, rfl, rfl, fun j hj => ⟨rfl, trivial⟩, rfl, fun j hj => ⟨by simp, trivial⟩, trivial⟩
  · have hlt : 4 * (m : Int) < 16 := of_decide_eq_true h
    refine .inl ⟨Nat, fun r => ⟨[.a (.c (.sl 0 0 0 16 16)), .any, .any, .a (.c (.sl 1 0 0 16 16)), .a (.c (.int .i64 ((4 * ↑m)))), .a (.c (.int .i64 (↑r))), .any, .any, .any, .any, .any, .any, .any, .any, .any, .any, .any, .any, .any, .any, .any, .any, .any, .any, .any, .any, .any, .any, .any, .any, .any, .any, .any, .any, .any, .any, .any, .any, .any, .any, .any, .any, .any, .any, .any, .any, .any, .any, .any, .any, .any, .any, .any, .any, .any, .any], [[.row 16 fun j => .w8 (b j)], [.row 16 fun j => .w8 (if j < 4 * m + r then rMixAt b j else 0#8)]]⟩, fun r => r ≤ 4, fun r => 4 - r, ⟨0, [0, 1], ⟨⟨rfl, rfl, rfl⟩, ?_⟩, by omega⟩, fun r hr => ⟨fun h => ?_, fun h => ?_⟩⟩
    · exact ⟨rfl, rfl, rfl, rfl, rfl, rfl, rfl, rfl, rfl, fun j hj => ⟨rfl, trivial⟩, rfl, fun j hj => ⟨rfl, trivial⟩, trivial⟩
    · have hlr : (r : Int) < 4 := of_decide_eq_true h
      refine ⟨none, [], [(0, true), (1, true), (2, true), (3, true), (4, true), (5, true), (6, true), (7, true), (8, true), (9, true), (11, true), (12, true), (13, true), (14, true), (15, true), (16, true), (17, true), (18, true), (21, true), (22, true), (23, true), (24, true), (25, true), (26, true), (27, true), (28, true), (30, true), (31, true), (32, true), (33, true), (34, true), (35, true), (36, true), (37, true), (10, false), (19, false), (20, true), (29, true), (38, true), (39, true)], [40], by kernel_rfl, ?_⟩
      repeat refine ⟨by omega, ?_⟩
      refine ⟨by kernel_rfl, call_same (fn_rtimes _ _) [] rfl ⟨rfl, rfl, trivial⟩ trivial (fun _ _ => trivial) ?_⟩
      rintro x hs ⟨rfl, rfl⟩
      refine ⟨by kernel_rfl, call_same (fn_rtimes _ _) [] rfl ⟨rfl, rfl, trivial⟩ trivial (fun _ _ => trivial) ?_⟩
      rintro x hs ⟨rfl, rfl⟩
      repeat refine ⟨by omega, ?_⟩
      refine ⟨rfl, ⟨by omega, by omega⟩, r + 1, [0, 1], ⟨⟨rfl, rfl, rfl⟩, ?_⟩, by dsimp only; omega, by dsimp only; omega⟩
      refine ⟨rfl, rfl, rfl, rfl, rfl, rfl, rfl, rfl, rfl, fun j hj => ⟨rfl, trivial⟩, rfl, fun j hj => eqC_w8 ?_, trivial⟩
      have e0 : (4 * (m : Int) + r).toNat + 0 = 4 * m + r := by omega
      have e1 : (4 * (m : Int) + ((r : Int) + 1) % 4).toNat + 0 = (4 * m + r) / 4 * 4 + (4 * m + r + 1) % 4 := by omega
      have e2 : (4 * (m : Int) + ((r : Int) + 2) % 4).toNat + 0 = (4 * m + r) / 4 * 4 + (4 * m + r + 2) % 4 := by omega
      have e3 : (4 * (m : Int) + ((r : Int) + 3) % 4).toNat + 0 = (4 * m + r) / 4 * 4 + (4 * m + r + 3) % 4 := by omega
      rw [e0, e1, e2, e3]
      refine (upd_w8 (g := fun j => .w8 (if j < 4 * m + (r + 1) then rMixAt b j else 0#8)) ?_ ?_ j).trans rfl
      · simp only [if_pos (show 4 * m + r < 4 * m + (r + 1) by omega)]
        rfl
      · intro j hjk
        have : j < 4 * m + (r + 1) ↔ j < 4 * m + r := by omega
        simp only [this]
    · obtain rfl : r = 4 := by have : ¬ (r : Int) < 4 := of_decide_eq_false h; have hr : r ≤ 4 := hr; omega
      refine ⟨⟨by omega, by omega⟩, m + 1, [0, 1], ⟨⟨rfl, rfl, rfl⟩, rfl, rfl, rfl, rfl, rfl, rfl, by omega, rfl, fun j hj => ⟨rfl, trivial⟩, rfl, fun j hj => eqC_w8 ?_, trivial⟩, by dsimp only; omega, by dsimp only; omega⟩
      rw [show 4 * (m + 1) = 4 * m + 4 by omega]
  · obtain rfl : m = 4 := by have : ¬ 4 * (m : Int) < 16 := of_decide_eq_false h; have hm : m ≤ 4 := hm; omega
    exact ⟨.a (.c (.sl 1 0 0 16 16)), [[.row 16 fun j => .w8 (b j)], [.row 16 fun j => .w8 (rMixAt b j)]], ⟨[0, 1], ⟨rfl, rfl, rfl⟩, rfl, rfl, rfl, rfl, fun j hj => ⟨rfl, trivial⟩, rfl, fun j hj => eqC_w8 (by simp; omega), trivial⟩, rfl, rfl⟩
theorem len2 {α : Type} : ∀ {l : List α}, l.length = 2 → ∃ a b, l = [a, b]
  | [a, b], _ => ⟨a, b, rfl⟩
theorem len3 {α : Type} : ∀ {l : List α}, l.length = 3 → ∃ a b c, l = [a, b, c]
  | [a, b, c], _ => ⟨a, b, c, rfl⟩
theorem idx8 (x : BitVec 8) : 0 ≤ (x.toNat : Int) ∧ (x.toNat : Int) < ((256 : Nat) : Int) := by have := x.isLt; omega
theorem lt8 {c : Nat} (h : 256 ≤ c) (x : BitVec 8) : ((x.toNat : Int)).toNat + 0 < c := by have := x.isLt; omega
theorem frc_bytes {n : Nat} {b : Nat → BitVec 8} {j : Nat} {k : SC → Prop} (h : j < n) (hk : k (.w8 (b j))) : frcSC (bytesF n b j) k := by
  rw [bytesF_lt h]; exact hk
theorem app_bytes {n m : Nat} {b : Nat → BitVec 8} {W : Nat → BitVec 8} {g : Nat → SC} (h1 : ∀ i, i < n → b i = W i) (h2 : ∀ i, i < m → g i = .w8 (W (n + i))) (i : Nat) (hi : i < n + m) : appF (bytesF n b) 0 (scale n (0 + 1)) (scale m (0 + 1)) g i = .w8 (W i) := by
  have e1 : scale n (0 + 1) = n := rfl
  have e2 : scale m (0 + 1) = m := rfl
  unfold appF
  rw [e1, e2]
  by_cases h : i < n
  · rw [if_pos h, Nat.add_zero, bytesF_lt h, h1 i h]
  · rw [if_neg h, if_pos hi, h2 (i - n) (by omega), show n + (i - n) = i by omega]
set_option maxHeartbeats 2000000 in
theorem fn_rkeys (B key : Nat → BitVec 8) (cb ck : Nat) (hb : 256 ≤ cb) (hk : 16 ≤ ck) :
    Fn Try.prog tds 48 [[.row cb (bytesF 256 B)], [.row ck (bytesF 16 key)]] [.c (.sl 0 0 0 256 cb), .c (.sl 1 0 0 16 ck)] (fun _ => True)
      (fun x hs => ∃ c, x = .a (.c (.sl 2 0 0 176 c)) ∧ hs = [[.row cb (bytesF 256 B)], [.row ck (bytesF 16 key)], [.row c (bytesF 176 (rKeys B key))]] ∧ 176 ≤ c) := by
  refine fn_of_body tds_ok follows_ Try.func48 rfl (t := [.a (.c (.sl 0 0 0 256 cb)), .a (.c (.sl 1 0 0 16 ck)), .any, .any, .any, .any, .any, .any, .any, .any, .any, .any, .any, .any, .any, .any, .any, .any, .any, .any, .any, .any, .any, .any, .any, .any, .any, .any, .any, .any, .any, .any, .any, .any, .any, .any, .any, .any, .any, .any, .any, .any, .any, .any, .any, .any, .any, .any, .any, .any, .any, .any, .any, .any, .any, .any, .any, .any, .any, .any, .any, .any, .any, .any, .any, .any, .any, .any, .any, .any, .any, .any, .any, .any, .any, .any, .any, .any, .any, .any, .any, .any, .any, .any, .any, .any, .any, .any, .any, .any, .any, .any, .any, .any, .any]) rfl (fun w r0 hr _ => ?_)
  obtain ⟨x0, x1, rfl⟩ := len2 hr
  refine ⟨by simp [scale]; omega, ⟨by omega, by simp [scale], by decide⟩, fun c0 hc0 => ?_⟩
  refine .inl ⟨Nat × Nat, fun (k, c) => ⟨[.a (.c (.sl 0 0 0 256 cb)), .any, .any, .any, .any, .a (.c (.sl 2 0 0 (4 * (k + 4)) c)), .a (.c (.w8 ((rKeyS B key k).2))), .a (.c (.int .i64 (↑(k + 4)))), .any, .any, .any, .any, .any, .any, .any, .any, .any, .any, .any, .any, .any, .any, .any, .any, .any, .any, .any, .any, .any, .any, .any, .any, .any, .any, .any, .any, .any, .any, .any, .any, .any, .any, .any, .any, .any, .any, .any, .any, .any, .any, .any, .any, .any, .any, .any, .any, .any, .any, .any, .any, .any, .any, .any, .any, .any, .any, .any, .any, .any, .any, .any, .any, .any, .any, .any, .any, .any, .any, .any, .any, .any, .any, .any, .any, .any, .any, .any, .any, .any, .any, .any, .any, .any, .any, .any], [[.row cb (bytesF 256 B)], [.row ck (bytesF 16 key)], [.row c (bytesF (4 * (k + 4)) (rKeyS B key k).1)]]⟩, fun (k, c) => k ≤ 40 ∧ 4 * (k + 4) ≤ c, fun (k, _) => 40 - k, ⟨(0, c0), [0, 1, 3], ⟨⟨rfl, rfl, rfl⟩, ?_⟩, by omega, by omega⟩, fun x => ?_⟩
  · refine ⟨rfl, rfl, rfl, rfl, rfl, rfl, rfl, rfl, rfl, fun j hj => eqC_bytes (fun i hi => bytesF_lt hi) j, rfl, fun j hj => eqC_bytes (fun i hi => bytesF_lt hi) j, rfl, fun j hj => eqC_bytes (fun i hi => ?_) j, trivial⟩
    unfold appF
    rw [if_neg (by simp [scale]), if_pos (by simpa [scale] using hi)]
    exact bytesF_lt hi
  · obtain ⟨k, c⟩ := x
    rintro ⟨hk, hc⟩
    refine ⟨fun h => ?_, fun h => ?_⟩
    · have hlt : ((k + 4 : Nat) : Int) < 44 := of_decide_eq_true h
      have e0 : (4 * ((k + 4 : Nat) : Int) - 4).toNat + 0 = 4 * (k + 4) - 4 + 0 := by omega
      have e1 : (4 * ((k + 4 : Nat) : Int) - 3).toNat + 0 = 4 * (k + 4) - 4 + 1 := by omega
      have e2 : (4 * ((k + 4 : Nat) : Int) - 2).toNat + 0 = 4 * (k + 4) - 4 + 2 := by omega
      have e3 : (4 * ((k + 4 : Nat) : Int) - 1).toNat + 0 = 4 * (k + 4) - 4 + 3 := by omega
      refine ⟨none, [], [(0, true), (1, true), (2, true), (3, true), (4, true), (5, true), (6, true), (7, true), (8, true), (9, true), (10, true), (11, true), (12, true), (13, true), (14, true), (15, true), (16, true), (17, true), (18, true), (19, true), (20, true), (21, true), (22, true), (23, true), (24, false), (25, true)], [], by kernel_rfl, ?_⟩
      repeat first
        | refine frc_bytes (by omega) ?_
        | refine ⟨by omega, ?_⟩
      refine ⟨fun h2 => ?_, fun h2 => ?_⟩
      · have h3 : (k + 4) % 4 = 0 := by have : ((k + 4 : Nat) : Int) % 4 = 0 := of_decide_eq_true h2; omega
        refine ⟨none, [], [(0, true), (1, true), (2, true), (3, true), (4, true), (5, true), (6, true), (7, true), (8, true), (9, true), (10, true), (11, true), (12, true), (13, true), (14, true), (15, true), (16, true), (17, true), (18, true), (19, true), (20, true), (21, true), (22, true), (23, true), (24, true), (25, true), (26, false), (27, true)], [], by kernel_rfl, ?_⟩
        repeat first
          | refine frc_bytes (lt8 (Nat.le_refl _) _) ?_
          | refine ⟨idx8 _, ?_⟩
          | refine ⟨lt8 hb _, ?_⟩
          | refine ⟨by omega, ?_⟩
        refine ⟨by kernel_rfl, call_same (fn_rtimes _ _) [] rfl ⟨rfl, rfl, trivial⟩ trivial (fun _ _ => trivial) ?_⟩
        rintro x hs ⟨rfl, rfl⟩
        refine .inl ⟨Nat × Nat, fun (j, c) => ⟨[.a (.c (.sl 0 0 0 256 cb)), .any, .any, .any, .any, .a (.c (.sl 2 0 0 (4 * (k + 4) + j) c)), .a (.c (.w8 ((rKeyS B key (k + 1)).2))), .a (.c (.int .i64 (↑(k + 4)))), .a (.c (.sl 3 0 0 4 4)), .a (.c (.int .i64 (↑j))), .any, .any, .any, .any, .any, .any, .any, .any, .any, .any, .any, .any, .any, .any, .any, .any, .any, .any, .any, .any, .any, .any, .any, .any, .any, .any, .any, .any, .any, .any, .any, .any, .any, .any, .any, .any, .any, .any, .any, .any, .any, .any, .any, .any, .any, .any, .any, .any, .any, .any, .any, .any, .any, .any, .any, .any, .any, .any, .any, .any, .any, .any, .any, .any, .any, .any, .any, .any, .any, .any, .any, .any, .any, .any, .any, .any, .any, .any, .any, .any, .any, .any, .any, .any, .any], [[.row cb (bytesF 256 B)], [.row ck (bytesF 16 key)], [.row c (bytesF (4 * (k + 4) + j) (rKeyS B key (k + 1)).1)], [.row 4 fun j => .w8 (rWord B (rKeyS B key k).1 (rKeyS B key k).2 (k + 4) j)]]⟩, fun (j, c) => j ≤ 4 ∧ 4 * (k + 4) + j ≤ c, fun (j, _) => 4 - j, ⟨(0, c), [0, 1, 2, 4], ⟨⟨rfl, rfl, rfl⟩, ?_⟩, by omega, by omega⟩, fun x => ?_⟩
        · refine ⟨rfl, rfl, rfl, rfl, rfl, rfl, (if_pos h3).symm, rfl, rfl, rfl, rfl, rfl, rfl, fun j hj => eqC_bytes (fun i hi => bytesF_lt hi) j, rfl, fun j hj => eqC_bytes (fun i hi => bytesF_lt hi) j, rfl, fun j hj => eqC_bytes (fun i hi => ?_) j, rfl, fun j hj => ?_, trivial⟩
          · have hi' : i < 4 * (k + 4) := hi
            rw [bytesF_lt hi']
            simp only [rKeyS]
            rw [if_pos hi']
          · have : j = 0 ∨ j = 1 ∨ j = 2 ∨ j = 3 := by omega
            rw [e0, e1, e2, e3]
            rcases this with rfl | rfl | rfl | rfl <;> exact eqC_w8 (congrArg SC.w8 (by unfold rWord; rw [if_pos h3]; rfl))
        · obtain ⟨j, c⟩ := x
          rintro ⟨hj, hc⟩
          refine ⟨fun h => ?_, fun h => ?_⟩
          · have hlt : (j : Int) < 4 := of_decide_eq_true h
            have e4 : (4 * ((k + 4 : Nat) : Int) - 16 + j).toNat + 0 = 4 * (k + 4) + j - 16 := by omega
            have e5 : (j : Int).toNat + 0 = j := by omega
            refine ⟨none, [], [(0, true), (1, true), (2, true), (3, true), (4, true), (5, true), (6, true), (7, true), (8, true), (9, true), (10, true), (11, true), (12, true), (13, true), (14, false)], [15, 16], by kernel_rfl, ?_⟩
            repeat first
              | refine frc_bytes (by omega) ?_
              | refine ⟨by omega, ?_⟩
            refine ⟨by decide, ⟨by omega, by simp [scale], by show _ * 1 ≤ _; omega⟩, fun c' hc' => ?_⟩
            refine ⟨⟨by omega, by omega⟩, (j + 1, c'), [0, 1, 5, 3], ⟨⟨rfl, rfl, rfl⟩, ?_⟩, ⟨by omega, by omega⟩, by dsimp only; omega⟩
            refine ⟨rfl, rfl, rfl, rfl, rfl, rfl, rfl, rfl, rfl, rfl, rfl, rfl, rfl, fun j hj => eqC_bytes (fun i hi => bytesF_lt hi) j, rfl, fun j hj => eqC_bytes (fun i hi => bytesF_lt hi) j, rfl, fun j' hj' => eqC_bytes (fun i hi => app_bytes (W := (rKeyS B key (k + 1)).1) (fun _ _ => rfl) (fun i hi => ?_) i hi) j', rfl, fun j hj => ⟨rfl, trivial⟩, trivial⟩
            obtain rfl : i = 0 := by omega
            refine congrArg SC.w8 ?_
            rw [e4, e5]
            simp only [rKeyS]
            rw [if_pos (by omega), if_neg (by omega), show 4 * (k + 4) + j + 0 - 4 * (k + 4) = j by omega]
            rfl
          · obtain rfl : j = 4 := by have : ¬ (j : Int) < 4 := of_decide_eq_false h; omega
            refine ⟨⟨by omega, by omega⟩, (k + 1, c), [0, 1, 2], ⟨⟨rfl, rfl, rfl⟩, ?_⟩, ⟨by omega, by omega⟩, by dsimp only; omega⟩
            exact ⟨rfl, rfl, rfl, rfl, by omega, rfl, rfl, rfl, rfl, fun j hj => eqC_bytes (fun i hi => bytesF_lt hi) j, rfl, fun j hj => eqC_bytes (fun i hi => bytesF_lt hi) j, rfl, fun j hj => eqC_bytes (n := 4 * (k + 1 + 4)) (f := bytesF (4 * (k + 4) + 4) _) (fun i hi => bytesF_lt (by omega)) j, trivial⟩
      · have h3 : ¬ (k + 4) % 4 = 0 := by have : ¬ ((k + 4 : Nat) : Int) % 4 = 0 := of_decide_eq_false h2; omega
        refine .inl ⟨Nat × Nat, fun (j, c) => ⟨[.a (.c (.sl 0 0 0 256 cb)), .any, .any, .any, .any, .a (.c (.sl 2 0 0 (4 * (k + 4) + j) c)), .a (.c (.w8 ((rKeyS B key (k + 1)).2))), .a (.c (.int .i64 (↑(k + 4)))), .a (.c (.sl 3 0 0 4 4)), .a (.c (.int .i64 (↑j))), .any, .any, .any, .any, .any, .any, .any, .any, .any, .any, .any, .any, .any, .any, .any, .any, .any, .any, .any, .any, .any, .any, .any, .any, .any, .any, .any, .any, .any, .any, .any, .any, .any, .any, .any, .any, .any, .any, .any, .any, .any, .any, .any, .any, .any, .any, .any, .any, .any, .any, .any, .any, .any, .any, .any, .any, .any, .any, .any, .any, .any, .any, .any, .any, .any, .any, .any, .any, .any, .any, .any, .any, .any, .any, .any, .any, .any, .any, .any, .any, .any, .any, .any, .any, .any], [[.row cb (bytesF 256 B)], [.row ck (bytesF 16 key)], [.row c (bytesF (4 * (k + 4) + j) (rKeyS B key (k + 1)).1)], [.row 4 fun j => .w8 (rWord B (rKeyS B key k).1 (rKeyS B key k).2 (k + 4) j)]]⟩, fun (j, c) => j ≤ 4 ∧ 4 * (k + 4) + j ≤ c, fun (j, _) => 4 - j, ⟨(0, c), [0, 1, 2, 3], ⟨⟨rfl, rfl, rfl⟩, ?_⟩, by omega, by omega⟩, fun x => ?_⟩
        · refine ⟨rfl, rfl, rfl, rfl, rfl, rfl, (if_neg h3).symm, rfl, rfl, rfl, rfl, rfl, rfl, fun j hj => eqC_bytes (fun i hi => bytesF_lt hi) j, rfl, fun j hj => eqC_bytes (fun i hi => bytesF_lt hi) j, rfl, fun j hj => eqC_bytes (fun i hi => ?_) j, rfl, fun j hj => ?_, trivial⟩
          · have hi' : i < 4 * (k + 4) := hi
            rw [bytesF_lt hi']
            simp only [rKeyS]
            rw [if_pos hi']
          · have : j = 0 ∨ j = 1 ∨ j = 2 ∨ j = 3 := by omega
            rw [e0, e1, e2, e3]
            rcases this with rfl | rfl | rfl | rfl <;> exact eqC_w8 (congrArg SC.w8 (by unfold rWord; rw [if_neg h3]))
        · obtain ⟨j, c⟩ := x
          rintro ⟨hj, hc⟩
          refine ⟨fun h => ?_, fun h => ?_⟩
          · have hlt : (j : Int) < 4 := of_decide_eq_true h
            have e4 : (4 * ((k + 4 : Nat) : Int) - 16 + j).toNat + 0 = 4 * (k + 4) + j - 16 := by omega
            have e5 : (j : Int).toNat + 0 = j := by omega
            refine ⟨none, [], [(0, true), (1, true), (2, true), (3, true), (4, true), (5, true), (6, true), (7, true), (8, true), (9, true), (10, true), (11, true), (12, true), (13, true), (14, false)], [15, 16], by kernel_rfl, ?_⟩
            repeat first
              | refine frc_bytes (by omega) ?_
              | refine ⟨by omega, ?_⟩
            refine ⟨by decide, ⟨by omega, by simp [scale], by show _ * 1 ≤ _; omega⟩, fun c' hc' => ?_⟩
            refine ⟨⟨by omega, by omega⟩, (j + 1, c'), [0, 1, 5, 3], ⟨⟨rfl, rfl, rfl⟩, ?_⟩, ⟨by omega, by omega⟩, by dsimp only; omega⟩
            refine ⟨rfl, rfl, rfl, rfl, rfl, rfl, rfl, rfl, rfl, rfl, rfl, rfl, rfl, fun j hj => eqC_bytes (fun i hi => bytesF_lt hi) j, rfl, fun j hj => eqC_bytes (fun i hi => bytesF_lt hi) j, rfl, fun j' hj' => eqC_bytes (fun i hi => app_bytes (W := (rKeyS B key (k + 1)).1) (fun _ _ => rfl) (fun i hi => ?_) i hi) j', rfl, fun j hj => ⟨rfl, trivial⟩, trivial⟩
            obtain rfl : i = 0 := by omega
            refine congrArg SC.w8 ?_
            rw [e4, e5]
            simp only [rKeyS]
            rw [if_pos (by omega), if_neg (by omega), show 4 * (k + 4) + j + 0 - 4 * (k + 4) = j by omega]
            rfl
          · obtain rfl : j = 4 := by have : ¬ (j : Int) < 4 := of_decide_eq_false h; omega
            refine ⟨⟨by omega, by omega⟩, (k + 1, c), [0, 1, 2], ⟨⟨rfl, rfl, rfl⟩, ?_⟩, ⟨by omega, by omega⟩, by dsimp only; omega⟩
            exact ⟨rfl, rfl, rfl, rfl, by omega, rfl, rfl, rfl, rfl, fun j hj => eqC_bytes (fun i hi => bytesF_lt hi) j, rfl, fun j hj => eqC_bytes (fun i hi => bytesF_lt hi) j, rfl, fun j hj => eqC_bytes (n := 4 * (k + 1 + 4)) (f := bytesF (4 * (k + 4) + 4) _) (fun i hi => bytesF_lt (by omega)) j, trivial⟩
    · obtain rfl : k = 40 := by have : ¬ ((k + 4 : Nat) : Int) < 44 := of_decide_eq_false h; omega
      exact ⟨.a (.c (.sl 2 0 0 176 c)), [[.row cb (bytesF 256 B)], [.row ck (bytesF 16 key)], [.row c (bytesF 176 (rKeys B key))]], ⟨[0, 1, 2], ⟨rfl, rfl, rfl⟩, rfl, rfl, rfl, rfl, fun j hj => eqC_bytes (fun i hi => bytesF_lt hi) j, rfl, fun j hj => eqC_bytes (fun i hi => bytesF_lt hi) j, rfl, fun j hj => eqC_bytes (fun i hi => bytesF_lt hi) j, trivial⟩, c, rfl, rfl, by omega⟩
end Sx
end Go.Proofs.Ytngajbgfnmahdaa
