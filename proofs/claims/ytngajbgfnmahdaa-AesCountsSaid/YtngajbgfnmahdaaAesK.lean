/-
  The program's round keys. No condition.
-/
import Derived.Test.YtngajbgfnmahdaaAesT
namespace Go.Proofs.Ytngajbgfnmahdaa
namespace Sx
open Aes

theorem fn_new : Fn Try.prog tds 17 [] [] (fun _ => True) (fun x hs => x = .a (.c (.p 0 0 0)) ∧ hs = [tabs 0 0 (fun _ => 0#8) 0]) := by
  refine fn_of_body tds_ok follows_ Try.func17 rfl (t := anys 2) rfl (fun w r0 hr _ => ?_)
  obtain rfl : r0 = [] := List.eq_nil_of_length_eq_zero hr
  exact ⟨.a (.c (.p 0 0 0)), [tabs 0 0 (fun _ => 0#8) 0], ⟨[0], ⟨rfl, rfl, rfl⟩, rfl, rfl, rfl, rfl, rfl, fun j hj => ⟨rfl, trivial⟩, rfl, trivial⟩, rfl, rfl⟩
/-- A key: its tables, its round keys. -/
abbrev keyC (K : Nat → BitVec 8) : List Seg := [.one (.p 0 0 0), .row 176 (fun i => .w8 (K i))]
theorem pNow_lo (old : Nat → BitVec 8) (p : BitVec 8) {i : Nat} (h : i < 4) : pNow old p i = if i = 0 then old 0 ^^^ box (old 13) ^^^ p else old i ^^^ box (old (12 + (i + 1) % 4)) := by
  unfold pNow
  rw [show i / 4 = 0 by omega, show i % 4 = i by omega]
  rfl
theorem pNow_hi (old : Nat → BitVec 8) (p : BitVec 8) {i : Nat} (h : 4 ≤ i) : pNow old p i = old i ^^^ pNow old p (i - 4) := by
  unfold pNow
  obtain ⟨c, hc⟩ : ∃ c, i / 4 = c + 1 := ⟨i / 4 - 1, by omega⟩
  rw [hc, show (i - 4) / 4 = c by omega, show (i - 4) % 4 = i % 4 by omega]
  show old (4 * (c + 1) + i % 4) ^^^ _ = _
  rw [show 4 * (c + 1) + i % 4 = i by omega]
theorem pKeyS_lt (key : Nat → BitVec 8) (r : Nat) {i : Nat} (h : i < 16 * (r + 1)) : (pKeyS key (r + 1)).1 i = (pKeyS key r).1 i := by
  simp only [pKeyS]; rw [if_pos h]
theorem pKeyS_ge (key : Nat → BitVec 8) (r : Nat) (i : Nat) : (pKeyS key (r + 1)).1 (16 * (r + 1) + i) = pNow (fun j => (pKeyS key r).1 (16 * r + j)) (pKeyS key r).2 i := by
  simp only [pKeyS]; rw [if_neg (by omega), show 16 * (r + 1) + i - 16 * (r + 1) = i by omega]
set_option maxHeartbeats 2000000 in
theorem fn_key (d : BitVec 32) (b : Nat → BitVec 8) (n : Int) (key : Nat → BitVec 8) (hd : d = 0#32 ∨ d = 1#32 ∧ b = boxes) :
    Fn Try.prog tds 18 [tabs d 0 b n] [.c (.p 0 0 0), blk key] (fun _ => True) (fun x hs => x = .a (.c (.p 1 0 0)) ∧ hs = [tabs 1 0 boxes n, keyC (pKeys key)]) := by
  refine fn_of_body tds_ok follows_ Try.func18 rfl (t := .a (.c (.p 0 0 0)) :: .a (blk key) :: anys 94) rfl (fun w r0 hr _ => ?_)
  obtain ⟨x0, rfl⟩ := List.length_eq_one_iff.1 hr
  refine ⟨rfl, fun h => absurd h (by decide), fun _ => ?_⟩
  refine ⟨by kernel_rfl, call_same (fn_do d b n hd) [0] rfl ⟨rfl, rfl, rfl, trivial⟩ ⟨rfl, rfl, rfl, rfl, fun j hj => ⟨rfl, trivial⟩, rfl, trivial⟩ (fun _ _ => trivial) ?_⟩
  rintro x hs ⟨rfl, rfl⟩
  refine ⟨rfl, rfl, none, [], [(0, true), (1, true), (2, true), (3, true), (4, true)], [5], by kernel_rfl, ?_⟩
  repeat refine ⟨by omega, ?_⟩
  refine ⟨by decide, rfl, .inl ⟨Nat, fun r => ⟨[.a (.c (.p 0 0 0)), .any, .any, .any, .any, .a (.c (.p 1 0 0)), .a (.c (.w8 ((pKeyS key r).2))), .a (.c (.int .i64 (↑(r + 1)))), .any, .any, .any, .any, .any, .any, .any, .any, .any, .any, .any, .any, .any, .any, .any, .any, .any, .any, .any, .any, .any, .any, .any, .any, .any, .any, .any, .any, .any, .any, .any, .any, .any, .any, .any, .any, .any, .any, .any, .any, .any, .any, .any, .any, .any, .any, .any, .any, .any, .any, .any, .any, .any, .any, .any, .any, .any, .any, .any, .any, .any, .any, .any, .any, .any, .any, .any, .any, .any, .any, .any, .any, .any, .any, .any, .any, .any, .any, .any, .any, .any, .any, .any, .any, .any, .any, .any, .any], [tabs 1 0 boxes n, keyC fun i => if i < 16 * (r + 1) then (pKeyS key r).1 i else 0#8]⟩, fun r => r ≤ 10, fun r => 10 - r, ⟨0, [0, 2], ⟨⟨rfl, rfl, rfl⟩, ?_⟩, by omega⟩, fun r hr => ⟨fun h => ?_, fun h => ?_⟩⟩⟩
  · refine ⟨rfl, rfl, rfl, rfl, rfl, rfl, rfl, rfl, fun j hj => ⟨rfl, trivial⟩, rfl, rfl, rfl, fun j hj => eqC_w8 ?_, trivial⟩
    show (if 0 ≤ j ∧ j < 0 + 16 then SC.w8 (key (j - 0 + 0)) else SC.w8 0) = SC.w8 (if j < 16 then key j else 0#8)
    by_cases hj16 : j < 16
    · rw [if_pos ⟨by omega, by omega⟩, if_pos hj16]
      rfl
    · rw [if_neg (by omega), if_neg hj16]
      rfl
  · have hlt : ((r + 1 : Nat) : Int) ≤ 10 := of_decide_eq_true h
    repeat refine ⟨by omega, ?_⟩
    refine ⟨(by omega : (((r + 1 : Nat) : Int) - 1).toNat * 16 + 0 + 16 ≤ 176), rfl, rfl, ⟨by omega, by omega⟩, ?_⟩
    refine .inl ⟨Nat, fun k => ⟨[.a (.c (.p 0 0 0)), .any, .any, .any, .any, .a (.c (.p 1 0 0)), .a (.c (.w8 ((pKeyS key r).2))), .a (.c (.int .i64 (↑(r + 1)))), .a (.c (.p 2 0 0)), .a (.c (.p 1 1 (16 * (r + 1)))), .any, .any, .any, .any, .any, .any, .any, .any, .any, .any, .any, .any, .any, .any, .any, .any, .any, .any, .any, .any, .any, .any, .any, .any, .any, .any, .any, .any, .any, .any, .any, .any, .any, .any, .a (.c (.int .i64 (↑k))), .any, .any, .any, .any, .any, .any, .any, .any, .any, .any, .any, .any, .any, .any, .any, .any, .any, .any, .any, .any, .any, .any, .any, .any, .any, .any, .any, .any, .any, .any, .any, .any, .any, .any, .any, .any, .any, .any, .any, .any, .any, .any, .any, .any, .any, .any, .any, .any, .any, .any, .any], [tabs 1 0 boxes n, keyC fun i => if i < 16 * (r + 1) then (pKeyS key r).1 i else if i < 16 * (r + 1) + k then (pKeyS key r).1 (16 * r + (i - 16 * (r + 1))) ^^^ box ((pKeyS key r).1 (16 * r + (12 + (i - 16 * (r + 1) + 1) % 4))) else 0#8, [.row 16 fun j => .w8 ((pKeyS key r).1 (16 * r + j))]]⟩, fun k => k ≤ 4, fun k => 4 - k, ⟨0, [0, 1, 2], ⟨⟨rfl, rfl, rfl⟩, ?_⟩, by omega⟩, fun k hk => ⟨fun h => ?_, fun h => ?_⟩⟩
    · refine ⟨rfl, rfl, rfl, rfl, rfl, (by omega : ((r + 1 : Nat) : Int).toNat * 16 + 0 = 16 * (r + 1)), rfl, rfl, rfl, rfl, rfl, fun j hj => ⟨rfl, trivial⟩, rfl, rfl, rfl, fun j hj => eqC_w8 (congrArg SC.w8 ?_), rfl, fun j hj => eqC_w8 (congrArg SC.w8 ?_), trivial⟩
      · dsimp only
        by_cases h1 : j < 16 * (r + 1)
        · rw [if_pos h1, if_pos h1]
        · rw [if_neg h1, if_neg h1, if_neg (by omega)]
      · have e : (((r + 1 : Nat) : Int) - 1).toNat * 16 + 0 = 16 * r := by omega
        show (if j + ((((r + 1 : Nat) : Int) - 1).toNat * 16 + 0) < 16 * (r + 1) then (pKeyS key r).1 (j + ((((r + 1 : Nat) : Int) - 1).toNat * 16 + 0)) else 0#8) = _
        rw [e, if_pos (by omega), Nat.add_comm]
    · have hlk : (k : Int) < 4 := of_decide_eq_true h
      refine ⟨none, [], [(0, true), (1, true), (2, true), (3, true), (4, true), (5, true), (6, true), (7, true), (8, true), (9, true), (10, true), (11, true), (12, true), (13, true), (14, true), (15, true), (16, true), (17, true), (18, true)], [19], by kernel_rfl, ?_⟩
      repeat first
        | refine ⟨by omega, ?_⟩
        | refine ⟨idx8 _, ?_⟩
        | refine ⟨lt8 (Nat.le_refl _) _, ?_⟩
      refine ⟨rfl, ⟨by omega, by omega⟩, k + 1, [0, 1, 2], ⟨⟨rfl, rfl, rfl⟩, ?_⟩, by dsimp only; omega, by dsimp only; omega⟩
      refine ⟨rfl, rfl, rfl, rfl, rfl, rfl, rfl, rfl, rfl, rfl, rfl, fun j hj => ⟨rfl, trivial⟩, rfl, rfl, rfl, fun j hj => eqC_w8 ?_, rfl, fun j hj => ⟨rfl, trivial⟩, trivial⟩
      have e0 : (k : Int).toNat + 0 = k := by omega
      have e1 : (12 + ((k : Int) + 1) % 4).toNat + 0 = 12 + (k + 1) % 4 := by omega
      have e2 : ∀ x : BitVec 8, ((x.toNat : Int)).toNat + 0 = x.toNat := fun x => by omega
      have e3 : (k : Int).toNat + 16 * (r + 1) = 16 * (r + 1) + k := by omega
      rw [e0, e1, e2, boxes_at, e3]
      refine (upd_w8 (g := fun i => .w8 (if i < 16 * (r + 1) then (pKeyS key r).1 i else if i < 16 * (r + 1) + (k + 1) then (pKeyS key r).1 (16 * r + (i - 16 * (r + 1))) ^^^ box ((pKeyS key r).1 (16 * r + (12 + (i - 16 * (r + 1) + 1) % 4))) else 0#8)) ?_ ?_ j).trans rfl
      · rw [if_neg (by omega), if_pos (by omega), show 16 * (r + 1) + k - 16 * (r + 1) = k by omega]
      · intro j hjk
        have : j < 16 * (r + 1) + (k + 1) ↔ j < 16 * (r + 1) + k := by omega
        simp only [this]
    · obtain rfl : k = 4 := by have : ¬ (k : Int) < 4 := of_decide_eq_false h; have hk : k ≤ 4 := hk; omega
      refine ⟨none, [], [(0, true), (1, true), (2, true), (3, true), (4, true), (5, true), (6, true), (7, true)], [8], by kernel_rfl, ?_⟩
      repeat refine ⟨by omega, ?_⟩
      refine ⟨rfl, .inl ⟨Nat, fun k => ⟨[.a (.c (.p 0 0 0)), .any, .any, .any, .any, .a (.c (.p 1 0 0)), .a (.c (.w8 ((pKeyS key r).2))), .a (.c (.int .i64 (↑(r + 1)))), .a (.c (.p 2 0 0)), .a (.c (.p 1 1 (16 * (r + 1)))), .any, .a (.c (.int .i64 (↑k))), .any, .any, .any, .any, .any, .any, .any, .any, .any, .any, .any, .any, .any, .any, .any, .any, .any, .any, .any, .any, .any, .any, .any, .any, .any, .any, .any, .any, .any, .any, .any, .any, .any, .any, .any, .any, .any, .any, .any, .any, .any, .any, .any, .any, .any, .any, .any, .any, .any, .any, .any, .any, .any, .any, .any, .any, .any, .any, .any, .any, .any, .any, .any, .any, .any, .any, .any, .any, .any, .any, .any, .any, .any, .any, .any, .any, .any, .any, .any, .any, .any, .any, .any, .any], [tabs 1 0 boxes n, keyC fun i => if i < 16 * (r + 1) + k then (pKeyS key (r + 1)).1 i else 0#8, [.row 16 fun j => .w8 ((pKeyS key r).1 (16 * r + j))]]⟩, fun k => 4 ≤ k ∧ k ≤ 16, fun k => 16 - k, ⟨4, [0, 1, 2], ⟨⟨rfl, rfl, rfl⟩, ?_⟩, by omega, by omega⟩, fun k hk => ⟨fun h => ?_, fun h => ?_⟩⟩⟩
      · refine ⟨rfl, rfl, rfl, rfl, rfl, rfl, rfl, rfl, rfl, rfl, rfl, fun j hj => ⟨rfl, trivial⟩, rfl, rfl, rfl, fun j hj => eqC_w8 ?_, rfl, fun j hj => ⟨rfl, trivial⟩, trivial⟩
        have e0 : Int.toNat 0 + 16 * (r + 1) = 16 * (r + 1) := Nat.zero_add _
        rw [e0]
        refine (upd_w8 (g := fun i => .w8 (if i < 16 * (r + 1) + 4 then (pKeyS key (r + 1)).1 i else 0#8)) ?_ ?_ j).trans rfl
        · refine congrArg SC.w8 ?_
          dsimp only
          rw [if_neg (by omega), if_pos (by omega), if_pos (by omega)]
          have e := pKeyS_ge key r 0
          rw [pNow_lo _ _ (by omega), if_pos rfl] at e
          rw [Nat.sub_self]
          exact e.symm
        · intro j hj
          refine congrArg SC.w8 ?_
          dsimp only
          by_cases h1 : j < 16 * (r + 1)
          · rw [if_pos h1, if_pos (by omega), pKeyS_lt key r h1]
          · rw [if_neg h1]
            by_cases h2 : j < 16 * (r + 1) + 4
            · rw [if_pos h2, if_pos h2]
              obtain ⟨i, rfl⟩ : ∃ i, j = 16 * (r + 1) + i := ⟨j - 16 * (r + 1), by omega⟩
              rw [pKeyS_ge key r i, pNow_lo _ _ (by omega), if_neg (by omega), show 16 * (r + 1) + i - 16 * (r + 1) = i by omega]
            · rw [if_neg h2, if_neg h2]
      · have hlk : (k : Int) < 16 := of_decide_eq_true h
        obtain ⟨hk4, hk16⟩ := hk
        refine ⟨none, [], [(0, true), (1, true), (2, true), (3, true), (4, true), (5, true), (6, true), (7, true), (8, true), (9, true), (10, true), (11, true), (12, true), (13, true)], [14], by kernel_rfl, ?_⟩
        repeat refine ⟨by omega, ?_⟩
        refine ⟨rfl, ⟨by omega, by omega⟩, k + 1, [0, 1, 2], ⟨⟨rfl, rfl, rfl⟩, ?_⟩, by omega, by dsimp only; omega⟩
        refine ⟨rfl, rfl, rfl, rfl, rfl, rfl, rfl, rfl, rfl, rfl, rfl, fun j hj => ⟨rfl, trivial⟩, rfl, rfl, rfl, fun j hj => eqC_w8 ?_, rfl, fun j hj => ⟨rfl, trivial⟩, trivial⟩
        have e0 : (k : Int).toNat + 0 = k := by omega
        have e1 : (k : Int).toNat + 16 * (r + 1) = 16 * (r + 1) + k := by omega
        have e2 : ((k : Int) - 4).toNat + 16 * (r + 1) = 16 * (r + 1) + (k - 4) := by omega
        rw [e0, e1, e2]
        refine (upd_w8 (g := fun i => .w8 (if i < 16 * (r + 1) + (k + 1) then (pKeyS key (r + 1)).1 i else 0#8)) ?_ ?_ j).trans rfl
        · refine congrArg SC.w8 ?_
          dsimp only
          rw [if_pos (by omega), if_pos (by omega), pKeyS_ge key r k, pKeyS_ge key r (k - 4), pNow_hi _ _ hk4]
        · intro j hjk
          have : j < 16 * (r + 1) + (k + 1) ↔ j < 16 * (r + 1) + k := by omega
          simp only [this]
      · obtain rfl : k = 16 := by have : ¬ (k : Int) < 16 := of_decide_eq_false h; omega
        refine ⟨by kernel_rfl, call_same (fn_times _ _) [] rfl ⟨rfl, rfl, trivial⟩ trivial (fun _ _ => trivial) ?_⟩
        rintro x hs ⟨rfl, rfl⟩
        refine ⟨⟨by omega, by omega⟩, r + 1, [0, 1], ⟨⟨rfl, rfl, rfl⟩, rfl, rfl, rfl, rfl, rfl, rfl, rfl, rfl, fun j hj => ⟨rfl, trivial⟩, rfl, rfl, rfl, fun j hj => eqC_w8 ?_, trivial⟩, by dsimp only; omega, by dsimp only; omega⟩
        rfl
  · obtain rfl : r = 10 := by have : ¬ ((r + 1 : Nat) : Int) ≤ 10 := of_decide_eq_false h; have hr : r ≤ 10 := hr; omega
    exact ⟨.a (.c (.p 1 0 0)), [tabs 1 0 boxes n, keyC (pKeys key)], ⟨[0, 1], ⟨rfl, rfl, rfl⟩, rfl, rfl, rfl, rfl, rfl, fun j hj => ⟨rfl, trivial⟩, rfl, rfl, rfl, fun j hj => eqC_w8 (congrArg SC.w8 (if_pos hj)), trivial⟩, rfl, rfl⟩
end Sx
end Go.Proofs.Ytngajbgfnmahdaa
