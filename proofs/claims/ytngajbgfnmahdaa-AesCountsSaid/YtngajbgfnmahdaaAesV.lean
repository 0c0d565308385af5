/-
  The law's fixed fact. No condition.
-/
import Derived.Test.YtngajbgfnmahdaaAesU
import Derived.Test.YtngajbgfnmahdaaAesW
namespace Go.Proofs.Ytngajbgfnmahdaa
namespace Sx
open Aes

theorem fn_awake : Fn Try.prog tds 15 [] [] (fun _ => True) (fun x hs => x = .a (.c (.bool true)) ∧ hs = []) := by
  refine fn_of_body tds_ok follows_ Try.func15 rfl (t := anys 36) rfl (fun w r0 hr _ => ?_)
  obtain rfl : r0 = [] := List.eq_nil_of_length_eq_zero hr
  refine .inl ⟨Nat, fun k => ⟨[.any, .a (.c (.p 0 0 0)), .a (.c (.p 1 0 0)), .any, .any, .a (.c (.int .i64 (↑k))), .any, .any, .any, .any, .any, .any, .any, .any, .any, .any, .any, .any, .any, .any, .any, .any, .any, .any, .any, .any, .any, .any, .any, .any, .any, .any, .any, .any, .any, .any], [[.row 16 fun i => .w8 (if i < k then awK i else 0#8)], [.row 16 fun i => .w8 (if i < k then awB i else 0#8)]]⟩, fun k => k ≤ 16, fun k => 16 - k, ⟨0, [0, 1], ⟨⟨rfl, rfl, rfl⟩, ?_⟩, by omega⟩, fun k hk => ⟨fun h => ?_, fun h => ?_⟩⟩
  · (repeat first | exact trivial | refine ⟨rfl, ?_⟩ | refine ⟨fun _ _ => ⟨rfl, trivial⟩, ?_⟩ | refine ⟨by omega, ?_⟩)
  · have hlt : (k : Int) < 16 := of_decide_eq_true h
    (repeat first | refine ⟨by omega, ?_⟩ | refine ⟨by decide, ?_⟩ | refine ⟨idx8 _, ?_⟩ | refine ⟨lt8 (Nat.le_refl _) _, ?_⟩)
    refine ⟨rfl, ?_⟩
    (repeat first | refine ⟨by omega, ?_⟩ | refine ⟨by decide, ?_⟩ | refine ⟨idx8 _, ?_⟩ | refine ⟨lt8 (Nat.le_refl _) _, ?_⟩)
    have e0 : (k : Int).toNat + 0 = k := by omega
    refine ⟨rfl, ⟨by omega, by omega⟩, k + 1, [0, 1], ⟨⟨rfl, rfl, rfl⟩, ?_⟩, by dsimp only; omega, by dsimp only; omega⟩
    (repeat first | exact trivial | refine ⟨rfl, ?_⟩ | refine ⟨fun _ _ => ⟨rfl, trivial⟩, ?_⟩ | refine ⟨by omega, ?_⟩)
    refine ⟨fun j hj => eqC_w8 ?_, rfl, fun j hj => eqC_w8 ?_, trivial⟩
    all_goals
      rw [e0]
      refine (upd_w8 (k := k) (g := fun i => .w8 (if i < k + 1 then _ else 0#8)) ?_ ?_ j).trans rfl
      · simp only [if_pos (show k < k + 1 by omega)]
        rfl
      · intro j hjk
        have : j < k + 1 ↔ j < k := by omega
        simp only [this]
  · obtain rfl : k = 16 := by have : ¬ (k : Int) < 16 := of_decide_eq_false h; have hk : k ≤ 16 := hk; omega
    refine ⟨some [0,1], [5], [(1, true), (3, true), (0, false), (2, false), (4, false), (5, false)], [6], by kernel_rfl, ?_⟩
    (repeat first | refine ⟨by omega, ?_⟩ | refine ⟨by decide, ?_⟩ | refine ⟨idx8 _, ?_⟩ | refine ⟨lt8 (Nat.le_refl _) _, ?_⟩)
    refine ⟨by kernel_rfl, call_same fn_new [] rfl trivial trivial (fun _ _ => trivial) ?_⟩
    rintro x hs ⟨rfl, rfl⟩
    refine ⟨by kernel_rfl, call_same (fn_key 0 (fun _ => 0#8) 0 awK (.inl rfl)) [2] rfl ⟨rfl, rfl, rfl, fun j hj => eqC_w8 (congrArg SC.w8 (if_pos hj)), trivial⟩ (by (repeat first | exact trivial | refine ⟨rfl, ?_⟩ | refine ⟨fun _ _ => ⟨rfl, trivial⟩, ?_⟩ | refine ⟨by omega, ?_⟩)) (fun _ _ => trivial) ?_⟩
    rintro x hs ⟨rfl, rfl⟩
    refine ⟨by kernel_rfl, call_same (fn_turn 0 awK awB (by omega)) [2, 3] rfl ⟨rfl, rfl, rfl, fun j hj => eqC_w8 (congrArg SC.w8 (if_pos hj)), trivial⟩ (by (repeat first | exact trivial | refine ⟨rfl, ?_⟩ | refine ⟨fun _ _ => ⟨rfl, trivial⟩, ?_⟩ | refine ⟨by omega, ?_⟩)) (fun _ _ => trivial) ?_⟩
    rintro x hs ⟨rfl, rfl⟩
    refine ⟨rfl, rfl, ?_⟩
    (repeat first | refine ⟨by omega, ?_⟩ | refine ⟨by decide, ?_⟩ | refine ⟨idx8 _, ?_⟩ | refine ⟨lt8 (Nat.le_refl _) _, ?_⟩)
    refine ⟨fun _ => ?_, fun h => absurd (aw_turn 0 (by omega)) (of_decide_eq_false h)⟩
    (repeat first | refine ⟨by omega, ?_⟩ | refine ⟨by decide, ?_⟩ | refine ⟨idx8 _, ?_⟩ | refine ⟨lt8 (Nat.le_refl _) _, ?_⟩)
    refine ⟨fun _ => ?_, fun h => absurd (aw_turn 0 (by omega)) (of_decide_eq_false h)⟩
    (repeat first | refine ⟨by omega, ?_⟩ | refine ⟨by decide, ?_⟩ | refine ⟨idx8 _, ?_⟩ | refine ⟨lt8 (Nat.le_refl _) _, ?_⟩)
    refine ⟨fun _ => ?_, fun h => absurd (aw_turn 0 (by omega)) (of_decide_eq_false h)⟩
    refine ⟨fun _ => ?_, fun h => absurd (aw_turn 0 (by omega)) (of_decide_eq_false h)⟩
    refine ⟨fun _ => ?_, fun h => absurd (aw_turn 1 (by omega)) (of_decide_eq_false h)⟩
    (repeat first | refine ⟨by omega, ?_⟩ | refine ⟨by decide, ?_⟩ | refine ⟨idx8 _, ?_⟩ | refine ⟨lt8 (Nat.le_refl _) _, ?_⟩)
    refine ⟨fun _ => ?_, fun h => absurd (aw_turn 1 (by omega)) (of_decide_eq_false h)⟩
    (repeat first | refine ⟨by omega, ?_⟩ | refine ⟨by decide, ?_⟩ | refine ⟨idx8 _, ?_⟩ | refine ⟨lt8 (Nat.le_refl _) _, ?_⟩)
    refine ⟨fun _ => ?_, fun h => absurd (aw_turn 1 (by omega)) (of_decide_eq_false h)⟩
    refine ⟨fun _ => ?_, fun h => absurd (aw_turn 1 (by omega)) (of_decide_eq_false h)⟩
    exact ⟨.a (.c (.bool true)), [], ⟨[], ⟨rfl, rfl, rfl⟩, decide_eq_true (aw_turn 15 (by omega)), trivial⟩, rfl, rfl⟩
end Sx
end Go.Proofs.Ytngajbgfnmahdaa
