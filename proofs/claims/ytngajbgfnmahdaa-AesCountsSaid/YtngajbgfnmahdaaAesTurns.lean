/-
  binnacle/binnaclelaw05.AesTurns: the program's block and the document's are one. No condition.
-/
import Derived.Test.YtngajbgfnmahdaaAesV
import Derived.Test.YtngajbgfnmahdaaAesR4
namespace Go.Proofs.Ytngajbgfnmahdaa
namespace Sx
open Aes

theorem boxes_ref : (fun i => refBox (BitVec.ofNat 8 i)) = boxes := by
  funext i
  exact refBox_eq _
/-- Bytes as a text. -/
def strL (n : Nat) (f : Nat → BitVec 8) : List UInt8 := (List.range n).map fun i => UInt8.ofBitVec (f i)
theorem strL_len (n : Nat) (f : Nat → BitVec 8) : (strL n f).length = n := by simp [strL]
theorem strL_at (n : Nat) (f : Nat → BitVec 8) {q : Nat} (h : q < n) : ((strL n f).getD q 0).toBitVec = f q := by
  simp [strL, h]
theorem strL_congr {n : Nat} {f g : Nat → BitVec 8} (h : ∀ i, i < n → f i = g i) : strL n f = strL n g :=
  List.map_congr_left fun i hi => by rw [h i (List.mem_range.1 hi)]
theorem fn_aesTurns (k b : Nat → BitVec 8) : Fn Try.prog tds 3 [] [blk k, blk b] (fun _ => True) (fun x hs => x = .a (.c (.bool true)) ∧ hs = []) := by
  refine fn_of_body tds_ok follows_ Try.func3 rfl (t := .a (blk k) :: .a (blk b) :: anys 21) rfl (fun w r0 hr _ => ?_)
  obtain rfl : r0 = [] := List.eq_nil_of_length_eq_zero hr
  refine ⟨rfl, rfl, by kernel_rfl, call_same fn_awake [] rfl trivial trivial (fun _ _ => trivial) ?_⟩
  rintro x hs ⟨rfl, rfl⟩
  refine ⟨fun h => absurd h (by decide), fun _ => ?_⟩
  refine ⟨by kernel_rfl, call_same fn_rboxes [] rfl trivial trivial (fun _ _ => trivial) ?_⟩
  rintro x hs ⟨c, rfl, rfl, hc⟩
  rw [boxes_ref]
  refine ⟨some [0,1], [5], [(1, true), (3, true), (0, false), (2, false), (4, false), (5, false)], [6], by kernel_rfl, ?_⟩
  (repeat first | refine ⟨by omega, ?_⟩ | refine ⟨by decide, ?_⟩ | refine ⟨idx8 _, ?_⟩ | refine ⟨lt8 (Nat.le_refl _) _, ?_⟩)
  refine ⟨by kernel_rfl, call_same fn_new [] rfl trivial trivial (fun _ _ => trivial) ?_⟩
  rintro x hs ⟨rfl, rfl⟩
  refine ⟨by kernel_rfl, call_same (fn_key 0 (fun _ => 0#8) 0 k (.inl rfl)) [3] rfl ⟨rfl, rfl, rfl, fun j hj => ⟨rfl, trivial⟩, trivial⟩ (by (repeat first | exact trivial | refine ⟨rfl, ?_⟩ | refine ⟨fun _ _ => ⟨rfl, trivial⟩, ?_⟩ | refine ⟨by omega, ?_⟩)) (fun _ _ => trivial) ?_⟩
  rintro x hs ⟨rfl, rfl⟩
  refine ⟨by kernel_rfl, call_same (fn_turn 0 k b (by omega)) [3, 4] rfl ⟨rfl, rfl, rfl, fun j hj => ⟨rfl, trivial⟩, trivial⟩ (by (repeat first | exact trivial | refine ⟨rfl, ?_⟩ | refine ⟨fun _ _ => ⟨rfl, trivial⟩, ?_⟩ | refine ⟨by omega, ?_⟩)) (fun _ _ => trivial) ?_⟩
  rintro x hs ⟨rfl, rfl⟩
  refine ⟨rfl, rfl, some [5,6], [], [(0, true), (1, true), (2, true), (3, true), (4, true), (5, false), (6, true), (7, true), (8, true)], [], by kernel_rfl, ?_⟩
  (repeat first | refine ⟨by omega, ?_⟩ | refine ⟨by decide, ?_⟩ | refine ⟨idx8 _, ?_⟩ | refine ⟨lt8 (Nat.le_refl _) _, ?_⟩)
  refine ⟨strL 16 (pTurn k b), ⟨strL_len _ _, fun q hq => congrArg SC.w8 (strL_at 16 _ hq).symm⟩, ?_⟩
  (repeat first | refine ⟨by omega, ?_⟩ | refine ⟨by decide, ?_⟩ | refine ⟨idx8 _, ?_⟩ | refine ⟨lt8 (Nat.le_refl _) _, ?_⟩)
  refine ⟨by kernel_rfl, call_same (fn_rturn boxes k b c 16 16 hc (by omega) (by omega)) [2, 0, 1] rfl ⟨rfl, rfl, rfl, rfl, rfl, rfl, rfl, rfl, rfl, trivial⟩ ⟨rfl, fun j hj => eqC_mp, rfl, fun j _ => eqC_bytes (f := fun j => .w8 (k j)) (fun j hj => rfl) j, rfl, fun j _ => eqC_bytes (f := fun j => .w8 (b j)) (fun j hj => rfl) j, trivial⟩ (fun _ _ => trivial) ?_⟩
  rintro x hs ⟨c', rfl, rfl, hc'⟩
  refine ⟨(by omega : 0 + 16 ≤ c'), strL 16 (rTurnS boxes k b 10), ⟨strL_len _ _, fun q hq => ?_⟩, ?_⟩
  · rw [strL_at 16 _ hq]
    show SC.mp _ (bytesF 16 (rTurnS boxes k b 10) (q + 0)) = _
    rw [bytesF_lt (by omega)]
    rfl
  have e : strL 16 (pTurn k b) = strL 16 (rTurnS boxes k b 10) := strL_congr fun i hi => (turn_eq boxes_at k b i hi).symm
  exact ⟨.a (.c (.bool true)), [], ⟨[], ⟨rfl, rfl, rfl⟩, decide_eq_true e, trivial⟩, rfl, rfl⟩
end Sx
end Go.Proofs.Ytngajbgfnmahdaa
