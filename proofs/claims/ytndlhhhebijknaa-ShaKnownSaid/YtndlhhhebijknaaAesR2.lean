/-
  The document's boxes. No condition.
-/
import Derived.Test.YtndlhhhebijknaaAesR
namespace Go.Proofs.Ytndlhhhebijknaa
set_option linter.unusedVariables false
namespace Sx
open Aes

theorem ofIntN (k : Nat) : BitVec.ofInt 8 (k : Int) = BitVec.ofNat 8 k := BitVec.ofInt_natCast _ _
theorem fn_rbox (a : BitVec 8) : Fn Try.prog tds 59 [] [.c (.w8 a)] (fun _ => True) (fun x hs => x = .a (.c (.w8 (refBox a))) ∧ hs = []) := by
  refine fn_of_body tds_ok follows_ Try.func59 rfl (t := [.a (.c (.w8 (a))), .any, .any, .any, .any, .any, .any, .any, .any, .any, .any, .any, .any, .any, .any, .any, .any, .any, .any, .any, .any, .any, .any, .any, .any, .any, .any, .any, .any, .any, .any, .any, .any]) rfl (fun w r0 hr _ => ?_)
  obtain rfl : r0 = [] := List.eq_nil_of_length_eq_zero hr
  refine .inl ⟨Nat, fun k => ⟨[.a (.c (.w8 (a))), .any, .any, .a (.c (.w8 ((refFind a k)))), .a (.c (.int .i64 (↑(k + 1)))), .any, .any, .any, .any, .any, .any, .any, .any, .any, .any, .any, .any, .any, .any, .any, .any, .any, .any, .any, .any, .any, .any, .any, .any, .any, .any, .any, .any], []⟩, fun k => k ≤ 255, fun k => 255 - k, ⟨0, [], ⟨⟨rfl, rfl, rfl⟩, rfl, rfl, rfl, trivial⟩, by omega⟩, fun k hk => ⟨fun h => ?_, fun h => ?_⟩⟩
  · have hlt : ((k + 1 : Nat) : Int) < 256 := of_decide_eq_true h
    refine ⟨by kernel_rfl, call_same (fn_rtimes _ _) [] rfl ⟨rfl, rfl, trivial⟩ trivial (fun _ _ => trivial) ?_⟩
    rintro x hs ⟨rfl, rfl⟩
    refine ⟨fun h2 => ?_, fun h2 => ?_⟩
    · have h3 : refTimes a (BitVec.ofInt 8 ((k + 1 : Nat) : Int)) = 1#8 := of_decide_eq_true h2
      rw [ofIntN] at h3
      exact ⟨⟨by omega, by omega⟩, k + 1, [], ⟨⟨rfl, rfl, rfl⟩, rfl, by rw [ofIntN]; simp only [refFind, if_pos h3], rfl, trivial⟩, by dsimp only; omega, by dsimp only; omega⟩
    · have h3 : ¬ refTimes a (BitVec.ofInt 8 ((k + 1 : Nat) : Int)) = 1#8 := of_decide_eq_false h2
      rw [ofIntN] at h3
      exact ⟨⟨by omega, by omega⟩, k + 1, [], ⟨⟨rfl, rfl, rfl⟩, rfl, by simp only [refFind, if_neg h3], rfl, trivial⟩, by dsimp only; omega, by dsimp only; omega⟩
  · obtain rfl : k = 255 := by have : ¬ ((k + 1 : Nat) : Int) < 256 := of_decide_eq_false h; have hk : k ≤ 255 := hk; omega
    refine .inl ⟨Nat, fun k => ⟨[.any, .any, .any, .a (.c (.w8 ((refFind a 255)))), .any, .a (.c (.w8 ((refBoxS (refFind a 255) k)))), .a (.c (.int .i64 (↑k))), .any, .any, .any, .any, .any, .any, .any, .any, .any, .any, .any, .any, .any, .any, .any, .any, .any, .any, .any, .any, .any, .any, .any, .any, .any, .any], []⟩, fun k => k ≤ 5, fun k => 5 - k, ⟨0, [], ⟨⟨rfl, rfl, rfl⟩, rfl, rfl, rfl, trivial⟩, by omega⟩, fun k hk => ⟨fun h => ?_, fun h => ?_⟩⟩
    · have hlt : (k : Int) < 5 := of_decide_eq_true h
      have e1 : (8 - (k : Int)).toNat = 8 - k := by omega
      refine ⟨none, [], [(0, true), (1, true), (2, true), (3, true), (4, true), (5, true), (6, true), (7, true), (8, true), (9, true), (10, true)], [], by kernel_rfl, by omega, ⟨by omega, by omega⟩, by omega, ⟨by omega, by omega⟩, k + 1, [], ⟨⟨rfl, rfl, rfl⟩, rfl, ?_, rfl, trivial⟩, by dsimp only; omega, by dsimp only; omega⟩
      rw [e1]
      rfl
    · obtain rfl : k = 5 := by have : ¬ (k : Int) < 5 := of_decide_eq_false h; have hk : k ≤ 5 := hk; omega
      exact ⟨.a (.c (.w8 (refBox a))), [], ⟨[], ⟨rfl, rfl, rfl⟩, rfl, trivial⟩, rfl, rfl⟩
/-- n bytes, and room behind them. -/
def bytesF (n : Nat) (b : Nat → BitVec 8) : Nat → SC := fun j => if j < n then .w8 (b j) else .any
theorem bytesF_lt {n : Nat} {b : Nat → BitVec 8} {j : Nat} (h : j < n) : bytesF n b j = .w8 (b j) := if_pos h
theorem eqC_bytes {q : List Nat} {n : Nat} {f : Nat → SC} {b : Nat → BitVec 8} (h : ∀ j, j < n → f j = .w8 (b j)) (j : Nat) : eqC q (f j) (bytesF n b j) True := by
  unfold bytesF
  split
  · rename_i hj; exact eqC_w8 (h j hj)
  · trivial
theorem fn_rboxes : Fn Try.prog tds 36 [] [] (fun _ => True) (fun x hs => ∃ c, x = .a (.c (.sl 0 0 0 256 c)) ∧ hs = [[.row c (bytesF 256 fun i => refBox (BitVec.ofNat 8 i))]] ∧ 256 ≤ c) := by
  refine fn_of_body tds_ok follows_ Try.func36 rfl (t := anys 14) rfl (fun w r0 hr _ => ?_)
  obtain rfl : r0 = [] := List.eq_nil_of_length_eq_zero hr
  let X := Option (Nat × Nat)
  refine .inl ⟨X, fun x => match x with
    | none => ⟨[.any, .a (.c (.slc none 0 0)), .a (.c (.int .i64 (0))), .any, .any, .any, .any, .any, .any, .any, .any, .any, .any, .any], []⟩
    | some (k, c) => ⟨[.any, .a (.c (.sl 0 0 0 (k+1) c)), .a (.c (.int .i64 (↑(k + 1)))), .any, .any, .any, .any, .any, .any, .any, .any, .any, .any, .any], [[.row c (bytesF (k + 1) fun i => refBox (BitVec.ofNat 8 i))]]⟩,
    fun x => match x with
    | none => True
    | some (k, c) => k < 256 ∧ k + 1 ≤ c, fun x => match x with
    | none => 300
    | some (k, _) => 256 - k, ⟨none, [], ⟨⟨rfl, rfl, rfl⟩, rfl, rfl, trivial⟩, trivial⟩, fun x => ?_⟩
  rcases x with _ | ⟨k, c⟩
  · intro _
    refine ⟨fun _ => ?_, fun h => absurd (of_decide_eq_false h) (by omega)⟩
    refine ⟨by kernel_rfl, call_same (fn_rbox _) [] rfl ⟨rfl, trivial⟩ trivial (fun _ _ => trivial) ?_⟩
    rintro x hs ⟨rfl, rfl⟩
    refine ⟨by decide, ⟨rfl, rfl⟩, by decide, fun h => absurd h (by omega), fun _ c' hc' => ?_⟩
    refine ⟨⟨by omega, by omega⟩, some (0, c'), [1], ⟨⟨rfl, rfl, rfl⟩, rfl, rfl, rfl, rfl, rfl, fun j hj => eqC_bytes (fun i hi => ?_) j, trivial⟩, ⟨by omega, hc'⟩, by dsimp only; omega⟩
    obtain rfl : i = 0 := by omega
    rfl
  · rintro ⟨hk, hc⟩
    refine ⟨fun h => ?_, fun h => ?_⟩
    · have hlt : ((k + 1 : Nat) : Int) < 256 := of_decide_eq_true h
      refine ⟨by kernel_rfl, call_same (fn_rbox _) [] rfl ⟨rfl, trivial⟩ trivial (fun _ _ => trivial) ?_⟩
      rintro x hs ⟨rfl, rfl⟩
      refine ⟨by decide, ⟨by omega, by simp [scale], by show _ * 1 ≤ _; omega⟩, fun c' hc' => ?_⟩
      refine ⟨⟨by omega, by omega⟩, some (k + 1, c'), [2], ⟨⟨rfl, rfl, rfl⟩, rfl, rfl, rfl, rfl, rfl, fun j hj => eqC_bytes (fun i hi => ?_) j, trivial⟩, ⟨by omega, hc'⟩, by dsimp only; omega⟩
      unfold appF
      by_cases hik : i < k + 1
      · rw [if_pos (by simpa [scale] using hik)]
        exact bytesF_lt hik
      · obtain rfl : i = k + 1 := by omega
        rw [if_neg (by simp [scale]), if_pos (by simp [scale])]
        rw [show k + 1 - scale (k + 1) (0 + 1) = 0 from Nat.sub_self _]
        exact congrArg (fun y => SC.w8 (refBox y)) (ofIntN (k + 1))
    · obtain rfl : k = 255 := by have : ¬ ((k + 1 : Nat) : Int) < 256 := of_decide_eq_false h; omega
      exact ⟨.a (.c (.sl 0 0 0 256 c)), [[.row c (bytesF 256 fun i => refBox (BitVec.ofNat 8 i))]], ⟨[0], ⟨rfl, rfl, rfl⟩, rfl, rfl, rfl, rfl, fun j hj => eqC_bytes (fun i hi => bytesF_lt hi) j, trivial⟩, c, rfl, rfl, hc⟩
end Sx
end Go.Proofs.Ytndlhhhebijknaa
