/-
  The document's field of 256, its boxes. No condition.
-/
import Derived.Test.YtndlhhhebijknaaAesA
namespace Go.Proofs.Ytndlhhhebijknaa
set_option linter.unusedVariables false
namespace Sx
open Aes

theorem shl_nat (a k : Nat) : (a : Int) * 2 ^ k = ((a * 2 ^ k : Nat) : Int) := by simp
theorem shr_nat (a k : Nat) : (a : Int) / 2 ^ k = ((a / 2 ^ k : Nat) : Int) := by simp
theorem fn_rtimes (a b : BitVec 8) : Fn Try.prog tds 79 [] [.c (.w8 a), .c (.w8 b)] (fun _ => True) (fun x hs => x = .a (.c (.w8 (refTimes a b))) ∧ hs = []) := by
  refine fn_of_body tds_ok follows_ Try.func79 rfl (t := [.a (.c (.w8 (a))), .a (.c (.w8 (b))), .any, .any, .any, .any, .any, .any, .any, .any, .any, .any, .any, .any, .any, .any, .any, .any, .any, .any, .any, .any, .any, .any, .any, .any, .any, .any, .any, .any, .any, .any, .any, .any, .any, .any, .any, .any, .any]) rfl (fun w r0 hr _ => ?_)
  obtain rfl : r0 = [] := List.eq_nil_of_length_eq_zero hr
  refine .inl ⟨Nat, fun k => ⟨[.a (.c (.w8 (a))), .a (.c (.w8 (b))), .any, .any, .any, .a (.c (.int .i64 (↑(rT1 a b k)))), .a (.c (.int .i64 (↑k))), .any, .any, .any, .any, .any, .any, .any, .any, .any, .any, .any, .any, .any, .any, .any, .any, .any, .any, .any, .any, .any, .any, .any, .any, .any, .any, .any, .any, .any, .any, .any, .any], []⟩, fun k => k ≤ 8, fun k => 8 - k, ⟨0, [], ⟨⟨rfl, rfl, rfl⟩, rfl, rfl, rfl, rfl, trivial⟩, by omega⟩, fun k hk => ⟨fun h => ?_, fun h => ?_⟩⟩
  · have hlt : (k : Int) < 8 := of_decide_eq_true h
    have b0 := rT1_lt a b k hk
    refine ⟨by omega, fun h2 => ?_, fun h2 => ?_⟩
    · have h3 : (b >>> k) &&& 1#8 = 1#8 := of_decide_eq_true h2
      have b1 : a.toNat * 2 ^ k < 2 ^ 15 := by
        have h1 : a.toNat ≤ 255 := by have := a.isLt; omega
        have h2 : 2 ^ k ≤ 2 ^ 7 := Nat.pow_le_pow_right (by omega) (by omega)
        have := Nat.mul_le_mul h1 h2
        omega
      have e1 : (a.toNat : Int) * 2 ^ (k : Int).toNat = ((a.toNat * 2 ^ k : Nat) : Int) := by simp
      refine ⟨by omega, ⟨by omega, by rw [e1]; omega, by rw [e1]; omega⟩, ⟨by omega, by rw [e1]; omega, by omega, by rw [e1]; omega⟩, ⟨by omega, by omega⟩, k + 1, [], ⟨⟨rfl, rfl, rfl⟩, rfl, rfl, ?_, rfl, trivial⟩, by dsimp only; omega, by dsimp only; omega⟩
      rw [e1]
      simp only [rT1, if_pos h3]
      rfl
    · have h3 : ¬ (b >>> k) &&& 1#8 = 1#8 := of_decide_eq_false h2
      exact ⟨⟨by omega, by omega⟩, k + 1, [], ⟨⟨rfl, rfl, rfl⟩, rfl, rfl, by simp only [rT1, if_neg h3], rfl, trivial⟩, by dsimp only; omega, by dsimp only; omega⟩
  · obtain rfl : k = 8 := by have : ¬ (k : Int) < 8 := of_decide_eq_false h; have hk : k ≤ 8 := hk; omega
    have c0 := rT1_lt a b 8 (by omega)
    refine .inl ⟨Nat, fun j => ⟨[.any, .any, .any, .any, .any, .a (.c (.int .i64 (↑(rT2 (rT1 a b 8) j)))), .any, .a (.c (.int .i64 ((14 - ↑j)))), .any, .any, .any, .any, .any, .any, .any, .any, .any, .any, .any, .any, .any, .any, .any, .any, .any, .any, .any, .any, .any, .any, .any, .any, .any, .any, .any, .any, .any, .any, .any], []⟩, fun j => j ≤ 7, fun j => 7 - j, ⟨0, [], ⟨⟨rfl, rfl, rfl⟩, rfl, rfl, trivial⟩, by omega⟩, fun j hj => ⟨fun h => ?_, fun h => ?_⟩⟩
    · have hge : (8 : Int) ≤ 14 - j := of_decide_eq_true h
      have b0 := rT2_lt (rT1 a b 8) c0 j hj
      have e0 : (14 - (j : Int)).toNat = 14 - j := by omega
      have e1 : ((rT2 (rT1 a b 8) j : Nat) : Int) / 2 ^ (14 - (j : Int)).toNat = ((rT2 (rT1 a b 8) j / 2 ^ (14 - j) : Nat) : Int) := by rw [e0]; simp
      have b1 : rT2 (rT1 a b 8) j / 2 ^ (14 - j) ≤ rT2 (rT1 a b 8) j := Nat.div_le_self _ _
      have hR : rT2 (rT1 a b 8) (j + 1) = if (rT2 (rT1 a b 8) j / 2 ^ (14 - j)) &&& 1 = 1 then rT2 (rT1 a b 8) j ^^^ (283 * 2 ^ (14 - j - 8)) else rT2 (rT1 a b 8) j := rfl
      obtain ⟨m, hm⟩ : ∃ m, rT2 (rT1 a b 8) j / 2 ^ (14 - j) = m := ⟨_, rfl⟩
      rw [hm] at e1 b1 hR
      refine ⟨by omega, by omega, ⟨by rw [e1]; omega, by omega, by rw [e1]; omega, by omega⟩, fun h2 => ?_, fun h2 => ?_⟩
      all_goals rw [e1] at h2
      · have h3 : m &&& 1 = 1 := Int.ofNat.inj (of_decide_eq_true h2)
        have e2 : (14 - (j : Int) - 8).toNat = 14 - j - 8 := by omega
        have b2 : 283 * 2 ^ (14 - j - 8) ≤ 283 * 2 ^ 6 := Nat.mul_le_mul_left _ (Nat.pow_le_pow_right (by omega) (by omega))
        have e3 : (283 : Int) * 2 ^ (14 - (j : Int) - 8).toNat = ((283 * 2 ^ (14 - j - 8) : Nat) : Int) := by rw [e2]; simp
        refine ⟨⟨by omega, by omega⟩, by omega, ⟨by omega, by rw [e3]; omega, by rw [e3]; omega⟩, ⟨by omega, by rw [e3]; omega, by omega, by rw [e3]; omega⟩, ⟨by omega, by omega⟩, j + 1, [], ⟨⟨rfl, rfl, rfl⟩, ?_, by omega, trivial⟩, by dsimp only; omega, by dsimp only; omega⟩
        rw [e3, hR, if_pos h3]
        rfl
      · have h3 : ¬ m &&& 1 = 1 := fun e => of_decide_eq_false h2 (congrArg Int.ofNat e)
        exact ⟨⟨by omega, by omega⟩, j + 1, [], ⟨⟨rfl, rfl, rfl⟩, by rw [hR, if_neg h3], by omega, trivial⟩, by dsimp only; omega, by dsimp only; omega⟩
    · obtain rfl : j = 7 := by have : ¬ (8 : Int) ≤ 14 - j := of_decide_eq_false h; have hj : j ≤ 7 := hj; omega
      exact ⟨.a (.c (.w8 (refTimes a b))), [], ⟨[], ⟨rfl, rfl, rfl⟩, BitVec.ofInt_natCast _ _, trivial⟩, rfl, rfl⟩
end Sx
end Go.Proofs.Ytndlhhhebijknaa
