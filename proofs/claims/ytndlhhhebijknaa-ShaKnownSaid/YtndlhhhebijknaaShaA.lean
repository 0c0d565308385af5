/-
  SHA-256's tables, reckoned by the program. No condition.
-/
import Derived.Test.YtndlhhhebijknaaSxr
import Derived.Test.YtndlhhhebijknaaAesA
import Derived.Test.YtndlhhhebijknaaShaM
namespace Go.Proofs.Ytndlhhhebijknaa
set_option linter.unusedVariables false
namespace Sx
open Sha

set_option maxRecDepth 20000 in
theorem fn_mul64 (x y : BitVec 64) : Fn Try.prog tds 95 [] [.c (.w64 x), .c (.w64 y)] (fun _ => True) (fun v hs => v = .tup [.c (.w64 (mul64 x y).1), .c (.w64 (mul64 x y).2)] ∧ hs = []) := by
  refine fn_of_body tds_ok follows_ Try.func95 rfl (t := .a (.c (.w64 x)) :: .a (.c (.w64 y)) :: anys 49) rfl (fun w r0 hr _ => ?_)
  obtain rfl : r0 = [] := List.eq_nil_of_length_eq_zero hr
  exact ⟨.tup [.c (.w64 (mul64 x y).1), .c (.w64 (mul64 x y).2)], [], ⟨[], ⟨rfl, rfl, rfl⟩, rfl, rfl, trivial⟩, rfl, rfl⟩
theorem fn_mul64' {x y hi lo : BitVec 64} (h : mul64 x y = (hi, lo)) : Fn Try.prog tds 95 [] [.c (.w64 x), .c (.w64 y)] (fun _ => True) (fun v hs => v = .tup [.c (.w64 hi), .c (.w64 lo)] ∧ hs = []) := by
  have := fn_mul64 x y
  rw [h] at this
  exact this
theorem fn_sqFits (x n : BitVec 64) : Fn Try.prog tds 83 [] [.c (.w64 x), .c (.w64 n)] (fun _ => True) (fun v hs => v = .a (.c (.bool (sqFits x n))) ∧ hs = []) := by
  refine fn_of_body tds_ok follows_ Try.func83 rfl (t := .a (.c (.w64 x)) :: .a (.c (.w64 n)) :: anys 23) rfl (fun w r0 hr _ => ?_)
  obtain rfl : r0 = [] := List.eq_nil_of_length_eq_zero hr
  obtain ⟨hi, lo, hm⟩ : ∃ hi lo, mul64 x x = (hi, lo) := ⟨_, _, rfl⟩
  refine ⟨by kernel_rfl, call_same (fn_mul64' hm) [] rfl ⟨rfl, rfl, trivial⟩ trivial (fun _ _ => trivial) ?_⟩
  rintro v hs ⟨rfl, rfl⟩
  have hres : sqFits x n = (decide (hi < n) || (decide (hi = n) && decide (lo = 0#64))) := by unfold sqFits; rw [hm]
  rw [hres]
  cases e1 : decide (hi < n) <;> cases e2 : decide (hi = n) <;> cases e3 : decide (lo = 0#64) <;> (repeat first | refine ⟨fun _ => ?_, fun h => absurd h (by rw [e1]; decide)⟩ | refine ⟨fun h => absurd h (by rw [e1]; decide), fun _ => ?_⟩ | refine ⟨fun _ => ?_, fun h => absurd h (by rw [e2]; decide)⟩ | refine ⟨fun h => absurd h (by rw [e2]; decide), fun _ => ?_⟩ | refine ⟨fun _ => ?_, fun h => absurd h (by rw [e3]; decide)⟩ | refine ⟨fun h => absurd h (by rw [e3]; decide), fun _ => ?_⟩ | refine ⟨fun _ => ?_, fun h => Bool.noConfusion h⟩ | refine ⟨fun h => Bool.noConfusion h, fun _ => ?_⟩) <;>
    exact ⟨.a (.c (.bool _)), [], ⟨[], ⟨rfl, rfl, rfl⟩, by first | (rw [e1]; done) | (rw [e2]; done) | (rw [e3]; done) | (rw [e1]; rfl) | (rw [e2]; rfl) | (rw [e3]; rfl) | rfl, trivial⟩, rfl, rfl⟩
set_option maxRecDepth 20000 in
theorem fn_cuFits (x n : BitVec 64) : Fn Try.prog tds 84 [] [.c (.w64 x), .c (.w64 n)] (fun _ => True) (fun v hs => v = .a (.c (.bool (cuFits x n))) ∧ hs = []) := by
  refine fn_of_body tds_ok follows_ Try.func84 rfl (t := .a (.c (.w64 x)) :: .a (.c (.w64 n)) :: anys 39) rfl (fun w r0 hr _ => ?_)
  obtain rfl : r0 = [] := List.eq_nil_of_length_eq_zero hr
  obtain ⟨hi, lo, hm⟩ : ∃ hi lo, mul64 x x = (hi, lo) := ⟨_, _, rfl⟩
  obtain ⟨ov, re, hm2⟩ : ∃ ov re, mul64 lo x = (ov, re) := ⟨_, _, rfl⟩
  refine ⟨by kernel_rfl, call_same (fn_mul64' hm) [] rfl ⟨rfl, rfl, trivial⟩ trivial (fun _ _ => trivial) ?_⟩
  rintro v hs ⟨rfl, rfl⟩
  refine ⟨by kernel_rfl, call_same (fn_mul64' hm2) [] rfl ⟨rfl, rfl, trivial⟩ trivial (fun _ _ => trivial) ?_⟩
  rintro v hs ⟨rfl, rfl⟩
  have hres : cuFits x n = (decide (hi * x + ov < n <<< 32) || (decide (hi * x + ov = n <<< 32) && decide (re = 0#64))) := by unfold cuFits cuTop; rw [hm]; simp only; rw [hm2]
  rw [hres]
  cases e1 : decide (hi * x + ov < n <<< 32) <;> cases e2 : decide (hi * x + ov = n <<< 32) <;> cases e3 : decide (re = 0#64) <;> (repeat first | refine ⟨fun _ => ?_, fun h => absurd h (by rw [e1]; decide)⟩ | refine ⟨fun h => absurd h (by rw [e1]; decide), fun _ => ?_⟩ | refine ⟨fun _ => ?_, fun h => absurd h (by rw [e2]; decide)⟩ | refine ⟨fun h => absurd h (by rw [e2]; decide), fun _ => ?_⟩ | refine ⟨fun _ => ?_, fun h => absurd h (by rw [e3]; decide)⟩ | refine ⟨fun h => absurd h (by rw [e3]; decide), fun _ => ?_⟩ | refine ⟨fun _ => ?_, fun h => Bool.noConfusion h⟩ | refine ⟨fun h => Bool.noConfusion h, fun _ => ?_⟩) <;>
    exact ⟨.a (.c (.bool _)), [], ⟨[], ⟨rfl, rfl, rfl⟩, by first | (rw [e1]; done) | (rw [e2]; done) | (rw [e3]; done) | (rw [e1]; rfl) | (rw [e2]; rfl) | (rw [e3]; rfl) | rfl, trivial⟩, rfl, rfl⟩
theorem fn_root {g : FuncId} {F : BitVec 64 → BitVec 64 → Bool} (hg : callable Try.prog g = true) (hF : ∀ x n, Fn Try.prog tds g [] [.c (.w64 x), .c (.w64 n)] (fun _ => True) (fun v hs => v = .a (.c (.bool (F x n))) ∧ hs = [])) (n : BitVec 64) :
    Fn Try.prog tds 82 [] [.c (.w64 n), .c (.fnv (.func g) #[] #[])] (fun _ => True) (fun v hs => v = .a (.c (.w64 (root F n))) ∧ hs = []) := by
  refine fn_of_body tds_ok follows_ Try.func82 rfl (t := .a (.c (.w64 n)) :: .a (.c (.fnv (.func g) #[] #[])) :: anys 21) rfl (fun w r0 hr _ => ?_)
  obtain rfl : r0 = [] := List.eq_nil_of_length_eq_zero hr
  refine .inl ⟨Nat, fun k => ⟨.a (.c (.w64 n)) :: .a (.c (.fnv (.func g) #[] #[])) :: .any :: .any :: .any :: .a (.c (.w64 (rootS F n k))) :: .a (.c (.int .i64 (34 - (k : Int)))) :: anys 16, []⟩, fun k => k ≤ 35, fun k => 35 - k, ⟨0, [], ⟨⟨rfl, rfl, rfl⟩, rfl, rfl, rfl, rfl, trivial⟩, by omega⟩, fun k hk => ⟨fun h => ?_, fun h => ?_⟩⟩
  · have hlt : 34 - (k : Int) ≥ 0 := of_decide_eq_true h
    have e : (BitVec.ofInt 64 (34 - (k : Int))).toNat = 34 - k := by
      rw [show 34 - (k : Int) = ((34 - k : Nat) : Int) by omega]
      exact cast64 (by omega)
    refine ⟨hg, call_same (hF _ _) [] rfl ⟨rfl, rfl, trivial⟩ trivial (fun _ _ => trivial) ?_⟩
    rintro v hs ⟨rfl, rfl⟩
    rw [e]
    refine ⟨fun h2 => ?_, fun h2 => ?_⟩
    all_goals
      refine ⟨⟨by omega, by omega⟩, k + 1, [], ⟨⟨rfl, rfl, rfl⟩, rfl, rfl, ?_, ?_, trivial⟩, by dsimp only; omega, by dsimp only; omega⟩
      · first | exact (if_pos h2).symm | exact (if_neg (by rw [h2]; decide)).symm
      · show 34 - (k : Int) - 1 = 34 - ((k + 1 : Nat) : Int)
        omega
  · obtain rfl : k = 35 := by have : ¬ 34 - (k : Int) ≥ 0 := of_decide_eq_false h; have hk : k ≤ 35 := hk; omega
    exact ⟨.a (.c (.w64 (root F n))), [], ⟨[], ⟨rfl, rfl, rfl⟩, rfl, trivial⟩, rfl, rfl⟩
/-- Tables of SHA-256: done or not, the lock, the first words, the steps. -/
abbrev shaT (d : BitVec 32) (m : Int) (f s : Nat → BitVec 32) : List Seg := [.one (.w32 d), .one (.int .i32 m), .one (.w32 0), .row 8 (fun i => .w32 (f i)), .row 64 (fun i => .w32 (s i))]
theorem eqC_w32 {q : List Nat} {x : SC} {b : BitVec 32} (h : x = .w32 b) : eqC q x (.w32 b) True := by subst h; exact ⟨rfl, trivial⟩
theorem fn_sfill (d : BitVec 32) (m : Int) (f s : Nat → BitVec 32) : Fn Try.prog tds 64 [shaT d m f s] [.c (.p 0 0 0)] (fun _ => True) (fun x hs => x = .tup [] ∧ hs = [shaT d m first steps]) := by
  refine fn_of_body tds_ok follows_ Try.func64 rfl (t := .a (.c (.p 0 0 0)) :: anys 39) rfl (fun w r0 hr _ => ?_)
  obtain ⟨x0, rfl⟩ := List.length_eq_one_iff.1 hr
  refine .inl ⟨Nat, fun k => ⟨.a (.c (.p 0 0 0)) :: .any :: .a (.c (.int .i64 (cnt k : Int))) :: .a (.c (.w64 (BitVec.ofNat 64 (k + 2)))) :: anys 36, [shaT d m (firstS f k) (stepsS s k)]⟩, fun k => cnt k ≤ 64 ∧ k ≤ 310, fun k => 310 - k, ⟨0, [0], ⟨⟨rfl, rfl, rfl⟩, ?_⟩, by decide⟩, fun k hk => ⟨fun h => ?_, fun h => ?_⟩⟩
  · (repeat first | exact trivial | refine ⟨rfl, ?_⟩ | refine ⟨fun _ _ => ⟨rfl, trivial⟩, ?_⟩ | refine ⟨by omega, ?_⟩)
  · have hlt : (cnt k : Int) < 64 := of_decide_eq_true h
    have hk310 := cnt_lt (show cnt k < 64 by omega)
    refine .inl ⟨Nat, fun e => ⟨.a (.c (.p 0 0 0)) :: .any :: .a (.c (.int .i64 (cnt k : Int))) :: .a (.c (.w64 (BitVec.ofNat 64 (k + 2)))) :: .a (.c (.w64 (BitVec.ofNat 64 e))) :: anys 35, [shaT d m (firstS f k) (stepsS s k)]⟩, fun e => 2 ≤ e ∧ e < 19 ∧ noDiv (k + 2) e, fun e => 20 - e, ⟨2, [0], ⟨⟨rfl, rfl, rfl⟩, ?_⟩, by omega, by omega, fun e h1 h2 => by omega⟩, fun e he => ⟨fun h => ?_, fun h => ?_⟩⟩
    · (repeat first | exact trivial | refine ⟨rfl, ?_⟩ | refine ⟨fun _ _ => ⟨rfl, trivial⟩, ?_⟩ | refine ⟨by omega, ?_⟩)
    · have hle := (sq_le (by omega) (by omega)).1 (of_decide_eq_true h)
      obtain ⟨he2, he19, hnd⟩ := he
      have he18 : e < 18 := by
        rcases Nat.lt_or_ge e 18 with h1 | h1
        · exact h1
        · have := Nat.mul_le_mul h1 h1; omega
      refine ⟨ne_zero (by omega) (by omega), fun h2 => ?_, fun h2 => ?_⟩
      · have hp := not_isP he2 hle (by omega) ((rem_iff (by omega) (by omega)).1 (of_decide_eq_true h2))
        refine ⟨k + 1, [0], ⟨⟨rfl, rfl, rfl⟩, ?_⟩, ⟨by rw [cnt_no hp]; omega, by omega⟩, by dsimp only; omega⟩
        refine ⟨rfl, by rw [cnt_no hp], ofN_succ (k + 2), ?_⟩
        (repeat first | exact trivial | refine ⟨rfl, ?_⟩ | refine ⟨fun _ _ => ⟨rfl, trivial⟩, ?_⟩ | refine ⟨by omega, ?_⟩)
        exact ⟨fun j hj => eqC_w32 (by rw [firstS_no f hp]), rfl, fun j hj => eqC_w32 (by rw [stepsS_no s hp]), trivial⟩
      · have hr : (k + 2) % e ≠ 0 := fun hc => of_decide_eq_false h2 ((rem_iff (by omega) (by omega)).2 hc)
        refine ⟨e + 1, [0], ⟨⟨rfl, rfl, rfl⟩, ?_⟩, ⟨by omega, by omega, fun d h3 h4 => ?_⟩, by dsimp only; omega⟩
        · refine ⟨rfl, rfl, rfl, ofN_succ e, ?_⟩
          (repeat first | exact trivial | refine ⟨rfl, ?_⟩ | refine ⟨fun _ _ => ⟨rfl, trivial⟩, ?_⟩ | refine ⟨by omega, ?_⟩)
        · by_cases hde : d = e
          · subst hde; exact hr
          · exact hnd d h3 (by omega)
    · obtain ⟨he2, he19, hnd⟩ := he
      have hgt : k + 2 < e * e := by
        have := mt (sq_le (e := e) (n := k + 2) (by omega) (by omega)).2 (of_decide_eq_false h)
        omega
      have hp := isP_of hnd hgt he2
      have last : ∀ (g : Nat → SC) (v : SC), (v = .w32 ((root cuFits (BitVec.ofNat 64 (k + 2))).setWidth 32)) → (∀ j, g j = .w32 (stepsS s k j)) → ∀ j, eqC [0] (upd g (cnt k) v j) (.w32 (stepsS s (k + 1) j)) True := fun g v hv hg j => eqC_w32 (by
        unfold upd
        rw [stepsS_yes s hp j]
        by_cases hj : j = cnt k
        · rw [if_pos hj, if_pos hj, hv]
        · rw [if_neg hj, if_neg hj, hg])
      have e0 : (cnt k : Int).toNat + 0 = cnt k := by omega
      refine ⟨fun h8 => ?_, fun h8 => ?_⟩
      · have h8' : cnt k < 8 := by have := of_decide_eq_true h8; omega
        refine ⟨some [0], [], [(0, true), (1, true), (2, true), (5, true), (6, true), (3, false), (4, true), (7, true)], [8], by kernel_rfl, ?_⟩
        refine ⟨by kernel_rfl, call_same (fn_root (by kernel_rfl) fn_sqFits (BitVec.ofNat 64 (k + 2))) [] rfl ⟨rfl, rfl, trivial⟩ trivial (fun _ _ => trivial) ?_⟩
        rintro v hs ⟨rfl, rfl⟩
        refine ⟨⟨by omega, by omega⟩, by omega, rfl, ?_⟩
        refine ⟨some [0], [], [(0, true), (1, true), (2, true), (5, true), (6, true), (3, false), (4, true), (7, true)], [8], by kernel_rfl, ?_⟩
        refine ⟨by kernel_rfl, call_same (fn_root (by kernel_rfl) fn_cuFits (BitVec.ofNat 64 (k + 2))) [] rfl ⟨rfl, rfl, trivial⟩ trivial (fun _ _ => trivial) ?_⟩
        rintro v hs ⟨rfl, rfl⟩
        refine ⟨⟨by omega, by omega⟩, by omega, rfl, ⟨by omega, by omega⟩, ?_⟩
        refine ⟨k + 1, [0], ⟨⟨rfl, rfl, rfl⟩, ?_⟩, ⟨by rw [cnt_yes hp]; omega, by omega⟩, by dsimp only; omega⟩
        refine ⟨rfl, by rw [cnt_yes hp]; rfl, ofN_succ (k + 2), ?_⟩
        (repeat first | exact trivial | refine ⟨rfl, ?_⟩ | refine ⟨fun _ _ => ⟨rfl, trivial⟩, ?_⟩ | refine ⟨by omega, ?_⟩)
        refine ⟨fun j hj => ?_, rfl, fun j hj => ?_, trivial⟩
        · rw [e0]
          refine eqC_w32 ?_
          unfold upd
          rw [firstS_yes f hp h8' j]
          by_cases hj : j = cnt k
          · rw [if_pos hj, if_pos hj]
          · rw [if_neg hj, if_neg hj]
        · rw [e0]
          exact last _ _ rfl (fun _ => rfl) j
      · have h8' : ¬ cnt k < 8 := by have := of_decide_eq_false h8; omega
        refine ⟨some [0], [], [(0, true), (1, true), (2, true), (5, true), (6, true), (3, false), (4, true), (7, true)], [8], by kernel_rfl, ?_⟩
        refine ⟨by kernel_rfl, call_same (fn_root (by kernel_rfl) fn_cuFits (BitVec.ofNat 64 (k + 2))) [] rfl ⟨rfl, rfl, trivial⟩ trivial (fun _ _ => trivial) ?_⟩
        rintro v hs ⟨rfl, rfl⟩
        refine ⟨⟨by omega, by omega⟩, by omega, rfl, ⟨by omega, by omega⟩, ?_⟩
        refine ⟨k + 1, [0], ⟨⟨rfl, rfl, rfl⟩, ?_⟩, ⟨by rw [cnt_yes hp]; omega, by omega⟩, by dsimp only; omega⟩
        refine ⟨rfl, by rw [cnt_yes hp]; rfl, ofN_succ (k + 2), ?_⟩
        (repeat first | exact trivial | refine ⟨rfl, ?_⟩ | refine ⟨fun _ _ => ⟨rfl, trivial⟩, ?_⟩ | refine ⟨by omega, ?_⟩)
        refine ⟨fun j hj => eqC_w32 (by rw [firstS_late f h8']), rfl, fun j hj => ?_, trivial⟩
        rw [e0]
        exact last _ _ rfl (fun _ => rfl) j
  · have h64 : cnt k = 64 := by have : ¬ (cnt k : Int) < 64 := of_decide_eq_false h; have := hk.1; omega
    have hk' := cnt_end h64 hk.2
    have hF : ∀ j, j < 8 → firstS f k j = first j := fun j hj => by rw [hk']; exact first_eq f j hj
    have hS : ∀ j, j < 64 → stepsS s k j = steps j := fun j hj => by rw [hk']; exact steps_eq s j hj
    refine ⟨.tup [], [shaT d m first steps], ⟨[0], ⟨rfl, rfl, rfl⟩, ?_⟩, rfl, rfl⟩
    (repeat first | exact trivial | refine ⟨rfl, ?_⟩ | refine ⟨fun _ _ => ⟨rfl, trivial⟩, ?_⟩ | refine ⟨by omega, ?_⟩)
    refine ⟨fun j hj => eqC_w32 (congrArg SC.w32 (hF j hj)), rfl, fun j hj => eqC_w32 (congrArg SC.w32 (hS j hj)), trivial⟩
end Sx
end Go.Proofs.Ytndlhhhebijknaa
