/-
  binnacle/binnaclelaw05.AesCounts: how many blocks were turned; unlike blocks stay unlike; nil ones. No condition.
-/
import Derived.Test.YtngajbgfnmahdaaAesTurns
import Derived.Test.YtngajbgfnmahdaaAesI
namespace Go.Proofs.Ytngajbgfnmahdaa
namespace Sx
open Aes

theorem nthC_rep {x : SC} : ∀ {n j : Nat}, j < n → nthC (List.replicate n x) j = x
  | n + 1, 0, _ => rfl
  | n + 1, j + 1, h => nthC_rep (n := n) (j := j) (by omega)
theorem fn_key_nil (k : Nat → BitVec 8) : Fn Try.prog tds 18 [] [.c (.ptr none), blk k] (fun _ => True) (fun x hs => x = .a (.c (.ptr none)) ∧ hs = []) := by
  refine fn_of_body tds_ok follows_ Try.func18 rfl (t := .a (.c (.ptr none)) :: .a (blk k) :: anys 94) rfl (fun w r0 hr _ => ?_)
  obtain rfl : r0 = [] := List.eq_nil_of_length_eq_zero hr
  refine ⟨rfl, fun _ => ?_, fun h => absurd h (by decide)⟩
  exact ⟨.a (.c (.ptr none)), [], ⟨[], ⟨rfl, rfl, rfl⟩, rfl, trivial⟩, rfl, rfl⟩
theorem fn_tbox_nil (c : BitVec 8) : Fn Try.prog tds 23 [] [.c (.ptr none), .c (.w8 c)] (fun _ => True) (fun x hs => x = .a (.c (.w8 0)) ∧ hs = []) := by
  refine fn_of_body tds_ok follows_ Try.func23 rfl (t := [.a (.c (.ptr none)), .a (.c (.w8 (c))), .any, .any, .any, .any, .any, .any, .any, .any, .any, .any, .any, .any, .any, .any, .any, .any, .any]) rfl (fun w r0 hr _ => ?_)
  obtain rfl : r0 = [] := List.eq_nil_of_length_eq_zero hr
  refine ⟨fun _ => ?_, fun h => absurd h (by decide)⟩
  exact ⟨.a (.c (.w8 0)), [], ⟨[], ⟨rfl, rfl, rfl⟩, rfl, trivial⟩, rfl, rfl⟩
theorem fn_turned_nil : Fn Try.prog tds 25 [] [.c (.ptr none)] (fun _ => True) (fun x hs => x = .a (.c (.int .i64 0)) ∧ hs = []) := by
  refine fn_of_body tds_ok follows_ Try.func25 rfl (t := .a (.c (.ptr none)) :: anys (Try.f25.ntmps - 1)) rfl (fun w r0 hr _ => ?_)
  obtain rfl : r0 = [] := List.eq_nil_of_length_eq_zero hr
  refine ⟨fun _ => ?_, fun h => absurd h (by decide)⟩
  exact ⟨.a (.c (.int .i64 0)), [], ⟨[], ⟨rfl, rfl, rfl⟩, rfl, trivial⟩, rfl, rfl⟩
theorem fn_turn_nil (b : Nat → BitVec 8) : Fn Try.prog tds 19 [] [.c (.ptr none), blk b] (fun _ => True) (fun x hs => x = .a (blk fun _ => 0#8) ∧ hs = []) := by
  refine fn_of_body tds_ok follows_ Try.func19 rfl (t := .a (.c (.ptr none)) :: .a (blk b) :: anys 58) rfl (fun w r0 hr _ => ?_)
  obtain rfl : r0 = [] := List.eq_nil_of_length_eq_zero hr
  refine ⟨rfl, ?_⟩
  repeat first
    | refine ⟨fun _ => ?_, fun h => absurd h (by decide)⟩
    | refine ⟨fun h => absurd h (by decide), fun _ => ?_⟩
  refine ⟨rfl, rfl, by omega, .a (blk fun _ => 0#8), [], ⟨[], ⟨rfl, rfl, rfl⟩, rfl, rfl, fun j hj => eqC_w8 (nthC_rep (n := 16) (x := .w8 0) (by omega)), trivial⟩, rfl, rfl⟩
/-- A key's block; its tables' name here. -/
abbrev keyD (i : Nat) (K : Nat → BitVec 8) : List Seg := [.one (.p i 0 0), .row 176 (fun i => .w8 (K i))]
theorem fn_key' (d : BitVec 32) (b : Nat → BitVec 8) (n : Int) (key K : Nat → BitVec 8) (hK : pKeys key = K) (hd : d = 0#32 ∨ d = 1#32 ∧ b = boxes) :
    Fn Try.prog tds 18 [tabs d 0 b n] [.c (.p 0 0 0), blk key] (fun _ => True) (fun x hs => x = .a (.c (.p 1 0 0)) ∧ hs = [tabs 1 0 boxes n, keyC K]) := by
  subst hK; exact fn_key d b n key hd
theorem fn_turn' (n : Int) (key b K R : Nat → BitVec 8) (hK : pKeys key = K) (hR : pTurn key b = R) (hn : -9223372036854775808 ≤ n + 1 ∧ n + 1 ≤ 9223372036854775807) :
    Fn Try.prog tds 19 [tabs 1 0 boxes n, keyC K] [.c (.p 1 0 0), blk b] (fun _ => True) (fun x hs => x = .a (blk R) ∧ hs = [tabs 1 0 boxes (n + 1), keyC K]) := by
  subst hK hR; exact fn_turn n key b hn
theorem fn_aesCounts (k a b : Nat → BitVec 8) (many : BitVec 8) : Fn Try.prog tds 6 [] [blk k, blk a, blk b, .c (.w8 many)] (fun _ => True) (fun x hs => x = .a (.c (.bool true)) ∧ hs = []) := by
  refine fn_of_body tds_ok follows_ Try.func6 rfl (t := .a (blk k) :: .a (blk a) :: .a (blk b) :: .a (.c (.w8 many)) :: anys 88) rfl (fun w r0 hr _ => ?_)
  obtain rfl : r0 = [] := List.eq_nil_of_length_eq_zero hr
  obtain ⟨K1, hK1⟩ : ∃ K, pKeys k = K := ⟨_, rfl⟩
  obtain ⟨K2, hK2⟩ : ∃ K, pKeys a = K := ⟨_, rfl⟩
  obtain ⟨R1, hR1⟩ : ∃ R, pTurn k b = R := ⟨_, rfl⟩
  obtain ⟨R2, hR2⟩ : ∃ R, pTurn a b = R := ⟨_, rfl⟩
  obtain ⟨R3, hR3⟩ : ∃ R, pTurn k a = R := ⟨_, rfl⟩
  have hiff : (∀ i, i < 16 → R3 i = R1 i) ↔ ∀ i, i < 16 → a i = b i := by rw [← hR3, ← hR1]; exact turn_iff k a b
  refine ⟨rfl, rfl, rfl, by kernel_rfl, call_same fn_awake [] rfl trivial trivial (fun _ _ => trivial) ?_⟩
  rintro x hs ⟨rfl, rfl⟩
  refine ⟨fun h => absurd h (by decide), fun _ => ?_⟩
  refine ⟨by kernel_rfl, call_same fn_new [] rfl trivial trivial (fun _ _ => trivial) ?_⟩
  rintro x hs ⟨rfl, rfl⟩
  refine ⟨some [0,1,2], [], [(0, true), (1, true), (3, true), (4, true), (2, false), (5, false), (6, true), (7, true)], [], by kernel_rfl, ?_⟩
  (repeat first | refine ⟨by omega, ?_⟩ | refine ⟨by decide, ?_⟩ | refine ⟨idx8 _, ?_⟩ | refine ⟨lt8 (Nat.le_refl _) _, ?_⟩)
  refine ⟨by kernel_rfl, call_same (fn_key' 0 (fun _ => 0#8) 0 k K1 hK1 (.inl rfl)) [3] rfl ⟨rfl, rfl, rfl, fun j hj => ⟨rfl, trivial⟩, trivial⟩ (by (repeat first | exact trivial | refine ⟨rfl, ?_⟩ | refine ⟨fun _ _ => ⟨rfl, trivial⟩, ?_⟩ | refine ⟨by omega, ?_⟩)) (fun _ _ => trivial) ?_⟩
  rintro x hs ⟨rfl, rfl⟩
  refine ⟨by kernel_rfl, call_same (fn_key' 1 boxes 0 a K2 hK2 (.inr ⟨rfl, rfl⟩)) [3] rfl ⟨rfl, rfl, rfl, fun j hj => ⟨rfl, trivial⟩, trivial⟩ (by (repeat first | exact trivial | refine ⟨rfl, ?_⟩ | refine ⟨fun _ _ => ⟨rfl, trivial⟩, ?_⟩ | refine ⟨by omega, ?_⟩)) (fun _ _ => trivial) ?_⟩
  rintro x hs ⟨rfl, rfl⟩
  obtain ⟨M, hM⟩ : ∃ M : Nat, (many % 5#8).toNat = M := ⟨_, rfl⟩
  have hM5 : M < 5 := by rw [← hM, BitVec.toNat_umod]; exact Nat.mod_lt _ (by decide)
  refine ⟨by decide, .inl ⟨Nat, fun i => ⟨[.any, .any, .any, .a (.c (.w8 (many))), .a (.c (.p 0 0 0)), .a (.c (.p 1 0 0)), .a (.c (.p 2 0 0)), .any, .any, .a (.c (.p 3 0 0)), .a (.c (.p 4 0 0)), .a (.c (.p 5 0 0)), .any, .any, .any, .any, .any, .any, .any, .any, .any, .any, .any, .any, .any, .a (.c (.int .i64 (↑M))), .a (.c (.int .i64 (↑i))), .any, .any, .any, .any, .any, .any, .any, .any, .any, .any, .any, .any, .any, .any, .any, .any, .any, .any, .any, .any, .any, .any, .any, .any, .any, .any, .any, .any, .any, .any, .any, .any, .any, .any, .any, .any, .any, .any, .any, .any, .any, .any, .any, .any, .any, .any, .any, .any, .any, .any, .any, .any, .any, .any, .any, .any, .any, .any, .any, .any, .any, .any, .any, .any, .any], [[.row 16 fun i => .w8 (k i)], [.row 16 fun i => .w8 (a i)], [.row 16 fun i => .w8 (b i)], tabs 1 0 boxes (2 * (i : Int)), keyD 3 K1, keyD 3 K2]⟩, fun i => i ≤ M, fun i => M - i, ⟨0, [0, 1, 2, 3, 4, 5], ⟨⟨rfl, rfl, rfl⟩, ?_⟩, by omega⟩, fun i hi => ⟨fun h => ?_, fun h => ?_⟩⟩⟩
  · (repeat first | exact trivial | refine ⟨rfl, ?_⟩ | refine ⟨fun _ _ => ⟨rfl, trivial⟩, ?_⟩ | refine ⟨by omega, ?_⟩)
    refine ⟨congrArg _ hM, ?_⟩
    (repeat first | exact trivial | refine ⟨rfl, ?_⟩ | refine ⟨fun _ _ => ⟨rfl, trivial⟩, ?_⟩ | refine ⟨by omega, ?_⟩)
  · have hlt : (i : Int) < M := of_decide_eq_true h
    refine ⟨some [0,1,2], [], [(0, true), (1, true), (3, true), (4, true), (6, true), (2, false), (5, false), (7, false), (8, true)], [], by kernel_rfl, ?_⟩
    (repeat first | refine ⟨by omega, ?_⟩ | refine ⟨by decide, ?_⟩ | refine ⟨idx8 _, ?_⟩ | refine ⟨lt8 (Nat.le_refl _) _, ?_⟩)
    refine ⟨by kernel_rfl, call_same (fn_turn' (2 * (i : Int)) k b K1 R1 hK1 hR1 (by omega)) [3, 4] rfl ⟨rfl, rfl, rfl, fun j hj => ⟨rfl, trivial⟩, trivial⟩ (by (repeat first | exact trivial | refine ⟨rfl, ?_⟩ | refine ⟨fun _ _ => ⟨rfl, trivial⟩, ?_⟩ | refine ⟨by omega, ?_⟩)) (fun _ _ => trivial) ?_⟩
    rintro x hs ⟨rfl, rfl⟩
    refine ⟨by kernel_rfl, call_same (fn_key' 1 boxes (2 * (i : Int) + 1) k K1 hK1 (.inr ⟨rfl, rfl⟩)) [3] rfl ⟨rfl, rfl, rfl, fun j hj => ⟨rfl, trivial⟩, trivial⟩ (by (repeat first | exact trivial | refine ⟨rfl, ?_⟩ | refine ⟨fun _ _ => ⟨rfl, trivial⟩, ?_⟩ | refine ⟨by omega, ?_⟩)) (fun _ _ => trivial) ?_⟩
    rintro x hs ⟨rfl, rfl⟩
    refine ⟨by kernel_rfl, call_same (fn_turn' (2 * (i : Int) + 1) k b K1 R1 hK1 hR1 (by omega)) [3, 6] rfl ⟨rfl, rfl, rfl, fun j hj => ⟨rfl, trivial⟩, trivial⟩ (by (repeat first | exact trivial | refine ⟨rfl, ?_⟩ | refine ⟨fun _ _ => ⟨rfl, trivial⟩, ?_⟩ | refine ⟨by omega, ?_⟩)) (fun _ _ => trivial) ?_⟩
    rintro x hs ⟨rfl, rfl⟩
    refine ⟨⟨rfl, rfl, fun _ _ => rfl, fun _ _ => rfl⟩, fun bb hb => ?_⟩
    obtain rfl : bb = true := hb.2 (fun j hj => rfl)
    refine ⟨fun h => absurd h (by decide), fun _ => ?_⟩
    refine ⟨⟨by omega, by omega⟩, i + 1, [0, 1, 2, 3, 4, 5], ⟨⟨rfl, rfl, rfl⟩, ?_⟩, by dsimp only; omega, by dsimp only; omega⟩
    (repeat first | exact trivial | refine ⟨rfl, ?_⟩ | refine ⟨fun _ _ => ⟨rfl, trivial⟩, ?_⟩ | refine ⟨by omega, ?_⟩)
  · obtain rfl : i = M := by have : ¬ (i : Int) < M := of_decide_eq_false h; have hi : i ≤ M := hi; omega
    refine ⟨by kernel_rfl, call_same (fn_turned 1 boxes (2 * (i : Int))) [3] rfl ⟨rfl, trivial⟩ (by (repeat first | exact trivial | refine ⟨rfl, ?_⟩ | refine ⟨fun _ _ => ⟨rfl, trivial⟩, ?_⟩ | refine ⟨by omega, ?_⟩)) (fun _ _ => trivial) ?_⟩
    rintro x hs ⟨rfl, rfl⟩
    refine ⟨by decide, ⟨by omega, by omega⟩, fun h => absurd (show 2 * (i : Int) = 2 * ((many % 5#8).toNat : Int) by rw [hM]) (of_decide_eq_true h), fun _ => ?_⟩
    (repeat first | refine ⟨by omega, ?_⟩ | refine ⟨by decide, ?_⟩ | refine ⟨idx8 _, ?_⟩ | refine ⟨lt8 (Nat.le_refl _) _, ?_⟩)
    refine ⟨by kernel_rfl, call_same (fn_turn' (2 * (i : Int)) a b K2 R2 hK2 hR2 (by omega)) [3, 5] rfl ⟨rfl, rfl, rfl, fun j hj => ⟨rfl, trivial⟩, trivial⟩ (by (repeat first | exact trivial | refine ⟨rfl, ?_⟩ | refine ⟨fun _ _ => ⟨rfl, trivial⟩, ?_⟩ | refine ⟨by omega, ?_⟩)) (fun _ _ => trivial) ?_⟩
    rintro x hs ⟨rfl, rfl⟩
    refine ⟨some [0,1,2], [], [(0, true), (2, true), (3, true), (4, true), (5, true), (6, true), (1, false), (7, true), (8, true), (9, true), (10, true), (12, true), (13, true), (16, true), (17, true), (18, true), (11, false), (14, false), (15, true), (19, true), (20, true), (21, true), (22, true), (23, true), (24, false), (25, true), (26, true), (27, true), (28, true), (29, false), (30, true), (31, true), (32, true), (33, true), (34, false), (35, true), (36, true), (37, true), (38, true), (39, true), (41, true), (40, false), (42, true), (43, true), (44, true)], [], by kernel_rfl, ?_⟩
    refine ⟨by decide, ⟨by omega, by omega⟩, ⟨by omega, by omega⟩, ?_⟩
    refine ⟨by kernel_rfl, call_same (fn_turned 1 boxes (2 * (i : Int) + 1)) [3] rfl ⟨rfl, trivial⟩ (by (repeat first | exact trivial | refine ⟨rfl, ?_⟩ | refine ⟨fun _ _ => ⟨rfl, trivial⟩, ?_⟩ | refine ⟨by omega, ?_⟩)) (fun _ _ => trivial) ?_⟩
    rintro x hs ⟨rfl, rfl⟩
    have e1 : 2 * (i : Int) + 1 = 2 * ((many % 5#8).toNat : Int) + 1 := by omega
    refine ⟨fun _ => ?_, fun h => absurd e1 (of_decide_eq_false h)⟩
    refine ⟨fun _ => ⟨by decide, ?_⟩, fun h => absurd e1 (of_decide_eq_false h)⟩
    refine ⟨fun _ => ?_, fun h => absurd e1 (of_decide_eq_false h)⟩
    refine ⟨fun _ => ⟨by decide, ?_⟩, fun h => absurd e1 (of_decide_eq_false h)⟩
    refine ⟨fun _ => ⟨by decide, ?_⟩, fun h => absurd e1 (of_decide_eq_false h)⟩
    refine ⟨fun _ => ⟨by decide, ?_⟩, fun h => absurd e1 (of_decide_eq_false h)⟩
    refine ⟨fun _ => ⟨⟨rfl, rfl, fun _ _ => rfl, fun _ _ => rfl⟩, fun b1 hb1 => ?_⟩, fun h => absurd e1 (of_decide_eq_false h)⟩
    refine ⟨fun _ => ⟨by kernel_rfl, call_same (fn_turn' (2 * (i : Int) + 1) k a K1 R3 hK1 hR3 (by omega)) [3, 4] rfl ⟨rfl, rfl, rfl, fun j hj => ⟨rfl, trivial⟩, trivial⟩ (by (repeat first | exact trivial | refine ⟨rfl, ?_⟩ | refine ⟨fun _ _ => ⟨rfl, trivial⟩, ?_⟩ | refine ⟨by omega, ?_⟩)) (fun _ _ => trivial) ?_⟩, fun h => absurd e1 (of_decide_eq_false h)⟩
    rintro x hs ⟨rfl, rfl⟩
    refine ⟨fun _ => ⟨by kernel_rfl, call_same (fn_turn' (2 * (i : Int) + 2) k b K1 R1 hK1 hR1 (by omega)) [3, 4] rfl ⟨rfl, rfl, rfl, fun j hj => ⟨rfl, trivial⟩, trivial⟩ (by (repeat first | exact trivial | refine ⟨rfl, ?_⟩ | refine ⟨fun _ _ => ⟨rfl, trivial⟩, ?_⟩ | refine ⟨by omega, ?_⟩)) (fun _ _ => trivial) ?_⟩, fun h => absurd e1 (of_decide_eq_false h)⟩
    rintro x hs ⟨rfl, rfl⟩
    refine ⟨fun _ => ⟨⟨rfl, rfl, fun _ _ => rfl, fun _ _ => rfl⟩, fun b2 hb2 => ?_⟩, fun h => absurd e1 (of_decide_eq_false h)⟩
    refine ⟨fun _ => ?_, fun h => absurd e1 (of_decide_eq_false h)⟩
    refine ⟨fun _ => ?_, fun h => absurd e1 (of_decide_eq_false h)⟩
    have h12 : b2 = b1 := Bool.eq_iff_iff.2 (hb2.trans (((⟨fun h j hj => SC.w8.inj (h j hj), fun h j hj => congrArg SC.w8 (h j hj)⟩ : _ ↔ ∀ j, j < 16 → R3 j = R1 j)).trans (hiff.trans (((⟨fun h j hj => congrArg SC.w8 (h j hj), fun h j hj => SC.w8.inj (h j hj)⟩ : (∀ j, j < 16 → a j = b j) ↔ _)).trans hb1.symm))))
    subst h12
    have hbb : (b2 == b2) = true := beq_self_eq_true b2
    refine ⟨fun _ => ?_, fun h => absurd hbb (by rw [h]; decide)⟩
    refine ⟨fun _ => ⟨by decide, ?_⟩, fun h => absurd hbb (by rw [h]; decide)⟩
    refine ⟨fun _ => ⟨by kernel_rfl, call_same (fn_key_nil k) [] rfl ⟨rfl, rfl, rfl, fun j hj => ⟨rfl, trivial⟩, trivial⟩ trivial (fun _ _ => trivial) ?_⟩, fun h => absurd hbb (by rw [h]; decide)⟩
    rintro x hs ⟨rfl, rfl⟩
    refine ⟨fun _ => ?_, fun h => absurd hbb (by rw [h]; decide)⟩
    refine ⟨fun _ => ?_, fun h => absurd hbb (by rw [h]; decide)⟩
    refine ⟨fun _ => ?_, fun h => absurd h (by decide)⟩
    refine ⟨fun _ => ⟨by kernel_rfl, call_same (fn_tbox_nil 3) [] rfl ⟨rfl, rfl, trivial⟩ trivial (fun _ _ => trivial) ?_⟩, fun h => absurd h (by decide)⟩
    rintro x hs ⟨rfl, rfl⟩
    refine ⟨fun _ => ?_, fun h => absurd h (by decide)⟩
    refine ⟨fun _ => ?_, fun h => absurd h (by decide)⟩
    refine ⟨fun _ => ?_, fun h => absurd h (by decide)⟩
    refine ⟨fun _ => ⟨by kernel_rfl, call_same fn_turned_nil [] rfl ⟨rfl, trivial⟩ trivial (fun _ _ => trivial) ?_⟩, fun h => absurd h (by decide)⟩
    rintro x hs ⟨rfl, rfl⟩
    refine ⟨fun _ => ?_, fun h => absurd h (by decide)⟩
    refine ⟨fun _ => ?_, fun h => absurd h (by decide)⟩
    refine ⟨fun _ => ?_, fun h => absurd h (by decide)⟩
    refine ⟨fun _ => ⟨by decide, ?_⟩, fun h => absurd h (by decide)⟩
    refine ⟨fun _ => ?_, fun h => absurd h (by decide)⟩
    refine ⟨fun _ => ⟨by kernel_rfl, call_same (fn_turn_nil b) [] rfl ⟨rfl, rfl, rfl, fun j hj => ⟨rfl, trivial⟩, trivial⟩ trivial (fun _ _ => trivial) ?_⟩, fun h => absurd h (by decide)⟩
    rintro x hs ⟨rfl, rfl⟩
    refine ⟨fun _ => ⟨⟨rfl, rfl, fun _ _ => rfl, fun _ hj => congrArg (isNum .u8) (nthC_rep (n := 16) hj)⟩, fun b3 hb3 => ?_⟩, fun h => absurd h (by decide)⟩
    obtain rfl : b3 = true := hb3.2 (fun j hj => (nthC_rep (n := 16) hj).symm)
    refine ⟨fun _ => ?_, fun h => absurd h (by decide)⟩
    exact ⟨.a (.c (.bool true)), [], ⟨[], ⟨rfl, rfl, rfl⟩, rfl, trivial⟩, rfl, rfl⟩
end Sx
end Go.Proofs.Ytngajbgfnmahdaa
