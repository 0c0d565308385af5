/-
  Texts of this claim, part 8: KeysB, KeysC, RowL. No condition of its own.
-/
import Derived.Test.YtndlhhhebijknaaG7
section
/-
  The program's keys: made of a secret; nonces; sealed, opened. No condition.
-/
namespace Go.Proofs.Ytndlhhhebijknaa
set_option linter.unusedVariables false
namespace Gcm
/-- The IV with a number. -/
def nonB (iv : Nat → BitVec 8) (num : BitVec 64) (i : Nat) : BitVec 8 := if i < 4 then iv i else iv i ^^^ (num >>> (8 * (11 - i))).setWidth 8
end Gcm
namespace Sx
open Aes Gcm Sha

abbrev makC (i j : Nat) : List Seg := [.one (.p i 0 0), .one (.p j 0 0)]
abbrev kysC (i j : Nat) (s iv : Nat → BitVec 8) : List Seg := [.row 32 fun i => .w8 (s i), .one (.p i 0 0), .row 12 fun i => .w8 (iv i), .one (.p j 0 0)]
set_option maxRecDepth 20000 in
theorem fn_keysNew : Fn Try.prog tds 39 [] [] (fun _ => True) (fun x hs => x = .a (.c (.p 2 0 0)) ∧ hs = [shaT 0 0 (fun _ => 0#32) (fun _ => 0#32), tabs 0 0 (fun _ => 0#8) 0, makC 0 1]) := by
  refine fn_of_body tds_ok follows_ Try.func39 rfl (t := anys 5) rfl (fun w r0 hr _ => ?_)
  obtain rfl : r0 = [] := List.eq_nil_of_length_eq_zero hr
  refine ⟨by kernel_rfl, call_same fn_knew [] rfl trivial trivial (fun _ _ => trivial) ?_⟩
  rintro x hs ⟨rfl, rfl⟩
  (repeat first | refine And.intro (by omega) ?_ | refine And.intro (by decide) ?_ | (with_reducible refine frc_parts (by first | omega | decide) ?_) | (with_reducible refine frc_bytesL (by first | omega | decide) ?_) | refine And.intro rfl ?_)
  refine call_same fn_new [] rfl trivial trivial (fun _ _ => trivial) ?_
  rintro x hs ⟨rfl, rfl⟩
  (repeat first | refine And.intro (by omega) ?_ | refine And.intro (by decide) ?_ | (with_reducible refine frc_parts (by first | omega | decide) ?_) | (with_reducible refine frc_bytesL (by first | omega | decide) ?_) | refine And.intro rfl ?_)
  refine ⟨.a (.c (.p 2 0 0)), _, ⟨[0, 1, 2], ⟨rfl, rfl, rfl⟩, ?_⟩, rfl, rfl⟩
  (repeat first | exact trivial | refine ⟨rfl, ?_⟩ | refine ⟨fun _ _ => ⟨rfl, trivial⟩, ?_⟩ | refine ⟨fun _ _ => trivial, ?_⟩ | refine ⟨by omega, ?_⟩ | refine ⟨fun _ _ => eqC_winS, ?_⟩ | refine ⟨fun _ _ => eqC_winM, ?_⟩ | refine ⟨fun _ _ => eqC_winB, ?_⟩ | refine ⟨fun _ _ => eqC_selfB, ?_⟩ | refine ⟨fun _ _ => eqC_mpB, ?_⟩)
theorem len6s {α : Type} : ∀ {l : List α}, l.length = 6 → ∃ a b c d e f, l = [a, b, c, d, e, f]
  | [a, b, c, d, e, f], _ => ⟨a, b, c, d, e, f, rfl⟩
def qKey : List UInt8 := [113, 117, 105, 99, 32, 107, 101, 121]
def qIv : List UInt8 := [113, 117, 105, 99, 32, 105, 118]
def qHp : List UInt8 := [113, 117, 105, 99, 32, 104, 112]
set_option maxRecDepth 20000 in
set_option maxHeartbeats 2000000 in
theorem fn_kOf (s : Bs) (dn : BitVec 32) (f g : Nat → BitVec 32) (hd : dn = 0#32 ∨ dn = 1#32 ∧ f = first ∧ g = steps) (hs : s.length = 32) (d : BitVec 32) (b : Nat → BitVec 8) (cnt : Int) (hdt : d = 0#32 ∨ d = 1#32 ∧ b = boxes) (hcnt : 0 ≤ cnt ∧ cnt ≤ 900000000)
    (kq K kh K2 iv : Nat → BitVec 8) (E : (Nat → BitVec 8) → Nat → BitVec 8) (H : Gcm.E) (hkq : exF s (labT qKey [] 16) = kq) (hiv : exF s (labT qIv [] 12) = iv) (hkh : exF s (labT qHp [] 16) = kh) (hK : pKeys kq = K) (hE : pTurn kq = E) (hH : toE (E fun _ => 0#8) = H) (hK2 : pKeys kh = K2) :
    FnR Try.prog tds 41 1 [makC 1 2, shaT dn 0 f g, tabs d 0 b cnt] [.c (.p 0 0 0), .agg [.row 32 fun i => .w8 (L s i)]] (fun _ => True)
      (fun x hs => ∃ (dn' : BitVec 32) (f' g' : Nat → BitVec 32), (dn' = 0#32 ∨ dn' = 1#32 ∧ f' = first ∧ g' = steps) ∧ x = .a (.c (.p 3 0 0)) ∧ hs = [makC 1 2, shaT dn' 0 f' g', tabs 1 0 boxes (cnt + 1), kysC 5 6 (L s) iv, keyD 2 K, sealC 4 H, keyD 2 K2]) := by
  refine fn_of_body tds_ok follows_ Try.func41 rfl (t := .a (.c (.p 0 0 0)) :: .a (.agg [.row 32 fun i => .w8 (L s i)]) :: anys 49) rfl (fun w r0 hr _ => ?_)
  obtain ⟨x0, x1, x2, rfl⟩ := len3' hr
  refine ⟨rfl, ?_⟩
  (repeat first | refine ⟨fun _ => ?_, fun h => absurd h (by rw []; decide)⟩ | refine ⟨fun h => absurd h (by rw []; decide), fun _ => ?_⟩ | refine ⟨fun _ => ?_, fun h => Bool.noConfusion h⟩ | refine ⟨fun h => Bool.noConfusion h, fun _ => ?_⟩)
  (repeat first | refine And.intro (by omega) ?_ | refine And.intro (by decide) ?_ | (with_reducible refine frc_parts (by first | omega | decide) ?_) | (with_reducible refine frc_bytesL (by first | omega | decide) ?_) | refine And.intro rfl ?_)
  refine ⟨some [3], [], [(0, true), (1, true), (2, true), (3, true), (4, true), (5, true), (6, true), (7, false), (8, false), (9, true), (10, true)], [11], by kernel_rfl, ?_⟩
  (repeat first | refine And.intro (by omega) ?_ | refine And.intro (by decide) ?_ | (with_reducible refine frc_parts (by first | omega | decide) ?_) | (with_reducible refine frc_bytesL (by first | omega | decide) ?_) | refine And.intro rfl ?_)
  refine call_same (fn_kblock s qKey dn f g hd hs (by decide)) [0, 1] rfl (by (repeat first | exact trivial | refine ⟨rfl, ?_⟩ | refine ⟨fun _ _ => ⟨rfl, trivial⟩, ?_⟩ | refine ⟨fun _ _ => trivial, ?_⟩ | refine ⟨by omega, ?_⟩ | refine ⟨fun _ _ => eqC_winS, ?_⟩ | refine ⟨fun _ _ => eqC_winM, ?_⟩ | refine ⟨fun _ _ => eqC_winB, ?_⟩ | refine ⟨fun _ _ => eqC_selfB, ?_⟩ | refine ⟨fun _ _ => eqC_mpB, ?_⟩)) (by (repeat first | exact trivial | refine ⟨rfl, ?_⟩ | refine ⟨fun _ _ => ⟨rfl, trivial⟩, ?_⟩ | refine ⟨fun _ _ => trivial, ?_⟩ | refine ⟨by omega, ?_⟩ | refine ⟨fun _ _ => eqC_winS, ?_⟩ | refine ⟨fun _ _ => eqC_winM, ?_⟩ | refine ⟨fun _ _ => eqC_winB, ?_⟩ | refine ⟨fun _ _ => eqC_selfB, ?_⟩ | refine ⟨fun _ _ => eqC_mpB, ?_⟩)) (fun _ _ => trivial) ?_
  rintro x hs' ⟨dn1, f1, g1, hd1, rfl, rfl⟩
  rw [hkq]
  (repeat first | refine And.intro (by omega) ?_ | refine And.intro (by decide) ?_ | (with_reducible refine frc_parts (by first | omega | decide) ?_) | (with_reducible refine frc_bytesL (by first | omega | decide) ?_) | refine And.intro rfl ?_)
  refine call_same (fn_gnew d b cnt kq K E hK hE H hH hdt (by omega)) [2] rfl (by (repeat first | exact trivial | refine ⟨rfl, ?_⟩ | refine ⟨fun _ _ => ⟨rfl, trivial⟩, ?_⟩ | refine ⟨fun _ _ => trivial, ?_⟩ | refine ⟨by omega, ?_⟩ | refine ⟨fun _ _ => eqC_winS, ?_⟩ | refine ⟨fun _ _ => eqC_winM, ?_⟩ | refine ⟨fun _ _ => eqC_winB, ?_⟩ | refine ⟨fun _ _ => eqC_selfB, ?_⟩ | refine ⟨fun _ _ => eqC_mpB, ?_⟩)) (by (repeat first | exact trivial | refine ⟨rfl, ?_⟩ | refine ⟨fun _ _ => ⟨rfl, trivial⟩, ?_⟩ | refine ⟨fun _ _ => trivial, ?_⟩ | refine ⟨by omega, ?_⟩ | refine ⟨fun _ _ => eqC_winS, ?_⟩ | refine ⟨fun _ _ => eqC_winM, ?_⟩ | refine ⟨fun _ _ => eqC_winB, ?_⟩ | refine ⟨fun _ _ => eqC_selfB, ?_⟩ | refine ⟨fun _ _ => eqC_mpB, ?_⟩)) (fun _ _ => trivial) ?_
  rintro x hs' ⟨rfl, rfl⟩
  (repeat first | refine And.intro (by omega) ?_ | refine And.intro (by decide) ?_ | (with_reducible refine frc_parts (by first | omega | decide) ?_) | (with_reducible refine frc_bytesL (by first | omega | decide) ?_) | refine And.intro rfl ?_)
  refine ⟨some [3], [], [(0, true), (1, true), (2, true), (3, true), (4, true), (5, false), (6, true), (7, true), (8, true), (9, true), (10, true)], [], by kernel_rfl, ?_⟩
  (repeat first | refine And.intro (by omega) ?_ | refine And.intro (by decide) ?_ | (with_reducible refine frc_parts (by first | omega | decide) ?_) | (with_reducible refine frc_bytesL (by first | omega | decide) ?_) | refine And.intro rfl ?_)
  refine call_same (fn_klabel true 0 0 0 s [] qIv 12 dn1 f1 g1 hd1 hs (by decide) (by decide) (fun _ => rfl)) [3, 1] rfl (by (repeat first | exact trivial | refine ⟨rfl, ?_⟩ | refine ⟨fun _ _ => ⟨rfl, trivial⟩, ?_⟩ | refine ⟨fun _ _ => trivial, ?_⟩ | refine ⟨by omega, ?_⟩ | refine ⟨fun _ _ => eqC_winS, ?_⟩ | refine ⟨fun _ _ => eqC_winM, ?_⟩ | refine ⟨fun _ _ => eqC_winB, ?_⟩ | refine ⟨fun _ _ => eqC_selfB, ?_⟩ | refine ⟨fun _ _ => eqC_mpB, ?_⟩)) ?_ (fun _ _ => trivial) ?_
  · refine eqSegs_nil ?_
    (repeat first | exact trivial | refine ⟨rfl, ?_⟩ | refine ⟨fun _ _ => ⟨rfl, trivial⟩, ?_⟩ | refine ⟨fun _ _ => trivial, ?_⟩ | refine ⟨by omega, ?_⟩ | refine ⟨fun _ _ => eqC_winS, ?_⟩ | refine ⟨fun _ _ => eqC_winM, ?_⟩ | refine ⟨fun _ _ => eqC_winB, ?_⟩ | refine ⟨fun _ _ => eqC_selfB, ?_⟩ | refine ⟨fun _ _ => eqC_mpB, ?_⟩)
  rintro x hs' ⟨-, -, hgood⟩
  obtain ⟨z, N, dn2, f2, g2, hd2, -, hz2, hN, rfl, rfl⟩ := hgood (by decide) (by decide) (by decide) (by decide)
  obtain rfl := hz2 (by decide)
  clear hgood
  have hN' : 12 ≤ N := hN
  have e16 : ((12 : Int)).toNat = 12 := rfl
  rw [e16, hiv]
  (repeat first | refine And.intro (by omega) ?_ | refine And.intro (by decide) ?_ | (with_reducible refine frc_parts (by first | omega | decide) ?_) | (with_reducible refine frc_bytesL (by first | omega | decide) ?_) | refine And.intro rfl ?_)
  refine sn_btsM (N := N) (b := iv) rfl (by omega) (fun h => Bool.noConfusion h) (fun gx hg => ?_)
  refine ⟨(show 0 + min 12 12 ≤ 12 by decide), ?_⟩
  (repeat first | refine And.intro (by omega) ?_ | refine And.intro (by decide) ?_ | (with_reducible refine frc_parts (by first | omega | decide) ?_) | (with_reducible refine frc_bytesL (by first | omega | decide) ?_) | refine And.intro rfl ?_)
  refine ⟨some [3], [], [(0, true), (1, true), (2, true), (3, true), (4, true), (5, true), (6, true), (7, false), (8, false), (9, true), (10, true)], [11], by kernel_rfl, ?_⟩
  (repeat first | refine And.intro (by omega) ?_ | refine And.intro (by decide) ?_ | (with_reducible refine frc_parts (by first | omega | decide) ?_) | (with_reducible refine frc_bytesL (by first | omega | decide) ?_) | refine And.intro rfl ?_)
  refine call_same (fn_kblock s qHp dn2 f2 g2 hd2 hs (by decide)) [0, 1] rfl (by (repeat first | exact trivial | refine ⟨rfl, ?_⟩ | refine ⟨fun _ _ => ⟨rfl, trivial⟩, ?_⟩ | refine ⟨fun _ _ => trivial, ?_⟩ | refine ⟨by omega, ?_⟩ | refine ⟨fun _ _ => eqC_winS, ?_⟩ | refine ⟨fun _ _ => eqC_winM, ?_⟩ | refine ⟨fun _ _ => eqC_winB, ?_⟩ | refine ⟨fun _ _ => eqC_selfB, ?_⟩ | refine ⟨fun _ _ => eqC_mpB, ?_⟩)) (by (repeat first | exact trivial | refine ⟨rfl, ?_⟩ | refine ⟨fun _ _ => ⟨rfl, trivial⟩, ?_⟩ | refine ⟨fun _ _ => trivial, ?_⟩ | refine ⟨by omega, ?_⟩ | refine ⟨fun _ _ => eqC_winS, ?_⟩ | refine ⟨fun _ _ => eqC_winM, ?_⟩ | refine ⟨fun _ _ => eqC_winB, ?_⟩ | refine ⟨fun _ _ => eqC_selfB, ?_⟩ | refine ⟨fun _ _ => eqC_mpB, ?_⟩)) (fun _ _ => trivial) ?_
  rintro x hs' ⟨dn3, f3, g3, hd3, rfl, rfl⟩
  rw [hkh]
  (repeat first | refine And.intro (by omega) ?_ | refine And.intro (by decide) ?_ | (with_reducible refine frc_parts (by first | omega | decide) ?_) | (with_reducible refine frc_bytesL (by first | omega | decide) ?_) | refine And.intro rfl ?_)
  refine call_same (fn_key' 1 boxes (cnt + 1) kh K2 hK2 (.inr ⟨rfl, rfl⟩)) [2] rfl (by (repeat first | exact trivial | refine ⟨rfl, ?_⟩ | refine ⟨fun _ _ => ⟨rfl, trivial⟩, ?_⟩ | refine ⟨fun _ _ => trivial, ?_⟩ | refine ⟨by omega, ?_⟩ | refine ⟨fun _ _ => eqC_winS, ?_⟩ | refine ⟨fun _ _ => eqC_winM, ?_⟩ | refine ⟨fun _ _ => eqC_winB, ?_⟩ | refine ⟨fun _ _ => eqC_selfB, ?_⟩ | refine ⟨fun _ _ => eqC_mpB, ?_⟩)) (by (repeat first | exact trivial | refine ⟨rfl, ?_⟩ | refine ⟨fun _ _ => ⟨rfl, trivial⟩, ?_⟩ | refine ⟨fun _ _ => trivial, ?_⟩ | refine ⟨by omega, ?_⟩ | refine ⟨fun _ _ => eqC_winS, ?_⟩ | refine ⟨fun _ _ => eqC_winM, ?_⟩ | refine ⟨fun _ _ => eqC_winB, ?_⟩ | refine ⟨fun _ _ => eqC_selfB, ?_⟩ | refine ⟨fun _ _ => eqC_mpB, ?_⟩)) (fun _ _ => trivial) ?_
  rintro x hs' ⟨rfl, rfl⟩
  (repeat first | refine And.intro (by omega) ?_ | refine And.intro (by decide) ?_ | (with_reducible refine frc_parts (by first | omega | decide) ?_) | (with_reducible refine frc_bytesL (by first | omega | decide) ?_) | refine And.intro rfl ?_)
  refine ⟨_, _, ⟨[0, 1, 2, 4, 5, 6, 8], ⟨rfl, rfl, rfl⟩, ?_⟩, dn3, f3, g3, hd3, rfl, rfl⟩
  (repeat first | exact trivial | refine ⟨rfl, ?_⟩ | refine ⟨fun _ _ => ⟨rfl, trivial⟩, ?_⟩ | refine ⟨fun _ _ => trivial, ?_⟩ | refine ⟨by omega, ?_⟩ | refine ⟨fun _ _ => eqC_winS, ?_⟩ | refine ⟨fun _ _ => eqC_winM, ?_⟩ | refine ⟨fun _ _ => eqC_winB, ?_⟩ | refine ⟨fun _ _ => eqC_selfB, ?_⟩ | refine ⟨fun _ _ => eqC_mpB, ?_⟩)
  refine ⟨fun j hj => eqC_w8 ?_, ?_⟩
  · show updN (fun _ => SC.w8 0) 0 (min 12 12) gx j = SC.w8 (iv j)
    unfold updN
    rw [if_pos ⟨Nat.zero_le _, by have : min 12 12 = 12 := rfl; omega⟩]
    exact hg j hj
  (repeat first | exact trivial | refine ⟨rfl, ?_⟩ | refine ⟨fun _ _ => ⟨rfl, trivial⟩, ?_⟩ | refine ⟨fun _ _ => trivial, ?_⟩ | refine ⟨by omega, ?_⟩ | refine ⟨fun _ _ => eqC_winS, ?_⟩ | refine ⟨fun _ _ => eqC_winM, ?_⟩ | refine ⟨fun _ _ => eqC_winB, ?_⟩ | refine ⟨fun _ _ => eqC_selfB, ?_⟩ | refine ⟨fun _ _ => eqC_mpB, ?_⟩)
abbrev kysN (iv : Nat → BitVec 8) : List Seg := [.row 32 fun _ => .any, .one .any, .row 12 fun i => .w8 (iv i), .one .any]
theorem sh8i : ∀ k : Nat, k < 8 → (8 * (k : Int)).toNat = 8 * k := by omega
set_option maxRecDepth 20000 in
theorem fn_knonce (iv : Nat → BitVec 8) (num : BitVec 64) : FnR Try.prog tds 62 1 [kysN iv] [.c (.p 0 0 0), .c (.w64 num)] (fun _ => True) (fun x hs => x = .a (nonA (nonB iv num)) ∧ hs = [kysN iv]) := by
  refine fn_of_body tds_ok follows_ Try.func62 rfl (t := .a (.c (.p 0 0 0)) :: .a (.c (.w64 num)) :: anys 25) rfl (fun w r0 hr _ => ?_)
  obtain ⟨x0, rfl⟩ := List.length_eq_one_iff.1 hr
  (repeat first | refine And.intro (by omega) ?_ | refine And.intro (by decide) ?_ | (with_reducible refine frc_parts (by first | omega | decide) ?_) | (with_reducible refine frc_bytesL (by first | omega | decide) ?_) | refine And.intro rfl ?_)
  obtain ⟨Y, hY⟩ : ∃ Y, nonB iv num = Y := ⟨_, rfl⟩
  refine .inl ⟨Nat, fun k => ⟨[.any, .a (.c (.w64 (num))), .any, .any, .a (.c (.p 1 0 0)), .a (.c (.p 2 0 0)), .any, .any, .any, .any, .any, .a (.c (.int .i64 (↑k))), .any, .any, .any, .any, .any, .any, .any, .any, .any, .any, .any, .any, .any, .any, .any], [kysN iv, [.row 12 fun _ => .w8 0], [.row 12 fun i => .w8 (if 12 ≤ i + k then Y i else iv i)]]⟩, fun k => k ≤ 8, fun k => 8 - k, ⟨0, [0, 1, 2], ⟨⟨rfl, rfl, rfl⟩, ?_⟩, by omega⟩, fun k hk => ⟨fun h => ?_, fun h => ?_⟩⟩
  · (repeat first | exact trivial | refine ⟨rfl, ?_⟩ | refine ⟨fun _ _ => ⟨rfl, trivial⟩, ?_⟩ | refine ⟨fun _ _ => trivial, ?_⟩ | refine ⟨by omega, ?_⟩ | refine ⟨fun _ _ => eqC_winS, ?_⟩ | refine ⟨fun _ _ => eqC_winM, ?_⟩ | refine ⟨fun _ _ => eqC_winB, ?_⟩ | refine ⟨fun _ _ => eqC_selfB, ?_⟩ | refine ⟨fun _ _ => eqC_mpB, ?_⟩)
    exact ⟨fun j hj => eqC_w8 (congrArg SC.w8 (by rw [if_neg (by omega)]; rfl)), trivial⟩
  · have hlt : (k : Int) < 8 := of_decide_eq_true h
    refine ⟨none, [], [(0, true), (1, true), (2, true), (3, true), (4, true), (5, true), (6, true), (7, true), (8, true), (9, true), (10, true)], [11], by kernel_rfl, ?_⟩
    (repeat first | refine And.intro (by omega) ?_ | refine And.intro (by decide) ?_ | (with_reducible refine frc_parts (by first | omega | decide) ?_) | (with_reducible refine frc_bytesL (by first | omega | decide) ?_) | refine And.intro rfl ?_)
    refine ⟨k + 1, [0, 1, 2], ⟨⟨rfl, rfl, rfl⟩, ?_⟩, by dsimp only; omega, by dsimp only; omega⟩
    (repeat first | exact trivial | refine ⟨rfl, ?_⟩ | refine ⟨fun _ _ => ⟨rfl, trivial⟩, ?_⟩ | refine ⟨fun _ _ => trivial, ?_⟩ | refine ⟨by omega, ?_⟩ | refine ⟨fun _ _ => eqC_winS, ?_⟩ | refine ⟨fun _ _ => eqC_winM, ?_⟩ | refine ⟨fun _ _ => eqC_winB, ?_⟩ | refine ⟨fun _ _ => eqC_selfB, ?_⟩ | refine ⟨fun _ _ => eqC_mpB, ?_⟩)
    refine ⟨fun j hj => eqC_w8 ?_, trivial⟩
    have e0 : (11 - (k : Int)).toNat + 0 = 11 - k := by omega
    have e1 : (8 * (k : Int)).toNat = 8 * k := by omega
    rw [e0, e1]
    refine (upd_w8 (g := fun i => .w8 (if 12 ≤ i + (k + 1) then Y i else iv i)) ?_ (fun i hi => ?_) j)
    · rw [if_neg (by omega), if_pos (by omega), ← hY]
      unfold nonB
      rw [if_neg (by omega), show 11 - (11 - k) = k by omega]
    · have : 12 ≤ i + k ↔ 12 ≤ i + (k + 1) := by omega
      simp only [this]
  · obtain rfl : k = 8 := by have : ¬ (k : Int) < 8 := of_decide_eq_false h; have hk : k ≤ 8 := hk; omega
    (repeat first | refine And.intro (by omega) ?_ | refine And.intro (by decide) ?_ | (with_reducible refine frc_parts (by first | omega | decide) ?_) | (with_reducible refine frc_bytesL (by first | omega | decide) ?_) | refine And.intro rfl ?_)
    refine ⟨.a (nonA (nonB iv num)), [kysN iv], ⟨[0], ⟨rfl, rfl, rfl⟩, ?_⟩, rfl, rfl⟩
    (repeat first | exact trivial | refine ⟨rfl, ?_⟩ | refine ⟨fun _ _ => ⟨rfl, trivial⟩, ?_⟩ | refine ⟨fun _ _ => trivial, ?_⟩ | refine ⟨by omega, ?_⟩ | refine ⟨fun _ _ => eqC_winS, ?_⟩ | refine ⟨fun _ _ => eqC_winM, ?_⟩ | refine ⟨fun _ _ => eqC_winB, ?_⟩ | refine ⟨fun _ _ => eqC_selfB, ?_⟩ | refine ⟨fun _ _ => eqC_mpB, ?_⟩)
    refine ⟨fun j hj => eqC_w8 (congrArg SC.w8 ?_), ?_⟩
    · show (if 12 ≤ j + 0 + 0 + 8 then Y (j + 0 + 0) else iv (j + 0 + 0)) = nonB iv num j
      rw [← hY]
      unfold nonB
      simp only [Nat.add_zero]
      by_cases h4 : j < 4
      · rw [if_neg (by omega), if_pos h4]
      · rw [if_pos (by omega)]
    (repeat first | exact trivial | refine ⟨rfl, ?_⟩ | refine ⟨fun _ _ => ⟨rfl, trivial⟩, ?_⟩ | refine ⟨fun _ _ => trivial, ?_⟩ | refine ⟨by omega, ?_⟩ | refine ⟨fun _ _ => eqC_winS, ?_⟩ | refine ⟨fun _ _ => eqC_winM, ?_⟩ | refine ⟨fun _ _ => eqC_winB, ?_⟩ | refine ⟨fun _ _ => eqC_selfB, ?_⟩ | refine ⟨fun _ _ => eqC_mpB, ?_⟩)
abbrev kysS (i : Nat) (iv : Nat → BitVec 8) : List Seg := [.row 32 fun _ => .any, .one (.p i 0 0), .row 12 fun i => .w8 (iv i), .one .any]
set_option maxRecDepth 20000 in
theorem fn_kseal (za zh : Bool) (Na Nh oa oh na nh ca ch : Nat) (a b S : Bs) (cnt : Int) (key K iv : Nat → BitVec 8) (num : BitVec 64) (E : (Nat → BitVec 8) → Nat → BitVec 8) (hK : pKeys key = K) (hE : pTurn key = E) (H : Gcm.E) (hS : sealL E H (nonB iv num) a b = S)
    (hla : a.length = na) (hNa : oa + na ≤ Na) (hca : na ≤ ca) (hza : za = true → na = 0) (hna : na ≤ 1000000) (hlh : b.length = nh) (hNh : oh + nh ≤ Nh) (hch : nh ≤ ch) (hzh : zh = true → nh = 0) (hnh : nh ≤ 1000000) (hcnt : 0 ≤ cnt ∧ cnt ≤ 900000000) :
    FnR Try.prog tds 42 3 [bts za Na oa na (L a), bts zh Nh oh nh (L b), kysS 5 iv, tabs 1 0 boxes cnt, keyD 3 K, sealC 4 H] [.c (.p 2 0 0), .c (.w64 num), .c (.sn za 0 0 oa na ca), .c (.sn zh 1 0 oh nh ch)] (fun _ => True)
      (fun x hs => ∃ c, nh + 16 ≤ c ∧ x = .a (.c (.sl 6 0 0 (nh + 16) c)) ∧ hs = [bts za Na oa na (L a), bts zh Nh oh nh (L b), kysS 5 iv, tabs 1 0 boxes (cnt + ((nh + 15) / 16 : Nat) + 1), keyD 3 K, sealC 4 H, [.row c (bytesF (nh + 16) (L S))]]) := by
  refine fn_of_body tds_ok follows_ Try.func42 rfl (t := [.a (.c (.p 2 0 0)), .a (.c (.w64 num)), .a (.c (.sn za 0 0 oa na ca)), .a (.c (.sn zh 1 0 oh nh ch)), .any, .any, .any, .any, .any, .any, .any, .any, .any, .any, .any, .any, .any, .any, .any, .any, .any]) rfl (fun w r0 hr _ => ?_)
  obtain ⟨x0, x1, x2, x3, x4, x5, rfl⟩ := len6s hr
  (repeat first | refine ⟨fun _ => ?_, fun h => absurd h (by rw []; decide)⟩ | refine ⟨fun h => absurd h (by rw []; decide), fun _ => ?_⟩ | refine ⟨fun _ => ?_, fun h => Bool.noConfusion h⟩ | refine ⟨fun h => Bool.noConfusion h, fun _ => ?_⟩)
  refine ⟨some [2], [], [(0, true), (1, true), (2, true), (3, true), (4, true), (5, true), (7, true), (8, true), (6, false), (9, false), (10, true)], [], by kernel_rfl, ?_⟩
  (repeat first | refine And.intro (by omega) ?_ | refine And.intro (by decide) ?_ | (with_reducible refine frc_parts (by first | omega | decide) ?_) | (with_reducible refine frc_bytesL (by first | omega | decide) ?_) | refine And.intro rfl ?_)
  refine call_same (fn_knonce iv num) [2] rfl (by (repeat first | exact trivial | refine ⟨rfl, ?_⟩ | refine ⟨fun _ _ => ⟨rfl, trivial⟩, ?_⟩ | refine ⟨fun _ _ => trivial, ?_⟩ | refine ⟨by omega, ?_⟩ | refine ⟨fun _ _ => eqC_winS, ?_⟩ | refine ⟨fun _ _ => eqC_winM, ?_⟩ | refine ⟨fun _ _ => eqC_winB, ?_⟩ | refine ⟨fun _ _ => eqC_selfB, ?_⟩ | refine ⟨fun _ _ => eqC_mpB, ?_⟩)) (by (repeat first | exact trivial | refine ⟨rfl, ?_⟩ | refine ⟨fun _ _ => ⟨rfl, trivial⟩, ?_⟩ | refine ⟨fun _ _ => trivial, ?_⟩ | refine ⟨by omega, ?_⟩ | refine ⟨fun _ _ => eqC_winS, ?_⟩ | refine ⟨fun _ _ => eqC_winM, ?_⟩ | refine ⟨fun _ _ => eqC_winB, ?_⟩ | refine ⟨fun _ _ => eqC_selfB, ?_⟩ | refine ⟨fun _ _ => eqC_mpB, ?_⟩)) (fun _ _ => trivial) ?_
  rintro x hs' ⟨rfl, rfl⟩
  (repeat first | refine And.intro (by omega) ?_ | refine And.intro (by decide) ?_ | (with_reducible refine frc_parts (by first | omega | decide) ?_) | (with_reducible refine frc_bytesL (by first | omega | decide) ?_) | refine And.intro rfl ?_)
  refine call_same (fn_gseal za zh Na Nh oa oh na nh ca ch a b S cnt key K E hK hE H (nonB iv num) hS hla hNa hca hza hna hlh hNh hch hzh hnh hcnt) [0, 1, 3, 4, 5] rfl (by (repeat first | exact trivial | refine ⟨rfl, ?_⟩ | refine ⟨fun _ _ => ⟨rfl, trivial⟩, ?_⟩ | refine ⟨fun _ _ => trivial, ?_⟩ | refine ⟨by omega, ?_⟩ | refine ⟨fun _ _ => eqC_winS, ?_⟩ | refine ⟨fun _ _ => eqC_winM, ?_⟩ | refine ⟨fun _ _ => eqC_winB, ?_⟩ | refine ⟨fun _ _ => eqC_selfB, ?_⟩ | refine ⟨fun _ _ => eqC_mpB, ?_⟩)) ?_ (fun _ _ => trivial) ?_
  · refine eqC_bts (eqC_bts ?_)
    (repeat first | exact trivial | refine ⟨rfl, ?_⟩ | refine ⟨fun _ _ => ⟨rfl, trivial⟩, ?_⟩ | refine ⟨fun _ _ => trivial, ?_⟩ | refine ⟨by omega, ?_⟩ | refine ⟨fun _ _ => eqC_winS, ?_⟩ | refine ⟨fun _ _ => eqC_winM, ?_⟩ | refine ⟨fun _ _ => eqC_winB, ?_⟩ | refine ⟨fun _ _ => eqC_selfB, ?_⟩ | refine ⟨fun _ _ => eqC_mpB, ?_⟩)
  rintro x hs' ⟨c, hc, rfl, rfl⟩
  (repeat first | refine And.intro (by omega) ?_ | refine And.intro (by decide) ?_ | (with_reducible refine frc_parts (by first | omega | decide) ?_) | (with_reducible refine frc_bytesL (by first | omega | decide) ?_) | refine And.intro rfl ?_)
  refine ⟨_, _, ⟨[0, 1, 2, 3, 4, 5, 6], ⟨rfl, rfl, rfl⟩, ?_⟩, c, hc, rfl, rfl⟩
  (repeat first | exact trivial | refine ⟨rfl, ?_⟩ | refine ⟨fun _ _ => ⟨rfl, trivial⟩, ?_⟩ | refine ⟨fun _ _ => trivial, ?_⟩ | refine ⟨by omega, ?_⟩ | refine ⟨fun _ _ => eqC_winS, ?_⟩ | refine ⟨fun _ _ => eqC_winM, ?_⟩ | refine ⟨fun _ _ => eqC_winB, ?_⟩ | refine ⟨fun _ _ => eqC_selfB, ?_⟩ | refine ⟨fun _ _ => eqC_mpB, ?_⟩)
  refine eqC_bts (eqC_bts ?_)
  (repeat first | exact trivial | refine ⟨rfl, ?_⟩ | refine ⟨fun _ _ => ⟨rfl, trivial⟩, ?_⟩ | refine ⟨fun _ _ => trivial, ?_⟩ | refine ⟨by omega, ?_⟩ | refine ⟨fun _ _ => eqC_winS, ?_⟩ | refine ⟨fun _ _ => eqC_winM, ?_⟩ | refine ⟨fun _ _ => eqC_winB, ?_⟩ | refine ⟨fun _ _ => eqC_selfB, ?_⟩ | refine ⟨fun _ _ => eqC_mpB, ?_⟩)
set_option maxRecDepth 20000 in
theorem fn_kopen (za zh : Bool) (Na Nh oa oh na nh ca ch : Nat) (a b : Bs) (T : Nat → BitVec 8) (P : Bs) (cnt : Int) (key K iv : Nat → BitVec 8) (num : BitVec 64) (E : (Nat → BitVec 8) → Nat → BitVec 8) (hK : pKeys key = K) (hE : pTurn key = E) (H : Gcm.E)
    (hT : tagB E H (nonB iv num) a (b.take (nh - 16)) = T) (hP : cryL E (nonB iv num) (b.take (nh - 16)) = P)
    (hla : a.length = na) (hNa : oa + na ≤ Na) (hca : na ≤ ca) (hza : za = true → na = 0) (hna : na ≤ 1000000) (hlh : b.length = nh) (hNh : oh + nh ≤ Nh) (hch : nh ≤ ch) (hzh : zh = true → nh = 0) (hnh : nh ≤ 1000000) (hcnt : 0 ≤ cnt ∧ cnt ≤ 900000000) :
    FnR Try.prog tds 43 3 [bts za Na oa na (L a), bts zh Nh oh nh (L b), kysS 5 iv, tabs 1 0 boxes cnt, keyD 3 K, sealC 4 H] [.c (.p 2 0 0), .c (.w64 num), .c (.sn za 0 0 oa na ca), .c (.sn zh 1 0 oh nh ch)] (fun _ => True)
      (fun x hs => (nh < 16 → x = .tup [.c (.slc none 0 0), .c (.int .i64 3)] ∧ hs = [bts za Na oa na (L a), bts zh Nh oh nh (L b), kysS 5 iv, tabs 1 0 boxes cnt, keyD 3 K, sealC 4 H]) ∧
        (16 ≤ nh → (∀ i, i < 16 → L b (nh - 16 + i) = T i) → x = .tup [.c (.sl 6 0 0 (nh - 16) nh), .c (.int .i64 0)] ∧ hs = [bts za Na oa na (L a), bts zh Nh oh nh (L b), kysS 5 iv, tabs 1 0 boxes (cnt + 1 + ((nh - 1) / 16 : Nat)), keyD 3 K, sealC 4 H, [.row nh (bytesF (nh - 16) (L P))]]) ∧
        (16 ≤ nh → (¬ ∀ i, i < 16 → L b (nh - 16 + i) = T i) → x = .tup [.c (.slc none 0 0), .c (.int .i64 8)] ∧ hs = [bts za Na oa na (L a), bts zh Nh oh nh (L b), kysS 5 iv, tabs 1 0 boxes (cnt + 1), keyD 3 K, sealC 4 H])) := by
  refine fn_of_body tds_ok follows_ Try.func43 rfl (t := [.a (.c (.p 2 0 0)), .a (.c (.w64 num)), .a (.c (.sn za 0 0 oa na ca)), .a (.c (.sn zh 1 0 oh nh ch)), .any, .any, .any, .any, .any, .any, .any, .any, .any, .any, .any, .any, .any, .any, .any, .any, .any, .any, .any, .any]) rfl (fun w r0 hr _ => ?_)
  obtain ⟨x0, x1, x2, x3, x4, x5, rfl⟩ := len6s hr
  (repeat first | refine ⟨fun _ => ?_, fun h => absurd h (by rw []; decide)⟩ | refine ⟨fun h => absurd h (by rw []; decide), fun _ => ?_⟩ | refine ⟨fun _ => ?_, fun h => Bool.noConfusion h⟩ | refine ⟨fun h => Bool.noConfusion h, fun _ => ?_⟩)
  refine ⟨some [2], [], [(0, true), (1, true), (2, true), (3, true), (4, true), (5, true), (7, true), (8, true), (6, false), (9, false), (10, true), (11, true), (12, true), (13, true)], [], by kernel_rfl, ?_⟩
  (repeat first | refine And.intro (by omega) ?_ | refine And.intro (by decide) ?_ | (with_reducible refine frc_parts (by first | omega | decide) ?_) | (with_reducible refine frc_bytesL (by first | omega | decide) ?_) | refine And.intro rfl ?_)
  refine call_same (fn_knonce iv num) [2] rfl (by (repeat first | exact trivial | refine ⟨rfl, ?_⟩ | refine ⟨fun _ _ => ⟨rfl, trivial⟩, ?_⟩ | refine ⟨fun _ _ => trivial, ?_⟩ | refine ⟨by omega, ?_⟩ | refine ⟨fun _ _ => eqC_winS, ?_⟩ | refine ⟨fun _ _ => eqC_winM, ?_⟩ | refine ⟨fun _ _ => eqC_winB, ?_⟩ | refine ⟨fun _ _ => eqC_selfB, ?_⟩ | refine ⟨fun _ _ => eqC_mpB, ?_⟩)) (by (repeat first | exact trivial | refine ⟨rfl, ?_⟩ | refine ⟨fun _ _ => ⟨rfl, trivial⟩, ?_⟩ | refine ⟨fun _ _ => trivial, ?_⟩ | refine ⟨by omega, ?_⟩ | refine ⟨fun _ _ => eqC_winS, ?_⟩ | refine ⟨fun _ _ => eqC_winM, ?_⟩ | refine ⟨fun _ _ => eqC_winB, ?_⟩ | refine ⟨fun _ _ => eqC_selfB, ?_⟩ | refine ⟨fun _ _ => eqC_mpB, ?_⟩)) (fun _ _ => trivial) ?_
  rintro x hs' ⟨rfl, rfl⟩
  (repeat first | refine And.intro (by omega) ?_ | refine And.intro (by decide) ?_ | (with_reducible refine frc_parts (by first | omega | decide) ?_) | (with_reducible refine frc_bytesL (by first | omega | decide) ?_) | refine And.intro rfl ?_)
  refine call_same (fn_gopen za zh Na Nh oa oh na nh ca ch a b T P cnt key K E hK hE H (nonB iv num) hT hP hla hNa hca hza hna hlh hNh hch hzh hnh hcnt) [0, 1, 3, 4, 5] rfl (by (repeat first | exact trivial | refine ⟨rfl, ?_⟩ | refine ⟨fun _ _ => ⟨rfl, trivial⟩, ?_⟩ | refine ⟨fun _ _ => trivial, ?_⟩ | refine ⟨by omega, ?_⟩ | refine ⟨fun _ _ => eqC_winS, ?_⟩ | refine ⟨fun _ _ => eqC_winM, ?_⟩ | refine ⟨fun _ _ => eqC_winB, ?_⟩ | refine ⟨fun _ _ => eqC_selfB, ?_⟩ | refine ⟨fun _ _ => eqC_mpB, ?_⟩)) ?_ (fun _ _ => trivial) ?_
  · refine eqC_bts (eqC_bts ?_)
    (repeat first | exact trivial | refine ⟨rfl, ?_⟩ | refine ⟨fun _ _ => ⟨rfl, trivial⟩, ?_⟩ | refine ⟨fun _ _ => trivial, ?_⟩ | refine ⟨by omega, ?_⟩ | refine ⟨fun _ _ => eqC_winS, ?_⟩ | refine ⟨fun _ _ => eqC_winM, ?_⟩ | refine ⟨fun _ _ => eqC_winB, ?_⟩ | refine ⟨fun _ _ => eqC_selfB, ?_⟩ | refine ⟨fun _ _ => eqC_mpB, ?_⟩)
  rintro x hs' ⟨hx1, hx2, hx3⟩
  by_cases h16 : nh < 16
  · obtain ⟨rfl, rfl⟩ := hx1 h16
    (repeat first | refine And.intro (by omega) ?_ | refine And.intro (by decide) ?_ | (with_reducible refine frc_parts (by first | omega | decide) ?_) | (with_reducible refine frc_bytesL (by first | omega | decide) ?_) | refine And.intro rfl ?_)
    refine ⟨_, _, ⟨[0, 1, 2, 3, 4, 5], ⟨rfl, rfl, rfl⟩, ?_⟩, fun _ => ⟨rfl, rfl⟩, fun h => absurd h16 (by omega), fun h => absurd h16 (by omega)⟩
    (repeat first | exact trivial | refine ⟨rfl, ?_⟩ | refine ⟨fun _ _ => ⟨rfl, trivial⟩, ?_⟩ | refine ⟨fun _ _ => trivial, ?_⟩ | refine ⟨by omega, ?_⟩ | refine ⟨fun _ _ => eqC_winS, ?_⟩ | refine ⟨fun _ _ => eqC_winM, ?_⟩ | refine ⟨fun _ _ => eqC_winB, ?_⟩ | refine ⟨fun _ _ => eqC_selfB, ?_⟩ | refine ⟨fun _ _ => eqC_mpB, ?_⟩)
    refine eqC_bts (eqC_bts ?_)
    (repeat first | exact trivial | refine ⟨rfl, ?_⟩ | refine ⟨fun _ _ => ⟨rfl, trivial⟩, ?_⟩ | refine ⟨fun _ _ => trivial, ?_⟩ | refine ⟨by omega, ?_⟩ | refine ⟨fun _ _ => eqC_winS, ?_⟩ | refine ⟨fun _ _ => eqC_winM, ?_⟩ | refine ⟨fun _ _ => eqC_winB, ?_⟩ | refine ⟨fun _ _ => eqC_selfB, ?_⟩ | refine ⟨fun _ _ => eqC_mpB, ?_⟩)
  by_cases hall : ∀ i, i < 16 → L b (nh - 16 + i) = T i
  · obtain ⟨rfl, rfl⟩ := hx2 (by omega) hall
    (repeat first | refine And.intro (by omega) ?_ | refine And.intro (by decide) ?_ | (with_reducible refine frc_parts (by first | omega | decide) ?_) | (with_reducible refine frc_bytesL (by first | omega | decide) ?_) | refine And.intro rfl ?_)
    refine ⟨_, _, ⟨[0, 1, 2, 3, 4, 5, 6], ⟨rfl, rfl, rfl⟩, ?_⟩, fun h => absurd h h16, fun _ _ => ⟨rfl, rfl⟩, fun _ h => absurd hall h⟩
    (repeat first | exact trivial | refine ⟨rfl, ?_⟩ | refine ⟨fun _ _ => ⟨rfl, trivial⟩, ?_⟩ | refine ⟨fun _ _ => trivial, ?_⟩ | refine ⟨by omega, ?_⟩ | refine ⟨fun _ _ => eqC_winS, ?_⟩ | refine ⟨fun _ _ => eqC_winM, ?_⟩ | refine ⟨fun _ _ => eqC_winB, ?_⟩ | refine ⟨fun _ _ => eqC_selfB, ?_⟩ | refine ⟨fun _ _ => eqC_mpB, ?_⟩)
    refine eqC_bts (eqC_bts ?_)
    (repeat first | exact trivial | refine ⟨rfl, ?_⟩ | refine ⟨fun _ _ => ⟨rfl, trivial⟩, ?_⟩ | refine ⟨fun _ _ => trivial, ?_⟩ | refine ⟨by omega, ?_⟩ | refine ⟨fun _ _ => eqC_winS, ?_⟩ | refine ⟨fun _ _ => eqC_winM, ?_⟩ | refine ⟨fun _ _ => eqC_winB, ?_⟩ | refine ⟨fun _ _ => eqC_selfB, ?_⟩ | refine ⟨fun _ _ => eqC_mpB, ?_⟩)
  · obtain ⟨rfl, rfl⟩ := hx3 (by omega) hall
    (repeat first | refine And.intro (by omega) ?_ | refine And.intro (by decide) ?_ | (with_reducible refine frc_parts (by first | omega | decide) ?_) | (with_reducible refine frc_bytesL (by first | omega | decide) ?_) | refine And.intro rfl ?_)
    refine ⟨_, _, ⟨[0, 1, 2, 3, 4, 5], ⟨rfl, rfl, rfl⟩, ?_⟩, fun h => absurd h h16, fun _ h => absurd h hall, fun _ _ => ⟨rfl, rfl⟩⟩
    (repeat first | exact trivial | refine ⟨rfl, ?_⟩ | refine ⟨fun _ _ => ⟨rfl, trivial⟩, ?_⟩ | refine ⟨fun _ _ => trivial, ?_⟩ | refine ⟨by omega, ?_⟩ | refine ⟨fun _ _ => eqC_winS, ?_⟩ | refine ⟨fun _ _ => eqC_winM, ?_⟩ | refine ⟨fun _ _ => eqC_winB, ?_⟩ | refine ⟨fun _ _ => eqC_selfB, ?_⟩ | refine ⟨fun _ _ => eqC_mpB, ?_⟩)
    refine eqC_bts (eqC_bts ?_)
    (repeat first | exact trivial | refine ⟨rfl, ?_⟩ | refine ⟨fun _ _ => ⟨rfl, trivial⟩, ?_⟩ | refine ⟨fun _ _ => trivial, ?_⟩ | refine ⟨by omega, ?_⟩ | refine ⟨fun _ _ => eqC_winS, ?_⟩ | refine ⟨fun _ _ => eqC_winM, ?_⟩ | refine ⟨fun _ _ => eqC_winB, ?_⟩ | refine ⟨fun _ _ => eqC_selfB, ?_⟩ | refine ⟨fun _ _ => eqC_mpB, ?_⟩)
end Sx
end Go.Proofs.Ytndlhhhebijknaa
end

section
/-
  The program's keys: of the first packets; the law's fixed fact. No condition.
-/
namespace Go.Proofs.Ytndlhhhebijknaa
set_option linter.unusedVariables false
namespace Gcm
open Sha
def saltK : Bs := [56#8, 118#8, 44#8, 247#8, 245#8, 89#8, 52#8, 179#8, 77#8, 23#8, 154#8, 230#8, 164#8, 200#8, 12#8, 173#8, 204#8, 187#8, 127#8, 10#8]
def qCl : List UInt8 := [99, 108, 105, 101, 110, 116, 32, 105, 110]
def qSv : List UInt8 := [115, 101, 114, 118, 101, 114, 32, 105, 110]
def idA : Bs := [49#8, 50#8, 51#8, 52#8, 53#8, 54#8, 55#8, 56#8]
def secA : Bs := [58#8, 15#8, 79#8, 217#8, 214#8, 6#8, 90#8, 216#8, 101#8, 81#8, 67#8, 9#8, 91#8, 58#8, 63#8, 153#8, 190#8, 90#8, 30#8, 247#8, 171#8, 35#8, 75#8, 205#8, 75#8, 243#8, 223#8, 63#8, 124#8, 34#8, 217#8, 238#8]
theorem secA_eq : markL saltK idA = secA := of_decide_eq_true (mark_by (p := fun l => decide (l = secA)) (by decide +kernel))
theorem exF0 (s about : Bs) (i : Nat) (hi : i < 32) : exF s about i = L (markL s (about ++ [1#8])) i := by
  unfold exF
  rw [show i / 32 + 1 = 1 by omega]
  show L ([] ++ markL s ([] ++ about ++ [BitVec.ofNat 8 (0 + 1)])) i = _
  rw [List.nil_append, List.nil_append]
theorem cl_at : exF secA (labT qCl [] 32) 0 = 78#8 := by
  rw [exF0 _ _ _ (by decide)]
  have e : labT qCl [] 32 ++ [1#8] = [0#8, 32#8, 15#8, 116#8, 108#8, 115#8, 49#8, 51#8, 32#8, 99#8, 108#8, 105#8, 101#8, 110#8, 116#8, 32#8, 105#8, 110#8, 0#8, 1#8] := by decide
  rw [e]
  exact of_decide_eq_true (mark_by (p := fun l => decide (L l 0 = 78#8)) (by decide +kernel))
theorem sv_at : exF secA (labT qSv [] 32) 0 = 164#8 := by
  rw [exF0 _ _ _ (by decide)]
  have e : labT qSv [] 32 ++ [1#8] = [0#8, 32#8, 15#8, 116#8, 108#8, 115#8, 49#8, 51#8, 32#8, 115#8, 101#8, 114#8, 118#8, 101#8, 114#8, 32#8, 105#8, 110#8, 0#8, 1#8] := by decide
  rw [e]
  exact of_decide_eq_true (mark_by (p := fun l => decide (L l 0 = 164#8)) (by decide +kernel))
end Gcm
namespace Sx
open Aes Gcm Sha

abbrev kysV (s : Nat → BitVec 8) : List Seg := [.row 32 fun i => .w8 (s i), .one .any, .row 12 fun _ => .any, .one .any]
set_option maxRecDepth 20000 in
set_option maxHeartbeats 2000000 in
theorem fn_kInitial (z : Bool) (N o n c : Nat) (l s : Bs) (dn : BitVec 32) (f g : Nat → BitVec 32) (hd : dn = 0#32 ∨ dn = 1#32 ∧ f = first ∧ g = steps) (d : BitVec 32) (b : Nat → BitVec 8) (cnt : Int) (hdt : d = 0#32 ∨ d = 1#32 ∧ b = boxes) (hcnt : 0 ≤ cnt ∧ cnt ≤ 800000000)
    (hl : l.length = n) (hN : o + n ≤ N) (hc : n ≤ c) (hz : z = true → l = []) (hs : markL saltK l = s) (sA sB : Nat → BitVec 8) (hA : exF s (labT qCl [] 32) = sA) (hB : exF s (labT qSv [] 32) = sB) :
    FnR Try.prog tds 40 2 [bts z N o n (L l), makC 2 3, shaT dn 0 f g, tabs d 0 b cnt] [.c (.p 1 0 0), .c (.sn z 0 0 o n c)] (fun _ => True)
      (fun x hs => ∃ (dn' : BitVec 32) (f' g' : Nat → BitVec 32), x = .tup [.c (.p 4 0 0), .c (.p 5 0 0)] ∧ hs = [bts z N o n (L l), makC 2 3, shaT dn' 0 f' g', tabs 1 0 boxes (cnt + 1 + 1), kysV sA, kysV sB]) := by
  subst hl
  refine fn_of_body tds_ok follows_ Try.func40 rfl (t := [.a (.c (.p 1 0 0)), .a (.c (.sn z 0 0 o l.length c)), .any, .any, .any, .any, .any, .any, .any, .any, .any, .any, .any, .any, .any, .any, .any, .any, .any, .any, .any, .any, .any, .any, .any, .any, .any, .any]) rfl (fun w r0 hr _ => ?_)
  obtain ⟨x0, x1, x2, x3, rfl⟩ := len4' hr
  have hsl : s.length = 32 := by rw [← hs, markL_len]
  obtain ⟨kqA, hkqA⟩ : ∃ v, exF (tab 32 sA) (labT qKey [] 16) = v := ⟨_, rfl⟩
  obtain ⟨ivA, hivA⟩ : ∃ v, exF (tab 32 sA) (labT qIv [] 12) = v := ⟨_, rfl⟩
  obtain ⟨khA, hkhA⟩ : ∃ v, exF (tab 32 sA) (labT qHp [] 16) = v := ⟨_, rfl⟩
  obtain ⟨KA, hKA⟩ : ∃ v, pKeys kqA = v := ⟨_, rfl⟩
  obtain ⟨EA, hEA⟩ : ∃ v, pTurn kqA = v := ⟨_, rfl⟩
  obtain ⟨HA, hHA⟩ : ∃ v, toE (EA fun _ => 0#8) = v := ⟨_, rfl⟩
  obtain ⟨JA, hJA⟩ : ∃ v, pKeys khA = v := ⟨_, rfl⟩
  obtain ⟨kqB, hkqB⟩ : ∃ v, exF (tab 32 sB) (labT qKey [] 16) = v := ⟨_, rfl⟩
  obtain ⟨ivB, hivB⟩ : ∃ v, exF (tab 32 sB) (labT qIv [] 12) = v := ⟨_, rfl⟩
  obtain ⟨khB, hkhB⟩ : ∃ v, exF (tab 32 sB) (labT qHp [] 16) = v := ⟨_, rfl⟩
  obtain ⟨KB, hKB⟩ : ∃ v, pKeys kqB = v := ⟨_, rfl⟩
  obtain ⟨EB, hEB⟩ : ∃ v, pTurn kqB = v := ⟨_, rfl⟩
  obtain ⟨HB, hHB⟩ : ∃ v, toE (EB fun _ => 0#8) = v := ⟨_, rfl⟩
  obtain ⟨JB, hJB⟩ : ∃ v, pKeys khB = v := ⟨_, rfl⟩
  have qa : ∀ {q : List Nat} {g : Nat → Nat} (j : Nat), j < 32 → eqC q (SC.mp g (SC.w8 (sA j))) (SC.w8 (L (tab 32 sA) j)) True := fun j hj => by rw [L_tab hj]; exact ⟨rfl, trivial⟩
  have qb : ∀ {q : List Nat} {g : Nat → Nat} (j : Nat), j < 32 → eqC q (SC.mp g (SC.w8 (sB j))) (SC.w8 (L (tab 32 sB) j)) True := fun j hj => by rw [L_tab hj]; exact ⟨rfl, trivial⟩
  (repeat first | refine ⟨fun _ => ?_, fun h => absurd h (by rw []; decide)⟩ | refine ⟨fun h => absurd h (by rw []; decide), fun _ => ?_⟩ | refine ⟨fun _ => ?_, fun h => Bool.noConfusion h⟩ | refine ⟨fun h => Bool.noConfusion h, fun _ => ?_⟩)
  (repeat first | refine And.intro (by omega) ?_ | refine And.intro (by decide) ?_ | (with_reducible refine frc_parts (by first | omega | decide) ?_) | (with_reducible refine frc_bytesL (by first | omega | decide) ?_) | refine And.intro rfl ?_)
  refine call_same (fn_extract false z 20 N 0 o 20 c saltK l dn f g hd (by decide) (by decide) (fun h => Bool.noConfusion h) hN hc hz) [4, 0, 2] rfl (by (repeat first | exact trivial | refine ⟨rfl, ?_⟩ | refine ⟨fun _ _ => ⟨rfl, trivial⟩, ?_⟩ | refine ⟨fun _ _ => trivial, ?_⟩ | refine ⟨by omega, ?_⟩ | refine ⟨fun _ _ => eqC_winS, ?_⟩ | refine ⟨fun _ _ => eqC_winM, ?_⟩ | refine ⟨fun _ _ => eqC_winB, ?_⟩ | refine ⟨fun _ _ => eqC_selfB, ?_⟩ | refine ⟨fun _ _ => eqC_mpB, ?_⟩)) ?_ (fun _ _ => trivial) ?_
  · refine ⟨rfl, fun j hj => eqC_lit saltK hj, ?_⟩
    refine eqC_bts ?_
    (repeat first | exact trivial | refine ⟨rfl, ?_⟩ | refine ⟨fun _ _ => ⟨rfl, trivial⟩, ?_⟩ | refine ⟨fun _ _ => trivial, ?_⟩ | refine ⟨by omega, ?_⟩ | refine ⟨fun _ _ => eqC_winS, ?_⟩ | refine ⟨fun _ _ => eqC_winM, ?_⟩ | refine ⟨fun _ _ => eqC_winB, ?_⟩ | refine ⟨fun _ _ => eqC_selfB, ?_⟩ | refine ⟨fun _ _ => eqC_mpB, ?_⟩)
  rintro x hs' ⟨rfl, rfl⟩
  rw [hs]
  (repeat first | refine And.intro (by omega) ?_ | refine And.intro (by decide) ?_ | (with_reducible refine frc_parts (by first | omega | decide) ?_) | (with_reducible refine frc_bytesL (by first | omega | decide) ?_) | refine And.intro rfl ?_)
  refine ⟨some [5], [], [(0, true), (1, true), (2, true), (5, true), (6, true), (7, true), (3, false), (4, false), (8, false), (9, false), (10, true), (11, true)], [], by kernel_rfl, ?_⟩
  (repeat first | refine And.intro (by omega) ?_ | refine And.intro (by decide) ?_ | (with_reducible refine frc_parts (by first | omega | decide) ?_) | (with_reducible refine frc_bytesL (by first | omega | decide) ?_) | refine And.intro rfl ?_)
  refine call_same (fn_ksecret s qCl 1 first steps (.inr ⟨rfl, rfl, rfl⟩) hsl (by decide)) [1, 2] rfl (by (repeat first | exact trivial | refine ⟨rfl, ?_⟩ | refine ⟨fun _ _ => ⟨rfl, trivial⟩, ?_⟩ | refine ⟨fun _ _ => trivial, ?_⟩ | refine ⟨by omega, ?_⟩ | refine ⟨fun _ _ => eqC_winS, ?_⟩ | refine ⟨fun _ _ => eqC_winM, ?_⟩ | refine ⟨fun _ _ => eqC_winB, ?_⟩ | refine ⟨fun _ _ => eqC_selfB, ?_⟩ | refine ⟨fun _ _ => eqC_mpB, ?_⟩)) (by (repeat first | exact trivial | refine ⟨rfl, ?_⟩ | refine ⟨fun _ _ => ⟨rfl, trivial⟩, ?_⟩ | refine ⟨fun _ _ => trivial, ?_⟩ | refine ⟨by omega, ?_⟩ | refine ⟨fun _ _ => eqC_winS, ?_⟩ | refine ⟨fun _ _ => eqC_winM, ?_⟩ | refine ⟨fun _ _ => eqC_winB, ?_⟩ | refine ⟨fun _ _ => eqC_selfB, ?_⟩ | refine ⟨fun _ _ => eqC_mpB, ?_⟩)) (fun _ _ => trivial) ?_
  rintro x hs' ⟨dn1, f1, g1, hd1, rfl, rfl⟩
  rw [hA]
  (repeat first | refine And.intro (by omega) ?_ | refine And.intro (by decide) ?_ | (with_reducible refine frc_parts (by first | omega | decide) ?_) | (with_reducible refine frc_bytesL (by first | omega | decide) ?_) | refine And.intro rfl ?_)
  refine call_same (fn_kOf (tab 32 sA) dn1 f1 g1 hd1 (tab_len _ _) d b (cnt) hdt (by omega) kqA KA khA JA ivA EA HA hkqA hivA hkhA hKA hEA hHA hJA) [1, 2, 3] rfl ⟨rfl, rfl, rfl, qa, trivial⟩ (by (repeat first | exact trivial | refine ⟨rfl, ?_⟩ | refine ⟨fun _ _ => ⟨rfl, trivial⟩, ?_⟩ | refine ⟨fun _ _ => trivial, ?_⟩ | refine ⟨by omega, ?_⟩ | refine ⟨fun _ _ => eqC_winS, ?_⟩ | refine ⟨fun _ _ => eqC_winM, ?_⟩ | refine ⟨fun _ _ => eqC_winB, ?_⟩ | refine ⟨fun _ _ => eqC_selfB, ?_⟩ | refine ⟨fun _ _ => eqC_mpB, ?_⟩)) (fun _ _ => trivial) ?_
  rintro x hs' ⟨dn2, f2, g2, hd2, rfl, rfl⟩
  (repeat first | refine And.intro (by omega) ?_ | refine And.intro (by decide) ?_ | (with_reducible refine frc_parts (by first | omega | decide) ?_) | (with_reducible refine frc_bytesL (by first | omega | decide) ?_) | refine And.intro rfl ?_)
  refine call_same (fn_ksecret s qSv dn2 f2 g2 hd2 hsl (by decide)) [1, 2] rfl (by (repeat first | exact trivial | refine ⟨rfl, ?_⟩ | refine ⟨fun _ _ => ⟨rfl, trivial⟩, ?_⟩ | refine ⟨fun _ _ => trivial, ?_⟩ | refine ⟨by omega, ?_⟩ | refine ⟨fun _ _ => eqC_winS, ?_⟩ | refine ⟨fun _ _ => eqC_winM, ?_⟩ | refine ⟨fun _ _ => eqC_winB, ?_⟩ | refine ⟨fun _ _ => eqC_selfB, ?_⟩ | refine ⟨fun _ _ => eqC_mpB, ?_⟩)) (by (repeat first | exact trivial | refine ⟨rfl, ?_⟩ | refine ⟨fun _ _ => ⟨rfl, trivial⟩, ?_⟩ | refine ⟨fun _ _ => trivial, ?_⟩ | refine ⟨by omega, ?_⟩ | refine ⟨fun _ _ => eqC_winS, ?_⟩ | refine ⟨fun _ _ => eqC_winM, ?_⟩ | refine ⟨fun _ _ => eqC_winB, ?_⟩ | refine ⟨fun _ _ => eqC_selfB, ?_⟩ | refine ⟨fun _ _ => eqC_mpB, ?_⟩)) (fun _ _ => trivial) ?_
  rintro x hs' ⟨dn3, f3, g3, hd3, rfl, rfl⟩
  rw [hB]
  (repeat first | refine And.intro (by omega) ?_ | refine And.intro (by decide) ?_ | (with_reducible refine frc_parts (by first | omega | decide) ?_) | (with_reducible refine frc_bytesL (by first | omega | decide) ?_) | refine And.intro rfl ?_)
  refine call_same (fn_kOf (tab 32 sB) dn3 f3 g3 hd3 (tab_len _ _) 1 boxes (cnt + 1) (.inr ⟨rfl, rfl⟩) (by omega) kqB KB khB JB ivB EB HB hkqB hivB hkhB hKB hEB hHB hJB) [1, 2, 3] rfl ⟨rfl, rfl, rfl, qb, trivial⟩ (by (repeat first | exact trivial | refine ⟨rfl, ?_⟩ | refine ⟨fun _ _ => ⟨rfl, trivial⟩, ?_⟩ | refine ⟨fun _ _ => trivial, ?_⟩ | refine ⟨by omega, ?_⟩ | refine ⟨fun _ _ => eqC_winS, ?_⟩ | refine ⟨fun _ _ => eqC_winM, ?_⟩ | refine ⟨fun _ _ => eqC_winB, ?_⟩ | refine ⟨fun _ _ => eqC_selfB, ?_⟩ | refine ⟨fun _ _ => eqC_mpB, ?_⟩)) (fun _ _ => trivial) ?_
  rintro x hs' ⟨dn4, f4, g4, hd4, rfl, rfl⟩
  (repeat first | refine And.intro (by omega) ?_ | refine And.intro (by decide) ?_ | (with_reducible refine frc_parts (by first | omega | decide) ?_) | (with_reducible refine frc_bytesL (by first | omega | decide) ?_) | refine And.intro rfl ?_)
  refine ⟨.tup [.c (.p 4 0 0), .c (.p 5 0 0)], _, ⟨[0, 1, 2, 3, 6, 10], ⟨rfl, rfl, rfl⟩, ?_⟩, dn4, f4, g4, rfl, rfl⟩
  (repeat first | exact trivial | refine ⟨rfl, ?_⟩ | refine ⟨fun _ _ => ⟨rfl, trivial⟩, ?_⟩ | refine ⟨fun _ _ => trivial, ?_⟩ | refine ⟨by omega, ?_⟩ | refine ⟨fun _ _ => eqC_winS, ?_⟩ | refine ⟨fun _ _ => eqC_winM, ?_⟩ | refine ⟨fun _ _ => eqC_winB, ?_⟩ | refine ⟨fun _ _ => eqC_selfB, ?_⟩ | refine ⟨fun _ _ => eqC_mpB, ?_⟩)
  refine eqC_bts ?_
  (repeat first | exact trivial | refine ⟨rfl, ?_⟩ | refine ⟨fun _ _ => ⟨rfl, trivial⟩, ?_⟩ | refine ⟨fun _ _ => trivial, ?_⟩ | refine ⟨by omega, ?_⟩ | refine ⟨fun _ _ => eqC_winS, ?_⟩ | refine ⟨fun _ _ => eqC_winM, ?_⟩ | refine ⟨fun _ _ => eqC_winB, ?_⟩ | refine ⟨fun _ _ => eqC_selfB, ?_⟩ | refine ⟨fun _ _ => eqC_mpB, ?_⟩)
  refine ⟨fun j hj => eqC_w8 (show SC.w8 (L (tab 32 sA) j) = SC.w8 (sA j) by rw [L_tab hj]), ?_⟩
  (repeat first | exact trivial | refine ⟨rfl, ?_⟩ | refine ⟨fun _ _ => ⟨rfl, trivial⟩, ?_⟩ | refine ⟨fun _ _ => trivial, ?_⟩ | refine ⟨by omega, ?_⟩ | refine ⟨fun _ _ => eqC_winS, ?_⟩ | refine ⟨fun _ _ => eqC_winM, ?_⟩ | refine ⟨fun _ _ => eqC_winB, ?_⟩ | refine ⟨fun _ _ => eqC_selfB, ?_⟩ | refine ⟨fun _ _ => eqC_mpB, ?_⟩)
  refine ⟨fun j hj => eqC_w8 (show SC.w8 (L (tab 32 sB) j) = SC.w8 (sB j) by rw [L_tab hj]), ?_⟩
  (repeat first | exact trivial | refine ⟨rfl, ?_⟩ | refine ⟨fun _ _ => ⟨rfl, trivial⟩, ?_⟩ | refine ⟨fun _ _ => trivial, ?_⟩ | refine ⟨by omega, ?_⟩ | refine ⟨fun _ _ => eqC_winS, ?_⟩ | refine ⟨fun _ _ => eqC_winM, ?_⟩ | refine ⟨fun _ _ => eqC_winB, ?_⟩ | refine ⟨fun _ _ => eqC_selfB, ?_⟩ | refine ⟨fun _ _ => eqC_mpB, ?_⟩)
set_option maxRecDepth 20000 in
set_option maxHeartbeats 2000000 in
theorem fn_awake11 : Fn Try.prog tds 38 [] [] (fun _ => True) (fun x hs => x = .a (.c (.bool true)) ∧ hs = []) := by
  refine fn_of_body tds_ok follows_ Try.func38 rfl (t := anys 27) rfl (fun w r0 hr _ => ?_)
  obtain rfl : r0 = [] := List.eq_nil_of_length_eq_zero hr
  obtain ⟨sA, hA⟩ : ∃ s, exF secA (labT qCl [] 32) = s := ⟨_, rfl⟩
  obtain ⟨sB, hB⟩ : ∃ s, exF secA (labT qSv [] 32) = s := ⟨_, rfl⟩
  have hne : sA 0 ≠ sB 0 := by rw [← hA, ← hB, cl_at, sv_at]; decide
  refine ⟨by kernel_rfl, call_same fn_keysNew [] rfl trivial trivial (fun _ _ => trivial) ?_⟩
  rintro x hs ⟨rfl, rfl⟩
  (repeat first | refine And.intro (by omega) ?_ | refine And.intro (by decide) ?_ | (with_reducible refine frc_parts (by first | omega | decide) ?_) | (with_reducible refine frc_bytesL (by first | omega | decide) ?_) | refine And.intro rfl ?_)
  refine call_same (fn_kInitial false 8 0 8 8 idA secA 0 (fun _ => 0#32) (fun _ => 0#32) (.inl rfl) 0 (fun _ => 0#8) 0 (.inl rfl) (by omega) rfl (by omega) (by omega) (fun h => Bool.noConfusion h) secA_eq sA sB hA hB) [3, 2, 0, 1] rfl (by (repeat first | exact trivial | refine ⟨rfl, ?_⟩ | refine ⟨fun _ _ => ⟨rfl, trivial⟩, ?_⟩ | refine ⟨fun _ _ => trivial, ?_⟩ | refine ⟨by omega, ?_⟩ | refine ⟨fun _ _ => eqC_winS, ?_⟩ | refine ⟨fun _ _ => eqC_winM, ?_⟩ | refine ⟨fun _ _ => eqC_winB, ?_⟩ | refine ⟨fun _ _ => eqC_selfB, ?_⟩ | refine ⟨fun _ _ => eqC_mpB, ?_⟩)) ?_ (fun _ _ => trivial) ?_
  · refine ⟨rfl, fun j hj => eqC_lit idA hj, ?_⟩
    (repeat first | exact trivial | refine ⟨rfl, ?_⟩ | refine ⟨fun _ _ => ⟨rfl, trivial⟩, ?_⟩ | refine ⟨fun _ _ => trivial, ?_⟩ | refine ⟨by omega, ?_⟩ | refine ⟨fun _ _ => eqC_winS, ?_⟩ | refine ⟨fun _ _ => eqC_winM, ?_⟩ | refine ⟨fun _ _ => eqC_winB, ?_⟩ | refine ⟨fun _ _ => eqC_selfB, ?_⟩ | refine ⟨fun _ _ => eqC_mpB, ?_⟩)
  rintro x hs ⟨dn, f, g, rfl, rfl⟩
  (repeat first | refine And.intro (by omega) ?_ | refine And.intro (by decide) ?_ | (with_reducible refine frc_parts (by first | omega | decide) ?_) | (with_reducible refine frc_bytesL (by first | omega | decide) ?_) | refine And.intro rfl ?_)
  refine ⟨none, [], [(0, true), (1, true), (2, true), (3, true), (4, true), (5, true), (6, true), (7, true), (8, true), (9, true), (10, true), (11, true), (12, true), (13, true), (14, true), (15, true), (16, true), (17, true)], [], by kernel_rfl, ?_⟩
  (repeat first | refine And.intro (by omega) ?_ | refine And.intro (by decide) ?_ | refine And.intro rfl ?_ | refine And.intro (fun _ => ?_) (fun h => Bool.noConfusion h) | refine And.intro (fun h => Bool.noConfusion h) (fun _ => ?_) | (with_reducible refine frc_bytesL (by first | omega | decide) ?_) | (with_reducible refine frc_bytesM (by first | omega | decide) ?_) | (with_reducible refine frc_parts (by first | omega | decide) ?_))
  refine ⟨⟨rfl, rfl, fun _ _ => rfl, fun _ _ => rfl⟩, fun b1 hb1 => ?_⟩
  obtain rfl : b1 = false := by
    cases b1
    · rfl
    · exact absurd (SC.w8.inj (hb1.1 rfl 0 (by decide))) hne
  (repeat first | refine And.intro (by omega) ?_ | refine And.intro (by decide) ?_ | refine And.intro rfl ?_ | refine And.intro (fun _ => ?_) (fun h => Bool.noConfusion h) | refine And.intro (fun h => Bool.noConfusion h) (fun _ => ?_) | (with_reducible refine frc_bytesL (by first | omega | decide) ?_) | (with_reducible refine frc_bytesM (by first | omega | decide) ?_) | (with_reducible refine frc_parts (by first | omega | decide) ?_))
  exact ⟨.a (.c (.bool true)), [], ⟨[], ⟨rfl, rfl, rfl⟩, rfl, trivial⟩, rfl, rfl⟩
theorem wmk {n : Nat} {f : Nat → BitVec 8} : (tab n f).length = n := tab_len n f
set_option maxRecDepth 20000 in
set_option maxHeartbeats 2000000 in
theorem fn_keysInitial (z : Bool) (c : Nat) (l : Bs) (hc : l.length ≤ c) (hz : z = true → l = []) :
    FnR Try.prog tds 12 1 [bts z l.length 0 l.length (L l)] [.c (.sn z 0 0 0 l.length c)] (fun _ => True) (fun x _ => x = .a (.c (.bool true))) := by
  refine fn_of_body tds_ok follows_ Try.func12 rfl (t := [.a (.c (.sn z 0 0 0 l.length c)), .any, .any, .any, .any, .any, .any, .any, .any, .any, .any, .any, .any, .any, .any, .any, .any, .any, .any, .any, .any, .any, .any, .any, .any, .any, .any, .any, .any, .any, .any, .any, .any, .any, .any, .any, .any, .any, .any, .any, .any, .any]) rfl (fun w r0 hr _ => ?_)
  obtain ⟨x0, rfl⟩ := List.length_eq_one_iff.1 hr
  refine ⟨by kernel_rfl, call_same fn_awake11 [] rfl trivial trivial (fun _ _ => trivial) ?_⟩
  rintro x hs ⟨rfl, rfl⟩
  refine ⟨fun h => Bool.noConfusion h, fun _ => ?_⟩
  by_cases h1 : 100 < l.length
  · have e1 : decide ((100 : Int) < (l.length : Int)) = true := decide_eq_true (by omega)
    (repeat first | refine And.intro (by omega) ?_ | refine And.intro (by decide) ?_ | refine And.intro rfl ?_ | refine And.intro (fun _ => ?_) (fun h => Bool.noConfusion h) | refine And.intro (fun h => Bool.noConfusion h) (fun _ => ?_) | refine And.intro (fun _ => ?_) (fun h => absurd h (by rw [e1]; decide)) | refine And.intro (fun h => absurd h (by rw [e1]; decide)) (fun _ => ?_))
    exact ⟨.a (.c (.bool true)), [[]], ⟨[0], ⟨rfl, rfl, rfl⟩, rfl, eqSegs_nil trivial⟩, rfl⟩
  have e1 : decide ((100 : Int) < (l.length : Int)) = false := decide_eq_false (by omega)
  obtain ⟨s, hs⟩ : ∃ s, markL saltK l = s := ⟨_, rfl⟩
  have hsl : s.length = 32 := by rw [← hs, markL_len]
  obtain ⟨sA, hA⟩ : ∃ v, exF s (labT qCl [] 32) = v := ⟨_, rfl⟩
  obtain ⟨sB, hB⟩ : ∃ v, exF s (labT qSv [] 32) = v := ⟨_, rfl⟩
  (repeat first | refine And.intro (by omega) ?_ | refine And.intro (by decide) ?_ | refine And.intro rfl ?_ | refine And.intro (fun _ => ?_) (fun h => Bool.noConfusion h) | refine And.intro (fun h => Bool.noConfusion h) (fun _ => ?_) | refine And.intro (fun _ => ?_) (fun h => absurd h (by rw [e1]; decide)) | refine And.intro (fun h => absurd h (by rw [e1]; decide)) (fun _ => ?_))
  refine call_same fn_keysNew [] rfl trivial trivial (fun _ _ => trivial) ?_
  rintro x hs' ⟨rfl, rfl⟩
  (repeat first | refine And.intro (by omega) ?_ | refine And.intro (by decide) ?_ | (with_reducible refine frc_parts (by first | omega | decide) ?_) | (with_reducible refine frc_bytesL (by first | omega | decide) ?_) | refine And.intro rfl ?_)
  refine call_same (fn_kInitial z l.length 0 l.length c l s 0 (fun _ => 0#32) (fun _ => 0#32) (.inl rfl) 0 (fun _ => 0#8) 0 (.inl rfl) (by omega) rfl (by omega) hc hz hs sA sB hA hB) [0, 3, 1, 2] rfl (by (repeat first | exact trivial | refine ⟨rfl, ?_⟩ | refine ⟨fun _ _ => ⟨rfl, trivial⟩, ?_⟩ | refine ⟨fun _ _ => trivial, ?_⟩ | refine ⟨by omega, ?_⟩ | refine ⟨fun _ _ => eqC_winS, ?_⟩ | refine ⟨fun _ _ => eqC_winM, ?_⟩ | refine ⟨fun _ _ => eqC_winB, ?_⟩ | refine ⟨fun _ _ => eqC_selfB, ?_⟩ | refine ⟨fun _ _ => eqC_mpB, ?_⟩)) ?_ (fun _ _ => trivial) ?_
  · refine eqC_bts ?_
    (repeat first | exact trivial | refine ⟨rfl, ?_⟩ | refine ⟨fun _ _ => ⟨rfl, trivial⟩, ?_⟩ | refine ⟨fun _ _ => trivial, ?_⟩ | refine ⟨by omega, ?_⟩ | refine ⟨fun _ _ => eqC_winS, ?_⟩ | refine ⟨fun _ _ => eqC_winM, ?_⟩ | refine ⟨fun _ _ => eqC_winB, ?_⟩ | refine ⟨fun _ _ => eqC_selfB, ?_⟩ | refine ⟨fun _ _ => eqC_mpB, ?_⟩)
  rintro x hs' ⟨dn, f, g, rfl, rfl⟩
  (repeat first | refine And.intro (by omega) ?_ | refine And.intro (by decide) ?_ | (with_reducible refine frc_parts (by first | omega | decide) ?_) | (with_reducible refine frc_bytesL (by first | omega | decide) ?_) | refine And.intro rfl ?_)
  refine call_same (fn_rmark false z 20 l.length 0 0 20 c saltK l (by decide) (by decide) (fun h => Bool.noConfusion h) (by omega) hc hz (by decide) (by omega)) [6, 0] rfl (by (repeat first | exact trivial | refine ⟨rfl, ?_⟩ | refine ⟨fun _ _ => ⟨rfl, trivial⟩, ?_⟩ | refine ⟨fun _ _ => trivial, ?_⟩ | refine ⟨by omega, ?_⟩ | refine ⟨fun _ _ => eqC_winS, ?_⟩ | refine ⟨fun _ _ => eqC_winM, ?_⟩ | refine ⟨fun _ _ => eqC_winB, ?_⟩ | refine ⟨fun _ _ => eqC_selfB, ?_⟩ | refine ⟨fun _ _ => eqC_mpB, ?_⟩)) ?_ (fun _ _ => trivial) ?_
  · refine ⟨rfl, fun j hj => eqC_lit saltK hj, ?_⟩
    refine eqC_bts ?_
    (repeat first | exact trivial | refine ⟨rfl, ?_⟩ | refine ⟨fun _ _ => ⟨rfl, trivial⟩, ?_⟩ | refine ⟨fun _ _ => trivial, ?_⟩ | refine ⟨by omega, ?_⟩ | refine ⟨fun _ _ => eqC_winS, ?_⟩ | refine ⟨fun _ _ => eqC_winM, ?_⟩ | refine ⟨fun _ _ => eqC_winB, ?_⟩ | refine ⟨fun _ _ => eqC_selfB, ?_⟩ | refine ⟨fun _ _ => eqC_mpB, ?_⟩)
  rintro x hs' ⟨c4, rfl, rfl, hc4⟩
  rw [hs]
  have q1 : decide (U8 (tab 32 sA) = U8 (tab 32 sA)) = true := decide_eq_true rfl
  have q2 : decide (U8 (tab 32 sB) = U8 (tab 32 sB)) = true := decide_eq_true rfl
  (repeat first | refine And.intro (by omega) ?_ | refine And.intro (by decide) ?_ | (with_reducible refine frc_parts (by first | omega | decide) ?_) | (with_reducible refine frc_bytesL (by first | omega | decide) ?_) | refine And.intro rfl ?_)
  refine ⟨none, [], [(0, true), (1, true), (2, true), (3, true), (4, true), (5, true), (6, false), (7, true), (8, true), (9, true), (10, true), (11, true), (12, true), (13, true), (14, true), (15, true), (16, false), (17, true), (18, true), (19, true), (20, true)], [], by kernel_rfl, ?_⟩
  (repeat first | refine And.intro (by omega) ?_ | refine And.intro (by decide) ?_ | refine And.intro rfl ?_ | refine And.intro (fun _ => ?_) (fun h => Bool.noConfusion h) | refine And.intro (fun h => Bool.noConfusion h) (fun _ => ?_) | refine And.intro (fun _ => ?_) (fun h => absurd h (by rw [q1]; decide)) | refine And.intro (fun h => absurd h (by rw [q1]; decide)) (fun _ => ?_))
  refine ⟨U8 (tab 32 sA), str_of (tab_len _ _) (fun q hq => by rw [L_tab hq]; rfl), ?_⟩
  (repeat first | refine And.intro (by omega) ?_ | refine And.intro (by decide) ?_ | refine And.intro rfl ?_ | refine And.intro (fun _ => ?_) (fun h => Bool.noConfusion h) | refine And.intro (fun h => Bool.noConfusion h) (fun _ => ?_) | refine And.intro (fun _ => ?_) (fun h => absurd h (by rw [q1]; decide)) | refine And.intro (fun h => absurd h (by rw [q1]; decide)) (fun _ => ?_))
  have hlA := fn_rlabel false true c4 0 0 0 c4 0 s [] qCl 32 (by omega) (by omega) (fun h => Bool.noConfusion h) (by decide) (by decide) (fun _ => rfl) (by omega) (by decide) (by decide) (by decide)
  have hlB := fn_rlabel false true c4 0 0 0 c4 0 s [] qSv 32 (by omega) (by omega) (fun h => Bool.noConfusion h) (by decide) (by decide) (fun _ => rfl) (by omega) (by decide) (by decide) (by decide)
  rw [hA] at hlA
  rw [hB] at hlB
  refine call_same hlA [7, 0] rfl (by (repeat first | exact trivial | refine ⟨rfl, ?_⟩ | refine ⟨fun _ _ => ⟨rfl, trivial⟩, ?_⟩ | refine ⟨fun _ _ => trivial, ?_⟩ | refine ⟨by omega, ?_⟩ | refine ⟨fun _ _ => eqC_winS, ?_⟩ | refine ⟨fun _ _ => eqC_winM, ?_⟩ | refine ⟨fun _ _ => eqC_winB, ?_⟩ | refine ⟨fun _ _ => eqC_selfB, ?_⟩ | refine ⟨fun _ _ => eqC_mpB, ?_⟩)) ?_ (fun _ _ => trivial) ?_
  · refine ⟨rfl, fun j hj => eqC_win0 (f := fun j => SC.mp (bk 7 [6, 0]) (bytesF 32 (L s) j)) (fun i hi => ?_) j, eqSegs_nil (eqSegs_nil trivial)⟩
    rw [hsl] at hi
    show SC.mp _ (bytesF 32 (L s) i) = _
    rw [bytesF_lt hi]
    rfl
  rintro x hs' ⟨-, hg⟩
  obtain ⟨N1, d1, hN1, hd1, rfl, rfl⟩ := hg (by decide)
  (repeat first | refine And.intro (by omega) ?_ | refine And.intro (by decide) ?_ | refine And.intro rfl ?_ | refine And.intro (fun _ => ?_) (fun h => Bool.noConfusion h) | refine And.intro (fun h => Bool.noConfusion h) (fun _ => ?_) | refine And.intro (fun _ => ?_) (fun h => absurd h (by rw [q1]; decide)) | refine And.intro (fun h => absurd h (by rw [q1]; decide)) (fun _ => ?_))
  try refine And.intro (by simp only [scale]; omega) ?_
  refine ⟨U8 (tab 32 sA), str_of (tab_len _ _) (fun q hq => ?_), ?_⟩
  · show SC.mp _ (winF 0 32 sA (q + 0)) = _
    have := winF_at 0 32 sA hq
    rw [Nat.zero_add] at this
    rw [Nat.add_zero, this, L_tab hq]
    rfl
  (repeat first | refine And.intro (by omega) ?_ | refine And.intro (by decide) ?_ | refine And.intro rfl ?_ | refine And.intro (fun _ => ?_) (fun h => Bool.noConfusion h) | refine And.intro (fun h => Bool.noConfusion h) (fun _ => ?_) | refine And.intro (fun _ => ?_) (fun h => absurd h (by rw [q1]; decide)) | refine And.intro (fun h => absurd h (by rw [q1]; decide)) (fun _ => ?_))
  refine ⟨U8 (tab 32 sB), str_of (tab_len _ _) (fun q hq => by rw [L_tab hq]; rfl), ?_⟩
  (repeat first | refine And.intro (by omega) ?_ | refine And.intro (by decide) ?_ | refine And.intro rfl ?_ | refine And.intro (fun _ => ?_) (fun h => Bool.noConfusion h) | refine And.intro (fun h => Bool.noConfusion h) (fun _ => ?_) | refine And.intro (fun _ => ?_) (fun h => absurd h (by rw [q1]; decide)) | refine And.intro (fun h => absurd h (by rw [q1]; decide)) (fun _ => ?_))
  refine call_same hlB [7, 0] rfl (by (repeat first | exact trivial | refine ⟨rfl, ?_⟩ | refine ⟨fun _ _ => ⟨rfl, trivial⟩, ?_⟩ | refine ⟨fun _ _ => trivial, ?_⟩ | refine ⟨by omega, ?_⟩ | refine ⟨fun _ _ => eqC_winS, ?_⟩ | refine ⟨fun _ _ => eqC_winM, ?_⟩ | refine ⟨fun _ _ => eqC_winB, ?_⟩ | refine ⟨fun _ _ => eqC_selfB, ?_⟩ | refine ⟨fun _ _ => eqC_mpB, ?_⟩)) ?_ (fun _ _ => trivial) ?_
  · refine ⟨rfl, fun j hj => eqC_win0 (f := fun j => SC.mp (bk 7 [6, 0]) (bytesF 32 (L s) j)) (fun i hi => ?_) j, eqSegs_nil (eqSegs_nil trivial)⟩
    rw [hsl] at hi
    show SC.mp _ (bytesF 32 (L s) i) = _
    rw [bytesF_lt hi]
    rfl
  rintro x hs' ⟨-, hg⟩
  obtain ⟨N2, d2, hN2, hd2, rfl, rfl⟩ := hg (by decide)
  (repeat first | refine And.intro (by omega) ?_ | refine And.intro (by decide) ?_ | refine And.intro rfl ?_ | refine And.intro (fun _ => ?_) (fun h => Bool.noConfusion h) | refine And.intro (fun h => Bool.noConfusion h) (fun _ => ?_) | refine And.intro (fun _ => ?_) (fun h => absurd h (by rw [q1]; decide)) | refine And.intro (fun h => absurd h (by rw [q1]; decide)) (fun _ => ?_))
  try refine And.intro (by simp only [scale]; omega) ?_
  refine ⟨U8 (tab 32 sB), str_of (tab_len _ _) (fun q hq => ?_), ?_⟩
  · show SC.mp _ (winF 0 32 sB (q + 0)) = _
    have := winF_at 0 32 sB hq
    rw [Nat.zero_add] at this
    rw [Nat.add_zero, this, L_tab hq]
    rfl
  (repeat first | refine And.intro (by omega) ?_ | refine And.intro (by decide) ?_ | refine And.intro rfl ?_ | refine And.intro (fun _ => ?_) (fun h => Bool.noConfusion h) | refine And.intro (fun h => Bool.noConfusion h) (fun _ => ?_) | refine And.intro (fun _ => ?_) (fun h => absurd h (by rw [q1]; decide)) | refine And.intro (fun h => absurd h (by rw [q1]; decide)) (fun _ => ?_) | refine And.intro (fun _ => ?_) (fun h => absurd h (by rw [q2]; decide)) | refine And.intro (fun h => absurd h (by rw [q2]; decide)) (fun _ => ?_))
  exact ⟨.a (.c (.bool true)), [[]], ⟨[0], ⟨rfl, rfl, rfl⟩, q2, eqSegs_nil trivial⟩, rfl⟩
end Sx
end Go.Proofs.Ytndlhhhebijknaa
end

section
/-
  An array of bytes, given by a list. No condition.
-/
namespace Go.Proofs.Ytndlhhhebijknaa
set_option linter.unusedVariables false
namespace Sx
open Sha

theorem is_rowL {r : Rho} {n : Nat} {f : Nat → BitVec 8} : SA.Is r (.agg [.row n fun i => .w8 (L (tab n f) i)]) (.agg ((List.range n).map fun i => Value.int .u8 ((f i).toNat : Int)).toArray) := by
  have e : ((List.range n).map fun i => Value.int .u8 ((f i).toNat : Int)) = (List.range n).map fun i => Value.int .u8 ((L (tab n f) i).toNat : Int) :=
    List.map_congr_left fun i hi => by rw [L_tab (List.mem_range.1 hi)]
  rw [e]
  exact is_row

end Sx
end Go.Proofs.Ytndlhhhebijknaa
end
