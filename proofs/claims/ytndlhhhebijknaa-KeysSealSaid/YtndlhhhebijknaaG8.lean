/-
  Texts of this claim, part 8: KeysB, KeysC, Sxw2, AesR4, GcmR, AesP, AesW, AesI. No condition of its own.
-/
import Derived.Test.YtndlhhhebijknaaG7
section
/-
  The program's keys: made of a secret; nonces; sealed, opened. No condition.
-/
namespace Go.Proofs.Ytndlhhhebijknaa
set_option linter.unusedVariables false
namespace Gcm
/-- The IV with a number. -/
def nonB (iv : Nat → BitVec 8) (num : BitVec 64) (i : Nat) : BitVec 8 := if i < 4 then iv i else iv i ^^^ (num >>> (8 * (11 - i))).setWidth 8
end Gcm
namespace Sx
open Aes Gcm Sha

abbrev makC (i j : Nat) : List Seg := [.one (.p i 0 0), .one (.p j 0 0)]
abbrev kysC (i j : Nat) (s iv : Nat → BitVec 8) : List Seg := [.row 32 fun i => .w8 (s i), .one (.p i 0 0), .row 12 fun i => .w8 (iv i), .one (.p j 0 0)]
set_option maxRecDepth 20000 in
theorem fn_keysNew : Fn Try.prog tds 39 [] [] (fun _ => True) (fun x hs => x = .a (.c (.p 2 0 0)) ∧ hs = [shaT 0 0 (fun _ => 0#32) (fun _ => 0#32), tabs 0 0 (fun _ => 0#8) 0, makC 0 1]) := by
  refine fn_of_body tds_ok follows_ Try.func39 rfl (t := anys 5) rfl (fun w r0 hr _ => ?_)
  obtain rfl : r0 = [] := List.eq_nil_of_length_eq_zero hr
  refine ⟨by kernel_rfl, call_same fn_knew [] rfl trivial trivial (fun _ _ => trivial) ?_⟩
  rintro x hs ⟨rfl, rfl⟩
  (repeat first | refine And.intro (by omega) ?_ | refine And.intro (by decide) ?_ | (with_reducible refine frc_parts (by first | omega | decide) ?_) | (with_reducible refine frc_bytesL (by first | omega | decide) ?_) | refine And.intro rfl ?_)
  refine call_same fn_new [] rfl trivial trivial (fun _ _ => trivial) ?_
  rintro x hs ⟨rfl, rfl⟩
  (repeat first | refine And.intro (by omega) ?_ | refine And.intro (by decide) ?_ | (with_reducible refine frc_parts (by first | omega | decide) ?_) | (with_reducible refine frc_bytesL (by first | omega | decide) ?_) | refine And.intro rfl ?_)
  refine ⟨.a (.c (.p 2 0 0)), _, ⟨[0, 1, 2], ⟨rfl, rfl, rfl⟩, ?_⟩, rfl, rfl⟩
  (repeat first | exact trivial | refine ⟨rfl, ?_⟩ | refine ⟨fun _ _ => ⟨rfl, trivial⟩, ?_⟩ | refine ⟨fun _ _ => trivial, ?_⟩ | refine ⟨by omega, ?_⟩ | refine ⟨fun _ _ => eqC_winS, ?_⟩ | refine ⟨fun _ _ => eqC_winM, ?_⟩ | refine ⟨fun _ _ => eqC_winB, ?_⟩ | refine ⟨fun _ _ => eqC_selfB, ?_⟩ | refine ⟨fun _ _ => eqC_mpB, ?_⟩)
theorem len6s {α : Type} : ∀ {l : List α}, l.length = 6 → ∃ a b c d e f, l = [a, b, c, d, e, f]
  | [a, b, c, d, e, f], _ => ⟨a, b, c, d, e, f, rfl⟩
def qKey : List UInt8 := [113, 117, 105, 99, 32, 107, 101, 121]
def qIv : List UInt8 := [113, 117, 105, 99, 32, 105, 118]
def qHp : List UInt8 := [113, 117, 105, 99, 32, 104, 112]
set_option maxRecDepth 20000 in
set_option maxHeartbeats 2000000 in
theorem fn_kOf (s : Bs) (dn : BitVec 32) (f g : Nat → BitVec 32) (hd : dn = 0#32 ∨ dn = 1#32 ∧ f = first ∧ g = steps) (hs : s.length = 32) (d : BitVec 32) (b : Nat → BitVec 8) (cnt : Int) (hdt : d = 0#32 ∨ d = 1#32 ∧ b = boxes) (hcnt : 0 ≤ cnt ∧ cnt ≤ 900000000)
    (kq K kh K2 iv : Nat → BitVec 8) (E : (Nat → BitVec 8) → Nat → BitVec 8) (H : Gcm.E) (hkq : exF s (labT qKey [] 16) = kq) (hiv : exF s (labT qIv [] 12) = iv) (hkh : exF s (labT qHp [] 16) = kh) (hK : pKeys kq = K) (hE : pTurn kq = E) (hH : toE (E fun _ => 0#8) = H) (hK2 : pKeys kh = K2) :
    FnR Try.prog tds 41 1 [makC 1 2, shaT dn 0 f g, tabs d 0 b cnt] [.c (.p 0 0 0), .agg [.row 32 fun i => .w8 (L s i)]] (fun _ => True)
      (fun x hs => ∃ (dn' : BitVec 32) (f' g' : Nat → BitVec 32), (dn' = 0#32 ∨ dn' = 1#32 ∧ f' = first ∧ g' = steps) ∧ x = .a (.c (.p 3 0 0)) ∧ hs = [makC 1 2, shaT dn' 0 f' g', tabs 1 0 boxes (cnt + 1), kysC 5 6 (L s) iv, keyD 2 K, sealC 4 H, keyD 2 K2]) := by
  refine fn_of_body tds_ok follows_ Try.func41 rfl (t := .a (.c (.p 0 0 0)) :: .a (.agg [.row 32 fun i => .w8 (L s i)]) :: anys 49) rfl (fun w r0 hr _ => ?_)
  obtain ⟨x0, x1, x2, rfl⟩ := len3' hr
  refine ⟨rfl, ?_⟩
  (repeat first | refine ⟨fun _ => ?_, fun h => absurd h (by rw []; decide)⟩ | refine ⟨fun h => absurd h (by rw []; decide), fun _ => ?_⟩ | refine ⟨fun _ => ?_, fun h => Bool.noConfusion h⟩ | refine ⟨fun h => Bool.noConfusion h, fun _ => ?_⟩)
  (repeat first | refine And.intro (by omega) ?_ | refine And.intro (by decide) ?_ | (with_reducible refine frc_parts (by first | omega | decide) ?_) | (with_reducible refine frc_bytesL (by first | omega | decide) ?_) | refine And.intro rfl ?_)
  refine ⟨some [3], [], [(0, true), (1, true), (2, true), (3, true), (4, true), (5, true), (6, true), (7, false), (8, false), (9, true), (10, true)], [11], by kernel_rfl, ?_⟩
  (repeat first | refine And.intro (by omega) ?_ | refine And.intro (by decide) ?_ | (with_reducible refine frc_parts (by first | omega | decide) ?_) | (with_reducible refine frc_bytesL (by first | omega | decide) ?_) | refine And.intro rfl ?_)
  refine call_same (fn_kblock s qKey dn f g hd hs (by decide)) [0, 1] rfl (by (repeat first | exact trivial | refine ⟨rfl, ?_⟩ | refine ⟨fun _ _ => ⟨rfl, trivial⟩, ?_⟩ | refine ⟨fun _ _ => trivial, ?_⟩ | refine ⟨by omega, ?_⟩ | refine ⟨fun _ _ => eqC_winS, ?_⟩ | refine ⟨fun _ _ => eqC_winM, ?_⟩ | refine ⟨fun _ _ => eqC_winB, ?_⟩ | refine ⟨fun _ _ => eqC_selfB, ?_⟩ | refine ⟨fun _ _ => eqC_mpB, ?_⟩)) (by (repeat first | exact trivial | refine ⟨rfl, ?_⟩ | refine ⟨fun _ _ => ⟨rfl, trivial⟩, ?_⟩ | refine ⟨fun _ _ => trivial, ?_⟩ | refine ⟨by omega, ?_⟩ | refine ⟨fun _ _ => eqC_winS, ?_⟩ | refine ⟨fun _ _ => eqC_winM, ?_⟩ | refine ⟨fun _ _ => eqC_winB, ?_⟩ | refine ⟨fun _ _ => eqC_selfB, ?_⟩ | refine ⟨fun _ _ => eqC_mpB, ?_⟩)) (fun _ _ => trivial) ?_
  rintro x hs' ⟨dn1, f1, g1, hd1, rfl, rfl⟩
  rw [hkq]
  (repeat first | refine And.intro (by omega) ?_ | refine And.intro (by decide) ?_ | (with_reducible refine frc_parts (by first | omega | decide) ?_) | (with_reducible refine frc_bytesL (by first | omega | decide) ?_) | refine And.intro rfl ?_)
  refine call_same (fn_gnew d b cnt kq K E hK hE H hH hdt (by omega)) [2] rfl (by (repeat first | exact trivial | refine ⟨rfl, ?_⟩ | refine ⟨fun _ _ => ⟨rfl, trivial⟩, ?_⟩ | refine ⟨fun _ _ => trivial, ?_⟩ | refine ⟨by omega, ?_⟩ | refine ⟨fun _ _ => eqC_winS, ?_⟩ | refine ⟨fun _ _ => eqC_winM, ?_⟩ | refine ⟨fun _ _ => eqC_winB, ?_⟩ | refine ⟨fun _ _ => eqC_selfB, ?_⟩ | refine ⟨fun _ _ => eqC_mpB, ?_⟩)) (by (repeat first | exact trivial | refine ⟨rfl, ?_⟩ | refine ⟨fun _ _ => ⟨rfl, trivial⟩, ?_⟩ | refine ⟨fun _ _ => trivial, ?_⟩ | refine ⟨by omega, ?_⟩ | refine ⟨fun _ _ => eqC_winS, ?_⟩ | refine ⟨fun _ _ => eqC_winM, ?_⟩ | refine ⟨fun _ _ => eqC_winB, ?_⟩ | refine ⟨fun _ _ => eqC_selfB, ?_⟩ | refine ⟨fun _ _ => eqC_mpB, ?_⟩)) (fun _ _ => trivial) ?_
  rintro x hs' ⟨rfl, rfl⟩
  (repeat first | refine And.intro (by omega) ?_ | refine And.intro (by decide) ?_ | (with_reducible refine frc_parts (by first | omega | decide) ?_) | (with_reducible refine frc_bytesL (by first | omega | decide) ?_) | refine And.intro rfl ?_)
  refine ⟨some [3], [], [(0, true), (1, true), (2, true), (3, true), (4, true), (5, false), (6, true), (7, true), (8, true), (9, true), (10, true)], [], by kernel_rfl, ?_⟩
  (repeat first | refine And.intro (by omega) ?_ | refine And.intro (by decide) ?_ | (with_reducible refine frc_parts (by first | omega | decide) ?_) | (with_reducible refine frc_bytesL (by first | omega | decide) ?_) | refine And.intro rfl ?_)
  refine call_same (fn_klabel true 0 0 0 s [] qIv 12 dn1 f1 g1 hd1 hs (by decide) (by decide) (fun _ => rfl)) [3, 1] rfl (by (repeat first | exact trivial | refine ⟨rfl, ?_⟩ | refine ⟨fun _ _ => ⟨rfl, trivial⟩, ?_⟩ | refine ⟨fun _ _ => trivial, ?_⟩ | refine ⟨by omega, ?_⟩ | refine ⟨fun _ _ => eqC_winS, ?_⟩ | refine ⟨fun _ _ => eqC_winM, ?_⟩ | refine ⟨fun _ _ => eqC_winB, ?_⟩ | refine ⟨fun _ _ => eqC_selfB, ?_⟩ | refine ⟨fun _ _ => eqC_mpB, ?_⟩)) ?_ (fun _ _ => trivial) ?_
  · refine eqSegs_nil ?_
    (repeat first | exact trivial | refine ⟨rfl, ?_⟩ | refine ⟨fun _ _ => ⟨rfl, trivial⟩, ?_⟩ | refine ⟨fun _ _ => trivial, ?_⟩ | refine ⟨by omega, ?_⟩ | refine ⟨fun _ _ => eqC_winS, ?_⟩ | refine ⟨fun _ _ => eqC_winM, ?_⟩ | refine ⟨fun _ _ => eqC_winB, ?_⟩ | refine ⟨fun _ _ => eqC_selfB, ?_⟩ | refine ⟨fun _ _ => eqC_mpB, ?_⟩)
  rintro x hs' ⟨-, -, hgood⟩
  obtain ⟨z, N, dn2, f2, g2, hd2, -, hz2, hN, rfl, rfl⟩ := hgood (by decide) (by decide) (by decide) (by decide)
  obtain rfl := hz2 (by decide)
  clear hgood
  have hN' : 12 ≤ N := hN
  have e16 : ((12 : Int)).toNat = 12 := rfl
  rw [e16, hiv]
  (repeat first | refine And.intro (by omega) ?_ | refine And.intro (by decide) ?_ | (with_reducible refine frc_parts (by first | omega | decide) ?_) | (with_reducible refine frc_bytesL (by first | omega | decide) ?_) | refine And.intro rfl ?_)
  refine sn_btsM (N := N) (b := iv) rfl (by omega) (fun h => Bool.noConfusion h) (fun gx hg => ?_)
  refine ⟨(show 0 + min 12 12 ≤ 12 by decide), ?_⟩
  (repeat first | refine And.intro (by omega) ?_ | refine And.intro (by decide) ?_ | (with_reducible refine frc_parts (by first | omega | decide) ?_) | (with_reducible refine frc_bytesL (by first | omega | decide) ?_) | refine And.intro rfl ?_)
  refine ⟨some [3], [], [(0, true), (1, true), (2, true), (3, true), (4, true), (5, true), (6, true), (7, false), (8, false), (9, true), (10, true)], [11], by kernel_rfl, ?_⟩
  (repeat first | refine And.intro (by omega) ?_ | refine And.intro (by decide) ?_ | (with_reducible refine frc_parts (by first | omega | decide) ?_) | (with_reducible refine frc_bytesL (by first | omega | decide) ?_) | refine And.intro rfl ?_)
  refine call_same (fn_kblock s qHp dn2 f2 g2 hd2 hs (by decide)) [0, 1] rfl (by (repeat first | exact trivial | refine ⟨rfl, ?_⟩ | refine ⟨fun _ _ => ⟨rfl, trivial⟩, ?_⟩ | refine ⟨fun _ _ => trivial, ?_⟩ | refine ⟨by omega, ?_⟩ | refine ⟨fun _ _ => eqC_winS, ?_⟩ | refine ⟨fun _ _ => eqC_winM, ?_⟩ | refine ⟨fun _ _ => eqC_winB, ?_⟩ | refine ⟨fun _ _ => eqC_selfB, ?_⟩ | refine ⟨fun _ _ => eqC_mpB, ?_⟩)) (by (repeat first | exact trivial | refine ⟨rfl, ?_⟩ | refine ⟨fun _ _ => ⟨rfl, trivial⟩, ?_⟩ | refine ⟨fun _ _ => trivial, ?_⟩ | refine ⟨by omega, ?_⟩ | refine ⟨fun _ _ => eqC_winS, ?_⟩ | refine ⟨fun _ _ => eqC_winM, ?_⟩ | refine ⟨fun _ _ => eqC_winB, ?_⟩ | refine ⟨fun _ _ => eqC_selfB, ?_⟩ | refine ⟨fun _ _ => eqC_mpB, ?_⟩)) (fun _ _ => trivial) ?_
  rintro x hs' ⟨dn3, f3, g3, hd3, rfl, rfl⟩
  rw [hkh]
  (repeat first | refine And.intro (by omega) ?_ | refine And.intro (by decide) ?_ | (with_reducible refine frc_parts (by first | omega | decide) ?_) | (with_reducible refine frc_bytesL (by first | omega | decide) ?_) | refine And.intro rfl ?_)
  refine call_same (fn_key' 1 boxes (cnt + 1) kh K2 hK2 (.inr ⟨rfl, rfl⟩)) [2] rfl (by (repeat first | exact trivial | refine ⟨rfl, ?_⟩ | refine ⟨fun _ _ => ⟨rfl, trivial⟩, ?_⟩ | refine ⟨fun _ _ => trivial, ?_⟩ | refine ⟨by omega, ?_⟩ | refine ⟨fun _ _ => eqC_winS, ?_⟩ | refine ⟨fun _ _ => eqC_winM, ?_⟩ | refine ⟨fun _ _ => eqC_winB, ?_⟩ | refine ⟨fun _ _ => eqC_selfB, ?_⟩ | refine ⟨fun _ _ => eqC_mpB, ?_⟩)) (by (repeat first | exact trivial | refine ⟨rfl, ?_⟩ | refine ⟨fun _ _ => ⟨rfl, trivial⟩, ?_⟩ | refine ⟨fun _ _ => trivial, ?_⟩ | refine ⟨by omega, ?_⟩ | refine ⟨fun _ _ => eqC_winS, ?_⟩ | refine ⟨fun _ _ => eqC_winM, ?_⟩ | refine ⟨fun _ _ => eqC_winB, ?_⟩ | refine ⟨fun _ _ => eqC_selfB, ?_⟩ | refine ⟨fun _ _ => eqC_mpB, ?_⟩)) (fun _ _ => trivial) ?_
  rintro x hs' ⟨rfl, rfl⟩
  (repeat first | refine And.intro (by omega) ?_ | refine And.intro (by decide) ?_ | (with_reducible refine frc_parts (by first | omega | decide) ?_) | (with_reducible refine frc_bytesL (by first | omega | decide) ?_) | refine And.intro rfl ?_)
  refine ⟨_, _, ⟨[0, 1, 2, 4, 5, 6, 8], ⟨rfl, rfl, rfl⟩, ?_⟩, dn3, f3, g3, hd3, rfl, rfl⟩
  (repeat first | exact trivial | refine ⟨rfl, ?_⟩ | refine ⟨fun _ _ => ⟨rfl, trivial⟩, ?_⟩ | refine ⟨fun _ _ => trivial, ?_⟩ | refine ⟨by omega, ?_⟩ | refine ⟨fun _ _ => eqC_winS, ?_⟩ | refine ⟨fun _ _ => eqC_winM, ?_⟩ | refine ⟨fun _ _ => eqC_winB, ?_⟩ | refine ⟨fun _ _ => eqC_selfB, ?_⟩ | refine ⟨fun _ _ => eqC_mpB, ?_⟩)
  refine ⟨fun j hj => eqC_w8 ?_, ?_⟩
  · show updN (fun _ => SC.w8 0) 0 (min 12 12) gx j = SC.w8 (iv j)
    unfold updN
    rw [if_pos ⟨Nat.zero_le _, by have : min 12 12 = 12 := rfl; omega⟩]
    exact hg j hj
  (repeat first | exact trivial | refine ⟨rfl, ?_⟩ | refine ⟨fun _ _ => ⟨rfl, trivial⟩, ?_⟩ | refine ⟨fun _ _ => trivial, ?_⟩ | refine ⟨by omega, ?_⟩ | refine ⟨fun _ _ => eqC_winS, ?_⟩ | refine ⟨fun _ _ => eqC_winM, ?_⟩ | refine ⟨fun _ _ => eqC_winB, ?_⟩ | refine ⟨fun _ _ => eqC_selfB, ?_⟩ | refine ⟨fun _ _ => eqC_mpB, ?_⟩)
abbrev kysN (iv : Nat → BitVec 8) : List Seg := [.row 32 fun _ => .any, .one .any, .row 12 fun i => .w8 (iv i), .one .any]
set_option maxRecDepth 20000 in
theorem fn_knonce (iv : Nat → BitVec 8) (num : BitVec 64) : FnR Try.prog tds 62 1 [kysN iv] [.c (.p 0 0 0), .c (.w64 num)] (fun _ => True) (fun x hs => x = .a (nonA (nonB iv num)) ∧ hs = [kysN iv]) := by
  refine fn_of_body tds_ok follows_ Try.func62 rfl (t := .a (.c (.p 0 0 0)) :: .a (.c (.w64 num)) :: anys 25) rfl (fun w r0 hr _ => ?_)
  obtain ⟨x0, rfl⟩ := List.length_eq_one_iff.1 hr
  (repeat first | refine And.intro (by omega) ?_ | refine And.intro (by decide) ?_ | (with_reducible refine frc_parts (by first | omega | decide) ?_) | (with_reducible refine frc_bytesL (by first | omega | decide) ?_) | refine And.intro rfl ?_)
  obtain ⟨Y, hY⟩ : ∃ Y, nonB iv num = Y := ⟨_, rfl⟩
  refine .inl ⟨Nat, fun k => ⟨[.any, .a (.c (.w64 (num))), .any, .any, .a (.c (.p 1 0 0)), .a (.c (.p 2 0 0)), .any, .any, .any, .any, .any, .a (.c (.int .i64 (↑k))), .any, .any, .any, .any, .any, .any, .any, .any, .any, .any, .any, .any, .any, .any, .any], [kysN iv, [.row 12 fun _ => .w8 0], [.row 12 fun i => .w8 (if 12 ≤ i + k then Y i else iv i)]]⟩, fun k => k ≤ 8, fun k => 8 - k, ⟨0, [0, 1, 2], ⟨⟨rfl, rfl, rfl⟩, ?_⟩, by omega⟩, fun k hk => ⟨fun h => ?_, fun h => ?_⟩⟩
  · (repeat first | exact trivial | refine ⟨rfl, ?_⟩ | refine ⟨fun _ _ => ⟨rfl, trivial⟩, ?_⟩ | refine ⟨fun _ _ => trivial, ?_⟩ | refine ⟨by omega, ?_⟩ | refine ⟨fun _ _ => eqC_winS, ?_⟩ | refine ⟨fun _ _ => eqC_winM, ?_⟩ | refine ⟨fun _ _ => eqC_winB, ?_⟩ | refine ⟨fun _ _ => eqC_selfB, ?_⟩ | refine ⟨fun _ _ => eqC_mpB, ?_⟩)
    exact ⟨fun j hj => eqC_w8 (congrArg SC.w8 (by rw [if_neg (by omega)]; rfl)), trivial⟩
  · have hlt : (k : Int) < 8 := of_decide_eq_true h
    refine ⟨none, [], [(0, true), (1, true), (2, true), (3, true), (4, true), (5, true), (6, true), (7, true), (8, true), (9, true), (10, true)], [11], by kernel_rfl, ?_⟩
    (repeat first | refine And.intro (by omega) ?_ | refine And.intro (by decide) ?_ | (with_reducible refine frc_parts (by first | omega | decide) ?_) | (with_reducible refine frc_bytesL (by first | omega | decide) ?_) | refine And.intro rfl ?_)
    refine ⟨k + 1, [0, 1, 2], ⟨⟨rfl, rfl, rfl⟩, ?_⟩, by dsimp only; omega, by dsimp only; omega⟩
    (repeat first | exact trivial | refine ⟨rfl, ?_⟩ | refine ⟨fun _ _ => ⟨rfl, trivial⟩, ?_⟩ | refine ⟨fun _ _ => trivial, ?_⟩ | refine ⟨by omega, ?_⟩ | refine ⟨fun _ _ => eqC_winS, ?_⟩ | refine ⟨fun _ _ => eqC_winM, ?_⟩ | refine ⟨fun _ _ => eqC_winB, ?_⟩ | refine ⟨fun _ _ => eqC_selfB, ?_⟩ | refine ⟨fun _ _ => eqC_mpB, ?_⟩)
    refine ⟨fun j hj => eqC_w8 ?_, trivial⟩
    have e0 : (11 - (k : Int)).toNat + 0 = 11 - k := by omega
    have e1 : (8 * (k : Int)).toNat = 8 * k := by omega
    rw [e0, e1]
    refine (upd_w8 (g := fun i => .w8 (if 12 ≤ i + (k + 1) then Y i else iv i)) ?_ (fun i hi => ?_) j)
    · rw [if_neg (by omega), if_pos (by omega), ← hY]
      unfold nonB
      rw [if_neg (by omega), show 11 - (11 - k) = k by omega]
    · have : 12 ≤ i + k ↔ 12 ≤ i + (k + 1) := by omega
      simp only [this]
  · obtain rfl : k = 8 := by have : ¬ (k : Int) < 8 := of_decide_eq_false h; have hk : k ≤ 8 := hk; omega
    (repeat first | refine And.intro (by omega) ?_ | refine And.intro (by decide) ?_ | (with_reducible refine frc_parts (by first | omega | decide) ?_) | (with_reducible refine frc_bytesL (by first | omega | decide) ?_) | refine And.intro rfl ?_)
    refine ⟨.a (nonA (nonB iv num)), [kysN iv], ⟨[0], ⟨rfl, rfl, rfl⟩, ?_⟩, rfl, rfl⟩
    (repeat first | exact trivial | refine ⟨rfl, ?_⟩ | refine ⟨fun _ _ => ⟨rfl, trivial⟩, ?_⟩ | refine ⟨fun _ _ => trivial, ?_⟩ | refine ⟨by omega, ?_⟩ | refine ⟨fun _ _ => eqC_winS, ?_⟩ | refine ⟨fun _ _ => eqC_winM, ?_⟩ | refine ⟨fun _ _ => eqC_winB, ?_⟩ | refine ⟨fun _ _ => eqC_selfB, ?_⟩ | refine ⟨fun _ _ => eqC_mpB, ?_⟩)
    refine ⟨fun j hj => eqC_w8 (congrArg SC.w8 ?_), ?_⟩
    · show (if 12 ≤ j + 0 + 0 + 8 then Y (j + 0 + 0) else iv (j + 0 + 0)) = nonB iv num j
      rw [← hY]
      unfold nonB
      simp only [Nat.add_zero]
      by_cases h4 : j < 4
      · rw [if_neg (by omega), if_pos h4]
      · rw [if_pos (by omega)]
    (repeat first | exact trivial | refine ⟨rfl, ?_⟩ | refine ⟨fun _ _ => ⟨rfl, trivial⟩, ?_⟩ | refine ⟨fun _ _ => trivial, ?_⟩ | refine ⟨by omega, ?_⟩ | refine ⟨fun _ _ => eqC_winS, ?_⟩ | refine ⟨fun _ _ => eqC_winM, ?_⟩ | refine ⟨fun _ _ => eqC_winB, ?_⟩ | refine ⟨fun _ _ => eqC_selfB, ?_⟩ | refine ⟨fun _ _ => eqC_mpB, ?_⟩)
abbrev kysS (i : Nat) (iv : Nat → BitVec 8) : List Seg := [.row 32 fun _ => .any, .one (.p i 0 0), .row 12 fun i => .w8 (iv i), .one .any]
set_option maxRecDepth 20000 in
theorem fn_kseal (za zh : Bool) (Na Nh oa oh na nh ca ch : Nat) (a b S : Bs) (cnt : Int) (key K iv : Nat → BitVec 8) (num : BitVec 64) (E : (Nat → BitVec 8) → Nat → BitVec 8) (hK : pKeys key = K) (hE : pTurn key = E) (H : Gcm.E) (hS : sealL E H (nonB iv num) a b = S)
    (hla : a.length = na) (hNa : oa + na ≤ Na) (hca : na ≤ ca) (hza : za = true → na = 0) (hna : na ≤ 1000000) (hlh : b.length = nh) (hNh : oh + nh ≤ Nh) (hch : nh ≤ ch) (hzh : zh = true → nh = 0) (hnh : nh ≤ 1000000) (hcnt : 0 ≤ cnt ∧ cnt ≤ 900000000) :
    FnR Try.prog tds 42 3 [bts za Na oa na (L a), bts zh Nh oh nh (L b), kysS 5 iv, tabs 1 0 boxes cnt, keyD 3 K, sealC 4 H] [.c (.p 2 0 0), .c (.w64 num), .c (.sn za 0 0 oa na ca), .c (.sn zh 1 0 oh nh ch)] (fun _ => True)
      (fun x hs => ∃ c, nh + 16 ≤ c ∧ x = .a (.c (.sl 6 0 0 (nh + 16) c)) ∧ hs = [bts za Na oa na (L a), bts zh Nh oh nh (L b), kysS 5 iv, tabs 1 0 boxes (cnt + ((nh + 15) / 16 : Nat) + 1), keyD 3 K, sealC 4 H, [.row c (bytesF (nh + 16) (L S))]]) := by
  refine fn_of_body tds_ok follows_ Try.func42 rfl (t := [.a (.c (.p 2 0 0)), .a (.c (.w64 num)), .a (.c (.sn za 0 0 oa na ca)), .a (.c (.sn zh 1 0 oh nh ch)), .any, .any, .any, .any, .any, .any, .any, .any, .any, .any, .any, .any, .any, .any, .any, .any, .any]) rfl (fun w r0 hr _ => ?_)
  obtain ⟨x0, x1, x2, x3, x4, x5, rfl⟩ := len6s hr
  (repeat first | refine ⟨fun _ => ?_, fun h => absurd h (by rw []; decide)⟩ | refine ⟨fun h => absurd h (by rw []; decide), fun _ => ?_⟩ | refine ⟨fun _ => ?_, fun h => Bool.noConfusion h⟩ | refine ⟨fun h => Bool.noConfusion h, fun _ => ?_⟩)
  refine ⟨some [2], [], [(0, true), (1, true), (2, true), (3, true), (4, true), (5, true), (7, true), (8, true), (6, false), (9, false), (10, true)], [], by kernel_rfl, ?_⟩
  (repeat first | refine And.intro (by omega) ?_ | refine And.intro (by decide) ?_ | (with_reducible refine frc_parts (by first | omega | decide) ?_) | (with_reducible refine frc_bytesL (by first | omega | decide) ?_) | refine And.intro rfl ?_)
  refine call_same (fn_knonce iv num) [2] rfl (by (repeat first | exact trivial | refine ⟨rfl, ?_⟩ | refine ⟨fun _ _ => ⟨rfl, trivial⟩, ?_⟩ | refine ⟨fun _ _ => trivial, ?_⟩ | refine ⟨by omega, ?_⟩ | refine ⟨fun _ _ => eqC_winS, ?_⟩ | refine ⟨fun _ _ => eqC_winM, ?_⟩ | refine ⟨fun _ _ => eqC_winB, ?_⟩ | refine ⟨fun _ _ => eqC_selfB, ?_⟩ | refine ⟨fun _ _ => eqC_mpB, ?_⟩)) (by (repeat first | exact trivial | refine ⟨rfl, ?_⟩ | refine ⟨fun _ _ => ⟨rfl, trivial⟩, ?_⟩ | refine ⟨fun _ _ => trivial, ?_⟩ | refine ⟨by omega, ?_⟩ | refine ⟨fun _ _ => eqC_winS, ?_⟩ | refine ⟨fun _ _ => eqC_winM, ?_⟩ | refine ⟨fun _ _ => eqC_winB, ?_⟩ | refine ⟨fun _ _ => eqC_selfB, ?_⟩ | refine ⟨fun _ _ => eqC_mpB, ?_⟩)) (fun _ _ => trivial) ?_
  rintro x hs' ⟨rfl, rfl⟩
  (repeat first | refine And.intro (by omega) ?_ | refine And.intro (by decide) ?_ | (with_reducible refine frc_parts (by first | omega | decide) ?_) | (with_reducible refine frc_bytesL (by first | omega | decide) ?_) | refine And.intro rfl ?_)
  refine call_same (fn_gseal za zh Na Nh oa oh na nh ca ch a b S cnt key K E hK hE H (nonB iv num) hS hla hNa hca hza hna hlh hNh hch hzh hnh hcnt) [0, 1, 3, 4, 5] rfl (by (repeat first | exact trivial | refine ⟨rfl, ?_⟩ | refine ⟨fun _ _ => ⟨rfl, trivial⟩, ?_⟩ | refine ⟨fun _ _ => trivial, ?_⟩ | refine ⟨by omega, ?_⟩ | refine ⟨fun _ _ => eqC_winS, ?_⟩ | refine ⟨fun _ _ => eqC_winM, ?_⟩ | refine ⟨fun _ _ => eqC_winB, ?_⟩ | refine ⟨fun _ _ => eqC_selfB, ?_⟩ | refine ⟨fun _ _ => eqC_mpB, ?_⟩)) ?_ (fun _ _ => trivial) ?_
  · refine eqC_bts (eqC_bts ?_)
    (repeat first | exact trivial | refine ⟨rfl, ?_⟩ | refine ⟨fun _ _ => ⟨rfl, trivial⟩, ?_⟩ | refine ⟨fun _ _ => trivial, ?_⟩ | refine ⟨by omega, ?_⟩ | refine ⟨fun _ _ => eqC_winS, ?_⟩ | refine ⟨fun _ _ => eqC_winM, ?_⟩ | refine ⟨fun _ _ => eqC_winB, ?_⟩ | refine ⟨fun _ _ => eqC_selfB, ?_⟩ | refine ⟨fun _ _ => eqC_mpB, ?_⟩)
  rintro x hs' ⟨c, hc, rfl, rfl⟩
  (repeat first | refine And.intro (by omega) ?_ | refine And.intro (by decide) ?_ | (with_reducible refine frc_parts (by first | omega | decide) ?_) | (with_reducible refine frc_bytesL (by first | omega | decide) ?_) | refine And.intro rfl ?_)
  refine ⟨_, _, ⟨[0, 1, 2, 3, 4, 5, 6], ⟨rfl, rfl, rfl⟩, ?_⟩, c, hc, rfl, rfl⟩
  (repeat first | exact trivial | refine ⟨rfl, ?_⟩ | refine ⟨fun _ _ => ⟨rfl, trivial⟩, ?_⟩ | refine ⟨fun _ _ => trivial, ?_⟩ | refine ⟨by omega, ?_⟩ | refine ⟨fun _ _ => eqC_winS, ?_⟩ | refine ⟨fun _ _ => eqC_winM, ?_⟩ | refine ⟨fun _ _ => eqC_winB, ?_⟩ | refine ⟨fun _ _ => eqC_selfB, ?_⟩ | refine ⟨fun _ _ => eqC_mpB, ?_⟩)
  refine eqC_bts (eqC_bts ?_)
  (repeat first | exact trivial | refine ⟨rfl, ?_⟩ | refine ⟨fun _ _ => ⟨rfl, trivial⟩, ?_⟩ | refine ⟨fun _ _ => trivial, ?_⟩ | refine ⟨by omega, ?_⟩ | refine ⟨fun _ _ => eqC_winS, ?_⟩ | refine ⟨fun _ _ => eqC_winM, ?_⟩ | refine ⟨fun _ _ => eqC_winB, ?_⟩ | refine ⟨fun _ _ => eqC_selfB, ?_⟩ | refine ⟨fun _ _ => eqC_mpB, ?_⟩)
set_option maxRecDepth 20000 in
theorem fn_kopen (za zh : Bool) (Na Nh oa oh na nh ca ch : Nat) (a b : Bs) (T : Nat → BitVec 8) (P : Bs) (cnt : Int) (key K iv : Nat → BitVec 8) (num : BitVec 64) (E : (Nat → BitVec 8) → Nat → BitVec 8) (hK : pKeys key = K) (hE : pTurn key = E) (H : Gcm.E)
    (hT : tagB E H (nonB iv num) a (b.take (nh - 16)) = T) (hP : cryL E (nonB iv num) (b.take (nh - 16)) = P)
    (hla : a.length = na) (hNa : oa + na ≤ Na) (hca : na ≤ ca) (hza : za = true → na = 0) (hna : na ≤ 1000000) (hlh : b.length = nh) (hNh : oh + nh ≤ Nh) (hch : nh ≤ ch) (hzh : zh = true → nh = 0) (hnh : nh ≤ 1000000) (hcnt : 0 ≤ cnt ∧ cnt ≤ 900000000) :
    FnR Try.prog tds 43 3 [bts za Na oa na (L a), bts zh Nh oh nh (L b), kysS 5 iv, tabs 1 0 boxes cnt, keyD 3 K, sealC 4 H] [.c (.p 2 0 0), .c (.w64 num), .c (.sn za 0 0 oa na ca), .c (.sn zh 1 0 oh nh ch)] (fun _ => True)
      (fun x hs => (nh < 16 → x = .tup [.c (.slc none 0 0), .c (.int .i64 3)] ∧ hs = [bts za Na oa na (L a), bts zh Nh oh nh (L b), kysS 5 iv, tabs 1 0 boxes cnt, keyD 3 K, sealC 4 H]) ∧
        (16 ≤ nh → (∀ i, i < 16 → L b (nh - 16 + i) = T i) → x = .tup [.c (.sl 6 0 0 (nh - 16) nh), .c (.int .i64 0)] ∧ hs = [bts za Na oa na (L a), bts zh Nh oh nh (L b), kysS 5 iv, tabs 1 0 boxes (cnt + 1 + ((nh - 1) / 16 : Nat)), keyD 3 K, sealC 4 H, [.row nh (bytesF (nh - 16) (L P))]]) ∧
        (16 ≤ nh → (¬ ∀ i, i < 16 → L b (nh - 16 + i) = T i) → x = .tup [.c (.slc none 0 0), .c (.int .i64 8)] ∧ hs = [bts za Na oa na (L a), bts zh Nh oh nh (L b), kysS 5 iv, tabs 1 0 boxes (cnt + 1), keyD 3 K, sealC 4 H])) := by
  refine fn_of_body tds_ok follows_ Try.func43 rfl (t := [.a (.c (.p 2 0 0)), .a (.c (.w64 num)), .a (.c (.sn za 0 0 oa na ca)), .a (.c (.sn zh 1 0 oh nh ch)), .any, .any, .any, .any, .any, .any, .any, .any, .any, .any, .any, .any, .any, .any, .any, .any, .any, .any, .any, .any]) rfl (fun w r0 hr _ => ?_)
  obtain ⟨x0, x1, x2, x3, x4, x5, rfl⟩ := len6s hr
  (repeat first | refine ⟨fun _ => ?_, fun h => absurd h (by rw []; decide)⟩ | refine ⟨fun h => absurd h (by rw []; decide), fun _ => ?_⟩ | refine ⟨fun _ => ?_, fun h => Bool.noConfusion h⟩ | refine ⟨fun h => Bool.noConfusion h, fun _ => ?_⟩)
  refine ⟨some [2], [], [(0, true), (1, true), (2, true), (3, true), (4, true), (5, true), (7, true), (8, true), (6, false), (9, false), (10, true), (11, true), (12, true), (13, true)], [], by kernel_rfl, ?_⟩
  (repeat first | refine And.intro (by omega) ?_ | refine And.intro (by decide) ?_ | (with_reducible refine frc_parts (by first | omega | decide) ?_) | (with_reducible refine frc_bytesL (by first | omega | decide) ?_) | refine And.intro rfl ?_)
  refine call_same (fn_knonce iv num) [2] rfl (by (repeat first | exact trivial | refine ⟨rfl, ?_⟩ | refine ⟨fun _ _ => ⟨rfl, trivial⟩, ?_⟩ | refine ⟨fun _ _ => trivial, ?_⟩ | refine ⟨by omega, ?_⟩ | refine ⟨fun _ _ => eqC_winS, ?_⟩ | refine ⟨fun _ _ => eqC_winM, ?_⟩ | refine ⟨fun _ _ => eqC_winB, ?_⟩ | refine ⟨fun _ _ => eqC_selfB, ?_⟩ | refine ⟨fun _ _ => eqC_mpB, ?_⟩)) (by (repeat first | exact trivial | refine ⟨rfl, ?_⟩ | refine ⟨fun _ _ => ⟨rfl, trivial⟩, ?_⟩ | refine ⟨fun _ _ => trivial, ?_⟩ | refine ⟨by omega, ?_⟩ | refine ⟨fun _ _ => eqC_winS, ?_⟩ | refine ⟨fun _ _ => eqC_winM, ?_⟩ | refine ⟨fun _ _ => eqC_winB, ?_⟩ | refine ⟨fun _ _ => eqC_selfB, ?_⟩ | refine ⟨fun _ _ => eqC_mpB, ?_⟩)) (fun _ _ => trivial) ?_
  rintro x hs' ⟨rfl, rfl⟩
  (repeat first | refine And.intro (by omega) ?_ | refine And.intro (by decide) ?_ | (with_reducible refine frc_parts (by first | omega | decide) ?_) | (with_reducible refine frc_bytesL (by first | omega | decide) ?_) | refine And.intro rfl ?_)
  refine call_same (fn_gopen za zh Na Nh oa oh na nh ca ch a b T P cnt key K E hK hE H (nonB iv num) hT hP hla hNa hca hza hna hlh hNh hch hzh hnh hcnt) [0, 1, 3, 4, 5] rfl (by (repeat first | exact trivial | refine ⟨rfl, ?_⟩ | refine ⟨fun _ _ => ⟨rfl, trivial⟩, ?_⟩ | refine ⟨fun _ _ => trivial, ?_⟩ | refine ⟨by omega, ?_⟩ | refine ⟨fun _ _ => eqC_winS, ?_⟩ | refine ⟨fun _ _ => eqC_winM, ?_⟩ | refine ⟨fun _ _ => eqC_winB, ?_⟩ | refine ⟨fun _ _ => eqC_selfB, ?_⟩ | refine ⟨fun _ _ => eqC_mpB, ?_⟩)) ?_ (fun _ _ => trivial) ?_
  · refine eqC_bts (eqC_bts ?_)
    (repeat first | exact trivial | refine ⟨rfl, ?_⟩ | refine ⟨fun _ _ => ⟨rfl, trivial⟩, ?_⟩ | refine ⟨fun _ _ => trivial, ?_⟩ | refine ⟨by omega, ?_⟩ | refine ⟨fun _ _ => eqC_winS, ?_⟩ | refine ⟨fun _ _ => eqC_winM, ?_⟩ | refine ⟨fun _ _ => eqC_winB, ?_⟩ | refine ⟨fun _ _ => eqC_selfB, ?_⟩ | refine ⟨fun _ _ => eqC_mpB, ?_⟩)
  rintro x hs' ⟨hx1, hx2, hx3⟩
  by_cases h16 : nh < 16
  · obtain ⟨rfl, rfl⟩ := hx1 h16
    (repeat first | refine And.intro (by omega) ?_ | refine And.intro (by decide) ?_ | (with_reducible refine frc_parts (by first | omega | decide) ?_) | (with_reducible refine frc_bytesL (by first | omega | decide) ?_) | refine And.intro rfl ?_)
    refine ⟨_, _, ⟨[0, 1, 2, 3, 4, 5], ⟨rfl, rfl, rfl⟩, ?_⟩, fun _ => ⟨rfl, rfl⟩, fun h => absurd h16 (by omega), fun h => absurd h16 (by omega)⟩
    (repeat first | exact trivial | refine ⟨rfl, ?_⟩ | refine ⟨fun _ _ => ⟨rfl, trivial⟩, ?_⟩ | refine ⟨fun _ _ => trivial, ?_⟩ | refine ⟨by omega, ?_⟩ | refine ⟨fun _ _ => eqC_winS, ?_⟩ | refine ⟨fun _ _ => eqC_winM, ?_⟩ | refine ⟨fun _ _ => eqC_winB, ?_⟩ | refine ⟨fun _ _ => eqC_selfB, ?_⟩ | refine ⟨fun _ _ => eqC_mpB, ?_⟩)
    refine eqC_bts (eqC_bts ?_)
    (repeat first | exact trivial | refine ⟨rfl, ?_⟩ | refine ⟨fun _ _ => ⟨rfl, trivial⟩, ?_⟩ | refine ⟨fun _ _ => trivial, ?_⟩ | refine ⟨by omega, ?_⟩ | refine ⟨fun _ _ => eqC_winS, ?_⟩ | refine ⟨fun _ _ => eqC_winM, ?_⟩ | refine ⟨fun _ _ => eqC_winB, ?_⟩ | refine ⟨fun _ _ => eqC_selfB, ?_⟩ | refine ⟨fun _ _ => eqC_mpB, ?_⟩)
  by_cases hall : ∀ i, i < 16 → L b (nh - 16 + i) = T i
  · obtain ⟨rfl, rfl⟩ := hx2 (by omega) hall
    (repeat first | refine And.intro (by omega) ?_ | refine And.intro (by decide) ?_ | (with_reducible refine frc_parts (by first | omega | decide) ?_) | (with_reducible refine frc_bytesL (by first | omega | decide) ?_) | refine And.intro rfl ?_)
    refine ⟨_, _, ⟨[0, 1, 2, 3, 4, 5, 6], ⟨rfl, rfl, rfl⟩, ?_⟩, fun h => absurd h h16, fun _ _ => ⟨rfl, rfl⟩, fun _ h => absurd hall h⟩
    (repeat first | exact trivial | refine ⟨rfl, ?_⟩ | refine ⟨fun _ _ => ⟨rfl, trivial⟩, ?_⟩ | refine ⟨fun _ _ => trivial, ?_⟩ | refine ⟨by omega, ?_⟩ | refine ⟨fun _ _ => eqC_winS, ?_⟩ | refine ⟨fun _ _ => eqC_winM, ?_⟩ | refine ⟨fun _ _ => eqC_winB, ?_⟩ | refine ⟨fun _ _ => eqC_selfB, ?_⟩ | refine ⟨fun _ _ => eqC_mpB, ?_⟩)
    refine eqC_bts (eqC_bts ?_)
    (repeat first | exact trivial | refine ⟨rfl, ?_⟩ | refine ⟨fun _ _ => ⟨rfl, trivial⟩, ?_⟩ | refine ⟨fun _ _ => trivial, ?_⟩ | refine ⟨by omega, ?_⟩ | refine ⟨fun _ _ => eqC_winS, ?_⟩ | refine ⟨fun _ _ => eqC_winM, ?_⟩ | refine ⟨fun _ _ => eqC_winB, ?_⟩ | refine ⟨fun _ _ => eqC_selfB, ?_⟩ | refine ⟨fun _ _ => eqC_mpB, ?_⟩)
  · obtain ⟨rfl, rfl⟩ := hx3 (by omega) hall
    (repeat first | refine And.intro (by omega) ?_ | refine And.intro (by decide) ?_ | (with_reducible refine frc_parts (by first | omega | decide) ?_) | (with_reducible refine frc_bytesL (by first | omega | decide) ?_) | refine And.intro rfl ?_)
    refine ⟨_, _, ⟨[0, 1, 2, 3, 4, 5], ⟨rfl, rfl, rfl⟩, ?_⟩, fun h => absurd h h16, fun _ h => absurd h hall, fun _ _ => ⟨rfl, rfl⟩⟩
    (repeat first | exact trivial | refine ⟨rfl, ?_⟩ | refine ⟨fun _ _ => ⟨rfl, trivial⟩, ?_⟩ | refine ⟨fun _ _ => trivial, ?_⟩ | refine ⟨by omega, ?_⟩ | refine ⟨fun _ _ => eqC_winS, ?_⟩ | refine ⟨fun _ _ => eqC_winM, ?_⟩ | refine ⟨fun _ _ => eqC_winB, ?_⟩ | refine ⟨fun _ _ => eqC_selfB, ?_⟩ | refine ⟨fun _ _ => eqC_mpB, ?_⟩)
    refine eqC_bts (eqC_bts ?_)
    (repeat first | exact trivial | refine ⟨rfl, ?_⟩ | refine ⟨fun _ _ => ⟨rfl, trivial⟩, ?_⟩ | refine ⟨fun _ _ => trivial, ?_⟩ | refine ⟨by omega, ?_⟩ | refine ⟨fun _ _ => eqC_winS, ?_⟩ | refine ⟨fun _ _ => eqC_winM, ?_⟩ | refine ⟨fun _ _ => eqC_winB, ?_⟩ | refine ⟨fun _ _ => eqC_selfB, ?_⟩ | refine ⟨fun _ _ => eqC_mpB, ?_⟩)
end Sx
end Go.Proofs.Ytndlhhhebijknaa
end

section
/-
  The program's keys: of the first packets; the law's fixed fact. No condition.
-/
namespace Go.Proofs.Ytndlhhhebijknaa
set_option linter.unusedVariables false
namespace Gcm
open Sha
def saltK : Bs := [56#8, 118#8, 44#8, 247#8, 245#8, 89#8, 52#8, 179#8, 77#8, 23#8, 154#8, 230#8, 164#8, 200#8, 12#8, 173#8, 204#8, 187#8, 127#8, 10#8]
def qCl : List UInt8 := [99, 108, 105, 101, 110, 116, 32, 105, 110]
def qSv : List UInt8 := [115, 101, 114, 118, 101, 114, 32, 105, 110]
def idA : Bs := [49#8, 50#8, 51#8, 52#8, 53#8, 54#8, 55#8, 56#8]
def secA : Bs := [58#8, 15#8, 79#8, 217#8, 214#8, 6#8, 90#8, 216#8, 101#8, 81#8, 67#8, 9#8, 91#8, 58#8, 63#8, 153#8, 190#8, 90#8, 30#8, 247#8, 171#8, 35#8, 75#8, 205#8, 75#8, 243#8, 223#8, 63#8, 124#8, 34#8, 217#8, 238#8]
theorem secA_eq : markL saltK idA = secA := of_decide_eq_true (mark_by (p := fun l => decide (l = secA)) (by decide +kernel))
theorem exF0 (s about : Bs) (i : Nat) (hi : i < 32) : exF s about i = L (markL s (about ++ [1#8])) i := by
  unfold exF
  rw [show i / 32 + 1 = 1 by omega]
  show L ([] ++ markL s ([] ++ about ++ [BitVec.ofNat 8 (0 + 1)])) i = _
  rw [List.nil_append, List.nil_append]
theorem cl_at : exF secA (labT qCl [] 32) 0 = 78#8 := by
  rw [exF0 _ _ _ (by decide)]
  have e : labT qCl [] 32 ++ [1#8] = [0#8, 32#8, 15#8, 116#8, 108#8, 115#8, 49#8, 51#8, 32#8, 99#8, 108#8, 105#8, 101#8, 110#8, 116#8, 32#8, 105#8, 110#8, 0#8, 1#8] := by decide
  rw [e]
  exact of_decide_eq_true (mark_by (p := fun l => decide (L l 0 = 78#8)) (by decide +kernel))
theorem sv_at : exF secA (labT qSv [] 32) 0 = 164#8 := by
  rw [exF0 _ _ _ (by decide)]
  have e : labT qSv [] 32 ++ [1#8] = [0#8, 32#8, 15#8, 116#8, 108#8, 115#8, 49#8, 51#8, 32#8, 115#8, 101#8, 114#8, 118#8, 101#8, 114#8, 32#8, 105#8, 110#8, 0#8, 1#8] := by decide
  rw [e]
  exact of_decide_eq_true (mark_by (p := fun l => decide (L l 0 = 164#8)) (by decide +kernel))
end Gcm
namespace Sx
open Aes Gcm Sha

abbrev kysV (s : Nat → BitVec 8) : List Seg := [.row 32 fun i => .w8 (s i), .one .any, .row 12 fun _ => .any, .one .any]
set_option maxRecDepth 20000 in
set_option maxHeartbeats 2000000 in
theorem fn_kInitial (z : Bool) (N o n c : Nat) (l s : Bs) (dn : BitVec 32) (f g : Nat → BitVec 32) (hd : dn = 0#32 ∨ dn = 1#32 ∧ f = first ∧ g = steps) (d : BitVec 32) (b : Nat → BitVec 8) (cnt : Int) (hdt : d = 0#32 ∨ d = 1#32 ∧ b = boxes) (hcnt : 0 ≤ cnt ∧ cnt ≤ 800000000)
    (hl : l.length = n) (hN : o + n ≤ N) (hc : n ≤ c) (hz : z = true → l = []) (hs : markL saltK l = s) (sA sB : Nat → BitVec 8) (hA : exF s (labT qCl [] 32) = sA) (hB : exF s (labT qSv [] 32) = sB) :
    FnR Try.prog tds 40 2 [bts z N o n (L l), makC 2 3, shaT dn 0 f g, tabs d 0 b cnt] [.c (.p 1 0 0), .c (.sn z 0 0 o n c)] (fun _ => True)
      (fun x hs => ∃ (dn' : BitVec 32) (f' g' : Nat → BitVec 32), x = .tup [.c (.p 4 0 0), .c (.p 5 0 0)] ∧ hs = [bts z N o n (L l), makC 2 3, shaT dn' 0 f' g', tabs 1 0 boxes (cnt + 1 + 1), kysV sA, kysV sB]) := by
  subst hl
  refine fn_of_body tds_ok follows_ Try.func40 rfl (t := [.a (.c (.p 1 0 0)), .a (.c (.sn z 0 0 o l.length c)), .any, .any, .any, .any, .any, .any, .any, .any, .any, .any, .any, .any, .any, .any, .any, .any, .any, .any, .any, .any, .any, .any, .any, .any, .any, .any]) rfl (fun w r0 hr _ => ?_)
  obtain ⟨x0, x1, x2, x3, rfl⟩ := len4' hr
  have hsl : s.length = 32 := by rw [← hs, markL_len]
  obtain ⟨kqA, hkqA⟩ : ∃ v, exF (tab 32 sA) (labT qKey [] 16) = v := ⟨_, rfl⟩
  obtain ⟨ivA, hivA⟩ : ∃ v, exF (tab 32 sA) (labT qIv [] 12) = v := ⟨_, rfl⟩
  obtain ⟨khA, hkhA⟩ : ∃ v, exF (tab 32 sA) (labT qHp [] 16) = v := ⟨_, rfl⟩
  obtain ⟨KA, hKA⟩ : ∃ v, pKeys kqA = v := ⟨_, rfl⟩
  obtain ⟨EA, hEA⟩ : ∃ v, pTurn kqA = v := ⟨_, rfl⟩
  obtain ⟨HA, hHA⟩ : ∃ v, toE (EA fun _ => 0#8) = v := ⟨_, rfl⟩
  obtain ⟨JA, hJA⟩ : ∃ v, pKeys khA = v := ⟨_, rfl⟩
  obtain ⟨kqB, hkqB⟩ : ∃ v, exF (tab 32 sB) (labT qKey [] 16) = v := ⟨_, rfl⟩
  obtain ⟨ivB, hivB⟩ : ∃ v, exF (tab 32 sB) (labT qIv [] 12) = v := ⟨_, rfl⟩
  obtain ⟨khB, hkhB⟩ : ∃ v, exF (tab 32 sB) (labT qHp [] 16) = v := ⟨_, rfl⟩
  obtain ⟨KB, hKB⟩ : ∃ v, pKeys kqB = v := ⟨_, rfl⟩
  obtain ⟨EB, hEB⟩ : ∃ v, pTurn kqB = v := ⟨_, rfl⟩
  obtain ⟨HB, hHB⟩ : ∃ v, toE (EB fun _ => 0#8) = v := ⟨_, rfl⟩
  obtain ⟨JB, hJB⟩ : ∃ v, pKeys khB = v := ⟨_, rfl⟩
  have qa : ∀ {q : List Nat} {g : Nat → Nat} (j : Nat), j < 32 → eqC q (SC.mp g (SC.w8 (sA j))) (SC.w8 (L (tab 32 sA) j)) True := fun j hj => by rw [L_tab hj]; exact ⟨rfl, trivial⟩
  have qb : ∀ {q : List Nat} {g : Nat → Nat} (j : Nat), j < 32 → eqC q (SC.mp g (SC.w8 (sB j))) (SC.w8 (L (tab 32 sB) j)) True := fun j hj => by rw [L_tab hj]; exact ⟨rfl, trivial⟩
  (repeat first | refine ⟨fun _ => ?_, fun h => absurd h (by rw []; decide)⟩ | refine ⟨fun h => absurd h (by rw []; decide), fun _ => ?_⟩ | refine ⟨fun _ => ?_, fun h => Bool.noConfusion h⟩ | refine ⟨fun h => Bool.noConfusion h, fun _ => ?_⟩)
  (repeat first | refine And.intro (by omega) ?_ | refine And.intro (by decide) ?_ | (with_reducible refine frc_parts (by first | omega | decide) ?_) | (with_reducible refine frc_bytesL (by first | omega | decide) ?_) | refine And.intro rfl ?_)
  refine call_same (fn_extract false z 20 N 0 o 20 c saltK l dn f g hd (by decide) (by decide) (fun h => Bool.noConfusion h) hN hc hz) [4, 0, 2] rfl (by (repeat first | exact trivial | refine ⟨rfl, ?_⟩ | refine ⟨fun _ _ => ⟨rfl, trivial⟩, ?_⟩ | refine ⟨fun _ _ => trivial, ?_⟩ | refine ⟨by omega, ?_⟩ | refine ⟨fun _ _ => eqC_winS, ?_⟩ | refine ⟨fun _ _ => eqC_winM, ?_⟩ | refine ⟨fun _ _ => eqC_winB, ?_⟩ | refine ⟨fun _ _ => eqC_selfB, ?_⟩ | refine ⟨fun _ _ => eqC_mpB, ?_⟩)) ?_ (fun _ _ => trivial) ?_
  · refine ⟨rfl, fun j hj => eqC_lit saltK hj, ?_⟩
    refine eqC_bts ?_
    (repeat first | exact trivial | refine ⟨rfl, ?_⟩ | refine ⟨fun _ _ => ⟨rfl, trivial⟩, ?_⟩ | refine ⟨fun _ _ => trivial, ?_⟩ | refine ⟨by omega, ?_⟩ | refine ⟨fun _ _ => eqC_winS, ?_⟩ | refine ⟨fun _ _ => eqC_winM, ?_⟩ | refine ⟨fun _ _ => eqC_winB, ?_⟩ | refine ⟨fun _ _ => eqC_selfB, ?_⟩ | refine ⟨fun _ _ => eqC_mpB, ?_⟩)
  rintro x hs' ⟨rfl, rfl⟩
  rw [hs]
  (repeat first | refine And.intro (by omega) ?_ | refine And.intro (by decide) ?_ | (with_reducible refine frc_parts (by first | omega | decide) ?_) | (with_reducible refine frc_bytesL (by first | omega | decide) ?_) | refine And.intro rfl ?_)
  refine ⟨some [5], [], [(0, true), (1, true), (2, true), (5, true), (6, true), (7, true), (3, false), (4, false), (8, false), (9, false), (10, true), (11, true)], [], by kernel_rfl, ?_⟩
  (repeat first | refine And.intro (by omega) ?_ | refine And.intro (by decide) ?_ | (with_reducible refine frc_parts (by first | omega | decide) ?_) | (with_reducible refine frc_bytesL (by first | omega | decide) ?_) | refine And.intro rfl ?_)
  refine call_same (fn_ksecret s qCl 1 first steps (.inr ⟨rfl, rfl, rfl⟩) hsl (by decide)) [1, 2] rfl (by (repeat first | exact trivial | refine ⟨rfl, ?_⟩ | refine ⟨fun _ _ => ⟨rfl, trivial⟩, ?_⟩ | refine ⟨fun _ _ => trivial, ?_⟩ | refine ⟨by omega, ?_⟩ | refine ⟨fun _ _ => eqC_winS, ?_⟩ | refine ⟨fun _ _ => eqC_winM, ?_⟩ | refine ⟨fun _ _ => eqC_winB, ?_⟩ | refine ⟨fun _ _ => eqC_selfB, ?_⟩ | refine ⟨fun _ _ => eqC_mpB, ?_⟩)) (by (repeat first | exact trivial | refine ⟨rfl, ?_⟩ | refine ⟨fun _ _ => ⟨rfl, trivial⟩, ?_⟩ | refine ⟨fun _ _ => trivial, ?_⟩ | refine ⟨by omega, ?_⟩ | refine ⟨fun _ _ => eqC_winS, ?_⟩ | refine ⟨fun _ _ => eqC_winM, ?_⟩ | refine ⟨fun _ _ => eqC_winB, ?_⟩ | refine ⟨fun _ _ => eqC_selfB, ?_⟩ | refine ⟨fun _ _ => eqC_mpB, ?_⟩)) (fun _ _ => trivial) ?_
  rintro x hs' ⟨dn1, f1, g1, hd1, rfl, rfl⟩
  rw [hA]
  (repeat first | refine And.intro (by omega) ?_ | refine And.intro (by decide) ?_ | (with_reducible refine frc_parts (by first | omega | decide) ?_) | (with_reducible refine frc_bytesL (by first | omega | decide) ?_) | refine And.intro rfl ?_)
  refine call_same (fn_kOf (tab 32 sA) dn1 f1 g1 hd1 (tab_len _ _) d b (cnt) hdt (by omega) kqA KA khA JA ivA EA HA hkqA hivA hkhA hKA hEA hHA hJA) [1, 2, 3] rfl ⟨rfl, rfl, rfl, qa, trivial⟩ (by (repeat first | exact trivial | refine ⟨rfl, ?_⟩ | refine ⟨fun _ _ => ⟨rfl, trivial⟩, ?_⟩ | refine ⟨fun _ _ => trivial, ?_⟩ | refine ⟨by omega, ?_⟩ | refine ⟨fun _ _ => eqC_winS, ?_⟩ | refine ⟨fun _ _ => eqC_winM, ?_⟩ | refine ⟨fun _ _ => eqC_winB, ?_⟩ | refine ⟨fun _ _ => eqC_selfB, ?_⟩ | refine ⟨fun _ _ => eqC_mpB, ?_⟩)) (fun _ _ => trivial) ?_
  rintro x hs' ⟨dn2, f2, g2, hd2, rfl, rfl⟩
  (repeat first | refine And.intro (by omega) ?_ | refine And.intro (by decide) ?_ | (with_reducible refine frc_parts (by first | omega | decide) ?_) | (with_reducible refine frc_bytesL (by first | omega | decide) ?_) | refine And.intro rfl ?_)
  refine call_same (fn_ksecret s qSv dn2 f2 g2 hd2 hsl (by decide)) [1, 2] rfl (by (repeat first | exact trivial | refine ⟨rfl, ?_⟩ | refine ⟨fun _ _ => ⟨rfl, trivial⟩, ?_⟩ | refine ⟨fun _ _ => trivial, ?_⟩ | refine ⟨by omega, ?_⟩ | refine ⟨fun _ _ => eqC_winS, ?_⟩ | refine ⟨fun _ _ => eqC_winM, ?_⟩ | refine ⟨fun _ _ => eqC_winB, ?_⟩ | refine ⟨fun _ _ => eqC_selfB, ?_⟩ | refine ⟨fun _ _ => eqC_mpB, ?_⟩)) (by (repeat first | exact trivial | refine ⟨rfl, ?_⟩ | refine ⟨fun _ _ => ⟨rfl, trivial⟩, ?_⟩ | refine ⟨fun _ _ => trivial, ?_⟩ | refine ⟨by omega, ?_⟩ | refine ⟨fun _ _ => eqC_winS, ?_⟩ | refine ⟨fun _ _ => eqC_winM, ?_⟩ | refine ⟨fun _ _ => eqC_winB, ?_⟩ | refine ⟨fun _ _ => eqC_selfB, ?_⟩ | refine ⟨fun _ _ => eqC_mpB, ?_⟩)) (fun _ _ => trivial) ?_
  rintro x hs' ⟨dn3, f3, g3, hd3, rfl, rfl⟩
  rw [hB]
  (repeat first | refine And.intro (by omega) ?_ | refine And.intro (by decide) ?_ | (with_reducible refine frc_parts (by first | omega | decide) ?_) | (with_reducible refine frc_bytesL (by first | omega | decide) ?_) | refine And.intro rfl ?_)
  refine call_same (fn_kOf (tab 32 sB) dn3 f3 g3 hd3 (tab_len _ _) 1 boxes (cnt + 1) (.inr ⟨rfl, rfl⟩) (by omega) kqB KB khB JB ivB EB HB hkqB hivB hkhB hKB hEB hHB hJB) [1, 2, 3] rfl ⟨rfl, rfl, rfl, qb, trivial⟩ (by (repeat first | exact trivial | refine ⟨rfl, ?_⟩ | refine ⟨fun _ _ => ⟨rfl, trivial⟩, ?_⟩ | refine ⟨fun _ _ => trivial, ?_⟩ | refine ⟨by omega, ?_⟩ | refine ⟨fun _ _ => eqC_winS, ?_⟩ | refine ⟨fun _ _ => eqC_winM, ?_⟩ | refine ⟨fun _ _ => eqC_winB, ?_⟩ | refine ⟨fun _ _ => eqC_selfB, ?_⟩ | refine ⟨fun _ _ => eqC_mpB, ?_⟩)) (fun _ _ => trivial) ?_
  rintro x hs' ⟨dn4, f4, g4, hd4, rfl, rfl⟩
  (repeat first | refine And.intro (by omega) ?_ | refine And.intro (by decide) ?_ | (with_reducible refine frc_parts (by first | omega | decide) ?_) | (with_reducible refine frc_bytesL (by first | omega | decide) ?_) | refine And.intro rfl ?_)
  refine ⟨.tup [.c (.p 4 0 0), .c (.p 5 0 0)], _, ⟨[0, 1, 2, 3, 6, 10], ⟨rfl, rfl, rfl⟩, ?_⟩, dn4, f4, g4, rfl, rfl⟩
  (repeat first | exact trivial | refine ⟨rfl, ?_⟩ | refine ⟨fun _ _ => ⟨rfl, trivial⟩, ?_⟩ | refine ⟨fun _ _ => trivial, ?_⟩ | refine ⟨by omega, ?_⟩ | refine ⟨fun _ _ => eqC_winS, ?_⟩ | refine ⟨fun _ _ => eqC_winM, ?_⟩ | refine ⟨fun _ _ => eqC_winB, ?_⟩ | refine ⟨fun _ _ => eqC_selfB, ?_⟩ | refine ⟨fun _ _ => eqC_mpB, ?_⟩)
  refine eqC_bts ?_
  (repeat first | exact trivial | refine ⟨rfl, ?_⟩ | refine ⟨fun _ _ => ⟨rfl, trivial⟩, ?_⟩ | refine ⟨fun _ _ => trivial, ?_⟩ | refine ⟨by omega, ?_⟩ | refine ⟨fun _ _ => eqC_winS, ?_⟩ | refine ⟨fun _ _ => eqC_winM, ?_⟩ | refine ⟨fun _ _ => eqC_winB, ?_⟩ | refine ⟨fun _ _ => eqC_selfB, ?_⟩ | refine ⟨fun _ _ => eqC_mpB, ?_⟩)
  refine ⟨fun j hj => eqC_w8 (show SC.w8 (L (tab 32 sA) j) = SC.w8 (sA j) by rw [L_tab hj]), ?_⟩
  (repeat first | exact trivial | refine ⟨rfl, ?_⟩ | refine ⟨fun _ _ => ⟨rfl, trivial⟩, ?_⟩ | refine ⟨fun _ _ => trivial, ?_⟩ | refine ⟨by omega, ?_⟩ | refine ⟨fun _ _ => eqC_winS, ?_⟩ | refine ⟨fun _ _ => eqC_winM, ?_⟩ | refine ⟨fun _ _ => eqC_winB, ?_⟩ | refine ⟨fun _ _ => eqC_selfB, ?_⟩ | refine ⟨fun _ _ => eqC_mpB, ?_⟩)
  refine ⟨fun j hj => eqC_w8 (show SC.w8 (L (tab 32 sB) j) = SC.w8 (sB j) by rw [L_tab hj]), ?_⟩
  (repeat first | exact trivial | refine ⟨rfl, ?_⟩ | refine ⟨fun _ _ => ⟨rfl, trivial⟩, ?_⟩ | refine ⟨fun _ _ => trivial, ?_⟩ | refine ⟨by omega, ?_⟩ | refine ⟨fun _ _ => eqC_winS, ?_⟩ | refine ⟨fun _ _ => eqC_winM, ?_⟩ | refine ⟨fun _ _ => eqC_winB, ?_⟩ | refine ⟨fun _ _ => eqC_selfB, ?_⟩ | refine ⟨fun _ _ => eqC_mpB, ?_⟩)
set_option maxRecDepth 20000 in
set_option maxHeartbeats 2000000 in
theorem fn_awake11 : Fn Try.prog tds 38 [] [] (fun _ => True) (fun x hs => x = .a (.c (.bool true)) ∧ hs = []) := by
  refine fn_of_body tds_ok follows_ Try.func38 rfl (t := anys 27) rfl (fun w r0 hr _ => ?_)
  obtain rfl : r0 = [] := List.eq_nil_of_length_eq_zero hr
  obtain ⟨sA, hA⟩ : ∃ s, exF secA (labT qCl [] 32) = s := ⟨_, rfl⟩
  obtain ⟨sB, hB⟩ : ∃ s, exF secA (labT qSv [] 32) = s := ⟨_, rfl⟩
  have hne : sA 0 ≠ sB 0 := by rw [← hA, ← hB, cl_at, sv_at]; decide
  refine ⟨by kernel_rfl, call_same fn_keysNew [] rfl trivial trivial (fun _ _ => trivial) ?_⟩
  rintro x hs ⟨rfl, rfl⟩
  (repeat first | refine And.intro (by omega) ?_ | refine And.intro (by decide) ?_ | (with_reducible refine frc_parts (by first | omega | decide) ?_) | (with_reducible refine frc_bytesL (by first | omega | decide) ?_) | refine And.intro rfl ?_)
  refine call_same (fn_kInitial false 8 0 8 8 idA secA 0 (fun _ => 0#32) (fun _ => 0#32) (.inl rfl) 0 (fun _ => 0#8) 0 (.inl rfl) (by omega) rfl (by omega) (by omega) (fun h => Bool.noConfusion h) secA_eq sA sB hA hB) [3, 2, 0, 1] rfl (by (repeat first | exact trivial | refine ⟨rfl, ?_⟩ | refine ⟨fun _ _ => ⟨rfl, trivial⟩, ?_⟩ | refine ⟨fun _ _ => trivial, ?_⟩ | refine ⟨by omega, ?_⟩ | refine ⟨fun _ _ => eqC_winS, ?_⟩ | refine ⟨fun _ _ => eqC_winM, ?_⟩ | refine ⟨fun _ _ => eqC_winB, ?_⟩ | refine ⟨fun _ _ => eqC_selfB, ?_⟩ | refine ⟨fun _ _ => eqC_mpB, ?_⟩)) ?_ (fun _ _ => trivial) ?_
  · refine ⟨rfl, fun j hj => eqC_lit idA hj, ?_⟩
    (repeat first | exact trivial | refine ⟨rfl, ?_⟩ | refine ⟨fun _ _ => ⟨rfl, trivial⟩, ?_⟩ | refine ⟨fun _ _ => trivial, ?_⟩ | refine ⟨by omega, ?_⟩ | refine ⟨fun _ _ => eqC_winS, ?_⟩ | refine ⟨fun _ _ => eqC_winM, ?_⟩ | refine ⟨fun _ _ => eqC_winB, ?_⟩ | refine ⟨fun _ _ => eqC_selfB, ?_⟩ | refine ⟨fun _ _ => eqC_mpB, ?_⟩)
  rintro x hs ⟨dn, f, g, rfl, rfl⟩
  (repeat first | refine And.intro (by omega) ?_ | refine And.intro (by decide) ?_ | (with_reducible refine frc_parts (by first | omega | decide) ?_) | (with_reducible refine frc_bytesL (by first | omega | decide) ?_) | refine And.intro rfl ?_)
  refine ⟨none, [], [(0, true), (1, true), (2, true), (3, true), (4, true), (5, true), (6, true), (7, true), (8, true), (9, true), (10, true), (11, true), (12, true), (13, true), (14, true), (15, true), (16, true), (17, true)], [], by kernel_rfl, ?_⟩
  (repeat first | refine And.intro (by omega) ?_ | refine And.intro (by decide) ?_ | refine And.intro rfl ?_ | refine And.intro (fun _ => ?_) (fun h => Bool.noConfusion h) | refine And.intro (fun h => Bool.noConfusion h) (fun _ => ?_) | (with_reducible refine frc_bytesL (by first | omega | decide) ?_) | (with_reducible refine frc_bytesM (by first | omega | decide) ?_) | (with_reducible refine frc_parts (by first | omega | decide) ?_))
  refine ⟨⟨rfl, rfl, fun _ _ => rfl, fun _ _ => rfl⟩, fun b1 hb1 => ?_⟩
  obtain rfl : b1 = false := by
    cases b1
    · rfl
    · exact absurd (SC.w8.inj (hb1.1 rfl 0 (by decide))) hne
  (repeat first | refine And.intro (by omega) ?_ | refine And.intro (by decide) ?_ | refine And.intro rfl ?_ | refine And.intro (fun _ => ?_) (fun h => Bool.noConfusion h) | refine And.intro (fun h => Bool.noConfusion h) (fun _ => ?_) | (with_reducible refine frc_bytesL (by first | omega | decide) ?_) | (with_reducible refine frc_bytesM (by first | omega | decide) ?_) | (with_reducible refine frc_parts (by first | omega | decide) ?_))
  exact ⟨.a (.c (.bool true)), [], ⟨[], ⟨rfl, rfl, rfl⟩, rfl, trivial⟩, rfl, rfl⟩
end Sx
end Go.Proofs.Ytndlhhhebijknaa
end

section
/-
  Numbers of sixteen bits as arguments. Over any program. No condition of its own.
-/
namespace Go.Proofs.Ytndlhhhebijknaa
set_option linter.unusedVariables false
namespace Sx
open Go.ChangeShapes

theorem wf_w64 {a : Int} (h : (Lit.int .u64 a).wf = true) : a = ((BitVec.ofInt 64 a).toNat : Int) := by
  have := bounds_u64 h
  rw [BitVec.toNat_ofInt]
  omega
end Sx
end Go.Proofs.Ytndlhhhebijknaa
end

section
/-
  The document's block, turned. No condition.
-/
namespace Go.Proofs.Ytndlhhhebijknaa
set_option linter.unusedVariables false
namespace Sx
open Aes

theorem upd_bytes {n k : Nat} {f g : Nat → BitVec 8} {v : SC} (hk : k < n) (hv : v = .w8 (g k)) (hf : ∀ j, j ≠ k → f j = g j) (j : Nat) (hj : j < n) : upd (bytesF n f) k v j = .w8 (g j) := by
  unfold upd
  split
  · rename_i h; rw [h, hv]
  · rename_i h; rw [bytesF_lt hj, hf j h]
theorem eqC_self {q : List Nat} {n : Nat} {b : Nat → BitVec 8} {j : Nat} : eqC q (bytesF n b j) (bytesF n b j) True := eqC_bytes (fun _ h => bytesF_lt h) j
theorem eqC_mp {q : List Nat} {g : Nat → Nat} {n : Nat} {b : Nat → BitVec 8} {j : Nat} : eqC q (SC.mp g (bytesF n b j)) (bytesF n b j) True :=
  eqC_bytes (f := fun j => SC.mp g (bytesF n b j)) (fun j h => by rw [bytesF_lt h]; rfl) j
set_option maxRecDepth 20000 in
set_option maxHeartbeats 4000000 in
theorem fn_rturnC (B key block : Nat → BitVec 8) (cb ck cx db dk dx : Nat) (hb : 256 ≤ cb) (hk : 16 ≤ ck) (hx : 16 ≤ cx) :
    Fn Try.prog tds 57 [[.row cb (bytesF 256 B)], [.row ck (bytesF 16 key)], [.row cx (bytesF 16 block)]] [.c (.sl 0 0 0 256 db), .c (.sl 1 0 0 16 dk), .c (.sl 2 0 0 16 dx)] (fun _ => True)
      (fun x hs => ∃ c, x = .a (.c (.sl 3 0 0 16 c)) ∧ hs = [[.row cb (bytesF 256 B)], [.row ck (bytesF 16 key)], [.row cx (bytesF 16 block)], [.row c (bytesF 16 (rTurnS B key block 10))]] ∧ 16 ≤ c) := by
  refine fn_of_body tds_ok follows_ Try.func57 rfl (t := [.a (.c (.sl 0 0 0 256 db)), .a (.c (.sl 1 0 0 16 dk)), .a (.c (.sl 2 0 0 16 dx)), .any, .any, .any, .any, .any, .any, .any, .any, .any, .any, .any, .any, .any, .any, .any, .any, .any, .any, .any, .any, .any, .any, .any, .any, .any, .any, .any, .any, .any, .any, .any, .any, .any, .any, .any, .any, .any, .any, .any, .any, .any, .any, .any, .any, .any, .any, .any, .any, .any, .any, .any, .any, .any, .any, .any, .any, .any, .any, .any, .any, .any, .any, .any, .any, .any, .any, .any, .any, .any, .any, .any, .any, .any, .any, .any, .any, .any, .any, .any, .any, .any, .any, .any, .any, .any, .any, .any, .any, .any, .any]) rfl (fun w r0 hr _ => ?_)
  obtain ⟨x0, x1, x2, rfl⟩ := len3 hr
  refine ⟨by kernel_rfl, call_same (fn_rkeysC B key cb ck db dk hb hk) [0, 1] rfl ⟨rfl, rfl, rfl, rfl, rfl, rfl, trivial⟩ ⟨rfl, fun j hj => eqC_self, rfl, fun j hj => eqC_self, trivial⟩ (fun _ _ => trivial) ?_⟩
  rintro x hs ⟨cw, rfl, rfl, hw⟩
  refine ⟨by simp [scale]; omega, ⟨by omega, by simp [scale], by decide⟩, fun c0 hc0 => ?_⟩
  refine .inl ⟨Nat, fun k => ⟨[.a (.c (.sl 0 0 0 256 db)), .any, .any, .any, .any, .any, .any, .a (.c (.sl 3 0 0 176 cw)), .a (.c (.sl 4 0 0 16 c0)), .a (.c (.int .i64 (↑k))), .any, .any, .any, .any, .any, .any, .any, .any, .any, .any, .any, .any, .any, .any, .any, .any, .any, .any, .any, .any, .any, .any, .any, .any, .any, .any, .any, .any, .any, .any, .any, .any, .any, .any, .any, .any, .any, .any, .any, .any, .any, .any, .any, .any, .any, .any, .any, .any, .any, .any, .any, .any, .any, .any, .any, .any, .any, .any, .any, .any, .any, .any, .any, .any, .any, .any, .any, .any, .any, .any, .any, .any, .any, .any, .any, .any, .any, .any, .any, .any, .any, .any, .any], [[.row cb (bytesF 256 B)], [.row ck (bytesF 16 key)], [.row cx (bytesF 16 block)], [.row cw (bytesF 176 (rKeys B key))], [.row c0 (bytesF 16 fun j => if j < k then block j ^^^ rKeys B key j else block j)]]⟩, fun k => k ≤ 16, fun k => 16 - k, ⟨0, [0, 1, 2, 3, 5], ⟨⟨rfl, rfl, rfl⟩, ?_⟩, by omega⟩, fun k hk16 => ⟨fun h => ?_, fun h => ?_⟩⟩
  · refine ⟨rfl, rfl, rfl, rfl, rfl, rfl, rfl, rfl, rfl, rfl, rfl, fun j hj => by first | exact eqC_self | exact eqC_mp, rfl, fun j hj => by first | exact eqC_self | exact eqC_mp, rfl, fun j hj => by first | exact eqC_self | exact eqC_mp, rfl, fun j hj => by first | exact eqC_self | exact eqC_mp, rfl, fun j hj => eqC_bytes (fun i hi => ?_) j, trivial⟩
    unfold appF
    rw [if_neg (by simp [scale]), if_pos (by simpa [scale] using hi), if_neg (by omega)]
    exact bytesF_lt hi
  · have hlt : (k : Int) < 16 := of_decide_eq_true h
    refine ⟨none, [], [(0, true), (1, true), (2, true), (3, true), (4, true), (5, true), (6, true), (7, true), (8, true), (9, true), (10, true), (11, true)], [12], by kernel_rfl, ?_⟩
    repeat first
      | refine frc_bytes (by omega) ?_
      | refine ⟨by omega, ?_⟩
    refine ⟨rfl, ⟨by omega, by omega⟩, k + 1, [0, 1, 2, 3, 4], ⟨⟨rfl, rfl, rfl⟩, ?_⟩, by dsimp only; omega, by dsimp only; omega⟩
    refine ⟨rfl, rfl, rfl, rfl, rfl, rfl, rfl, rfl, rfl, rfl, rfl, fun j hj => eqC_self, rfl, fun j hj => eqC_self, rfl, fun j hj => eqC_self, rfl, fun j hj => eqC_self, rfl, fun j hj => eqC_bytes (fun i hi => ?_) j, trivial⟩
    have e : (k : Int).toNat + 0 = k := by omega
    rw [e]
    refine upd_bytes (k := k) (g := fun j => if j < k + 1 then block j ^^^ rKeys B key j else block j) (by omega) (congrArg SC.w8 ?_) (fun j hjk => ?_) i hi
    · rw [if_neg (by omega), if_pos (by omega)]
    · have : j < k + 1 ↔ j < k := by omega
      simp only [this]
  · obtain rfl : k = 16 := by have : ¬ (k : Int) < 16 := of_decide_eq_false h; have hk : k ≤ 16 := hk16; omega
    refine .inl ⟨Nat × Nat, fun (r, c) => ⟨[.a (.c (.sl 0 0 0 256 db)), .any, .any, .any, .any, .any, .any, .a (.c (.sl 3 0 0 176 cw)), .a (.c (.sl 4 0 0 16 c)), .any, .a (.c (.int .i64 (↑(r + 1)))), .any, .any, .any, .any, .any, .any, .any, .any, .any, .any, .any, .any, .any, .any, .any, .any, .any, .any, .any, .any, .any, .any, .any, .any, .any, .any, .any, .any, .any, .any, .any, .any, .any, .any, .any, .any, .any, .any, .any, .any, .any, .any, .any, .any, .any, .any, .any, .any, .any, .any, .any, .any, .any, .any, .any, .any, .any, .any, .any, .any, .any, .any, .any, .any, .any, .any, .any, .any, .any, .any, .any, .any, .any, .any, .any, .any, .any, .any, .any, .any, .any, .any], [[.row cb (bytesF 256 B)], [.row ck (bytesF 16 key)], [.row cx (bytesF 16 block)], [.row cw (bytesF 176 (rKeys B key))], [.row c (bytesF 16 (rTurnS B key block r))]]⟩, fun (r, c) => r ≤ 10 ∧ 16 ≤ c, fun (r, _) => 10 - r, ⟨(0, c0), [0, 1, 2, 3, 4], ⟨⟨rfl, rfl, rfl⟩, ?_⟩, by omega, by omega⟩, fun x => ?_⟩
    · exact ⟨rfl, rfl, rfl, rfl, rfl, rfl, rfl, rfl, rfl, rfl, rfl, fun j hj => eqC_self, rfl, fun j hj => eqC_self, rfl, fun j hj => eqC_self, rfl, fun j hj => eqC_self, rfl, fun j hj => eqC_bytes (f := bytesF 16 _) (fun i hi => (bytesF_lt hi).trans (congrArg SC.w8 (if_pos hi))) j, trivial⟩
    · obtain ⟨r, c⟩ := x
      rintro ⟨hr, hc⟩
      refine ⟨fun h => ?_, fun h => ?_⟩
      · have hlt : ((r + 1 : Nat) : Int) ≤ 10 := of_decide_eq_true h
        refine ⟨by decide, ?_⟩
        refine .inl ⟨Nat, fun m => ⟨[.a (.c (.sl 0 0 0 256 db)), .any, .any, .any, .any, .any, .any, .a (.c (.sl 3 0 0 176 cw)), .a (.c (.sl 4 0 0 16 c)), .any, .a (.c (.int .i64 (↑(r + 1)))), .a (.c (.sl 5 0 0 16 16)), .a (.c (.int .i64 (↑m))), .any, .any, .any, .any, .any, .any, .any, .any, .any, .any, .any, .any, .any, .any, .any, .any, .any, .any, .any, .any, .any, .any, .any, .any, .any, .any, .any, .any, .any, .any, .any, .any, .any, .any, .any, .any, .any, .any, .any, .any, .any, .any, .any, .any, .any, .any, .any, .any, .any, .any, .any, .any, .any, .any, .any, .any, .any, .any, .any, .any, .any, .any, .any, .any, .any, .any, .any, .any, .any, .any, .any, .any, .any, .any, .any, .any, .any, .any, .any, .any], [[.row cb (bytesF 256 B)], [.row ck (bytesF 16 key)], [.row cx (bytesF 16 block)], [.row cw (bytesF 176 (rKeys B key))], [.row c (bytesF 16 (rTurnS B key block r))], [.row 16 fun j => .w8 (if j < 4 * m then rShift B (rTurnS B key block r) j else 0#8)]]⟩, fun m => m ≤ 4, fun m => 4 - m, ⟨0, [0, 1, 2, 3, 4, 5], ⟨⟨rfl, rfl, rfl⟩, ?_⟩, by omega⟩, fun m hm => ⟨fun h => ?_, fun h => ?_⟩⟩
        · exact ⟨rfl, rfl, rfl, rfl, rfl, rfl, rfl, rfl, rfl, rfl, rfl, rfl, rfl, rfl, rfl, fun j hj => eqC_self, rfl, fun j hj => eqC_self, rfl, fun j hj => eqC_self, rfl, fun j hj => eqC_self, rfl, fun j hj => eqC_self, rfl, fun j hj => ⟨by simp, trivial⟩, trivial⟩
        · have hlm : (m : Int) < 4 := of_decide_eq_true h
          refine .inl ⟨Nat, fun q => ⟨[.a (.c (.sl 0 0 0 256 db)), .any, .any, .any, .any, .any, .any, .a (.c (.sl 3 0 0 176 cw)), .a (.c (.sl 4 0 0 16 c)), .any, .a (.c (.int .i64 (↑(r + 1)))), .a (.c (.sl 5 0 0 16 16)), .a (.c (.int .i64 (↑m))), .a (.c (.int .i64 (↑q))), .any, .any, .any, .any, .any, .any, .any, .any, .any, .any, .any, .any, .any, .any, .any, .any, .any, .any, .any, .any, .any, .any, .any, .any, .any, .any, .any, .any, .any, .any, .any, .any, .any, .any, .any, .any, .any, .any, .any, .any, .any, .any, .any, .any, .any, .any, .any, .any, .any, .any, .any, .any, .any, .any, .any, .any, .any, .any, .any, .any, .any, .any, .any, .any, .any, .any, .any, .any, .any, .any, .any, .any, .any, .any, .any, .any, .any, .any, .any], [[.row cb (bytesF 256 B)], [.row ck (bytesF 16 key)], [.row cx (bytesF 16 block)], [.row cw (bytesF 176 (rKeys B key))], [.row c (bytesF 16 (rTurnS B key block r))], [.row 16 fun j => .w8 (if j < 4 * m + q then rShift B (rTurnS B key block r) j else 0#8)]]⟩, fun q => q ≤ 4, fun q => 4 - q, ⟨0, [0, 1, 2, 3, 4, 5], ⟨⟨rfl, rfl, rfl⟩, ?_⟩, by omega⟩, fun q hq => ⟨fun h => ?_, fun h => ?_⟩⟩
          · exact ⟨rfl, rfl, rfl, rfl, rfl, rfl, rfl, rfl, rfl, rfl, rfl, rfl, rfl, rfl, rfl, rfl, fun j hj => eqC_self, rfl, fun j hj => eqC_self, rfl, fun j hj => eqC_self, rfl, fun j hj => eqC_self, rfl, fun j hj => eqC_self, rfl, fun j hj => ⟨rfl, trivial⟩, trivial⟩
          · have hlq : (q : Int) < 4 := of_decide_eq_true h
            repeat first
              | refine frc_bytes (lt8 (Nat.le_refl _) _) ?_
              | refine frc_bytes (by omega) ?_
              | refine ⟨idx8 _, ?_⟩
              | refine ⟨lt8 hb _, ?_⟩
              | refine ⟨by omega, ?_⟩
            refine ⟨rfl, ⟨by omega, by omega⟩, q + 1, [0, 1, 2, 3, 4, 5], ⟨⟨rfl, rfl, rfl⟩, ?_⟩, by dsimp only; omega, by dsimp only; omega⟩
            refine ⟨rfl, rfl, rfl, rfl, rfl, rfl, rfl, rfl, rfl, rfl, rfl, rfl, rfl, rfl, rfl, rfl, fun j hj => eqC_self, rfl, fun j hj => eqC_self, rfl, fun j hj => eqC_self, rfl, fun j hj => eqC_self, rfl, fun j hj => eqC_self, rfl, fun j hj => eqC_w8 ?_, trivial⟩
            have e0 : (4 * (m : Int) + q).toNat + 0 = 4 * m + q := by omega
            have e1 : (4 * (((m : Int) + q) % 4) + q).toNat + 0 = 4 * (((4 * m + q) / 4 + (4 * m + q) % 4) % 4) + (4 * m + q) % 4 := by omega
            have e2 : ∀ x : BitVec 8, ((x.toNat : Int)).toNat + 0 = x.toNat := fun x => by omega
            rw [e0, e1, e2]
            refine (upd_w8 (g := fun j => .w8 (if j < 4 * m + (q + 1) then rShift B (rTurnS B key block r) j else 0#8)) ?_ ?_ j).trans rfl
            · simp only [if_pos (show 4 * m + q < 4 * m + (q + 1) by omega)]
              rfl
            · intro j hjk
              have : j < 4 * m + (q + 1) ↔ j < 4 * m + q := by omega
              simp only [this]
          · obtain rfl : q = 4 := by have : ¬ (q : Int) < 4 := of_decide_eq_false h; have hq : q ≤ 4 := hq; omega
            refine ⟨⟨by omega, by omega⟩, m + 1, [0, 1, 2, 3, 4, 5], ⟨⟨rfl, rfl, rfl⟩, ?_⟩, by dsimp only; omega, by dsimp only; omega⟩
            refine ⟨rfl, rfl, rfl, rfl, rfl, rfl, rfl, rfl, rfl, rfl, rfl, rfl, rfl, rfl, rfl, fun j hj => eqC_self, rfl, fun j hj => eqC_self, rfl, fun j hj => eqC_self, rfl, fun j hj => eqC_self, rfl, fun j hj => eqC_self, rfl, fun j hj => eqC_w8 ?_, trivial⟩
            rw [show 4 * (m + 1) = 4 * m + 4 by omega]
        · obtain rfl : m = 4 := by have : ¬ (m : Int) < 4 := of_decide_eq_false h; have hm : m ≤ 4 := hm; omega
          refine ⟨fun h2 => ?_, fun h2 => ?_⟩
          · have h3 : r + 1 < 10 := by have : ((r + 1 : Nat) : Int) < 10 := of_decide_eq_true h2; omega
            refine ⟨by kernel_rfl, call_same (fn_rmixed (rShift B (rTurnS B key block r))) [5] rfl ⟨rfl, rfl, rfl, trivial⟩ ⟨rfl, fun j hj => eqC_w8 (congrArg SC.w8 (if_pos hj)), trivial⟩ (fun _ _ => trivial) ?_⟩
            rintro x hs ⟨rfl, rfl⟩
            refine .inl ⟨Nat, fun k => ⟨[.a (.c (.sl 0 0 0 256 db)), .any, .any, .any, .any, .any, .any, .a (.c (.sl 3 0 0 176 cw)), .a (.c (.sl 4 0 0 16 c)), .any, .a (.c (.int .i64 (↑(r + 1)))), .a (.c (.sl 5 0 0 16 16)), .any, .any, .a (.c (.int .i64 (↑k))), .any, .any, .any, .any, .any, .any, .any, .any, .any, .any, .any, .any, .any, .any, .any, .any, .any, .any, .any, .any, .any, .any, .any, .any, .any, .any, .any, .any, .any, .any, .any, .any, .any, .any, .any, .any, .any, .any, .any, .any, .any, .any, .any, .any, .any, .any, .any, .any, .any, .any, .any, .any, .any, .any, .any, .any, .any, .any, .any, .any, .any, .any, .any, .any, .any, .any, .any, .any, .any, .any, .any, .any, .any, .any, .any, .any, .any, .any], [[.row cb (bytesF 256 B)], [.row ck (bytesF 16 key)], [.row cx (bytesF 16 block)], [.row cw (bytesF 176 (rKeys B key))], [.row c (bytesF 16 fun j => if j < k then rTurnS B key block (r + 1) j else rTurnS B key block r j)], [.row 16 fun j => .w8 (rMixAt (rShift B (rTurnS B key block r)) j)]]⟩, fun k => k ≤ 16, fun k => 16 - k, ⟨0, [0, 1, 2, 3, 4, 6], ⟨⟨rfl, rfl, rfl⟩, ?_⟩, by omega⟩, fun k hk16 => ⟨fun h => ?_, fun h => ?_⟩⟩
            · exact ⟨rfl, rfl, rfl, rfl, rfl, rfl, rfl, rfl, rfl, rfl, rfl, rfl, rfl, rfl, rfl, fun j hj => eqC_self, rfl, fun j hj => eqC_self, rfl, fun j hj => eqC_self, rfl, fun j hj => eqC_self, rfl, fun j hj => eqC_self, rfl, fun j hj => ⟨rfl, trivial⟩, trivial⟩
            · have hlt2 : (k : Int) < 16 := of_decide_eq_true h
              refine ⟨none, [], [(0, true), (1, true), (2, true), (3, true), (4, true), (5, true), (6, true), (7, true), (8, true), (9, true), (10, true), (11, true), (12, true), (13, true), (14, true)], [15], by kernel_rfl, ?_⟩
              repeat first
                | with_reducible refine frc_bytes (by omega) ?_
                | refine ⟨by omega, ?_⟩
              refine ⟨rfl, ⟨by omega, by omega⟩, k + 1, [0, 1, 2, 3, 4, 5], ⟨⟨rfl, rfl, rfl⟩, ?_⟩, by dsimp only; omega, by dsimp only; omega⟩
              refine ⟨rfl, rfl, rfl, rfl, rfl, rfl, rfl, rfl, rfl, rfl, rfl, rfl, rfl, rfl, rfl, fun j hj => eqC_self, rfl, fun j hj => eqC_self, rfl, fun j hj => eqC_self, rfl, fun j hj => eqC_self, rfl, fun j hj => eqC_bytes (fun i hi => ?_) j, rfl, fun j hj => ⟨rfl, trivial⟩, trivial⟩
              have e : (k : Int).toNat + 0 = k := by omega
              have e2 : (16 * ((r + 1 : Nat) : Int) + k).toNat + 0 = 16 * (r + 1) + k := by omega
              rw [e, e2]
              refine upd_bytes (k := k) (g := fun j => if j < k + 1 then rTurnS B key block (r + 1) j else rTurnS B key block r j) (by omega) (congrArg SC.w8 ?_) (fun j hjk => ?_) i hi
              · rw [if_pos (by omega)]
                show _ = (if r + 1 < 10 then rMixAt (rShift B (rTurnS B key block r)) else rShift B (rTurnS B key block r)) k ^^^ rKeys B key (16 * (r + 1) + k)
                rw [if_pos h3]
              · have : j < k + 1 ↔ j < k := by omega
                simp only [this]
            · obtain rfl : k = 16 := by have : ¬ (k : Int) < 16 := of_decide_eq_false h; have hk : k ≤ 16 := hk16; omega
              refine ⟨⟨by omega, by omega⟩, (r + 1, c), [0, 1, 2, 3, 4], ⟨⟨rfl, rfl, rfl⟩, ?_⟩, ⟨by omega, by omega⟩, by dsimp only; omega⟩
              exact ⟨rfl, rfl, rfl, rfl, rfl, rfl, rfl, rfl, rfl, rfl, rfl, fun j hj => eqC_self, rfl, fun j hj => eqC_self, rfl, fun j hj => eqC_self, rfl, fun j hj => eqC_self, rfl, fun j hj => eqC_bytes (f := bytesF 16 _) (fun i hi => (bytesF_lt hi).trans (congrArg SC.w8 (if_pos hi))) j, trivial⟩
          · have h3 : ¬ r + 1 < 10 := by have : ¬ ((r + 1 : Nat) : Int) < 10 := of_decide_eq_false h2; omega
            refine .inl ⟨Nat, fun k => ⟨[.a (.c (.sl 0 0 0 256 db)), .any, .any, .any, .any, .any, .any, .a (.c (.sl 3 0 0 176 cw)), .a (.c (.sl 4 0 0 16 c)), .any, .a (.c (.int .i64 (↑(r + 1)))), .a (.c (.sl 5 0 0 16 16)), .any, .any, .a (.c (.int .i64 (↑k))), .any, .any, .any, .any, .any, .any, .any, .any, .any, .any, .any, .any, .any, .any, .any, .any, .any, .any, .any, .any, .any, .any, .any, .any, .any, .any, .any, .any, .any, .any, .any, .any, .any, .any, .any, .any, .any, .any, .any, .any, .any, .any, .any, .any, .any, .any, .any, .any, .any, .any, .any, .any, .any, .any, .any, .any, .any, .any, .any, .any, .any, .any, .any, .any, .any, .any, .any, .any, .any, .any, .any, .any, .any, .any, .any, .any, .any, .any], [[.row cb (bytesF 256 B)], [.row ck (bytesF 16 key)], [.row cx (bytesF 16 block)], [.row cw (bytesF 176 (rKeys B key))], [.row c (bytesF 16 fun j => if j < k then rTurnS B key block (r + 1) j else rTurnS B key block r j)], [.row 16 fun j => .w8 (rShift B (rTurnS B key block r) j)]]⟩, fun k => k ≤ 16, fun k => 16 - k, ⟨0, [0, 1, 2, 3, 4, 5], ⟨⟨rfl, rfl, rfl⟩, ?_⟩, by omega⟩, fun k hk16 => ⟨fun h => ?_, fun h => ?_⟩⟩
            · exact ⟨rfl, rfl, rfl, rfl, rfl, rfl, rfl, rfl, rfl, rfl, rfl, rfl, rfl, rfl, rfl, fun j hj => eqC_self, rfl, fun j hj => eqC_self, rfl, fun j hj => eqC_self, rfl, fun j hj => eqC_self, rfl, fun j hj => eqC_self, rfl, fun j hj => eqC_w8 (congrArg SC.w8 (if_pos hj)), trivial⟩
            · have hlt2 : (k : Int) < 16 := of_decide_eq_true h
              refine ⟨none, [], [(0, true), (1, true), (2, true), (3, true), (4, true), (5, true), (6, true), (7, true), (8, true), (9, true), (10, true), (11, true), (12, true), (13, true), (14, true)], [15], by kernel_rfl, ?_⟩
              repeat first
                | with_reducible refine frc_bytes (by omega) ?_
                | refine ⟨by omega, ?_⟩
              refine ⟨rfl, ⟨by omega, by omega⟩, k + 1, [0, 1, 2, 3, 4, 5], ⟨⟨rfl, rfl, rfl⟩, ?_⟩, by dsimp only; omega, by dsimp only; omega⟩
              refine ⟨rfl, rfl, rfl, rfl, rfl, rfl, rfl, rfl, rfl, rfl, rfl, rfl, rfl, rfl, rfl, fun j hj => eqC_self, rfl, fun j hj => eqC_self, rfl, fun j hj => eqC_self, rfl, fun j hj => eqC_self, rfl, fun j hj => eqC_bytes (fun i hi => ?_) j, rfl, fun j hj => ⟨rfl, trivial⟩, trivial⟩
              have e : (k : Int).toNat + 0 = k := by omega
              have e2 : (16 * ((r + 1 : Nat) : Int) + k).toNat + 0 = 16 * (r + 1) + k := by omega
              rw [e, e2]
              refine upd_bytes (k := k) (g := fun j => if j < k + 1 then rTurnS B key block (r + 1) j else rTurnS B key block r j) (by omega) (congrArg SC.w8 ?_) (fun j hjk => ?_) i hi
              · rw [if_pos (by omega)]
                show _ = (if r + 1 < 10 then rMixAt (rShift B (rTurnS B key block r)) else rShift B (rTurnS B key block r)) k ^^^ rKeys B key (16 * (r + 1) + k)
                rw [if_neg h3]
              · have : j < k + 1 ↔ j < k := by omega
                simp only [this]
            · obtain rfl : k = 16 := by have : ¬ (k : Int) < 16 := of_decide_eq_false h; have hk : k ≤ 16 := hk16; omega
              refine ⟨⟨by omega, by omega⟩, (r + 1, c), [0, 1, 2, 3, 4], ⟨⟨rfl, rfl, rfl⟩, ?_⟩, ⟨by omega, by omega⟩, by dsimp only; omega⟩
              exact ⟨rfl, rfl, rfl, rfl, rfl, rfl, rfl, rfl, rfl, rfl, rfl, fun j hj => eqC_self, rfl, fun j hj => eqC_self, rfl, fun j hj => eqC_self, rfl, fun j hj => eqC_self, rfl, fun j hj => eqC_bytes (f := bytesF 16 _) (fun i hi => (bytesF_lt hi).trans (congrArg SC.w8 (if_pos hi))) j, trivial⟩
      · obtain rfl : r = 10 := by have : ¬ ((r + 1 : Nat) : Int) ≤ 10 := of_decide_eq_false h; omega
        exact ⟨.a (.c (.sl 3 0 0 16 c)), [[.row cb (bytesF 256 B)], [.row ck (bytesF 16 key)], [.row cx (bytesF 16 block)], [.row c (bytesF 16 (rTurnS B key block 10))]], ⟨[0, 1, 2, 4], ⟨rfl, rfl, rfl⟩, rfl, rfl, rfl, rfl, fun j hj => eqC_self, rfl, fun j hj => eqC_self, rfl, fun j hj => eqC_self, rfl, fun j hj => eqC_self, trivial⟩, c, rfl, rfl, hc⟩
end Sx
end Go.Proofs.Ytndlhhhebijknaa
end

section
/-
  The document's field of 2^128. No condition.
-/
namespace Go.Proofs.Ytndlhhhebijknaa
set_option linter.unusedVariables false
namespace Gcm
/-- A bit as a byte. -/
def ofB (b : Bool) : BitVec 8 := if b then 1#8 else 0#8
theorem ofB_xor (a b : Bool) : ofB (a ^^ b) = ofB a ^^^ ofB b := by cases a <;> cases b <;> rfl
theorem ofB_and (a b : Bool) : ofB (a && b) = ofB a &&& ofB b := by cases a <;> cases b <;> rfl
theorem ofB_not (a : Bool) : ofB (!a) = ofB a ^^^ 1#8 := by cases a <;> rfl
theorem bit1 : ∀ (t : Nat), t < 8 → ∀ y : BitVec 8, y >>> (7 - t) &&& 1#8 = ofB (y.getMsbD t) := by
  intro t ht y
  apply BitVec.eq_of_getLsbD_eq
  intro i hi
  simp only [BitVec.getLsbD_and, BitVec.getLsbD_ushiftRight, BitVec.getMsbD, ht, decide_true, Bool.true_and]
  by_cases h0 : i = 0
  · subst h0
    rw [show 7 - t + 0 = 8 - 1 - t by omega]
    cases y.getLsbD (8 - 1 - t) <;> decide
  · have h1 : (1#8).getLsbD i = false := by
      have : ∀ i, i < 8 → i ≠ 0 → (1#8).getLsbD i = false := by decide
      exact this i hi h0
    rw [h1, Bool.and_false]
    cases y.getLsbD (8 - 1 - t)
    · simp [ofB]
    · simp only [ofB, if_true]; exact h1.symm
def oS (P : Nat → Bool) : Nat → Nat → BitVec 8
  | 0, _ => 0#8
  | m + 1, q => if q = m / 8 then oS P m q ||| ofB (P m) <<< (7 - m % 8) else oS P m q
theorem shl_bit (b : Bool) {s t : Nat} (hs : s < 8) (ht : t < 8) : (ofB b <<< (7 - s)).getMsbD t = (decide (t = s) && b) := by
  cases b
  · have : ∀ s, s < 8 → ∀ t, t < 8 → (ofB false <<< (7 - s)).getMsbD t = (decide (t = s) && false) := by decide
    exact this s hs t ht
  · have : ∀ s, s < 8 → ∀ t, t < 8 → (ofB true <<< (7 - s)).getMsbD t = (decide (t = s) && true) := by decide
    exact this s hs t ht
theorem oS_bit (P : Nat → Bool) {q t : Nat} (ht : t < 8) : ∀ m, (oS P m q).getMsbD t = (decide (8 * q + t < m) && P (8 * q + t))
  | 0 => by simp [oS]
  | m + 1 => by
    simp only [oS]
    by_cases h : q = m / 8
    · rw [if_pos h, BitVec.getMsbD_or, oS_bit P ht m, shl_bit _ (by omega) ht]
      by_cases h2 : t = m % 8
      · have h3 : 8 * q + t = m := by omega
        rw [h3]
        simp [h2]
      · have h3 : 8 * q + t < m ↔ 8 * q + t < m + 1 := by omega
        simp [h2, h3]
    · rw [if_neg h, oS_bit P ht m]
      have h3 : 8 * q + t < m ↔ 8 * q + t < m + 1 := by omega
      simp only [h3]
theorem oS_byE {P : Nat → Bool} {e : E} (h : ∀ j, j < 128 → P j = e.getMsbD j) {q : Nat} (hq : q < 16) : oS P 128 q = byE e q := by
  apply BitVec.eq_of_getMsbD_eq
  intro t ht
  rw [oS_bit P ht, byE_bit _ hq ht, decide_eq_true (show 8 * q + t < 128 by omega), Bool.true_and, h _ (by omega)]
end Gcm
namespace Sx
open Aes Gcm Sha

set_option maxRecDepth 20000 in
theorem fn_rbit (N c k : Nat) (x : Nat → BitVec 8) (hN : 16 ≤ N) (hk : k < 128) : FnR Try.prog tds 90 1 [[.row N (bytesF 16 x)]] [.c (.sl 0 0 0 16 c), .c (.int .i64 (k : Int))] (fun _ => True)
    (fun y hs => y = .a (.c (.w8 (ofB ((toE x).getMsbD k)))) ∧ hs = [[.row N (bytesF 16 x)]]) := by
  refine fn_of_body tds_ok follows_ Try.func90 rfl (t := [.a (.c (.sl 0 0 0 16 c)), .a (.c (.int .i64 (↑k))), .any, .any, .any, .any, .any, .any, .any, .any, .any, .any, .any, .any, .any]) rfl (fun w r0 hr _ => ?_)
  obtain ⟨x0, rfl⟩ := List.length_eq_one_iff.1 hr
  (repeat first | refine And.intro (by omega) ?_ | refine And.intro (by decide) ?_ | (with_reducible refine frc_parts (by first | omega | decide) ?_) | (with_reducible refine frc_bytesL (by first | omega | decide) ?_) | refine And.intro rfl ?_)
  refine ⟨.a (.c (.w8 (ofB ((toE x).getMsbD k)))), [[.row N (bytesF 16 x)]], ⟨[0], ⟨rfl, rfl, rfl⟩, ?_⟩, rfl, rfl⟩
  have e1 : ((k : Int) / 8).toNat + 0 = k / 8 := by omega
  have e2 : (7 - (k : Int) % 8).toNat = 7 - k % 8 := by omega
  refine ⟨?_, ?_⟩
  · rw [e1, e2, bit1 _ (by omega), toE_bit _ hk]
  · (repeat first | exact trivial | refine ⟨rfl, ?_⟩ | refine ⟨fun _ _ => ⟨rfl, trivial⟩, ?_⟩ | refine ⟨fun _ _ => trivial, ?_⟩ | refine ⟨by omega, ?_⟩ | refine ⟨fun _ _ => eqC_winS, ?_⟩ | refine ⟨fun _ _ => eqC_winM, ?_⟩ | refine ⟨fun _ _ => eqC_winB, ?_⟩ | refine ⟨fun _ _ => eqC_selfB, ?_⟩ | refine ⟨fun _ _ => eqC_mpB, ?_⟩)
abbrev rowE (e : E) : List Seg := [.row 16 fun i => .w8 (byE e i)]
set_option maxRecDepth 20000 in
set_option maxHeartbeats 2000000 in
theorem fn_product (Na Nb ca cb : Nat) (x y : Nat → BitVec 8) (M : E) (hM : mul (toE x) (toE y) = M) (hNa : 16 ≤ Na) (hNb : 16 ≤ Nb) : FnR Try.prog tds 78 2 [[.row Na (bytesF 16 x)], [.row Nb (bytesF 16 y)]] [.c (.sl 0 0 0 16 ca), .c (.sl 1 0 0 16 cb)] (fun _ => True)
    (fun z hs => z = .a (.c (.sl 2 0 0 16 16)) ∧ hs = [[.row Na (bytesF 16 x)], [.row Nb (bytesF 16 y)], rowE M]) := by
  refine fn_of_body tds_ok follows_ Try.func78 rfl (t := [.a (.c (.sl 0 0 0 16 ca)), .a (.c (.sl 1 0 0 16 cb)), .any, .any, .any, .any, .any, .any, .any, .any, .any, .any, .any, .any, .any, .any, .any, .any, .any, .any, .any, .any, .any, .any, .any, .any, .any, .any, .any, .any, .any, .any, .any, .any, .any, .any, .any, .any, .any, .any, .any, .any, .any, .any, .any, .any, .any, .any, .any, .any, .any, .any, .any, .any, .any, .any, .any, .any, .any, .any, .any, .any, .any, .any, .any, .any, .any, .any, .any, .any, .any, .any, .any, .any, .any, .any, .any, .any, .any, .any, .any, .any, .any, .any, .any, .any, .any, .any, .any, .any, .any, .any, .any, .any, .any, .any, .any, .any, .any]) rfl (fun w r0 hr _ => ?_)
  obtain ⟨x0, x1, rfl⟩ := len2s hr
  obtain ⟨A, hA⟩ : ∃ A, (toE x).getMsbD = A := ⟨_, rfl⟩
  obtain ⟨B, hB⟩ : ∃ B, (toE y).getMsbD = B := ⟨_, rfl⟩
  obtain ⟨O, hO⟩ : ∃ O, pO A B = O := ⟨_, rfl⟩
  have hO0 : O 0 = fun _ => false := by rw [← hO]; rfl
  obtain ⟨R, hR⟩ : ∃ R, rS (O 128) = R := ⟨_, rfl⟩
  have hR0 : R 0 = O 128 := by rw [← hR]; rfl
  have hRs : ∀ m j, R (m + 1) j = (R m j ^^ (R m (254 - m) && cAt m j)) := fun m j => by rw [← hR]; rfl
  have hbA : ∀ k : Nat, k < 128 → FnR Try.prog tds 90 1 [[.row Na (bytesF 16 x)]] [.c (.sl 0 0 0 16 ca), .c (.int .i64 (k : Int))] (fun _ => True) (fun y hs => y = .a (.c (.w8 (ofB (A k)))) ∧ hs = [[.row Na (bytesF 16 x)]]) := fun k hk => by rw [← hA]; exact fn_rbit Na ca k x hNa hk
  have hbB : ∀ k : Nat, k < 128 → FnR Try.prog tds 90 1 [[.row Nb (bytesF 16 y)]] [.c (.sl 0 0 0 16 cb), .c (.int .i64 (k : Int))] (fun _ => True) (fun z hs => z = .a (.c (.w8 (ofB (B k)))) ∧ hs = [[.row Nb (bytesF 16 y)]]) := fun k hk => by rw [← hB]; exact fn_rbit Nb cb k y hNb hk
  refine .inl ⟨Nat, fun i => ⟨[.a (.c (.sl 0 0 0 16 ca)), .a (.c (.sl 1 0 0 16 cb)), .any, .any, .any, .a (.c (.p 2 0 0)), .a (.c (.int .i64 (↑i))), .any, .any, .any, .any, .any, .any, .any, .any, .any, .any, .any, .any, .any, .any, .any, .any, .any, .any, .any, .any, .any, .any, .any, .any, .any, .any, .any, .any, .any, .any, .any, .any, .any, .any, .any, .any, .any, .any, .any, .any, .any, .any, .any, .any, .any, .any, .any, .any, .any, .any, .any, .any, .any, .any, .any, .any, .any, .any, .any, .any, .any, .any, .any, .any, .any, .any, .any, .any, .any, .any, .any, .any, .any, .any, .any, .any, .any, .any, .any, .any, .any, .any, .any, .any, .any, .any, .any, .any, .any, .any, .any, .any], [[.row Na (bytesF 16 x)], [.row Nb (bytesF 16 y)], [.row 256 fun j => .w8 (ofB (O i j))]]⟩, fun i => i ≤ 128, fun i => 128 - i, ⟨0, [0, 1, 2], ⟨⟨rfl, rfl, rfl⟩, ?_⟩, by omega⟩, fun i hi => ⟨fun h => ?_, fun h => ?_⟩⟩
  · (repeat first | exact trivial | refine ⟨rfl, ?_⟩ | refine ⟨fun _ _ => ⟨rfl, trivial⟩, ?_⟩ | refine ⟨fun _ _ => trivial, ?_⟩ | refine ⟨by omega, ?_⟩ | refine ⟨fun _ _ => eqC_winS, ?_⟩ | refine ⟨fun _ _ => eqC_winM, ?_⟩ | refine ⟨fun _ _ => eqC_winB, ?_⟩ | refine ⟨fun _ _ => eqC_selfB, ?_⟩ | refine ⟨fun _ _ => eqC_mpB, ?_⟩)
    refine ⟨fun j hj => eqC_w8 (congrArg SC.w8 ?_), trivial⟩
    rw [hO0]; rfl
  · have hlt : i < 128 := by have : (i : Int) < 128 := of_decide_eq_true h; omega
    obtain ⟨Q, hQ⟩ : ∃ Q, (fun k => pI A B i k (O i)) = Q := ⟨_, rfl⟩
    have hQ0 : Q 0 = O i := by
      rw [← hQ]
      funext j
      show pI A B i 0 (O i) j = _
      unfold pI
      rw [decide_eq_false (by omega), Bool.false_and, Bool.xor_false]
    have hQ1 : Q 128 = O (i + 1) := by rw [← hQ, ← hO]; rfl
    have hQs : ∀ k j, Q (k + 1) j = if j = i + k then Q k j ^^ (A i && B k) else Q k j := fun k j => by
      rw [← hQ]
      show pI A B i (k + 1) (O i) j = if j = i + k then pI A B i k (O i) j ^^ (A i && B k) else pI A B i k (O i) j
      unfold pI
      by_cases hj : j = i + k
      · rw [if_pos hj, decide_eq_true (by omega), decide_eq_false (by omega), Bool.false_and, Bool.xor_false, Bool.true_and, show j - i = k by omega]
      · rw [if_neg hj]
        have : (i ≤ j ∧ j < i + (k + 1)) ↔ (i ≤ j ∧ j < i + k) := by omega
        simp only [this]
    refine .inl ⟨Nat, fun k => ⟨[.a (.c (.sl 0 0 0 16 ca)), .a (.c (.sl 1 0 0 16 cb)), .any, .any, .any, .a (.c (.p 2 0 0)), .a (.c (.int .i64 (↑i))), .a (.c (.int .i64 (↑k))), .any, .any, .any, .any, .any, .any, .any, .any, .any, .any, .any, .any, .any, .any, .any, .any, .any, .any, .any, .any, .any, .any, .any, .any, .any, .any, .any, .any, .any, .any, .any, .any, .any, .any, .any, .any, .any, .any, .any, .any, .any, .any, .any, .any, .any, .any, .any, .any, .any, .any, .any, .any, .any, .any, .any, .any, .any, .any, .any, .any, .any, .any, .any, .any, .any, .any, .any, .any, .any, .any, .any, .any, .any, .any, .any, .any, .any, .any, .any, .any, .any, .any, .any, .any, .any, .any, .any, .any, .any, .any, .any], [[.row Na (bytesF 16 x)], [.row Nb (bytesF 16 y)], [.row 256 fun j => .w8 (ofB (Q k j))]]⟩, fun k => k ≤ 128, fun k => 128 - k, ⟨0, [0, 1, 2], ⟨⟨rfl, rfl, rfl⟩, ?_⟩, by omega⟩, fun k hk => ⟨fun h => ?_, fun h => ?_⟩⟩
    · (repeat first | exact trivial | refine ⟨rfl, ?_⟩ | refine ⟨fun _ _ => ⟨rfl, trivial⟩, ?_⟩ | refine ⟨fun _ _ => trivial, ?_⟩ | refine ⟨by omega, ?_⟩ | refine ⟨fun _ _ => eqC_winS, ?_⟩ | refine ⟨fun _ _ => eqC_winM, ?_⟩ | refine ⟨fun _ _ => eqC_winB, ?_⟩ | refine ⟨fun _ _ => eqC_selfB, ?_⟩ | refine ⟨fun _ _ => eqC_mpB, ?_⟩)
      refine ⟨fun j hj => eqC_w8 (congrArg SC.w8 ?_), trivial⟩
      rw [hQ0]
    · have hlk : k < 128 := by have : (k : Int) < 128 := of_decide_eq_true h; omega
      refine ⟨none, [], [(0, true), (1, true), (2, true), (3, true), (4, true), (5, true), (6, true), (7, true), (8, true), (9, true), (11, true), (12, true), (10, false), (13, false), (14, true), (15, true), (16, true)], [17], by kernel_rfl, ?_⟩
      (repeat first | refine And.intro (by omega) ?_ | refine And.intro (by decide) ?_ | (with_reducible refine frc_parts (by first | omega | decide) ?_) | (with_reducible refine frc_bytesL (by first | omega | decide) ?_) | refine And.intro rfl ?_)
      refine call_same (hbA i hlt) [0] rfl (by (repeat first | exact trivial | refine ⟨rfl, ?_⟩ | refine ⟨fun _ _ => ⟨rfl, trivial⟩, ?_⟩ | refine ⟨fun _ _ => trivial, ?_⟩ | refine ⟨by omega, ?_⟩ | refine ⟨fun _ _ => eqC_winS, ?_⟩ | refine ⟨fun _ _ => eqC_winM, ?_⟩ | refine ⟨fun _ _ => eqC_winB, ?_⟩ | refine ⟨fun _ _ => eqC_selfB, ?_⟩ | refine ⟨fun _ _ => eqC_mpB, ?_⟩)) (by (repeat first | exact trivial | refine ⟨rfl, ?_⟩ | refine ⟨fun _ _ => ⟨rfl, trivial⟩, ?_⟩ | refine ⟨fun _ _ => trivial, ?_⟩ | refine ⟨by omega, ?_⟩ | refine ⟨fun _ _ => eqC_winS, ?_⟩ | refine ⟨fun _ _ => eqC_winM, ?_⟩ | refine ⟨fun _ _ => eqC_winB, ?_⟩ | refine ⟨fun _ _ => eqC_selfB, ?_⟩ | refine ⟨fun _ _ => eqC_mpB, ?_⟩)) (fun _ _ => trivial) ?_
      rintro x hs ⟨rfl, rfl⟩
      (repeat first | refine And.intro (by omega) ?_ | refine And.intro (by decide) ?_ | (with_reducible refine frc_parts (by first | omega | decide) ?_) | (with_reducible refine frc_bytesL (by first | omega | decide) ?_) | refine And.intro rfl ?_)
      refine call_same (hbB k hlk) [1] rfl (by (repeat first | exact trivial | refine ⟨rfl, ?_⟩ | refine ⟨fun _ _ => ⟨rfl, trivial⟩, ?_⟩ | refine ⟨fun _ _ => trivial, ?_⟩ | refine ⟨by omega, ?_⟩ | refine ⟨fun _ _ => eqC_winS, ?_⟩ | refine ⟨fun _ _ => eqC_winM, ?_⟩ | refine ⟨fun _ _ => eqC_winB, ?_⟩ | refine ⟨fun _ _ => eqC_selfB, ?_⟩ | refine ⟨fun _ _ => eqC_mpB, ?_⟩)) (by (repeat first | exact trivial | refine ⟨rfl, ?_⟩ | refine ⟨fun _ _ => ⟨rfl, trivial⟩, ?_⟩ | refine ⟨fun _ _ => trivial, ?_⟩ | refine ⟨by omega, ?_⟩ | refine ⟨fun _ _ => eqC_winS, ?_⟩ | refine ⟨fun _ _ => eqC_winM, ?_⟩ | refine ⟨fun _ _ => eqC_winB, ?_⟩ | refine ⟨fun _ _ => eqC_selfB, ?_⟩ | refine ⟨fun _ _ => eqC_mpB, ?_⟩)) (fun _ _ => trivial) ?_
      rintro x hs ⟨rfl, rfl⟩
      (repeat first | refine And.intro (by omega) ?_ | refine And.intro (by decide) ?_ | (with_reducible refine frc_parts (by first | omega | decide) ?_) | (with_reducible refine frc_bytesL (by first | omega | decide) ?_) | refine And.intro rfl ?_)
      refine ⟨k + 1, [0, 1, 2], ⟨⟨rfl, rfl, rfl⟩, ?_⟩, by dsimp only; omega, by dsimp only; omega⟩
      (repeat first | exact trivial | refine ⟨rfl, ?_⟩ | refine ⟨fun _ _ => ⟨rfl, trivial⟩, ?_⟩ | refine ⟨fun _ _ => trivial, ?_⟩ | refine ⟨by omega, ?_⟩ | refine ⟨fun _ _ => eqC_winS, ?_⟩ | refine ⟨fun _ _ => eqC_winM, ?_⟩ | refine ⟨fun _ _ => eqC_winB, ?_⟩ | refine ⟨fun _ _ => eqC_selfB, ?_⟩ | refine ⟨fun _ _ => eqC_mpB, ?_⟩)
      refine ⟨fun j hj => eqC_w8 ?_, trivial⟩
      have e1 : ((i : Int) + (k : Int)).toNat + 0 = i + k := by omega
      rw [e1]
      refine (upd_w8 (g := fun j => .w8 (ofB (Q (k + 1) j))) ?_ (fun j hj => ?_) j)
      · rw [hQs, if_pos rfl, ofB_xor, ofB_and]
      · rw [hQs, if_neg hj]
    · obtain rfl : k = 128 := by have : ¬ (k : Int) < 128 := of_decide_eq_false h; have hk : k ≤ 128 := hk; omega
      (repeat first | refine And.intro (by omega) ?_ | refine And.intro (by decide) ?_ | (with_reducible refine frc_parts (by first | omega | decide) ?_) | (with_reducible refine frc_bytesL (by first | omega | decide) ?_) | refine And.intro rfl ?_)
      refine ⟨i + 1, [0, 1, 2], ⟨⟨rfl, rfl, rfl⟩, ?_⟩, by dsimp only; omega, by dsimp only; omega⟩
      (repeat first | exact trivial | refine ⟨rfl, ?_⟩ | refine ⟨fun _ _ => ⟨rfl, trivial⟩, ?_⟩ | refine ⟨fun _ _ => trivial, ?_⟩ | refine ⟨by omega, ?_⟩ | refine ⟨fun _ _ => eqC_winS, ?_⟩ | refine ⟨fun _ _ => eqC_winM, ?_⟩ | refine ⟨fun _ _ => eqC_winB, ?_⟩ | refine ⟨fun _ _ => eqC_selfB, ?_⟩ | refine ⟨fun _ _ => eqC_mpB, ?_⟩)
      refine ⟨fun j hj => eqC_w8 (congrArg SC.w8 ?_), trivial⟩
      rw [hQ1]
  · obtain rfl : i = 128 := by have : ¬ (i : Int) < 128 := of_decide_eq_false h; have hi : i ≤ 128 := hi; omega
    refine .inl ⟨Nat, fun m => ⟨[.any, .any, .any, .any, .any, .a (.c (.p 2 0 0)), .any, .any, .a (.c (.int .i64 ((254 - (m : Int))))), .any, .any, .any, .any, .any, .any, .any, .any, .any, .any, .any, .any, .any, .any, .any, .any, .any, .any, .any, .any, .any, .any, .any, .any, .any, .any, .any, .any, .any, .any, .any, .any, .any, .any, .any, .any, .any, .any, .any, .any, .any, .any, .any, .any, .any, .any, .any, .any, .any, .any, .any, .any, .any, .any, .any, .any, .any, .any, .any, .any, .any, .any, .any, .any, .any, .any, .any, .any, .any, .any, .any, .any, .any, .any, .any, .any, .any, .any, .any, .any, .any, .any, .any, .any, .any, .any, .any, .any, .any, .any], [[.row Na (bytesF 16 x)], [.row Nb (bytesF 16 y)], [.row 256 fun j => .w8 (ofB (R m j))]]⟩, fun m => m ≤ 127, fun m => 127 - m, ⟨0, [0, 1, 2], ⟨⟨rfl, rfl, rfl⟩, ?_⟩, by omega⟩, fun m hm => ⟨fun h => ?_, fun h => ?_⟩⟩
    · (repeat first | exact trivial | refine ⟨rfl, ?_⟩ | refine ⟨fun _ _ => ⟨rfl, trivial⟩, ?_⟩ | refine ⟨fun _ _ => trivial, ?_⟩ | refine ⟨by omega, ?_⟩ | refine ⟨fun _ _ => eqC_winS, ?_⟩ | refine ⟨fun _ _ => eqC_winM, ?_⟩ | refine ⟨fun _ _ => eqC_winB, ?_⟩ | refine ⟨fun _ _ => eqC_selfB, ?_⟩ | refine ⟨fun _ _ => eqC_mpB, ?_⟩)
      refine ⟨fun j hj => eqC_w8 (congrArg SC.w8 ?_), trivial⟩
      rw [hR0]
    · have hlt : m < 127 := by have : (128 : Int) ≤ 254 - (m : Int) := of_decide_eq_true h; omega
      have e1 : (254 - (m : Int)).toNat + 0 = 254 - m := by omega
      have f1 : (254 - (m : Int) - 128).toNat + 0 = 126 - m := by omega
      have f2 : (254 - (m : Int) - 127).toNat + 0 = 127 - m := by omega
      have f3 : (254 - (m : Int) - 126).toNat + 0 = 128 - m := by omega
      have f4 : (254 - (m : Int) - 121).toNat + 0 = 133 - m := by omega
      (repeat first | refine And.intro (by omega) ?_ | refine And.intro (by decide) ?_ | (with_reducible refine frc_parts (by first | omega | decide) ?_) | (with_reducible refine frc_bytesL (by first | omega | decide) ?_) | refine And.intro rfl ?_)
      cases hb : R m (254 - m) with
      | true =>
        have e0 : decide (ofB (R m ((254 - (m : Int)).toNat + 0)) = 1#8) = true := decide_eq_true (by rw [e1, hb]; rfl)
        (repeat first | refine ⟨fun _ => ?_, fun h => absurd h (by rw [e0]; decide)⟩ | refine ⟨fun h => absurd h (by rw [e0]; decide), fun _ => ?_⟩ | refine ⟨fun _ => ?_, fun h => Bool.noConfusion h⟩ | refine ⟨fun h => Bool.noConfusion h, fun _ => ?_⟩)
        (repeat first | refine And.intro (by omega) ?_ | refine And.intro (by decide) ?_ | (with_reducible refine frc_parts (by first | omega | decide) ?_) | (with_reducible refine frc_bytesL (by first | omega | decide) ?_) | refine And.intro rfl ?_)
        refine frc_upd (by omega) ?_
        (repeat first | refine And.intro (by omega) ?_ | refine And.intro (by decide) ?_ | (with_reducible refine frc_parts (by first | omega | decide) ?_) | (with_reducible refine frc_bytesL (by first | omega | decide) ?_) | refine And.intro rfl ?_)
        refine frc_upd (by omega) ?_
        refine frc_upd (by omega) ?_
        (repeat first | refine And.intro (by omega) ?_ | refine And.intro (by decide) ?_ | (with_reducible refine frc_parts (by first | omega | decide) ?_) | (with_reducible refine frc_bytesL (by first | omega | decide) ?_) | refine And.intro rfl ?_)
        refine frc_upd (by omega) ?_
        refine frc_upd (by omega) ?_
        refine frc_upd (by omega) ?_
        (repeat first | refine And.intro (by omega) ?_ | refine And.intro (by decide) ?_ | (with_reducible refine frc_parts (by first | omega | decide) ?_) | (with_reducible refine frc_bytesL (by first | omega | decide) ?_) | refine And.intro rfl ?_)
        refine ⟨m + 1, [0, 1, 2], ⟨⟨rfl, rfl, rfl⟩, ?_⟩, by dsimp only; omega, by dsimp only; omega⟩
        (repeat first | exact trivial | refine ⟨rfl, ?_⟩ | refine ⟨fun _ _ => ⟨rfl, trivial⟩, ?_⟩ | refine ⟨fun _ _ => trivial, ?_⟩ | refine ⟨by omega, ?_⟩ | refine ⟨fun _ _ => eqC_winS, ?_⟩ | refine ⟨fun _ _ => eqC_winM, ?_⟩ | refine ⟨fun _ _ => eqC_winB, ?_⟩ | refine ⟨fun _ _ => eqC_selfB, ?_⟩ | refine ⟨fun _ _ => eqC_mpB, ?_⟩)
        refine ⟨fun j hj => eqC_w8 ?_, trivial⟩
        rw [f1, f2, f3, f4]
        have key : ∀ a, (a = 126 - m ∨ a = 127 - m ∨ a = 128 - m ∨ a = 133 - m) → SC.w8 (ofB (R m a) ^^^ 1#8) = SC.w8 (ofB (R (m + 1) a)) := fun a ha => by
          rw [hRs, hb, Bool.true_and]
          unfold cAt
          rw [decide_eq_true ha, Bool.xor_true, ofB_not]
        unfold upd
        by_cases h4 : j = 133 - m
        · rw [if_pos h4, h4]; exact key _ (by omega)
        rw [if_neg h4]
        by_cases h3 : j = 128 - m
        · rw [if_pos h3, h3]; exact key _ (by omega)
        rw [if_neg h3]
        by_cases h2 : j = 127 - m
        · rw [if_pos h2, h2]; exact key _ (by omega)
        rw [if_neg h2]
        by_cases h1 : j = 126 - m
        · rw [if_pos h1, h1]; exact key _ (by omega)
        rw [if_neg h1, hRs]
        unfold cAt
        rw [decide_eq_false (by omega), Bool.and_false, Bool.xor_false]
      | false =>
        have e0 : decide (ofB (R m ((254 - (m : Int)).toNat + 0)) = 1#8) = false := decide_eq_false (by rw [e1, hb]; decide)
        (repeat first | refine ⟨fun _ => ?_, fun h => absurd h (by rw [e0]; decide)⟩ | refine ⟨fun h => absurd h (by rw [e0]; decide), fun _ => ?_⟩ | refine ⟨fun _ => ?_, fun h => Bool.noConfusion h⟩ | refine ⟨fun h => Bool.noConfusion h, fun _ => ?_⟩)
        (repeat first | refine And.intro (by omega) ?_ | refine And.intro (by decide) ?_ | (with_reducible refine frc_parts (by first | omega | decide) ?_) | (with_reducible refine frc_bytesL (by first | omega | decide) ?_) | refine And.intro rfl ?_)
        refine ⟨m + 1, [0, 1, 2], ⟨⟨rfl, rfl, rfl⟩, ?_⟩, by dsimp only; omega, by dsimp only; omega⟩
        (repeat first | exact trivial | refine ⟨rfl, ?_⟩ | refine ⟨fun _ _ => ⟨rfl, trivial⟩, ?_⟩ | refine ⟨fun _ _ => trivial, ?_⟩ | refine ⟨by omega, ?_⟩ | refine ⟨fun _ _ => eqC_winS, ?_⟩ | refine ⟨fun _ _ => eqC_winM, ?_⟩ | refine ⟨fun _ _ => eqC_winB, ?_⟩ | refine ⟨fun _ _ => eqC_selfB, ?_⟩ | refine ⟨fun _ _ => eqC_mpB, ?_⟩)
        refine ⟨fun j hj => eqC_w8 (congrArg SC.w8 ?_), trivial⟩
        rw [hRs, hb, Bool.false_and, Bool.xor_false]
    · obtain rfl : m = 127 := by have : ¬ (128 : Int) ≤ 254 - (m : Int) := of_decide_eq_false h; have hm : m ≤ 127 := hm; omega
      obtain ⟨S, hS⟩ : ∃ S, oS (R 127) = S := ⟨_, rfl⟩
      have hS0 : S 0 = fun _ => 0#8 := by rw [← hS]; rfl
      have hSs : ∀ m q, S (m + 1) q = if q = m / 8 then S m q ||| ofB (R 127 m) <<< (7 - m % 8) else S m q := fun m q => by rw [← hS]; rfl
      (repeat first | refine And.intro (by omega) ?_ | refine And.intro (by decide) ?_ | (with_reducible refine frc_parts (by first | omega | decide) ?_) | (with_reducible refine frc_bytesL (by first | omega | decide) ?_) | refine And.intro rfl ?_)
      refine .inl ⟨Nat, fun m => ⟨[.any, .any, .any, .any, .any, .a (.c (.p 2 0 0)), .any, .any, .any, .a (.c (.sl 3 0 0 16 16)), .a (.c (.int .i64 (↑m))), .any, .any, .any, .any, .any, .any, .any, .any, .any, .any, .any, .any, .any, .any, .any, .any, .any, .any, .any, .any, .any, .any, .any, .any, .any, .any, .any, .any, .any, .any, .any, .any, .any, .any, .any, .any, .any, .any, .any, .any, .any, .any, .any, .any, .any, .any, .any, .any, .any, .any, .any, .any, .any, .any, .any, .any, .any, .any, .any, .any, .any, .any, .any, .any, .any, .any, .any, .any, .any, .any, .any, .any, .any, .any, .any, .any, .any, .any, .any, .any, .any, .any, .any, .any, .any, .any, .any, .any], [[.row Na (bytesF 16 x)], [.row Nb (bytesF 16 y)], [.row 256 fun j => .w8 (ofB (R 127 j))], [.row 16 fun q => .w8 (S m q)]]⟩, fun m => m ≤ 128, fun m => 128 - m, ⟨0, [0, 1, 2, 3], ⟨⟨rfl, rfl, rfl⟩, ?_⟩, by omega⟩, fun m hm => ⟨fun h => ?_, fun h => ?_⟩⟩
      · (repeat first | exact trivial | refine ⟨rfl, ?_⟩ | refine ⟨fun _ _ => ⟨rfl, trivial⟩, ?_⟩ | refine ⟨fun _ _ => trivial, ?_⟩ | refine ⟨by omega, ?_⟩ | refine ⟨fun _ _ => eqC_winS, ?_⟩ | refine ⟨fun _ _ => eqC_winM, ?_⟩ | refine ⟨fun _ _ => eqC_winB, ?_⟩ | refine ⟨fun _ _ => eqC_selfB, ?_⟩ | refine ⟨fun _ _ => eqC_mpB, ?_⟩)
        refine ⟨fun j hj => eqC_w8 (congrArg SC.w8 ?_), trivial⟩
        rw [hS0]; rfl
      · have hlt : m < 128 := by have : (m : Int) < 128 := of_decide_eq_true h; omega
        refine ⟨none, [], [(0, true), (1, true), (2, true), (3, true), (4, true), (5, true), (6, true), (7, true), (8, true), (9, true), (10, true), (11, true), (12, true), (13, true), (14, true), (15, true), (16, true)], [17], by kernel_rfl, ?_⟩
        (repeat first | refine And.intro (by omega) ?_ | refine And.intro (by decide) ?_ | (with_reducible refine frc_parts (by first | omega | decide) ?_) | (with_reducible refine frc_bytesL (by first | omega | decide) ?_) | refine And.intro rfl ?_)
        refine ⟨m + 1, [0, 1, 2, 3], ⟨⟨rfl, rfl, rfl⟩, ?_⟩, by dsimp only; omega, by dsimp only; omega⟩
        (repeat first | exact trivial | refine ⟨rfl, ?_⟩ | refine ⟨fun _ _ => ⟨rfl, trivial⟩, ?_⟩ | refine ⟨fun _ _ => trivial, ?_⟩ | refine ⟨by omega, ?_⟩ | refine ⟨fun _ _ => eqC_winS, ?_⟩ | refine ⟨fun _ _ => eqC_winM, ?_⟩ | refine ⟨fun _ _ => eqC_winB, ?_⟩ | refine ⟨fun _ _ => eqC_selfB, ?_⟩ | refine ⟨fun _ _ => eqC_mpB, ?_⟩)
        refine ⟨fun j hj => eqC_w8 ?_, trivial⟩
        have e1 : ((m : Int) / 8).toNat + 0 = m / 8 := by omega
        have e2 : (7 - (m : Int) % 8).toNat = 7 - m % 8 := by omega
        have e3 : (m : Int).toNat + 0 = m := by omega
        rw [e1, e2, e3]
        refine (upd_w8 (g := fun q => .w8 (S (m + 1) q)) ?_ (fun q hq => ?_) j)
        · rw [hSs, if_pos rfl]
        · rw [hSs, if_neg hq]
      · obtain rfl : m = 128 := by have : ¬ (m : Int) < 128 := of_decide_eq_false h; have hm : m ≤ 128 := hm; omega
        refine ⟨.a (.c (.sl 2 0 0 16 16)), [[.row Na (bytesF 16 x)], [.row Nb (bytesF 16 y)], rowE M], ⟨[0, 1, 3], ⟨rfl, rfl, rfl⟩, ?_⟩, rfl, rfl⟩
        (repeat first | exact trivial | refine ⟨rfl, ?_⟩ | refine ⟨fun _ _ => ⟨rfl, trivial⟩, ?_⟩ | refine ⟨fun _ _ => trivial, ?_⟩ | refine ⟨by omega, ?_⟩ | refine ⟨fun _ _ => eqC_winS, ?_⟩ | refine ⟨fun _ _ => eqC_winM, ?_⟩ | refine ⟨fun _ _ => eqC_winB, ?_⟩ | refine ⟨fun _ _ => eqC_selfB, ?_⟩ | refine ⟨fun _ _ => eqC_mpB, ?_⟩)
        refine ⟨fun j hj => eqC_w8 (congrArg SC.w8 ?_), trivial⟩
        rw [← hS]
        refine oS_byE (fun j hj => ?_) hj
        rw [← hR, ← hO, ← hA, ← hB, product_eq _ _ _ hj, hM]
theorem partB_xor (l : Bs) (k : Nat) (e : E) : toE (fun i => byE e i ^^^ partB l k i) = e ^^^ toE (partB l k) := by rw [toE_xor, toE_byE]
set_option maxRecDepth 20000 in
set_option maxHeartbeats 2000000 in
/-- Bytes gone over; where nothing is gone over it is what was there. -/
theorem fn_over (z : Bool) (Nh Ne N o n ch ce c : Nat) (hb eb : Nat → BitVec 8) (H e M : E) (l : Bs) (hH : toE hb = H) (he : toE eb = e) (hM : hL H e l = M) (hNh : 16 ≤ Nh) (hNe : 16 ≤ Ne) (hl : l.length = n) (hN : o + n ≤ N) (hc : n ≤ c) (hz : z = true → n = 0) (hn : n ≤ 1000000) :
    FnR Try.prog tds 58 3 [[.row Nh (bytesF 16 hb)], [.row Ne (bytesF 16 eb)], bts z N o n (L l)] [.c (.sl 0 0 0 16 ch), .c (.sl 1 0 0 16 ce), .c (.sn z 2 0 o n c)] (fun _ => True)
      (fun x hs => (n = 0 → x = .a (.c (.sl 1 0 0 16 ce)) ∧ hs = [[.row Nh (bytesF 16 hb)], [.row Ne (bytesF 16 eb)], bts z N o n (L l)]) ∧
        (0 < n → x = .a (.c (.sl 3 0 0 16 16)) ∧ hs = [[.row Nh (bytesF 16 hb)], [.row Ne (bytesF 16 eb)], bts z N o n (L l), rowE M])) := by
  refine fn_of_body tds_ok follows_ Try.func58 rfl (t := [.a (.c (.sl 0 0 0 16 ch)), .a (.c (.sl 1 0 0 16 ce)), .a (.c (.sn z 2 0 o n c)), .any, .any, .any, .any, .any, .any, .any, .any, .any, .any, .any, .any, .any, .any, .any, .any, .any, .any, .any, .any, .any, .any, .any, .any, .any, .any, .any, .any, .any, .any, .any, .any, .any, .any, .any, .any, .any, .any, .any, .any, .any, .any, .any, .any, .any, .any]) rfl (fun w r0 hr _ => ?_)
  obtain ⟨x0, x1, x2, rfl⟩ := len3' hr
  obtain ⟨G, hG⟩ : ∃ G, hS H e l = G := ⟨_, rfl⟩
  have hG0 : G 0 = e := by rw [← hG]; rfl
  have hGs : ∀ k, G (k + 1) = mul (G k ^^^ toE (partB l k)) H := fun k => by rw [← hG]; rfl
  have hGM : G ((n + 15) / 16) = M := by rw [← hG, ← hM, ← hl]; rfl
  refine .inl ⟨Option Nat, fun x => match x with
    | none => ⟨[.a (.c (.sl 0 0 0 16 ch)), .a (.c (.sl 1 0 0 16 ce)), .a (.c (.sn z 2 0 o n c)), .any, .any, .any, .any, .a (.c (.int .i64 (0))), .any, .any, .any, .any, .any, .any, .any, .any, .any, .any, .any, .any, .any, .any, .any, .any, .any, .any, .any, .any, .any, .any, .any, .any, .any, .any, .any, .any, .any, .any, .any, .any, .any, .any, .any, .any, .any, .any, .any, .any, .any], [[.row Nh (bytesF 16 hb)], [.row Ne (bytesF 16 eb)], bts z N o n (L l)]⟩
    | some k => ⟨[.a (.c (.sl 0 0 0 16 ch)), .a (.c (.sl 3 0 0 16 16)), .a (.c (.sn z 2 0 o n c)), .any, .any, .any, .any, .a (.c (.int .i64 (((16 * (k + 1) : Nat) : Int)))), .any, .any, .any, .any, .any, .any, .any, .any, .any, .any, .any, .any, .any, .any, .any, .any, .any, .any, .any, .any, .any, .any, .any, .any, .any, .any, .any, .any, .any, .any, .any, .any, .any, .any, .any, .any, .any, .any, .any, .any, .any], [[.row Nh (bytesF 16 hb)], [.row Ne (bytesF 16 eb)], bts z N o n (L l), rowE (G (k + 1))]⟩,
    fun x => match x with
    | none => True
    | some k => 16 * k < n, fun x => match x with
    | none => 2000000
    | some k => 1000000 - k, ⟨none, [0, 1, 2], ⟨⟨rfl, rfl, rfl⟩, ?_⟩, trivial⟩, fun x => ?_⟩
  · (repeat first | exact trivial | refine ⟨rfl, ?_⟩ | refine ⟨fun _ _ => ⟨rfl, trivial⟩, ?_⟩ | refine ⟨fun _ _ => trivial, ?_⟩ | refine ⟨by omega, ?_⟩ | refine ⟨fun _ _ => eqC_winS, ?_⟩ | refine ⟨fun _ _ => eqC_winM, ?_⟩ | refine ⟨fun _ _ => eqC_winB, ?_⟩ | refine ⟨fun _ _ => eqC_selfB, ?_⟩ | refine ⟨fun _ _ => eqC_mpB, ?_⟩)
    refine eqC_bts ?_
    (repeat first | exact trivial | refine ⟨rfl, ?_⟩ | refine ⟨fun _ _ => ⟨rfl, trivial⟩, ?_⟩ | refine ⟨fun _ _ => trivial, ?_⟩ | refine ⟨by omega, ?_⟩ | refine ⟨fun _ _ => eqC_winS, ?_⟩ | refine ⟨fun _ _ => eqC_winM, ?_⟩ | refine ⟨fun _ _ => eqC_winB, ?_⟩ | refine ⟨fun _ _ => eqC_selfB, ?_⟩ | refine ⟨fun _ _ => eqC_mpB, ?_⟩)
  rcases x with _ | k
  · intro _
    refine ⟨fun h => ?_, fun h => ?_⟩
    · have hlt : 0 < n := by have : (0 : Int) < n := of_decide_eq_true h; omega
      obtain rfl : z = false := by cases z; rfl; have := hz rfl; omega
      refine ⟨by simp only [scale]; omega, ⟨by decide, by decide, by decide⟩, fun c0 hc0 => ?_⟩
      have hc0' : 16 ≤ c0 := hc0
      refine .inl ⟨Nat, fun i => ⟨[.a (.c (.sl 0 0 0 16 ch)), .any, .a (.c (.sn false 2 0 o n c)), .any, .any, .any, .any, .a (.c (.int .i64 (0))), .a (.c (.sl 3 0 0 16 c0)), .a (.c (.int .i64 (↑i))), .any, .any, .any, .any, .any, .any, .any, .any, .any, .any, .any, .any, .any, .any, .any, .any, .any, .any, .any, .any, .any, .any, .any, .any, .any, .any, .any, .any, .any, .any, .any, .any, .any, .any, .any, .any, .any, .any, .any], [[.row Nh (bytesF 16 hb)], [.row Ne (bytesF 16 eb)], bts false N o n (L l), [.row c0 (bytesF 16 fun j => if j < i then byE (G (0)) j ^^^ partB l (0) j else byE (G (0)) j)]]⟩, fun i => i ≤ 16, fun i => 16 - i, ⟨0, [0, 1, 2, 4], ⟨⟨rfl, rfl, rfl⟩, ?_⟩, by omega⟩, fun i hi => ?_⟩
      · (repeat first | exact trivial | refine ⟨rfl, ?_⟩ | refine ⟨fun _ _ => ⟨rfl, trivial⟩, ?_⟩ | refine ⟨fun _ _ => trivial, ?_⟩ | refine ⟨by omega, ?_⟩ | refine ⟨fun _ _ => eqC_winS, ?_⟩ | refine ⟨fun _ _ => eqC_winM, ?_⟩ | refine ⟨fun _ _ => eqC_winB, ?_⟩ | refine ⟨fun _ _ => eqC_selfB, ?_⟩ | refine ⟨fun _ _ => eqC_mpB, ?_⟩)
        all_goals
          refine ⟨fun j hj => eqC_bytes (fun i hi => ?_) j, trivial⟩
          refine (app_row (l := []) (m := tab 16 (byE (G (0)))) (n := 0) (k := 16) rfl (tab_len _ _) (fun i hi => absurd hi (by omega)) (fun i hi => ?_) i (by omega)).trans ?_
          · show bytesF 16 eb (i + 0) = _; rw [Nat.add_zero, bytesF_lt hi, L_tab hi, hG0, ← he, byE_toE _ hi]
          · rw [List.nil_append, L_tab hi, if_neg (by omega)]
      have hexit : ∀ i, (∀ j, j < 16 → i ≤ j → partB l (0) j = 0#8) → ∀ j, j < 16 → (if j < i then byE (G (0)) j ^^^ partB l (0) j else byE (G (0)) j) = byE (G (0)) j ^^^ partB l (0) j := fun i h0 j hj => by
        by_cases h : j < i
        · rw [if_pos h]
        · rw [if_neg h, h0 j hj (by omega), BitVec.xor_zero]
      by_cases h16 : i < 16
      · have e0 : decide ((i : Int) < 16) = true := decide_eq_true (by omega)
        by_cases hin : 16 * (0) + i < n
        · have e1 : decide ((0 : Int) + (i : Int) < (n : Int)) = true := decide_eq_true (by omega)
          (repeat first | refine And.intro (by omega) ?_ | refine And.intro (by decide) ?_ | refine And.intro rfl ?_ | refine And.intro (fun _ => ?_) (fun h => Bool.noConfusion h) | refine And.intro (fun h => Bool.noConfusion h) (fun _ => ?_) | refine And.intro (fun _ => ?_) (fun h => absurd h (by rw [e0]; decide)) | refine And.intro (fun h => absurd h (by rw [e0]; decide)) (fun _ => ?_) | refine And.intro (fun _ => ?_) (fun h => absurd h (by rw [e1]; decide)) | refine And.intro (fun h => absurd h (by rw [e1]; decide)) (fun _ => ?_))
          refine ⟨none, [], [(0, true), (1, true), (2, true), (3, true), (4, true), (5, true), (6, true), (7, true), (8, true), (9, true), (10, true), (11, true), (12, true), (13, true)], [14], by kernel_rfl, ?_⟩
          have e2 : (i : Int).toNat + 0 = i := by omega
          have e3 : ((0 : Int) + (i : Int)).toNat + o = 16 * (0) + i + o := by omega
          (repeat first | refine And.intro (by omega) ?_ | refine And.intro (by decide) ?_ | (with_reducible refine frc_parts (by first | omega | decide) ?_) | (with_reducible refine frc_bytesL (by first | omega | decide) ?_) | refine And.intro rfl ?_)
          rw [e3]
          refine frc_win (i := 16 * (0) + i) (by omega) ?_
          (repeat first | refine And.intro (by omega) ?_ | refine And.intro (by decide) ?_ | (with_reducible refine frc_parts (by first | omega | decide) ?_) | (with_reducible refine frc_bytesL (by first | omega | decide) ?_) | refine And.intro rfl ?_)
          refine ⟨i + 1, [0, 1, 2, 3], ⟨⟨rfl, rfl, rfl⟩, ?_⟩, by dsimp only; omega, by dsimp only; omega⟩
          (repeat first | exact trivial | refine ⟨rfl, ?_⟩ | refine ⟨fun _ _ => ⟨rfl, trivial⟩, ?_⟩ | refine ⟨fun _ _ => trivial, ?_⟩ | refine ⟨by omega, ?_⟩ | refine ⟨fun _ _ => eqC_winS, ?_⟩ | refine ⟨fun _ _ => eqC_winM, ?_⟩ | refine ⟨fun _ _ => eqC_winB, ?_⟩ | refine ⟨fun _ _ => eqC_selfB, ?_⟩ | refine ⟨fun _ _ => eqC_mpB, ?_⟩)
          refine ⟨fun j hj => eqC_bytes (fun j hj => ?_) j, trivial⟩
          rw [e2]
          refine upd_bytes (k := i) (g := fun j => if j < i + 1 then byE (G (0)) j ^^^ partB l (0) j else byE (G (0)) j) h16 (congrArg SC.w8 ?_) (fun j hj => ?_) j hj
          · rw [if_neg (by omega : ¬ i < i), if_pos (by omega : i < i + 1)]
            unfold partB
            rw [hl, if_pos hin]
          · have : j < i + 1 ↔ j < i := by omega
            simp only [this]
        · have e1 : decide ((0 : Int) + (i : Int) < (n : Int)) = false := decide_eq_false (by omega)
          (repeat first | refine And.intro (by omega) ?_ | refine And.intro (by decide) ?_ | refine And.intro rfl ?_ | refine And.intro (fun _ => ?_) (fun h => Bool.noConfusion h) | refine And.intro (fun h => Bool.noConfusion h) (fun _ => ?_) | refine And.intro (fun _ => ?_) (fun h => absurd h (by rw [e0]; decide)) | refine And.intro (fun h => absurd h (by rw [e0]; decide)) (fun _ => ?_) | refine And.intro (fun _ => ?_) (fun h => absurd h (by rw [e1]; decide)) | refine And.intro (fun h => absurd h (by rw [e1]; decide)) (fun _ => ?_))
          refine call_same (fn_product c0 Nh c0 ch (fun j => byE (G (0)) j ^^^ partB l (0) j) hb (G (0 + 1)) (by rw [partB_xor, hH]; exact (hGs _).symm) hc0' hNh) [3, 0] rfl (by (repeat first | exact trivial | refine ⟨rfl, ?_⟩ | refine ⟨fun _ _ => ⟨rfl, trivial⟩, ?_⟩ | refine ⟨fun _ _ => trivial, ?_⟩ | refine ⟨by omega, ?_⟩ | refine ⟨fun _ _ => eqC_winS, ?_⟩ | refine ⟨fun _ _ => eqC_winM, ?_⟩ | refine ⟨fun _ _ => eqC_winB, ?_⟩ | refine ⟨fun _ _ => eqC_selfB, ?_⟩ | refine ⟨fun _ _ => eqC_mpB, ?_⟩)) ?_ (fun _ _ => trivial) ?_
          · refine ⟨rfl, fun j hj => eqC_bytes (f := bytesF 16 _) (fun j hj => ?_) j, ?_⟩
            · rw [bytesF_lt hj]; exact congrArg SC.w8 (hexit i (fun j hj hij => by unfold partB; rw [hl, if_neg (by omega)]) j hj)
            (repeat first | exact trivial | refine ⟨rfl, ?_⟩ | refine ⟨fun _ _ => ⟨rfl, trivial⟩, ?_⟩ | refine ⟨fun _ _ => trivial, ?_⟩ | refine ⟨by omega, ?_⟩ | refine ⟨fun _ _ => eqC_winS, ?_⟩ | refine ⟨fun _ _ => eqC_winM, ?_⟩ | refine ⟨fun _ _ => eqC_winB, ?_⟩ | refine ⟨fun _ _ => eqC_selfB, ?_⟩ | refine ⟨fun _ _ => eqC_mpB, ?_⟩)
          rintro x hs ⟨rfl, rfl⟩
          (repeat first | refine And.intro (by omega) ?_ | refine And.intro (by decide) ?_ | (with_reducible refine frc_parts (by first | omega | decide) ?_) | (with_reducible refine frc_bytesL (by first | omega | decide) ?_) | refine And.intro rfl ?_)
          refine ⟨some 0, [0, 1, 2, 4], ⟨⟨rfl, rfl, rfl⟩, ?_⟩, ?_, ?_⟩
          · (repeat first | exact trivial | refine ⟨rfl, ?_⟩ | refine ⟨fun _ _ => ⟨rfl, trivial⟩, ?_⟩ | refine ⟨fun _ _ => trivial, ?_⟩ | refine ⟨by omega, ?_⟩ | refine ⟨fun _ _ => eqC_winS, ?_⟩ | refine ⟨fun _ _ => eqC_winM, ?_⟩ | refine ⟨fun _ _ => eqC_winB, ?_⟩ | refine ⟨fun _ _ => eqC_selfB, ?_⟩ | refine ⟨fun _ _ => eqC_mpB, ?_⟩)
          · show 16 * (0) < n
            omega
          · first | omega | (dsimp only; omega) | dsimp only
      · have e0 : decide ((i : Int) < 16) = false := decide_eq_false (by omega)
        (repeat first | refine And.intro (by omega) ?_ | refine And.intro (by decide) ?_ | refine And.intro rfl ?_ | refine And.intro (fun _ => ?_) (fun h => Bool.noConfusion h) | refine And.intro (fun h => Bool.noConfusion h) (fun _ => ?_) | refine And.intro (fun _ => ?_) (fun h => absurd h (by rw [e0]; decide)) | refine And.intro (fun h => absurd h (by rw [e0]; decide)) (fun _ => ?_))
        refine call_same (fn_product c0 Nh c0 ch (fun j => byE (G (0)) j ^^^ partB l (0) j) hb (G (0 + 1)) (by rw [partB_xor, hH]; exact (hGs _).symm) hc0' hNh) [3, 0] rfl (by (repeat first | exact trivial | refine ⟨rfl, ?_⟩ | refine ⟨fun _ _ => ⟨rfl, trivial⟩, ?_⟩ | refine ⟨fun _ _ => trivial, ?_⟩ | refine ⟨by omega, ?_⟩ | refine ⟨fun _ _ => eqC_winS, ?_⟩ | refine ⟨fun _ _ => eqC_winM, ?_⟩ | refine ⟨fun _ _ => eqC_winB, ?_⟩ | refine ⟨fun _ _ => eqC_selfB, ?_⟩ | refine ⟨fun _ _ => eqC_mpB, ?_⟩)) ?_ (fun _ _ => trivial) ?_
        · refine ⟨rfl, fun j hj => eqC_bytes (f := bytesF 16 _) (fun j hj => ?_) j, ?_⟩
          · rw [bytesF_lt hj]; exact congrArg SC.w8 (hexit i (fun j hj hij => absurd hi (by omega)) j hj)
          (repeat first | exact trivial | refine ⟨rfl, ?_⟩ | refine ⟨fun _ _ => ⟨rfl, trivial⟩, ?_⟩ | refine ⟨fun _ _ => trivial, ?_⟩ | refine ⟨by omega, ?_⟩ | refine ⟨fun _ _ => eqC_winS, ?_⟩ | refine ⟨fun _ _ => eqC_winM, ?_⟩ | refine ⟨fun _ _ => eqC_winB, ?_⟩ | refine ⟨fun _ _ => eqC_selfB, ?_⟩ | refine ⟨fun _ _ => eqC_mpB, ?_⟩)
        rintro x hs ⟨rfl, rfl⟩
        (repeat first | refine And.intro (by omega) ?_ | refine And.intro (by decide) ?_ | (with_reducible refine frc_parts (by first | omega | decide) ?_) | (with_reducible refine frc_bytesL (by first | omega | decide) ?_) | refine And.intro rfl ?_)
        refine ⟨some 0, [0, 1, 2, 4], ⟨⟨rfl, rfl, rfl⟩, ?_⟩, ?_, ?_⟩
        · (repeat first | exact trivial | refine ⟨rfl, ?_⟩ | refine ⟨fun _ _ => ⟨rfl, trivial⟩, ?_⟩ | refine ⟨fun _ _ => trivial, ?_⟩ | refine ⟨by omega, ?_⟩ | refine ⟨fun _ _ => eqC_winS, ?_⟩ | refine ⟨fun _ _ => eqC_winM, ?_⟩ | refine ⟨fun _ _ => eqC_winB, ?_⟩ | refine ⟨fun _ _ => eqC_selfB, ?_⟩ | refine ⟨fun _ _ => eqC_mpB, ?_⟩)
        · show 16 * (0) < n
          omega
        · first | omega | (dsimp only; omega) | dsimp only
    · obtain rfl : n = 0 := by have : ¬ (0 : Int) < n := of_decide_eq_false h; omega
      refine ⟨.a (.c (.sl 1 0 0 16 ce)), [[.row Nh (bytesF 16 hb)], [.row Ne (bytesF 16 eb)], bts z N o 0 (L l)], ⟨[0, 1, 2], ⟨rfl, rfl, rfl⟩, ?_⟩, fun _ => ⟨rfl, rfl⟩, fun h => absurd h (by omega)⟩
      (repeat first | exact trivial | refine ⟨rfl, ?_⟩ | refine ⟨fun _ _ => ⟨rfl, trivial⟩, ?_⟩ | refine ⟨fun _ _ => trivial, ?_⟩ | refine ⟨by omega, ?_⟩ | refine ⟨fun _ _ => eqC_winS, ?_⟩ | refine ⟨fun _ _ => eqC_winM, ?_⟩ | refine ⟨fun _ _ => eqC_winB, ?_⟩ | refine ⟨fun _ _ => eqC_selfB, ?_⟩ | refine ⟨fun _ _ => eqC_mpB, ?_⟩)
      refine eqC_bts ?_
      (repeat first | exact trivial | refine ⟨rfl, ?_⟩ | refine ⟨fun _ _ => ⟨rfl, trivial⟩, ?_⟩ | refine ⟨fun _ _ => trivial, ?_⟩ | refine ⟨by omega, ?_⟩ | refine ⟨fun _ _ => eqC_winS, ?_⟩ | refine ⟨fun _ _ => eqC_winM, ?_⟩ | refine ⟨fun _ _ => eqC_winB, ?_⟩ | refine ⟨fun _ _ => eqC_selfB, ?_⟩ | refine ⟨fun _ _ => eqC_mpB, ?_⟩)
  · intro hk
    have hk : 16 * k < n := hk
    refine ⟨fun h => ?_, fun h => ?_⟩
    · have hlt : 16 * (k + 1) < n := by have : ((16 * (k + 1) : Nat) : Int) < n := of_decide_eq_true h; omega
      obtain rfl : z = false := by cases z; rfl; have := hz rfl; omega
      refine ⟨by simp only [scale]; omega, ⟨by decide, by decide, by decide⟩, fun c0 hc0 => ?_⟩
      have hc0' : 16 ≤ c0 := hc0
      refine .inl ⟨Nat, fun i => ⟨[.a (.c (.sl 0 0 0 16 ch)), .any, .a (.c (.sn false 2 0 o n c)), .any, .any, .any, .any, .a (.c (.int .i64 (((16 * (k + 1) : Nat) : Int)))), .a (.c (.sl 3 0 0 16 c0)), .a (.c (.int .i64 (↑i))), .any, .any, .any, .any, .any, .any, .any, .any, .any, .any, .any, .any, .any, .any, .any, .any, .any, .any, .any, .any, .any, .any, .any, .any, .any, .any, .any, .any, .any, .any, .any, .any, .any, .any, .any, .any, .any, .any, .any], [[.row Nh (bytesF 16 hb)], [.row Ne (bytesF 16 eb)], bts false N o n (L l), [.row c0 (bytesF 16 fun j => if j < i then byE (G (k + 1)) j ^^^ partB l (k + 1) j else byE (G (k + 1)) j)]]⟩, fun i => i ≤ 16, fun i => 16 - i, ⟨0, [0, 1, 2, 5], ⟨⟨rfl, rfl, rfl⟩, ?_⟩, by omega⟩, fun i hi => ?_⟩
      · (repeat first | exact trivial | refine ⟨rfl, ?_⟩ | refine ⟨fun _ _ => ⟨rfl, trivial⟩, ?_⟩ | refine ⟨fun _ _ => trivial, ?_⟩ | refine ⟨by omega, ?_⟩ | refine ⟨fun _ _ => eqC_winS, ?_⟩ | refine ⟨fun _ _ => eqC_winM, ?_⟩ | refine ⟨fun _ _ => eqC_winB, ?_⟩ | refine ⟨fun _ _ => eqC_selfB, ?_⟩ | refine ⟨fun _ _ => eqC_mpB, ?_⟩)
        all_goals
          refine ⟨fun j hj => eqC_bytes (fun i hi => ?_) j, trivial⟩
          refine (app_row (l := []) (m := tab 16 (byE (G (k + 1)))) (n := 0) (k := 16) rfl (tab_len _ _) (fun i hi => absurd hi (by omega)) (fun i hi => ?_) i (by omega)).trans ?_
          · show SC.w8 (byE (G (k + 1)) (i + 0)) = _; rw [Nat.add_zero, L_tab hi]
          · rw [List.nil_append, L_tab hi, if_neg (by omega)]
      have hexit : ∀ i, (∀ j, j < 16 → i ≤ j → partB l (k + 1) j = 0#8) → ∀ j, j < 16 → (if j < i then byE (G (k + 1)) j ^^^ partB l (k + 1) j else byE (G (k + 1)) j) = byE (G (k + 1)) j ^^^ partB l (k + 1) j := fun i h0 j hj => by
        by_cases h : j < i
        · rw [if_pos h]
        · rw [if_neg h, h0 j hj (by omega), BitVec.xor_zero]
      by_cases h16 : i < 16
      · have e0 : decide ((i : Int) < 16) = true := decide_eq_true (by omega)
        by_cases hin : 16 * (k + 1) + i < n
        · have e1 : decide ((((16 * (k + 1) : Nat) : Int) : Int) + (i : Int) < (n : Int)) = true := decide_eq_true (by omega)
          (repeat first | refine And.intro (by omega) ?_ | refine And.intro (by decide) ?_ | refine And.intro rfl ?_ | refine And.intro (fun _ => ?_) (fun h => Bool.noConfusion h) | refine And.intro (fun h => Bool.noConfusion h) (fun _ => ?_) | refine And.intro (fun _ => ?_) (fun h => absurd h (by rw [e0]; decide)) | refine And.intro (fun h => absurd h (by rw [e0]; decide)) (fun _ => ?_) | refine And.intro (fun _ => ?_) (fun h => absurd h (by rw [e1]; decide)) | refine And.intro (fun h => absurd h (by rw [e1]; decide)) (fun _ => ?_))
          refine ⟨none, [], [(0, true), (1, true), (2, true), (3, true), (4, true), (5, true), (6, true), (7, true), (8, true), (9, true), (10, true), (11, true), (12, true), (13, true)], [14], by kernel_rfl, ?_⟩
          have e2 : (i : Int).toNat + 0 = i := by omega
          have e3 : ((((16 * (k + 1) : Nat) : Int) : Int) + (i : Int)).toNat + o = 16 * (k + 1) + i + o := by omega
          (repeat first | refine And.intro (by omega) ?_ | refine And.intro (by decide) ?_ | (with_reducible refine frc_parts (by first | omega | decide) ?_) | (with_reducible refine frc_bytesL (by first | omega | decide) ?_) | refine And.intro rfl ?_)
          rw [e3]
          refine frc_win (i := 16 * (k + 1) + i) (by omega) ?_
          (repeat first | refine And.intro (by omega) ?_ | refine And.intro (by decide) ?_ | (with_reducible refine frc_parts (by first | omega | decide) ?_) | (with_reducible refine frc_bytesL (by first | omega | decide) ?_) | refine And.intro rfl ?_)
          refine ⟨i + 1, [0, 1, 2, 3], ⟨⟨rfl, rfl, rfl⟩, ?_⟩, by dsimp only; omega, by dsimp only; omega⟩
          (repeat first | exact trivial | refine ⟨rfl, ?_⟩ | refine ⟨fun _ _ => ⟨rfl, trivial⟩, ?_⟩ | refine ⟨fun _ _ => trivial, ?_⟩ | refine ⟨by omega, ?_⟩ | refine ⟨fun _ _ => eqC_winS, ?_⟩ | refine ⟨fun _ _ => eqC_winM, ?_⟩ | refine ⟨fun _ _ => eqC_winB, ?_⟩ | refine ⟨fun _ _ => eqC_selfB, ?_⟩ | refine ⟨fun _ _ => eqC_mpB, ?_⟩)
          refine ⟨fun j hj => eqC_bytes (fun j hj => ?_) j, trivial⟩
          rw [e2]
          refine upd_bytes (k := i) (g := fun j => if j < i + 1 then byE (G (k + 1)) j ^^^ partB l (k + 1) j else byE (G (k + 1)) j) h16 (congrArg SC.w8 ?_) (fun j hj => ?_) j hj
          · rw [if_neg (by omega : ¬ i < i), if_pos (by omega : i < i + 1)]
            unfold partB
            rw [hl, if_pos hin]
          · have : j < i + 1 ↔ j < i := by omega
            simp only [this]
        · have e1 : decide ((((16 * (k + 1) : Nat) : Int) : Int) + (i : Int) < (n : Int)) = false := decide_eq_false (by omega)
          (repeat first | refine And.intro (by omega) ?_ | refine And.intro (by decide) ?_ | refine And.intro rfl ?_ | refine And.intro (fun _ => ?_) (fun h => Bool.noConfusion h) | refine And.intro (fun h => Bool.noConfusion h) (fun _ => ?_) | refine And.intro (fun _ => ?_) (fun h => absurd h (by rw [e0]; decide)) | refine And.intro (fun h => absurd h (by rw [e0]; decide)) (fun _ => ?_) | refine And.intro (fun _ => ?_) (fun h => absurd h (by rw [e1]; decide)) | refine And.intro (fun h => absurd h (by rw [e1]; decide)) (fun _ => ?_))
          refine call_same (fn_product c0 Nh c0 ch (fun j => byE (G (k + 1)) j ^^^ partB l (k + 1) j) hb (G (k + 1 + 1)) (by rw [partB_xor, hH]; exact (hGs _).symm) hc0' hNh) [3, 0] rfl (by (repeat first | exact trivial | refine ⟨rfl, ?_⟩ | refine ⟨fun _ _ => ⟨rfl, trivial⟩, ?_⟩ | refine ⟨fun _ _ => trivial, ?_⟩ | refine ⟨by omega, ?_⟩ | refine ⟨fun _ _ => eqC_winS, ?_⟩ | refine ⟨fun _ _ => eqC_winM, ?_⟩ | refine ⟨fun _ _ => eqC_winB, ?_⟩ | refine ⟨fun _ _ => eqC_selfB, ?_⟩ | refine ⟨fun _ _ => eqC_mpB, ?_⟩)) ?_ (fun _ _ => trivial) ?_
          · refine ⟨rfl, fun j hj => eqC_bytes (f := bytesF 16 _) (fun j hj => ?_) j, ?_⟩
            · rw [bytesF_lt hj]; exact congrArg SC.w8 (hexit i (fun j hj hij => by unfold partB; rw [hl, if_neg (by omega)]) j hj)
            (repeat first | exact trivial | refine ⟨rfl, ?_⟩ | refine ⟨fun _ _ => ⟨rfl, trivial⟩, ?_⟩ | refine ⟨fun _ _ => trivial, ?_⟩ | refine ⟨by omega, ?_⟩ | refine ⟨fun _ _ => eqC_winS, ?_⟩ | refine ⟨fun _ _ => eqC_winM, ?_⟩ | refine ⟨fun _ _ => eqC_winB, ?_⟩ | refine ⟨fun _ _ => eqC_selfB, ?_⟩ | refine ⟨fun _ _ => eqC_mpB, ?_⟩)
          rintro x hs ⟨rfl, rfl⟩
          (repeat first | refine And.intro (by omega) ?_ | refine And.intro (by decide) ?_ | (with_reducible refine frc_parts (by first | omega | decide) ?_) | (with_reducible refine frc_bytesL (by first | omega | decide) ?_) | refine And.intro rfl ?_)
          refine ⟨some (k + 1), [0, 1, 2, 4], ⟨⟨rfl, rfl, rfl⟩, ?_⟩, ?_, ?_⟩
          · (repeat first | exact trivial | refine ⟨rfl, ?_⟩ | refine ⟨fun _ _ => ⟨rfl, trivial⟩, ?_⟩ | refine ⟨fun _ _ => trivial, ?_⟩ | refine ⟨by omega, ?_⟩ | refine ⟨fun _ _ => eqC_winS, ?_⟩ | refine ⟨fun _ _ => eqC_winM, ?_⟩ | refine ⟨fun _ _ => eqC_winB, ?_⟩ | refine ⟨fun _ _ => eqC_selfB, ?_⟩ | refine ⟨fun _ _ => eqC_mpB, ?_⟩)
          · show 16 * (k + 1) < n
            omega
          · first | omega | (dsimp only; omega) | dsimp only
      · have e0 : decide ((i : Int) < 16) = false := decide_eq_false (by omega)
        (repeat first | refine And.intro (by omega) ?_ | refine And.intro (by decide) ?_ | refine And.intro rfl ?_ | refine And.intro (fun _ => ?_) (fun h => Bool.noConfusion h) | refine And.intro (fun h => Bool.noConfusion h) (fun _ => ?_) | refine And.intro (fun _ => ?_) (fun h => absurd h (by rw [e0]; decide)) | refine And.intro (fun h => absurd h (by rw [e0]; decide)) (fun _ => ?_))
        refine call_same (fn_product c0 Nh c0 ch (fun j => byE (G (k + 1)) j ^^^ partB l (k + 1) j) hb (G (k + 1 + 1)) (by rw [partB_xor, hH]; exact (hGs _).symm) hc0' hNh) [3, 0] rfl (by (repeat first | exact trivial | refine ⟨rfl, ?_⟩ | refine ⟨fun _ _ => ⟨rfl, trivial⟩, ?_⟩ | refine ⟨fun _ _ => trivial, ?_⟩ | refine ⟨by omega, ?_⟩ | refine ⟨fun _ _ => eqC_winS, ?_⟩ | refine ⟨fun _ _ => eqC_winM, ?_⟩ | refine ⟨fun _ _ => eqC_winB, ?_⟩ | refine ⟨fun _ _ => eqC_selfB, ?_⟩ | refine ⟨fun _ _ => eqC_mpB, ?_⟩)) ?_ (fun _ _ => trivial) ?_
        · refine ⟨rfl, fun j hj => eqC_bytes (f := bytesF 16 _) (fun j hj => ?_) j, ?_⟩
          · rw [bytesF_lt hj]; exact congrArg SC.w8 (hexit i (fun j hj hij => absurd hi (by omega)) j hj)
          (repeat first | exact trivial | refine ⟨rfl, ?_⟩ | refine ⟨fun _ _ => ⟨rfl, trivial⟩, ?_⟩ | refine ⟨fun _ _ => trivial, ?_⟩ | refine ⟨by omega, ?_⟩ | refine ⟨fun _ _ => eqC_winS, ?_⟩ | refine ⟨fun _ _ => eqC_winM, ?_⟩ | refine ⟨fun _ _ => eqC_winB, ?_⟩ | refine ⟨fun _ _ => eqC_selfB, ?_⟩ | refine ⟨fun _ _ => eqC_mpB, ?_⟩)
        rintro x hs ⟨rfl, rfl⟩
        (repeat first | refine And.intro (by omega) ?_ | refine And.intro (by decide) ?_ | (with_reducible refine frc_parts (by first | omega | decide) ?_) | (with_reducible refine frc_bytesL (by first | omega | decide) ?_) | refine And.intro rfl ?_)
        refine ⟨some (k + 1), [0, 1, 2, 4], ⟨⟨rfl, rfl, rfl⟩, ?_⟩, ?_, ?_⟩
        · (repeat first | exact trivial | refine ⟨rfl, ?_⟩ | refine ⟨fun _ _ => ⟨rfl, trivial⟩, ?_⟩ | refine ⟨fun _ _ => trivial, ?_⟩ | refine ⟨by omega, ?_⟩ | refine ⟨fun _ _ => eqC_winS, ?_⟩ | refine ⟨fun _ _ => eqC_winM, ?_⟩ | refine ⟨fun _ _ => eqC_winB, ?_⟩ | refine ⟨fun _ _ => eqC_selfB, ?_⟩ | refine ⟨fun _ _ => eqC_mpB, ?_⟩)
        · show 16 * (k + 1) < n
          omega
        · first | omega | (dsimp only; omega) | dsimp only
    · have hge : n ≤ 16 * (k + 1) := by have : ¬ ((16 * (k + 1) : Nat) : Int) < n := of_decide_eq_false h; omega
      have hkM : G (k + 1) = M := by rw [← hGM, show (n + 15) / 16 = k + 1 by omega]
      rw [hkM]
      refine ⟨.a (.c (.sl 3 0 0 16 16)), [[.row Nh (bytesF 16 hb)], [.row Ne (bytesF 16 eb)], bts z N o n (L l), rowE M], ⟨[0, 1, 2, 3], ⟨rfl, rfl, rfl⟩, ?_⟩, fun h => absurd h (by omega), fun _ => ⟨rfl, rfl⟩⟩
      (repeat first | exact trivial | refine ⟨rfl, ?_⟩ | refine ⟨fun _ _ => ⟨rfl, trivial⟩, ?_⟩ | refine ⟨fun _ _ => trivial, ?_⟩ | refine ⟨by omega, ?_⟩ | refine ⟨fun _ _ => eqC_winS, ?_⟩ | refine ⟨fun _ _ => eqC_winM, ?_⟩ | refine ⟨fun _ _ => eqC_winB, ?_⟩ | refine ⟨fun _ _ => eqC_selfB, ?_⟩ | refine ⟨fun _ _ => eqC_mpB, ?_⟩)
      refine eqC_bts ?_
      (repeat first | exact trivial | refine ⟨rfl, ?_⟩ | refine ⟨fun _ _ => ⟨rfl, trivial⟩, ?_⟩ | refine ⟨fun _ _ => trivial, ?_⟩ | refine ⟨by omega, ?_⟩ | refine ⟨fun _ _ => eqC_winS, ?_⟩ | refine ⟨fun _ _ => eqC_winM, ?_⟩ | refine ⟨fun _ _ => eqC_winB, ?_⟩ | refine ⟨fun _ _ => eqC_selfB, ?_⟩ | refine ⟨fun _ _ => eqC_mpB, ?_⟩)
end Sx
end Go.Proofs.Ytndlhhhebijknaa
end

section
/-
  The field of 256: the program's way and the document's are one; round keys and blocks too. Plain. No condition.
-/
namespace Go.Proofs.Ytndlhhhebijknaa
set_option linter.unusedVariables false
namespace Aes

theorem all8 {P : BitVec 8 → Prop} (h : ∀ k, k < 256 → P (BitVec.ofNat 8 k)) (x : BitVec 8) : P x := by
  have := h x.toNat x.isLt
  rwa [BitVec.ofNat_toNat, BitVec.setWidth_eq] at this
theorem xswap (a b c d : BitVec 8) : (a ^^^ b) ^^^ (c ^^^ d) = (a ^^^ c) ^^^ (b ^^^ d) := by
  rw [BitVec.xor_assoc, BitVec.xor_assoc, ← BitVec.xor_assoc b c d, BitVec.xor_comm b c, BitVec.xor_assoc c b d]
theorem twice_bit : ∀ a : BitVec 8, twice a = a <<< 1 ^^^ (if a.getLsbD 7 then 27#8 else 0#8) := all8 (by decide +kernel)
theorem twice_xor (a b : BitVec 8) : twice (a ^^^ b) = twice a ^^^ twice b := by
  rw [twice_bit, twice_bit a, twice_bit b, BitVec.shiftLeft_xor_distrib, BitVec.getLsbD_xor, xswap]
  congr 1
  cases a.getLsbD 7 <;> cases b.getLsbD 7 <;> rfl
theorem bit_iff (b : BitVec 8) (k : Nat) : (b >>> k) &&& 1#8 = 1#8 ↔ b.getLsbD k = true := by
  have h : ∀ x : BitVec 8, (x &&& 1#8 = 1#8) ↔ x.getLsbD 0 = true := all8 (by decide +kernel)
  rw [h, BitVec.getLsbD_ushiftRight]
  simp
def pw (a : BitVec 8) : Nat → BitVec 8
  | 0 => a
  | k + 1 => twice (pw a k)
theorem pw_xor (a b : BitVec 8) : ∀ k, pw (a ^^^ b) k = pw a k ^^^ pw b k
  | 0 => rfl
  | k + 1 => by simp only [pw, pw_xor a b k, twice_xor]
theorem timesS_snd (b o a : BitVec 8) : ∀ k, (timesS b k (o, a)).2 = pw a k
  | 0 => rfl
  | k + 1 => by simp only [timesS, pw, timesS_snd b o a k]
def tm (a b : BitVec 8) : Nat → BitVec 8
  | 0 => 0#8
  | k + 1 => tm a b k ^^^ (if b.getLsbD k then pw a k else 0#8)
theorem timesS_fst (a b : BitVec 8) : ∀ k, (timesS b k (0#8, a)).1 = tm a b k
  | 0 => rfl
  | k + 1 => by
    simp only [timesS, tm, timesS_fst a b k, timesS_snd]
    by_cases h : b.getLsbD k = true
    · rw [if_pos ((bit_iff b k).2 h), if_pos h]
    · rw [if_neg (fun e => h ((bit_iff b k).1 e)), if_neg h, BitVec.xor_zero]
theorem times_tm (a b : BitVec 8) : times a b = tm a b 8 := timesS_fst a b 8
theorem tm_right (a b c : BitVec 8) : ∀ k, tm a (b ^^^ c) k = tm a b k ^^^ tm a c k
  | 0 => by simp [tm]
  | k + 1 => by
    simp only [tm, tm_right a b c k]
    rw [xswap, BitVec.getLsbD_xor]
    congr 1
    cases b.getLsbD k <;> cases c.getLsbD k <;> simp
theorem tm_left (a b c : BitVec 8) : ∀ k, tm (a ^^^ b) c k = tm a c k ^^^ tm b c k
  | 0 => by simp [tm]
  | k + 1 => by
    simp only [tm, tm_left a b c k]
    rw [xswap, pw_xor]
    congr 1
    cases c.getLsbD k <;> simp
theorem times_right (a b c : BitVec 8) : times a (b ^^^ c) = times a b ^^^ times a c := by rw [times_tm, times_tm, times_tm, tm_right]
theorem times_left (a b c : BitVec 8) : times (a ^^^ b) c = times a c ^^^ times b c := by rw [times_tm, times_tm, times_tm, tm_left]
/-- What is added part by part is known by what it does to the eight bits. -/
theorem lin_ext {f g : BitVec 8 → BitVec 8} (hf : ∀ x y, f (x ^^^ y) = f x ^^^ f y) (hg : ∀ x y, g (x ^^^ y) = g x ^^^ g y)
    (h : ∀ k, k < 8 → f (1#8 <<< k) = g (1#8 <<< k)) (x : BitVec 8) : f x = g x := by
  have z : ∀ {u : BitVec 8 → BitVec 8}, (∀ x y, u (x ^^^ y) = u x ^^^ u y) → u 0#8 = 0#8 := fun {u} hu => by
    have := hu 0#8 0#8
    rwa [BitVec.xor_self, BitVec.xor_self] at this
  have d : ∀ x : BitVec 8, x = (x &&& (1#8 <<< 0)) ^^^ ((x &&& (1#8 <<< 1)) ^^^ ((x &&& (1#8 <<< 2)) ^^^ ((x &&& (1#8 <<< 3)) ^^^ ((x &&& (1#8 <<< 4)) ^^^ ((x &&& (1#8 <<< 5)) ^^^ ((x &&& (1#8 <<< 6)) ^^^ (x &&& (1#8 <<< 7)))))))) := all8 (by decide +kernel)
  have o : ∀ k, k < 8 → ∀ m, m < 256 → BitVec.ofNat 8 m &&& (1#8 <<< k) = 0#8 ∨ BitVec.ofNat 8 m &&& (1#8 <<< k) = 1#8 <<< k := by decide +kernel
  have e : ∀ k, k < 8 → ∀ x : BitVec 8, f (x &&& (1#8 <<< k)) = g (x &&& (1#8 <<< k)) := fun k hk => all8 fun m hm => by
    rcases o k hk m hm with p | p <;> rw [p]
    · rw [z hf, z hg]
    · exact h k hk
  rw [d x]
  simp only [hf, hg]
  rw [e 0 (by omega), e 1 (by omega), e 2 (by omega), e 3 (by omega), e 4 (by omega), e 5 (by omega), e 6 (by omega), e 7 (by omega)]
theorem bi_ext {f g : BitVec 8 → BitVec 8 → BitVec 8} (hf1 : ∀ x y z, f (x ^^^ y) z = f x z ^^^ f y z) (hf2 : ∀ x y z, f x (y ^^^ z) = f x y ^^^ f x z)
    (hg1 : ∀ x y z, g (x ^^^ y) z = g x z ^^^ g y z) (hg2 : ∀ x y z, g x (y ^^^ z) = g x y ^^^ g x z)
    (h : ∀ i, i < 8 → ∀ k, k < 8 → f (1#8 <<< i) (1#8 <<< k) = g (1#8 <<< i) (1#8 <<< k)) (x y : BitVec 8) : f x y = g x y :=
  lin_ext (f := f x) (g := g x) (hf2 x) (hg2 x) (fun k hk => lin_ext (f := fun x => f x (1#8 <<< k)) (g := fun x => g x (1#8 <<< k)) (fun a b => hf1 a b _) (fun a b => hg1 a b _) (fun i hi => h i hi k hk) x) y
theorem times_comm (a b : BitVec 8) : times a b = times b a :=
  bi_ext (f := times) (g := fun a b => times b a) times_left times_right (fun x y z => times_right z x y) (fun x y z => times_left y z x) (by decide +kernel) a b
theorem times_assoc (a b c : BitVec 8) : times a (times b c) = times (times a b) c :=
  lin_ext (f := fun a => times a (times b c)) (g := fun a => times (times a b) c) (fun x y => times_left x y _) (fun x y => by rw [times_left, times_left])
    (fun i hi => bi_ext (f := fun b c => times (1#8 <<< i) (times b c)) (g := fun b c => times (times (1#8 <<< i) b) c) (fun x y z => by rw [times_left, times_right]) (fun x y z => by rw [times_right, times_right]) (fun x y z => by rw [times_right, times_left]) (fun x y z => times_right _ y z)
      (fun j hj k hk => (by decide +kernel : ∀ i, i < 8 → ∀ j, j < 8 → ∀ k, k < 8 → times (1#8 <<< i) (times (1#8 <<< j) (1#8 <<< k)) = times (times (1#8 <<< i) (1#8 <<< j)) (1#8 <<< k)) i hi j hj k hk) b c) a
/-! The document's product. -/
theorem nswap (a b c d : Nat) : (a ^^^ b) ^^^ (c ^^^ d) = (a ^^^ c) ^^^ (b ^^^ d) := by
  rw [Nat.xor_assoc, Nat.xor_assoc, ← Nat.xor_assoc b c d, Nat.xor_comm b c, Nat.xor_assoc c b d]
theorem rT1_step (a b : BitVec 8) (k : Nat) : rT1 a b (k + 1) = rT1 a b k ^^^ (if b.getLsbD k then a.toNat * 2 ^ k else 0) := by
  simp only [rT1]
  by_cases h : b.getLsbD k = true
  · rw [if_pos ((bit_iff b k).2 h), if_pos h]
  · rw [if_neg (fun e => h ((bit_iff b k).1 e)), if_neg h, Nat.xor_zero]
theorem rT1_right (a b c : BitVec 8) : ∀ k, rT1 a (b ^^^ c) k = rT1 a b k ^^^ rT1 a c k
  | 0 => by simp [rT1]
  | k + 1 => by
    rw [rT1_step, rT1_step, rT1_step, rT1_right a b c k, nswap, BitVec.getLsbD_xor]
    congr 1
    cases b.getLsbD k <;> cases c.getLsbD k <;> simp
theorem mul_xor (x y k : Nat) : (x ^^^ y) * 2 ^ k = x * 2 ^ k ^^^ y * 2 ^ k := by
  rw [← Nat.shiftLeft_eq, ← Nat.shiftLeft_eq, ← Nat.shiftLeft_eq, Nat.shiftLeft_xor_distrib]
theorem rT1_left (a b c : BitVec 8) : ∀ k, rT1 (a ^^^ b) c k = rT1 a c k ^^^ rT1 b c k
  | 0 => by simp [rT1]
  | k + 1 => by
    rw [rT1_step, rT1_step, rT1_step, rT1_left a b c k, nswap, BitVec.toNat_xor]
    congr 1
    cases c.getLsbD k
    · exact (Nat.xor_self 0).symm
    · exact mul_xor _ _ _
theorem nbit_iff (n k : Nat) : (n / 2 ^ k) &&& 1 = 1 ↔ n.testBit k = true := by
  rw [Nat.and_one_is_mod, Nat.testBit_eq_decide_div_mod_eq]
  simp
theorem rT2_step (n j : Nat) : rT2 n (j + 1) = rT2 n j ^^^ (if (rT2 n j).testBit (14 - j) then 283 * 2 ^ (14 - j - 8) else 0) := by
  simp only [rT2]
  by_cases h : (rT2 n j).testBit (14 - j) = true
  · rw [if_pos ((nbit_iff _ _).2 h), if_pos h]
  · rw [if_neg (fun e => h ((nbit_iff _ _).1 e)), if_neg h, Nat.xor_zero]
theorem rT2_xor (n m : Nat) : ∀ j, rT2 (n ^^^ m) j = rT2 n j ^^^ rT2 m j
  | 0 => rfl
  | j + 1 => by
    rw [rT2_step, rT2_step, rT2_step, rT2_xor n m j, nswap, Nat.testBit_xor]
    congr 1
    cases (rT2 n j).testBit (14 - j) <;> cases (rT2 m j).testBit (14 - j) <;> simp
theorem ofNat_xor8 (x y : Nat) : BitVec.ofNat 8 (x ^^^ y) = BitVec.ofNat 8 x ^^^ BitVec.ofNat 8 y := by
  apply BitVec.eq_of_toNat_eq
  simp [BitVec.toNat_xor]
theorem ref_right (a b c : BitVec 8) : refTimes a (b ^^^ c) = refTimes a b ^^^ refTimes a c := by
  unfold refTimes; rw [rT1_right, rT2_xor, ofNat_xor8]
theorem ref_left (a b c : BitVec 8) : refTimes (a ^^^ b) c = refTimes a c ^^^ refTimes b c := by
  unfold refTimes; rw [rT1_left, rT2_xor, ofNat_xor8]
theorem ref_times (a b : BitVec 8) : refTimes a b = times a b :=
  bi_ext (f := refTimes) (g := times) ref_left ref_right times_left times_right (by decide +kernel) a b
/-! Inverses. -/
theorem times_inv : ∀ a : BitVec 8, a ≠ 0#8 → times a (inverse a) = 1#8 := all8 (by decide +kernel)
theorem times_one : ∀ a : BitVec 8, times 1#8 a = a := all8 (by decide +kernel)
theorem times_zero : ∀ a : BitVec 8, times 0#8 a = 0#8 := all8 (by decide +kernel)
theorem inv_uniq {a x : BitVec 8} (h : times a x = 1#8) : x = inverse a := by
  have ha : a ≠ 0#8 := by
    rintro rfl
    rw [times_zero] at h
    exact absurd h (by decide)
  calc x = times 1#8 x := (times_one x).symm
    _ = times (times a (inverse a)) x := by rw [times_inv a ha]
    _ = times (inverse a) (times a x) := by rw [times_comm a, times_assoc]
    _ = inverse a := by rw [h, times_comm, times_one]
theorem inverse_zero : inverse 0#8 = 0#8 := by decide +kernel
theorem refFind_eq (a : BitVec 8) : ∀ k, k ≤ 255 → refFind a k = if (inverse a).toNat ≤ k then inverse a else 0#8
  | 0, _ => by
    simp only [refFind]
    split
    · rename_i h
      exact (BitVec.eq_of_toNat_eq (by simpa using h)).symm
    · rfl
  | k + 1, hk => by
    simp only [refFind, refFind_eq a k (by omega), ref_times]
    have e : (BitVec.ofNat 8 (k + 1)).toNat = k + 1 := by rw [BitVec.toNat_ofNat]; omega
    by_cases h : times a (BitVec.ofNat 8 (k + 1)) = 1#8
    · rw [if_pos h, ← inv_uniq h, e, if_pos (Nat.le_refl _)]
    · rw [if_neg h]
      by_cases h1 : (inverse a).toNat ≤ k
      · rw [if_pos h1, if_pos (by omega)]
      · rw [if_neg h1]
        by_cases h2 : (inverse a).toNat ≤ k + 1
        · exfalso
          have h3 : inverse a = BitVec.ofNat 8 (k + 1) := BitVec.eq_of_toNat_eq (by rw [e]; omega)
          have h4 : a ≠ 0#8 := by
            rintro rfl
            rw [inverse_zero] at h1
            exact h1 (Nat.zero_le _)
          rw [← h3] at h
          exact h (times_inv a h4)
        · rw [if_neg h2]
theorem refBox_eq (a : BitVec 8) : refBox a = box a := by
  unfold refBox box
  rw [refFind_eq a 255 (by omega), if_pos (by have := (inverse a).isLt; omega)]
  have h : ∀ i : BitVec 8, refBoxS i 5 = boxS i 4 := all8 (by decide +kernel)
  exact h _
/-! Columns. -/
theorem times2 : ∀ a : BitVec 8, times 2#8 a = twice a := all8 (by decide +kernel)
theorem times3 : ∀ a : BitVec 8, times 3#8 a = twice a ^^^ a := all8 (by decide +kernel)
theorem rMix_eq (b : Nat → BitVec 8) (i : Nat) : rMixAt b i = mixAt b i := by
  unfold rMixAt mixAt
  rw [ref_times, ref_times, times2, times3]
  simp only [BitVec.xor_assoc]
theorem mixAt_congr {s t : Nat → BitVec 8} (h : ∀ i, i < 16 → s i = t i) (i : Nat) (hi : i < 16) : mixAt s i = mixAt t i := by
  unfold mixAt
  rw [h i hi, h _ (by omega), h _ (by omega), h _ (by omega)]
theorem shiftAt_congr {s t : Nat → BitVec 8} (h : ∀ i, i < 16 → s i = t i) (i : Nat) (hi : i < 16) : shiftAt s i = shiftAt t i := by
  unfold shiftAt
  rw [h _ (by omega)]
/-! Round keys. -/
section
variable {B : Nat → BitVec 8} (hB : ∀ x : BitVec 8, B x.toNat = box x) (key : Nat → BitVec 8)
include hB
theorem rKey_step (r : Nat) (h0 : (rKeyS B key (4 * r)).2 = (pKeyS key r).2) (h : ∀ j, j < 16 * (r + 1) → (rKeyS B key (4 * r)).1 j = (pKeyS key r).1 j) :
    ∀ c, c ≤ 4 → (rKeyS B key (4 * r + c)).2 = (if c = 0 then (pKeyS key r).2 else times (pKeyS key r).2 2#8) ∧
      ∀ j, j < 16 * (r + 1) + 4 * c → (rKeyS B key (4 * r + c)).1 j = if j < 16 * (r + 1) then (pKeyS key r).1 j else pNow (fun j => (pKeyS key r).1 (16 * r + j)) (pKeyS key r).2 (j - 16 * (r + 1))
  | 0, _ => ⟨h0, fun j hj => by rw [if_pos (by omega)]; exact h j (by omega)⟩
  | c + 1, hc => by
    obtain ⟨i0, ih⟩ := rKey_step r h0 h c (by omega)
    refine ⟨?_, fun j hj => ?_⟩
    · show (if (4 * r + c + 4) % 4 = 0 then refTimes (rKeyS B key (4 * r + c)).2 2#8 else (rKeyS B key (4 * r + c)).2) = _
      rw [if_neg (show ¬ c + 1 = 0 by omega), i0, ref_times]
      by_cases hc0 : c = 0
      · subst hc0
        rw [if_pos (by omega), if_pos rfl]
      · rw [if_neg (by omega), if_neg hc0]
    · show (if j < 4 * (4 * r + c + 4) then (rKeyS B key (4 * r + c)).1 j else (rKeyS B key (4 * r + c)).1 (j - 16) ^^^ rWord B (rKeyS B key (4 * r + c)).1 (rKeyS B key (4 * r + c)).2 (4 * r + c + 4) (j - 4 * (4 * r + c + 4))) = _
      by_cases hj1 : j < 4 * (4 * r + c + 4)
      · rw [if_pos hj1]; exact ih j (by omega)
      · rw [if_neg hj1, if_neg (by omega)]
        obtain ⟨i, rfl⟩ : ∃ i, j = 16 * (r + 1) + 4 * c + i := ⟨j - (16 * (r + 1) + 4 * c), by omega⟩
        have hi : i < 4 := by omega
        rw [show 16 * (r + 1) + 4 * c + i - 4 * (4 * r + c + 4) = i by omega, show 16 * (r + 1) + 4 * c + i - 16 * (r + 1) = 4 * c + i by omega]
        unfold pNow
        rw [show (4 * c + i) / 4 = c by omega, show (4 * c + i) % 4 = i by omega]
        rw [ih _ (by omega)]
        rw [if_pos (by omega), show 16 * (r + 1) + 4 * c + i - 16 = 16 * r + (4 * c + i) by omega]
        unfold rWord
        by_cases hc0 : c = 0
        · subst hc0
          rw [if_pos (by omega), i0, if_pos rfl]
          simp only [pW]
          by_cases hi0 : i = 0
          · subst hi0
            rw [if_pos rfl, if_pos rfl, ih _ (by omega), if_pos (by omega), hB, show 4 * (4 * r + 0 + 4) - 4 + 1 = 16 * r + 13 by omega]
            show _ = (pKeyS key r).1 (16 * r + 0) ^^^ _ ^^^ _
            rw [BitVec.xor_assoc]
          · rw [if_neg hi0, if_neg hi0, ih _ (by omega), if_pos (by omega), hB, show 4 * (4 * r + 0 + 4) - 4 + (i + 1) % 4 = 16 * r + (12 + (i + 1) % 4) by omega, show 4 * 0 + i = i by omega]
        · rw [if_neg (by omega)]
          obtain ⟨c, rfl⟩ : ∃ d, c = d + 1 := ⟨c - 1, by omega⟩
          rw [ih _ (by omega), if_neg (by omega)]
          unfold pNow
          rw [show (4 * (4 * r + (c + 1) + 4) - 4 + i - 16 * (r + 1)) / 4 = c by omega, show (4 * (4 * r + (c + 1) + 4) - 4 + i - 16 * (r + 1)) % 4 = i by omega]
          rfl
theorem rKey_eq (r : Nat) : (rKeyS B key (4 * r)).2 = (pKeyS key r).2 ∧ ∀ j, j < 16 * (r + 1) → (rKeyS B key (4 * r)).1 j = (pKeyS key r).1 j := by
  induction r with
  | zero => exact ⟨rfl, fun j _ => rfl⟩
  | succ r ih =>
    have e := rKey_step hB key r ih.1 ih.2 4 (by omega)
    rw [show 4 * (r + 1) = 4 * r + 4 by omega]
    generalize rKeyS B key (4 * r + 4) = s at e ⊢
    refine ⟨e.1.trans (if_neg (by omega)), fun j hj => (e.2 j (by omega)).trans ?_⟩
    rfl
theorem rKeys_eq (j : Nat) (hj : j < 176) : rKeys B key j = pKeys key j := (rKey_eq hB key 10).2 j hj
theorem rShift_eq (s : Nat → BitVec 8) (j : Nat) : rShift B s j = shiftAt s j := hB _
theorem rTurn_eq (block : Nat → BitVec 8) : ∀ r, r ≤ 9 → ∀ i, i < 16 → rTurnS B key block r i = pTurnS key block r i
  | 0, _, i, hi => by simp only [rTurnS, pTurnS, rKeys_eq hB key i (by omega)]
  | r + 1, hr, i, hi => by
    simp only [rTurnS, pTurnS]
    rw [rKeys_eq hB key _ (by omega), if_pos (by omega), rMix_eq, show rShift B (rTurnS B key block r) = shiftAt (rTurnS B key block r) from funext fun j => rShift_eq hB _ j]
    rw [mixAt_congr (shiftAt_congr (rTurn_eq block r (by omega))) i hi]
omit hB in
theorem rTurnS_succ (block : Nat → BitVec 8) (r i : Nat) : rTurnS B key block (r + 1) i = (if r + 1 < 10 then rMixAt (rShift B (rTurnS B key block r)) else rShift B (rTurnS B key block r)) i ^^^ rKeys B key (16 * (r + 1) + i) := rfl
theorem turn_eq (block : Nat → BitVec 8) (i : Nat) (hi : i < 16) : rTurnS B key block 10 i = pTurn key block i := by
  have h9 := rTurn_eq hB key block 9 (by omega)
  rw [show 10 = 9 + 1 from rfl, rTurnS_succ]
  unfold pTurn
  generalize rTurnS B key block 9 = s at h9 ⊢
  generalize pTurnS key block 9 = t at h9 ⊢
  rw [rKeys_eq hB key _ (by omega), if_neg (by omega), rShift_eq hB, shiftAt_congr h9 i hi]
end
end Aes
end Go.Proofs.Ytndlhhhebijknaa
end

section
/-
  A key and a block whose turned block is known: the model's answer. Plain. No condition.
-/
namespace Go.Proofs.Ytndlhhhebijknaa
set_option linter.unusedVariables false
namespace Aes

def ofL (l : List Nat) (i : Nat) : BitVec 8 := BitVec.ofNat 8 (l.getD i 0)
def KeyAt (K : Nat → BitVec 8) (r : Nat) (l : List Nat) (p : BitVec 8) : Prop := (∀ j, j < 16 → (pKeyS K r).1 (16 * r + j) = ofL l j) ∧ (pKeyS K r).2 = p
theorem pKeyS_up (K : Nat → BitVec 8) (r i : Nat) (hi : i < 16 * (r + 1)) : ∀ n, (pKeyS K (r + n)).1 i = (pKeyS K r).1 i
  | 0 => rfl
  | n + 1 => by
    rw [← Nat.add_assoc]
    simp only [pKeyS]
    rw [if_pos (by omega), pKeyS_up K r i hi n]
theorem KeyAt.key {K : Nat → BitVec 8} {r : Nat} {l : List Nat} {p : BitVec 8} (h : KeyAt K r l p) (hr : r ≤ 10) (j : Nat) (hj : j < 16) : pKeys K (16 * r + j) = ofL l j := by
  have := pKeyS_up K r (16 * r + j) (by omega) (10 - r)
  rw [show r + (10 - r) = 10 by omega] at this
  unfold pKeys
  rw [this, h.1 j hj]
def TurnAt (K b : Nat → BitVec 8) (r : Nat) (l : List Nat) : Prop := ∀ i, i < 16 → pTurnS K b r i = ofL l i
def awK (i : Nat) : BitVec 8 := BitVec.ofInt 8 (i : Int)
def awB (i : Nat) : BitVec 8 := BitVec.ofInt 8 ((i : Int) * 17)
end Aes
end Go.Proofs.Ytndlhhhebijknaa
end

section
/-
  Unlike blocks stay unlike under one key. Plain. No condition.
-/
namespace Go.Proofs.Ytndlhhhebijknaa
set_option linter.unusedVariables false
namespace Aes

theorem unbox : ∀ x : BitVec 8, ofL [82, 9, 106, 213, 48, 54, 165, 56, 191, 64, 163, 158, 129, 243, 215, 251, 124, 227, 57, 130, 155, 47, 255, 135, 52, 142, 67, 68, 196, 222, 233, 203, 84, 123, 148, 50, 166, 194, 35, 61, 238, 76, 149, 11, 66, 250, 195, 78, 8, 46, 161, 102, 40, 217, 36, 178, 118, 91, 162, 73, 109, 139, 209, 37, 114, 248, 246, 100, 134, 104, 152, 22, 212, 164, 92, 204, 93, 101, 182, 146, 108, 112, 72, 80, 253, 237, 185, 218, 94, 21, 70, 87, 167, 141, 157, 132, 144, 216, 171, 0, 140, 188, 211, 10, 247, 228, 88, 5, 184, 179, 69, 6, 208, 44, 30, 143, 202, 63, 15, 2, 193, 175, 189, 3, 1, 19, 138, 107, 58, 145, 17, 65, 79, 103, 220, 234, 151, 242, 207, 206, 240, 180, 230, 115, 150, 172, 116, 34, 231, 173, 53, 133, 226, 249, 55, 232, 28, 117, 223, 110, 71, 241, 26, 113, 29, 41, 197, 137, 111, 183, 98, 14, 170, 24, 190, 27, 252, 86, 62, 75, 198, 210, 121, 32, 154, 219, 192, 254, 120, 205, 90, 244, 31, 221, 168, 51, 136, 7, 199, 49, 177, 18, 16, 89, 39, 128, 236, 95, 96, 81, 127, 169, 25, 181, 74, 13, 45, 229, 122, 159, 147, 201, 156, 239, 160, 224, 59, 77, 174, 42, 245, 176, 200, 235, 187, 60, 131, 83, 153, 97, 23, 43, 4, 126, 186, 119, 214, 38, 225, 105, 20, 99, 85, 33, 12, 125] (box x).toNat = x := all8 (by decide +kernel)
theorem box_inj {x y : BitVec 8} (h : box x = box y) : x = y := by rw [← unbox x, ← unbox y, h]
theorem shift_inj {s t : Nat → BitVec 8} (h : ∀ i, i < 16 → shiftAt s i = shiftAt t i) (i : Nat) (hi : i < 16) : s i = t i := by
  have := h (4 * ((i / 4 + 4 - i % 4) % 4) + i % 4) (by omega)
  unfold shiftAt at this
  have e : 4 * (((4 * ((i / 4 + 4 - i % 4) % 4) + i % 4) / 4 + (4 * ((i / 4 + 4 - i % 4) % 4) + i % 4) % 4) % 4) + (4 * ((i / 4 + 4 - i % 4) % 4) + i % 4) % 4 = i :=
    (by decide : ∀ i, i < 16 → 4 * (((4 * ((i / 4 + 4 - i % 4) % 4) + i % 4) / 4 + (4 * ((i / 4 + 4 - i % 4) % 4) + i % 4) % 4) % 4) + (4 * ((i / 4 + 4 - i % 4) % 4) + i % 4) % 4 = i) i hi
  rw [e] at this
  exact box_inj this
theorem xcl (x y : BitVec 8) : x ^^^ (x ^^^ y) = y := by rw [← BitVec.xor_assoc, BitVec.xor_self, BitVec.zero_xor]
theorem xlc (x y z : BitVec 8) : x ^^^ (y ^^^ z) = y ^^^ (x ^^^ z) := by rw [← BitVec.xor_assoc, BitVec.xor_comm x y, BitVec.xor_assoc]
theorem mix2 (b : Nat → BitVec 8) (i : Nat) (hi : i < 16) : mixAt (mixAt b) i = twice (twice (b i ^^^ b (i / 4 * 4 + (i + 2) % 4))) ^^^ b i := by
  have h1 : (i / 4 * 4 + (i + 1) % 4) / 4 * 4 + ((i / 4 * 4 + (i + 1) % 4) + 1) % 4 = i / 4 * 4 + (i + 2) % 4 := by omega
  have h2 : (i / 4 * 4 + (i + 1) % 4) / 4 * 4 + ((i / 4 * 4 + (i + 1) % 4) + 2) % 4 = i / 4 * 4 + (i + 3) % 4 := by omega
  have h3 : (i / 4 * 4 + (i + 1) % 4) / 4 * 4 + ((i / 4 * 4 + (i + 1) % 4) + 3) % 4 = i := by omega
  have g1 : (i / 4 * 4 + (i + 2) % 4) / 4 * 4 + ((i / 4 * 4 + (i + 2) % 4) + 1) % 4 = i / 4 * 4 + (i + 3) % 4 := by omega
  have g2 : (i / 4 * 4 + (i + 2) % 4) / 4 * 4 + ((i / 4 * 4 + (i + 2) % 4) + 2) % 4 = i := by omega
  have g3 : (i / 4 * 4 + (i + 2) % 4) / 4 * 4 + ((i / 4 * 4 + (i + 2) % 4) + 3) % 4 = i / 4 * 4 + (i + 1) % 4 := by omega
  have k1 : (i / 4 * 4 + (i + 3) % 4) / 4 * 4 + ((i / 4 * 4 + (i + 3) % 4) + 1) % 4 = i := by omega
  have k2 : (i / 4 * 4 + (i + 3) % 4) / 4 * 4 + ((i / 4 * 4 + (i + 3) % 4) + 2) % 4 = i / 4 * 4 + (i + 1) % 4 := by omega
  have k3 : (i / 4 * 4 + (i + 3) % 4) / 4 * 4 + ((i / 4 * 4 + (i + 3) % 4) + 3) % 4 = i / 4 * 4 + (i + 2) % 4 := by omega
  unfold mixAt
  rw [h1, h2, h3, g1, g2, g3, k1, k2, k3]
  generalize b (i / 4 * 4 + (i + 1) % 4) = b1
  generalize b (i / 4 * 4 + (i + 2) % 4) = b2
  generalize b (i / 4 * 4 + (i + 3) % 4) = b3
  generalize b i = b0
  simp only [twice_xor]
  generalize twice (twice b0) = u0
  generalize twice (twice b1) = u1
  generalize twice (twice b2) = u2
  generalize twice b0 = t0
  generalize twice b1 = t1
  generalize twice b2 = t2
  generalize twice b3 = t3
  simp only [BitVec.xor_assoc, BitVec.xor_comm, xlc, BitVec.xor_self, xcl, BitVec.xor_zero]
theorem mix4 (b : Nat → BitVec 8) (i : Nat) (hi : i < 16) : mixAt (mixAt (mixAt (mixAt b))) i = b i := by
  rw [mix2 _ i hi, mix2 _ i hi, mix2 _ (i / 4 * 4 + (i + 2) % 4) (by omega)]
  rw [show (i / 4 * 4 + (i + 2) % 4) / 4 * 4 + ((i / 4 * 4 + (i + 2) % 4) + 2) % 4 = i by omega]
  generalize b (i / 4 * 4 + (i + 2) % 4) = b2
  generalize b i = b0
  simp only [twice_xor]
  generalize twice (twice b0) = u0
  generalize twice (twice b2) = u2
  simp only [BitVec.xor_assoc, BitVec.xor_comm, xlc, BitVec.xor_self, BitVec.xor_zero, BitVec.zero_xor]
theorem mix_inj {s t : Nat → BitVec 8} (h : ∀ i, i < 16 → mixAt s i = mixAt t i) (i : Nat) (hi : i < 16) : s i = t i := by
  rw [← mix4 s i hi, ← mix4 t i hi]
  exact mixAt_congr (mixAt_congr (mixAt_congr h)) i hi
theorem xor_right_inj {x y z : BitVec 8} (h : x ^^^ z = y ^^^ z) : x = y := by
  have := congrArg (· ^^^ z) h
  simpa [BitVec.xor_assoc] using this
theorem turnS_inj (k a b : Nat → BitVec 8) : ∀ r, (∀ i, i < 16 → pTurnS k a r i = pTurnS k b r i) → ∀ i, i < 16 → a i = b i
  | 0, h, i, hi => xor_right_inj (h i hi)
  | r + 1, h, i, hi => turnS_inj k a b r (shift_inj (mix_inj fun i hi => xor_right_inj (h i hi))) i hi
theorem turn_inj (k a b : Nat → BitVec 8) (h : ∀ i, i < 16 → pTurn k a i = pTurn k b i) : ∀ i, i < 16 → a i = b i :=
  turnS_inj k a b 9 (shift_inj fun i hi => xor_right_inj (h i hi))
end Aes
end Go.Proofs.Ytndlhhhebijknaa
end
