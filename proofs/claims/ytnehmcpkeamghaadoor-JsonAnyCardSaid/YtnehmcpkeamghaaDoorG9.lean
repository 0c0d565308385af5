/-
  Texts of this claim, part 9: JtC, JtL, Sxw, Sxw2, Sxv, Sxs, JtW. No condition of its own.
-/
import Derived.Lib.LaidU8
import Derived.MakeChecks
import Derived.OpenShut
import Derived.ChangeArms
import Derived.Test.YtnehmcpkeamghaaDoorG8
section
/-
  The law JsonAny. No condition.
-/
namespace Go.Proofs.YtnehmcpkeamghaaDoor
set_option linter.unusedVariables false
namespace Js
open Sha
def pT (i : Nat) : Bs := (([[123], [125], [91], [93], [44], [58], [34, 97, 34], [34, 98, 34], [49], [48, 49], [110, 117, 108, 108], [116, 114, 117, 101], [34, 92, 117, 48, 48, 52, 49, 34], [34, 92, 117, 100, 56, 51, 100, 92, 117, 100, 101, 48, 48, 34], [34, 92, 117, 100, 56, 51, 100, 34], [49, 56, 52, 52, 54, 55, 52, 52, 48, 55, 51, 55, 48, 57, 53, 53, 49, 54, 49, 54], [32], [34], [45, 49], [49, 46, 53], [34, 92, 120, 34]] : List (List Nat)).getD i []).map (BitVec.ofNat 8)
theorem pL : ∀ i : _root_.Fin 21, (pT i.val).length ≤ 20 := by decide +kernel
end Js
namespace Sx
open Go.RowKit Sha Vi Js

def pRow : Nat → SC := nthC ((List.range 21).map fun i => .str (U8 (pT i)))
theorem pRow_at {i : Nat} (h : i < 21) : pRow i = .str (U8 (pT i)) := by
  unfold pRow
  exact nthC_get? (by rw [List.getElem?_map, List.getElem?_range h]; rfl)
def jT (s z : Bs) (i : Nat) : Bs := if i = 0 then s else if i = 1 then z else if i = 2 then [91#8] ++ z ++ [93#8] else [123#8, 34#8, 107#8, 34#8, 58#8] ++ z ++ [125#8]
def tRow (s z : Bs) : Nat → SC := nthC ((List.range 4).map fun i => .str (U8 (jT s z i)))
theorem tRow_at {s z : Bs} {i : Nat} (h : i < 4) : tRow s z i = .str (U8 (jT s z i)) := by
  unfold tRow
  exact nthC_get? (by rw [List.getElem?_map, List.getElem?_range h]; rfl)
theorem jT_len {s z : Bs} (hs : s.length ≤ 300) (hz : z.length ≤ 800) (i : Nat) : (jT s z i).length ≤ 900 := by
  unfold jT
  split
  · omega
  split
  · omega
  split
  · simp only [List.length_append, List.length_cons, List.length_nil]; omega
  · simp only [List.length_append, List.length_cons, List.length_nil]; omega
theorem eqC_strJ {q : List Nat} {x y : SC} {l : List UInt8} (h : x = .str l) (k : y = .str l) : eqC q x y True := by
  subst h; subst k; exact ⟨rfl, trivial⟩
set_option maxRecDepth 20000 in
set_option maxHeartbeats 8000000 in
theorem fn_jany {W : World} {ms : List Nat} (hT : Tabs W ms) {s : Bs} (hs9 : s.length ≤ 9223372036854775807) {a : Option Addr} {n c : Nat} {l : Bs} (hb : BsAt W ms a n c l) : FnR Tryd.prog tds 5 1 [[.past W ms]] [.c (.str (U8 s)), .c (.slc a n c)] (fun _ => True) (fun y hs => ∃ W' ms', Later W ms W' ms' ∧ y = .a (.c (.bool true)) ∧ hs = [[.past W' ms']]) := by
  refine fn_of_bodyW tds_ok follows_ Tryd.func5 rfl (t := .a (.c (.str (U8 s))) :: .a (.c (.slc a n c)) :: anys (Tryd.f5.ntmps - 2)) rfl (fun w r0 hr0 _ => ?_)
  obtain ⟨x0, rfl⟩ := len1' hr0
  (repeat first | (refine And.intro ?_ ?_; first | exact rfl | ((exact fun h => absurd h (by first | decide)); intro yy; clear yy) | (rotate_left; (exact fun h => absurd h (by first | decide)); intro yy; clear yy) | decide | omega) | (with_reducible refine frc_bytesL (by first | omega | decide) ?_) | (with_reducible refine frc_bytesM (by first | omega | decide) ?_))
  refine call_past (fn_jawake hT) 0 [] rfl rfl (by (repeat first | exact trivial | refine ent1 ?_)) (by (repeat first | exact trivial | refine ent1 ?_)) (fun _ _ => trivial) (fun x hs hr => ?_) ?_
  · obtain ⟨W', ms', hL, _, rfl⟩ := hr
    exact ⟨W', ms', rfl, hL⟩
  rintro y hs ⟨W1, ms1, hL, rfl, rfl⟩
  by_cases hs3 : 300 < s.length
  · have e3 : decide ((300 : Int) < (((U8 s).length : Nat) : Int)) = true := decide_eq_true (by rw [U8_len]; omega)
    (repeat first | (refine And.intro ?_ ?_; first | exact rfl | ((exact fun h => absurd h (by first | decide | (rw [e3]; decide))); intro yy; clear yy) | (rotate_left; (exact fun h => absurd h (by first | decide | (rw [e3]; decide))); intro yy; clear yy) | decide | omega) | (with_reducible refine frc_bytesL (by first | omega | decide) ?_) | (with_reducible refine frc_bytesM (by first | omega | decide) ?_))
    exact FinW.of ⟨.a (.c (.bool true)), _, ⟨[0], ⟨rfl, rfl, rfl⟩, by (repeat first | exact trivial | refine ent1 ?_)⟩, W1, ms1, hL, rfl, rfl⟩
  have e3 : decide ((300 : Int) < (((U8 s).length : Nat) : Int)) = false := decide_eq_false (by rw [U8_len]; omega)
  have hb1 := hb.later hL
  have hbl : l.length = n := by have h1 := hb.len; simp at h1; omega
  have hcap := hb.cap
  (repeat first | (refine And.intro ?_ ?_; first | exact rfl | ((exact fun h => absurd h (by first | decide | (rw [e3]; decide))); intro yy; clear yy) | (rotate_left; (exact fun h => absurd h (by first | decide | (rw [e3]; decide))); intro yy; clear yy) | decide | omega) | (with_reducible refine frc_bytesL (by first | omega | decide) ?_) | (with_reducible refine frc_bytesM (by first | omega | decide) ?_))
  refine .inl ⟨Nat × Bs, fun x => match x with | (j, z) => ⟨[.a (.c (.str ((U8 s)))), .any, .any, .any, .any, .a (.c (.sl 1 0 0 21 21)), .a (.c (.str ((U8 z)))), .any, .any, .any, .any, .any, .any, .any, .any, .any, .any, .any, .any, .any, .any, .any, .any, .any, .any, .a (.c (.slc a n c)), .a (.c (.int .i64 (n))), .a (.c (.int .i64 (((j : Nat) : Int)))), .any, .any, .any, .any, .any, .any, .any, .any, .any, .any, .any, .any, .any, .any, .any, .any, .any, .any, .any, .any, .any, .any, .any, .any, .any, .any, .any, .any, .any, .any, .any, .any, .any, .any, .any, .any, .any, .any, .any, .any, .any, .any, .any, .any, .any, .any, .any, .any, .any, .any, .any, .any, .any, .any, .any, .any, .any, .any, .any, .any, .any, .any, .any, .any, .any, .any, .any, .any, .any, .any, .any, .any, .any, .any, .any, .any, .any, .any, .any, .any, .any, .any, .any, .any, .any, .any], [[.past W1 ms1], [.row 21 pRow]]⟩,
    fun x => match x with | (j, z) => j ≤ n ∧ z.length ≤ 20 * min j 40, fun x => n - x.1, ⟨(0, []), [0, 1], ⟨⟨rfl, rfl, rfl⟩, ?_⟩, Nat.zero_le _, Nat.zero_le _⟩, fun x hx => ?_⟩
  · (repeat first | exact trivial | refine ent1 ?_)
    exact ⟨fun i hi => eqC_strJ (by have h21 : i = 0 ∨ i = 1 ∨ i = 2 ∨ i = 3 ∨ i = 4 ∨ i = 5 ∨ i = 6 ∨ i = 7 ∨ i = 8 ∨ i = 9 ∨ i = 10 ∨ i = 11 ∨ i = 12 ∨ i = 13 ∨ i = 14 ∨ i = 15 ∨ i = 16 ∨ i = 17 ∨ i = 18 ∨ i = 19 ∨ i = 20 := by omega
                                    rcases h21 with rfl | rfl | rfl | rfl | rfl | rfl | rfl | rfl | rfl | rfl | rfl | rfl | rfl | rfl | rfl | rfl | rfl | rfl | rfl | rfl | rfl <;> rfl) (pRow_at hi), by (repeat first | exact trivial | refine ent1 ?_)⟩
  obtain ⟨j, z⟩ := x
  obtain ⟨hj0, hz⟩ := hx
  dsimp only
  by_cases hj : j < n
  · have e1 : decide ((j : Int) < (n : Int)) = true := decide_eq_true (by omega)
    obtain ⟨A, rfl⟩ : ∃ A, a = some A := by
      cases a with
      | none => exact absurd (hb1.nil rfl) (by have := hb1.le; omega)
      | some A => exact ⟨A, rfl⟩
    have him := (hb1.im A rfl (by have := hb1.le; omega)).one (show (l.map SC.w8)[j]? = some (.w8 (l[j]'(by omega))) by rw [List.getElem?_map, List.getElem?_eq_getElem (by omega)]; rfl)
    generalize (l[j]'(by omega)) = ch at him
    (repeat first | (refine And.intro ?_ ?_; first | exact rfl | ((exact fun h => absurd h (by first | decide | (rw [e1]; decide))); intro yy; clear yy) | (rotate_left; (exact fun h => absurd h (by first | decide | (rw [e1]; decide))); intro yy; clear yy) | decide | omega) | (with_reducible refine frc_bytesL (by first | omega | decide) ?_) | (with_reducible refine frc_bytesM (by first | omega | decide) ?_))
    refine ⟨[.one (.w8 ch)], ⟨.past (i := 0) rfl (by show ImAt W1 ms1 (A.add (j * 1)) _; rw [Nat.mul_one]; exact him), rfl⟩, ?_⟩
    by_cases h40 : j < 40
    · have e4 : decide ((j : Int) < 40) = true := decide_eq_true (by omega)
      (repeat first | (refine And.intro ?_ ?_; first | exact rfl | ((exact fun h => absurd h (by first | decide | (rw [e4]; decide))); intro yy; clear yy) | (rotate_left; (exact fun h => absurd h (by first | decide | (rw [e4]; decide))); intro yy; clear yy) | decide | omega) | (with_reducible refine frc_bytesL (by first | omega | decide) ?_) | (with_reducible refine frc_bytesM (by first | omega | decide) ?_))
      have hci : (((ch.toNat : Nat) : Int) % ((21 : Nat) : Int)).toNat + 0 = ch.toNat % 21 := by omega
      have hc21 : ch.toNat % 21 < 21 := Nat.mod_lt _ (by decide)
      refine frc_atJ (y := .str (U8 (pT (ch.toNat % 21)))) (by rw [hci]; exact pRow_at hc21) ?_
      generalize ch.toNat % 21 = i at hci hc21
      have hpl : (pT i).length ≤ 20 := pL ⟨i, hc21⟩
      (repeat first | (refine And.intro ?_ ?_; first | exact rfl | ((exact fun h => absurd h (by first | decide | (rw [e4]; decide))); intro yy; clear yy) | (rotate_left; (exact fun h => absurd h (by first | decide | (rw [e4]; decide))); intro yy; clear yy) | decide | omega) | (with_reducible refine frc_bytesL (by first | omega | decide) ?_) | (with_reducible refine frc_bytesM (by first | omega | decide) ?_))
      refine And.intro (show (U8 z).length + (U8 (pT i)).length ≤ 9223372036854775807 by rw [U8_len, U8_len]; omega) ?_
      (repeat first | (refine And.intro ?_ ?_; first | exact rfl | ((exact fun h => absurd h (by first | decide | (rw [e4]; decide))); intro yy; clear yy) | (rotate_left; (exact fun h => absurd h (by first | decide | (rw [e4]; decide))); intro yy; clear yy) | decide | omega) | (with_reducible refine frc_bytesL (by first | omega | decide) ?_) | (with_reducible refine frc_bytesM (by first | omega | decide) ?_))
      refine ⟨(j + 1, z ++ pT i), [0, 1], ⟨⟨rfl, rfl, rfl⟩, ?_⟩, ⟨hj, by show (z ++ pT i).length ≤ _; rw [List.length_append]; omega⟩, by dsimp only; omega⟩
      dsimp only
      (repeat first | exact trivial | refine ent1 ?_)
      refine And.intro (show U8 z ++ U8 (pT i) = U8 (z ++ pT i) from List.map_append.symm) ?_
      (repeat first | exact trivial | refine ent1 ?_)
      exact ⟨fun i hi => eqC_strJ (pRow_at hi) (pRow_at hi), by (repeat first | exact trivial | refine ent1 ?_)⟩
    have e4 : decide ((j : Int) < 40) = false := decide_eq_false (by omega)
    (repeat first | (refine And.intro ?_ ?_; first | exact rfl | ((exact fun h => absurd h (by first | decide | (rw [e4]; decide))); intro yy; clear yy) | (rotate_left; (exact fun h => absurd h (by first | decide | (rw [e4]; decide))); intro yy; clear yy) | decide | omega) | (with_reducible refine frc_bytesL (by first | omega | decide) ?_) | (with_reducible refine frc_bytesM (by first | omega | decide) ?_))
    refine ⟨(j + 1, z), [0, 1], ⟨⟨rfl, rfl, rfl⟩, ?_⟩, ⟨hj, by show z.length ≤ _; omega⟩, by dsimp only; omega⟩
    dsimp only
    (repeat first | exact trivial | refine ent1 ?_)
    exact ⟨fun i hi => eqC_strJ (pRow_at hi) (pRow_at hi), by (repeat first | exact trivial | refine ent1 ?_)⟩
  have e1 : decide ((j : Int) < (n : Int)) = false := decide_eq_false (by omega)
  have hz8 : z.length ≤ 800 := by omega
  (repeat first | (refine And.intro ?_ ?_; first | exact rfl | ((exact fun h => absurd h (by first | decide | (rw [e1]; decide))); intro yy; clear yy) | (rotate_left; (exact fun h => absurd h (by first | decide | (rw [e1]; decide))); intro yy; clear yy) | decide | omega) | (with_reducible refine frc_bytesL (by first | omega | decide) ?_) | (with_reducible refine frc_bytesM (by first | omega | decide) ?_))
  refine And.intro (show 1 + (U8 z).length ≤ 9223372036854775807 by rw [U8_len]; omega) ?_
  refine And.intro (show ([91] ++ U8 z).length + 1 ≤ 9223372036854775807 by rw [List.length_append, U8_len]; show 1 + _ + 1 ≤ _; omega) ?_
  refine And.intro (show 5 + (U8 z).length ≤ 9223372036854775807 by rw [U8_len]; omega) ?_
  refine And.intro (show ([123, 34, 107, 34, 58] ++ U8 z).length + 1 ≤ 9223372036854775807 by rw [List.length_append, U8_len]; show 5 + _ + 1 ≤ _; omega) ?_
  (repeat first | (refine And.intro ?_ ?_; first | exact rfl | ((exact fun h => absurd h (by first | decide)); intro yy; clear yy) | (rotate_left; (exact fun h => absurd h (by first | decide)); intro yy; clear yy) | decide | omega) | (with_reducible refine frc_bytesL (by first | omega | decide) ?_) | (with_reducible refine frc_bytesM (by first | omega | decide) ?_))
  refine .inl ⟨World × List Nat × Nat, fun x => match x with | (W', ms', j) => ⟨[.any, .any, .any, .any, .any, .any, .any, .any, .any, .any, .any, .any, .any, .any, .any, .any, .any, .any, .any, .any, .any, .any, .any, .any, .any, .any, .any, .any, .any, .any, .any, .any, .any, .any, .any, .any, .any, .any, .any, .any, .any, .any, .any, .any, .any, .any, .any, .any, .any, .any, .any, .any, .any, .a (.c (.sl 1 0 0 4 4)), .a (.c (.int .i64 (((4 : Nat) : Int)))), .a (.c (.int .i64 (((j : Nat) : Int)))), .any, .any, .any, .any, .any, .any, .any, .any, .any, .any, .any, .any, .any, .any, .any, .any, .any, .any, .any, .any, .any, .any, .any, .any, .any, .any, .any, .any, .any, .any, .any, .any, .any, .any, .any, .any, .any, .any, .any, .any, .any, .any, .any, .any, .any, .any, .any, .any, .any, .any, .any, .any, .any, .any, .any, .any, .any, .any], [[.past W' ms'], [.row 4 (tRow s z)]]⟩,
    fun x => match x with | (W', ms', j) => j ≤ 4 ∧ Later W ms W' ms', fun x => 4 - x.2.2, ⟨(W1, ms1, 0), [0, 2], ⟨⟨rfl, rfl, rfl⟩, ?_⟩, Nat.zero_le _, hL⟩, fun x hx => ?_⟩
  · (repeat first | exact trivial | refine ent1 ?_)
    refine ⟨fun i hi => eqC_strJ ?_ (tRow_at hi), by (repeat first | exact trivial | refine ent1 ?_)⟩
    have h4 : i = 0 ∨ i = 1 ∨ i = 2 ∨ i = 3 := by omega
    rcases h4 with rfl | rfl | rfl | rfl
    · rfl
    · rfl
    · show SC.str (([91] ++ U8 z) ++ [93]) = .str (U8 ([91#8] ++ z ++ [93#8]))
      unfold U8
      rw [List.map_append, List.map_append]; rfl
    · show SC.str (([123, 34, 107, 34, 58] ++ U8 z) ++ [125]) = .str (U8 ([123#8, 34#8, 107#8, 34#8, 58#8] ++ z ++ [125#8]))
      unfold U8
      rw [List.map_append, List.map_append]; rfl
  obtain ⟨W', ms', j⟩ := x
  obtain ⟨hj4, hL'⟩ := hx
  dsimp only
  have hT' := hT.later hL'
  by_cases hj : j < 4
  rotate_left
  · have e1 : decide ((j : Int) < ((4 : Nat) : Int)) = false := decide_eq_false (by omega)
    (repeat first | (refine And.intro ?_ ?_; first | exact rfl | ((exact fun h => absurd h (by first | decide | (rw [e1]; decide))); intro yy; clear yy) | (rotate_left; (exact fun h => absurd h (by first | decide | (rw [e1]; decide))); intro yy; clear yy) | decide | omega) | (with_reducible refine frc_bytesL (by first | omega | decide) ?_) | (with_reducible refine frc_bytesM (by first | omega | decide) ?_))
    exact FinW.of ⟨.a (.c (.bool true)), _, ⟨[0], ⟨rfl, rfl, rfl⟩, by (repeat first | exact trivial | refine ent1 ?_)⟩, W', ms', hL', rfl, rfl⟩
  have e1 : decide ((j : Int) < ((4 : Nat) : Int)) = true := decide_eq_true (by omega)
  obtain ⟨Y, hY, hYl⟩ : ∃ Y, tRow s z j = .str (U8 Y) ∧ Y.length ≤ 900 := ⟨_, tRow_at hj, jT_len (by omega) hz8 j⟩
  (repeat first | (refine And.intro ?_ ?_; first | exact rfl | ((exact fun h => absurd h (by first | decide | (rw [e1]; decide))); intro yy; clear yy) | (rotate_left; (exact fun h => absurd h (by first | decide | (rw [e1]; decide))); intro yy; clear yy) | decide | omega) | (with_reducible refine frc_bytesL (by first | omega | decide) ?_) | (with_reducible refine frc_bytesM (by first | omega | decide) ?_))
  refine frc_atJ (y := .str (U8 Y)) (by exact hY) ?_
  (repeat first | (refine And.intro ?_ ?_; first | exact rfl | ((exact fun h => absurd h (by first | decide)); intro yy; clear yy) | (rotate_left; (exact fun h => absurd h (by first | decide)); intro yy; clear yy) | decide | omega) | (with_reducible refine frc_bytesL (by first | omega | decide) ?_) | (with_reducible refine frc_bytesM (by first | omega | decide) ?_))
  refine call_past (fn_parse hT' Y (by omega)) 0 [] rfl rfl (by exact And.intro rfl trivial) (by (repeat first | exact trivial | refine ent1 ?_)) (fun _ _ => trivial) (fun x hs hr => ?_) ?_
  · rcases hr with ⟨v, x, W2, ms2, p1, p2, p3, _, rfl⟩ | ⟨e, k, W2, ms2, p1, p2, p3, p4, _, rfl⟩
    · exact ⟨W2, ms2, rfl, p2⟩
    · exact ⟨W2, ms2, rfl, p4⟩
  rintro y hs (⟨v, x, W2, ms2, p1, p2, p3, rfl, rfl⟩ | ⟨e, k, W2, ms2, p1, p2, p3, p4, rfl, rfl⟩)
  · obtain ⟨q1, q2⟩ := parse_ok p1
    (repeat first | (refine And.intro ?_ ?_; first | exact rfl | ((exact fun h => absurd h (by first | decide)); intro yy; clear yy) | (rotate_left; (exact fun h => absurd h (by first | decide)); intro yy; clear yy) | decide | omega) | (with_reducible refine frc_bytesL (by first | omega | decide) ?_) | (with_reducible refine frc_bytesM (by first | omega | decide) ?_))
    refine call_same (fn_print (Nat.le_refl _) (hT'.later p2) p3 q1 (by omega)) [0] rfl (by (repeat first | exact trivial | refine ent1 ?_)) (by (repeat first | exact trivial | refine ent1 ?_)) (fun _ _ => trivial) ?_
    rintro y hs ⟨rfl, rfl⟩
    (repeat first | (refine And.intro ?_ ?_; first | exact rfl | ((exact fun h => absurd h (by first | decide)); intro yy; clear yy) | (rotate_left; (exact fun h => absurd h (by first | decide)); intro yy; clear yy) | decide | omega) | (with_reducible refine frc_bytesL (by first | omega | decide) ?_) | (with_reducible refine frc_bytesM (by first | omega | decide) ?_))
    refine call_past (fn_parse_ok (hT'.later p2) (s := put 8 v) (by omega) (parse_put q1 (by omega))) 0 [] rfl rfl (by exact And.intro rfl trivial) (by (repeat first | exact trivial | refine ent1 ?_)) (fun _ _ => trivial) (fun x hs hr => ?_) ?_
    · obtain ⟨x, W3, ms3, h1, _, _, rfl⟩ := hr
      exact ⟨W3, ms3, rfl, h1⟩
    rintro y hs ⟨x', W3, ms3, hL3, hx', rfl, rfl⟩
    (repeat first | (refine And.intro ?_ ?_; first | exact rfl | ((exact fun h => absurd h (by first | decide)); intro yy; clear yy) | (rotate_left; (exact fun h => absurd h (by first | decide)); intro yy; clear yy) | decide | omega) | (with_reducible refine frc_bytesL (by first | omega | decide) ?_) | (with_reducible refine frc_bytesM (by first | omega | decide) ?_))
    refine call_same (fn_check (Nat.le_refl _) ((hT'.later p2).later hL3) (p3.later hL3) q1 (by omega)) [0] rfl (by (repeat first | exact trivial | refine ent1 ?_)) (by (repeat first | exact trivial | refine ent1 ?_)) (fun _ _ => trivial) ?_
    rintro y hs ⟨rfl, rfl⟩
    (repeat first | (refine And.intro ?_ ?_; first | exact rfl | ((exact fun h => absurd h (by first | decide)); intro yy; clear yy) | (rotate_left; (exact fun h => absurd h (by first | decide)); intro yy; clear yy) | decide | omega) | (with_reducible refine frc_bytesL (by first | omega | decide) ?_) | (with_reducible refine frc_bytesM (by first | omega | decide) ?_))
    (repeat first | (refine And.intro ?_ ?_; first | exact rfl | ((exact fun h => absurd h (by first | decide)); intro yy; clear yy) | (rotate_left; (exact fun h => absurd h (by first | decide)); intro yy; clear yy) | decide | omega) | (with_reducible refine frc_bytesL (by first | omega | decide) ?_) | (with_reducible refine frc_bytesM (by first | omega | decide) ?_))
    refine call_same (fn_same (Nat.le_refl _) (p3.later hL3) hx') [0] rfl (by (repeat first | exact trivial | refine ent1 ?_)) (by (repeat first | exact trivial | refine ent1 ?_)) (fun _ _ => trivial) ?_
    rintro y hs ⟨rfl, rfl⟩
    (repeat first | (refine And.intro ?_ ?_; first | exact rfl | ((exact fun h => absurd h (by first | decide)); intro yy; clear yy) | (rotate_left; (exact fun h => absurd h (by first | decide)); intro yy; clear yy) | decide | omega) | (with_reducible refine frc_bytesL (by first | omega | decide) ?_) | (with_reducible refine frc_bytesM (by first | omega | decide) ?_))
    (repeat first | (refine And.intro ?_ ?_; first | exact rfl | ((exact fun h => absurd h (by first | decide)); intro yy; clear yy) | (rotate_left; (exact fun h => absurd h (by first | decide)); intro yy; clear yy) | decide | omega) | (with_reducible refine frc_bytesL (by first | omega | decide) ?_) | (with_reducible refine frc_bytesM (by first | omega | decide) ?_))
    refine ⟨(W3, ms3, j + 1), [0, 1], ⟨⟨rfl, rfl, rfl⟩, ?_⟩, ⟨hj, (hL'.trans p2).trans hL3⟩, by dsimp only; omega⟩
    dsimp only
    (repeat first | exact trivial | refine ent1 ?_)
    exact ⟨fun i hi => eqC_strJ (tRow_at hi) (tRow_at hi), by (repeat first | exact trivial | refine ent1 ?_)⟩
  · have f1 : decide (e ≠ 0) = true := decide_eq_true p2
    (repeat first | (refine And.intro ?_ ?_; first | exact rfl | ((exact fun h => absurd h (by first | decide | (rw [f1]; decide))); intro yy; clear yy) | (rotate_left; (exact fun h => absurd h (by first | decide | (rw [f1]; decide))); intro yy; clear yy) | decide | omega) | (with_reducible refine frc_bytesL (by first | omega | decide) ?_) | (with_reducible refine frc_bytesM (by first | omega | decide) ?_))
    refine call_same (fn_same (d := 8) (Nat.le_refl _) (TAt.leaf (W := W2) (ms := ms2) (v := jt0) rfl rfl 8) (TAt.leaf rfl rfl 8)) [0] rfl (by (repeat first | exact trivial | refine ent1 ?_)) (by (repeat first | exact trivial | refine ent1 ?_)) (fun _ _ => trivial) ?_
    rintro y hs ⟨rfl, rfl⟩
    have f2 : decide ((k : Int) < 0) = false := decide_eq_false (by omega)
    have f3 : decide ((((U8 Y).length : Nat) : Int) < (k : Int)) = false := decide_eq_false (by rw [U8_len]; omega)
    (repeat first | (refine And.intro ?_ ?_; first | exact rfl | ((exact fun h => absurd h (by first | decide | (rw [f2]; decide) | (rw [f3]; decide))); intro yy; clear yy) | (rotate_left; (exact fun h => absurd h (by first | decide | (rw [f2]; decide) | (rw [f3]; decide))); intro yy; clear yy) | decide | omega) | (with_reducible refine frc_bytesL (by first | omega | decide) ?_) | (with_reducible refine frc_bytesM (by first | omega | decide) ?_))
    (repeat first | (refine And.intro ?_ ?_; first | exact rfl | ((exact fun h => absurd h (by first | decide | (rw [f2]; decide) | (rw [f3]; decide))); intro yy; clear yy) | (rotate_left; (exact fun h => absurd h (by first | decide | (rw [f2]; decide) | (rw [f3]; decide))); intro yy; clear yy) | decide | omega) | (with_reducible refine frc_bytesL (by first | omega | decide) ?_) | (with_reducible refine frc_bytesM (by first | omega | decide) ?_))
    refine ⟨(W2, ms2, j + 1), [0, 1], ⟨⟨rfl, rfl, rfl⟩, ?_⟩, ⟨hj, hL'.trans p4⟩, by dsimp only; omega⟩
    dsimp only
    (repeat first | exact trivial | refine ent1 ?_)
    exact ⟨fun i hi => eqC_strJ (tRow_at hi) (tRow_at hi), by (repeat first | exact trivial | refine ent1 ?_)⟩
end Sx
end Go.Proofs.YtnehmcpkeamghaaDoor
end

section
/-
  What the listed tables give a walk; a law's start. No condition.
-/
namespace Go.Proofs.YtnehmcpkeamghaaDoor
set_option linter.unusedVariables false
namespace Sx
open Go.RowKit Sha Vi Js

theorem laysU8 : Go.Proofs.Lays.n260 Tryd.prog Tryd.lays197_ren := { Tryd.lays197 with }
theorem extraU8 : Go.Proofs.U8Extra Tryd.prog Tryd.lays197_ren := ⟨by kernel_rfl, by kernel_rfl, by kernel_rfl, by kernel_rfl, by kernel_rfl, by kernel_rfl, by kernel_rfl⟩
theorem first_eq : Rows.laid_unicode_utf8_first = Lib.firstData := by kernel_rfl
theorem accept_eq : (Rows.laid_unicode_utf8_acceptRanges : DataW Unit) = Lib.acceptData := by kernel_rfl
theorem pow_eq : (Rows.laid_internal_strconv_uint64pow10 : DataW Unit) = Lib.tabData .u64 Lib.pow10Tab := by kernel_rfl
theorem tabIs_reads {P : Program} {W : World} {name : String} {k : IntKind} {zs : List Int} {g : Nat} {t e : TypeId} {n : Nat}
    (hg : P.globalNamed name = some g) (hty : (P.globals[g]?).map (·.type) = some t) (ht : P.underlying t = some (.array n e)) (he : P.underlying e = some (.int k)) (hce : P.cellsOf e = 1) (hct : P.cellsOf t = n)
    (h : Lib.VarReads P W name (Lib.tabData k zs)) : Lib.TabIs P W name k zs := by
  obtain ⟨g', t', cs, fuel, p, hg', ht', hvar, hd⟩ := h
  obtain rfl := Option.some.inj (hg.symm.trans hg')
  obtain rfl := Option.some.inj (hty.symm.trans ht')
  unfold Lib.TabIs
  rw [hvar, ← Lib.cells_of_tab ht he hce hct hd]
theorem size_reads {P : Program} {W : World} {name : String} {d : DataW Unit} {g : Nat} (hg : P.globalNamed name = some g) (h : Lib.VarReads P W name d) : g < W.heap.size := by
  obtain ⟨g', t', cs, fuel, p, hg', ht', hvar, hd⟩ := h
  obtain rfl := Option.some.inj (hg.symm.trans hg')
  rcases Nat.lt_or_ge g W.heap.size with h | h
  · exact h
  · unfold World.var? at hvar
    rw [hg] at hvar
    simp [Array.getElem?_eq_none h] at hvar
theorem tabs_of_laid {W : World} (h : laidMetH Tryd.prog Rows.jsonErrorsRow.laid W) : Tabs W [] := by
  rw [MakeChecks.laidMetH_plain _ _ _ (by kernel_rfl)] at h
  have r5 := Lib.laidMet.reads h (.tail _ (.head _))
  have r3 := Lib.laidMet.reads h (.tail _ (.tail _ (.head _)))
  have r1 := Lib.laidMet.reads h (.tail _ (.tail _ (.tail _ (.head _))))
  have r0 := Lib.laidMet.reads h (.tail _ (.tail _ (.tail _ (.tail _ (.head _)))))
  rw [first_eq] at r0
  rw [accept_eq] at r1
  rw [pow_eq] at r3
  refine ⟨Go.Proofs.utf8Tabs_of_reads laysU8 extraU8 r0 r1, tabIs_reads (P := Tryd.prog) (name := p10n) p10_glob (by kernel_rfl) (t := 156) (e := 23) (n := 20) Tryd.underlying156 Tryd.underlying23 (by kernel_rfl) (by kernel_rfl) (by exact r3), ?_, fun B _ => List.not_mem_nil⟩
  exact size_reads (g := 5) (by kernel_rfl) r5
end Sx
end Go.Proofs.YtnehmcpkeamghaaDoor
end

section
/-
  From a function over blocks to a law's walk: arguments opened. Over any program. No condition of its own.
-/
namespace Go.Proofs.YtnehmcpkeamghaaDoor
set_option linter.unusedVariables false
namespace Sx
open Go.RowKit Go.ChangeShapes Go.WideShapes

section
variable {H : Type} {enc : TypeId × Value → H} {P : Program} {w : World} {base : Nat} {sp : Nat → Bool} {held : Bool}
theorem wf_w8 {a : Int} (h : (Lit.int .u8 a).wf = true) : a = ((BitVec.ofInt 8 a).toNat : Int) := by
  have := bounds_u8 h
  rw [BitVec.toNat_ofInt]
  omega
end
theorem isAs_nil (r : Rho) : IsAs r [] [] := ⟨rfl, fun j x e => by simp at e⟩
theorem isAs_cons {r : Rho} {x : SA} {v : Value} {l : List SA} {vs : List Value} (h : SA.Is r x v) (hs : IsAs r l vs) : IsAs r (x :: l) (v :: vs) :=
  ⟨by simpa using hs.1, fun j y e => by
    cases j with
    | zero => simp at e; subst e; exact ⟨v, rfl, h⟩
    | succ j => exact hs.2 j y e⟩
/-- A law's walk. -/
theorem Fn.law {P : Program} {T : List (Nat × TD)} {f : FuncId} {args : List SA} {raw : World → Prop} (h : Fn P T f [] args raw (fun x hs => x = .a (.c (.bool true)) ∧ hs = [])) {w : World} {vs : List Value} (ha : IsAs [] args vs) (hr : raw w) :
    Calls P f vs.toArray w fun e w' => e = .returned (.bool true) ∧ Below w.heap.size w w' := by
  refine (Fn.calls h ha hr).mono ?_
  rintro e w' ⟨v, x, hs, r', rfl, hx, hok, rfl, rfl⟩
  obtain rfl : v = .bool true := hx
  exact ⟨rfl, hok.ext.below0⟩
end Sx
end Go.Proofs.YtnehmcpkeamghaaDoor
end

section
/-
  Numbers of sixteen bits as arguments. Over any program. No condition of its own.
-/
namespace Go.Proofs.YtnehmcpkeamghaaDoor
set_option linter.unusedVariables false
namespace Sx
open Go.ChangeShapes

end Sx
end Go.Proofs.YtnehmcpkeamghaaDoor
end

section
/-
  From a function over blocks that are only read to a law's walk: slices of bytes that came in. Over any program. No condition of its own.
-/
namespace Go.Proofs.YtnehmcpkeamghaaDoor
set_option linter.unusedVariables false
namespace Sx
open Go.RowKit Go.ChangeShapes Go.WideShapes Sha

theorem okWide_spot {P : Program} {w : World} {r : Reach} {b0 : Nat} {t e : TypeId} {a : Option Addr} {n c : Nat} (ht : P.underlying t = some (.slice e)) (h : Value.okWide P w r b0 t (.slice a n c)) : ∀ x, a = some x → x.spot = none := by
  rintro x rfl
  simp only [Value.okWide, ht, Cell.okWide, Cell.ok] at h
  exact h.2.2.2.1
/-- A slice of bytes that came in: nil (z) or not, its bytes, where they lie. -/
structure InB (w : World) (a : Option Addr) (n c : Nat) (z : Bool) (l : Bs) (B f : Nat) : Prop where
  len : l.length = n
  le : n ≤ c
  cap : c ≤ maxLen
  nil : z = true → l = []
  val : ∀ (r : Rho) (i : Nat), r[i]? = some (B, f) → SC.Is r (.sn z i 0 0 n c) (.slice a n c)
  at_ : ∀ r : Rho, At false r w B f (flat (bts z n 0 n (L l)))
theorem open_b8 {w : World} {a : Option Addr} {len cap : Nat} {zs : List Int} (h : IsRow .u8 w a len cap zs) (hs : ∀ x, a = some x → x.spot = none) : ∃ z l B f, InB w a len cap z l B f := by
  rcases h with ⟨rfl, rfl, rfl, rfl⟩ | ⟨x, rfl, hl, hm, hz, hc, hw⟩
  · exact ⟨true, [], 0, 0, rfl, Nat.le_refl _, by unfold maxLen; omega, fun _ => rfl, fun r i _ => .inl ⟨rfl, rfl, rfl, rfl⟩, fun r j y e => by simp [bts, flat] at e⟩
  · obtain ⟨B, f, spot⟩ := x
    obtain rfl : spot = none := hs _ rfl
    refine ⟨false, (zs.take len).map (BitVec.ofInt 8), B, f, by simp; omega, hl, hm, fun h => Bool.noConfusion h, fun r i hr => .inr (.inl ⟨rfl, B, f, hr, rfl⟩), fun r j y e => ?_⟩
    have hj : j < len := by
      rcases Nat.lt_or_ge j len with h | h
      · exact h
      · rw [List.getElem?_eq_none (by simpa [bts, flat] using h)] at e; cases e
    have e2 : y = .w8 (L ((zs.take len).map (BitVec.ofInt 8)) j) := by
      simp only [bts, flat, List.append_nil, List.getElem?_map, Option.map_eq_some_iff] at e
      obtain ⟨i, hi, rfl⟩ := e
      rw [List.getElem?_range (by omega)] at hi
      injection hi with hi
      subst hi
      have := winF_at 0 len (L ((zs.take len).map (BitVec.ofInt 8))) hj
      rwa [Nat.zero_add] at this
    subst e2
    have hc1 := hc j (by omega)
    have ha : (⟨B, f, none⟩ : Addr).add j = ⟨B, f + j, none⟩ := by unfold Addr.add; simp
    rw [ha] at hc1
    refine ⟨_, hc1, ?_, fun h => Bool.noConfusion h⟩
    show Value.int .u8 _ = Value.int .u8 _
    congr 1
    have hjz : j < zs.length := by omega
    have h3 : zs.getD j 0 = zs[j] := by rw [List.getD_eq_getElem?_getD, List.getElem?_eq_getElem hjz]; rfl
    have h4 : L ((zs.take len).map (BitVec.ofInt 8)) j = BitVec.ofInt 8 zs[j] := by
      rw [L_lt (by simp; omega)]
      simp
    rw [h3, h4]
    exact wf_w8 (hw _ (List.getElem_mem _))
/-- The blocks lie where r says. -/
def AllAt (R : Rho) (w : World) : List (List Seg) → Rho → Prop
  | [], [] => True
  | ch :: h, (B, f) :: r => At false R w B f (flat ch) ∧ AllAt R w h r
  | _, _ => False
theorem AllAt.len {R : Rho} {w : World} : ∀ {h : List (List Seg)} {r : Rho}, AllAt R w h r → r.length = h.length
  | [], [], _ => rfl
  | _ :: h, _ :: r, k => by rw [List.length_cons, List.length_cons, AllAt.len k.2]
  | [], _ :: _, k => k.elim
  | _ :: _, [], k => k.elim
theorem AllAt.get {R : Rho} {w : World} : ∀ {h : List (List Seg)} {r : Rho}, AllAt R w h r → ∀ (i : Nat) (ch : List Seg) (B f : Nat), h[i]? = some ch → r[i]? = some (B, f) → At false R w B f (flat ch)
  | [], [], _, i, _, _, _, e, _ => by simp at e
  | c :: h, (B', f') :: r, k, 0, _, _, _, e1, e2 => by
    simp at e1 e2
    obtain ⟨rfl, rfl⟩ := e2
    subst e1
    exact k.1
  | c :: h, (B', f') :: r, k, i + 1, _, _, _, e1, e2 => k.2.get i _ _ _ (by simpa using e1) (by simpa using e2)
theorem heapOk_ro {P : Program} {T : List (Nat × TD)} {w : World} {r0 : Rho} {h0 : List (List Seg)} (hat : AllAt r0 w h0 r0) (hp : ∀ (i : Nat) (W : World) (ms : List Nat), h0[i]? = some [.past W ms] → W = w) : HeapOk (cx0 P T w r0 h0.length h0) h0 r0 w := by
  have hlen := hat.len
  have hget : ∀ i, h0[i]? = some (getH h0 i) ∨ h0[i]? = none := fun i => by
    rcases Nat.lt_or_ge i h0.length with h | h
    · exact .inl (by rw [List.getElem?_eq_getElem h]; have := getH_eq h0 i; rw [List.getElem?_eq_getElem h] at this; simpa using this.symm)
    · exact .inr (List.getElem?_eq_none h)
  have out : ∀ (i : Nat) (x : Nat × Nat), h0.length ≤ i → r0[i]? = some x → False := fun i x hi e => by
    rw [List.getElem?_eq_none (by omega)] at e; cases e
  refine ⟨Ext.refl _ _, RLe.refl _, Nat.le_of_eq hlen.symm, hlen, fun i ch B f hi hr => ?_, fun i B f ho hr => (out i _ ho hr).elim, fun i B f ho hr => (out i _ ho hr).elim, fun i B f ho hl hr => ?_, fun i ch ho hl hi => ?_, fun i j B f f' ch ch' hij o1 o2 h1 h2 r1 r2 => (out i _ o1 r1).elim, fun i m B f ho _ hr => (out i _ ho hr).elim, fun i W ms hi => ?_⟩
  · have hil : i < h0.length := (List.getElem?_eq_some_iff.1 hi).1
    have : Nat.ble h0.length i = false := by
      cases e : Nat.ble h0.length i
      · rfl
      · have := ble_le e; omega
    show At (Nat.ble h0.length i) _ _ _ _ _
    rw [this]
    exact hat.get i ch B f hi hr
  · refine ⟨?_, ?_⟩
    · show B ∉ (r0.drop h0.length).map (·.1)
      rw [List.drop_eq_nil_of_le (by omega)]
      simp
    · rcases hget i with e | e
      · exact (hat.get i _ B f e hr).lt hl
      · rw [List.getElem?_eq_none_iff] at e
        exact (out i _ e hr).elim
  · have hl : ¬ flat (getH h0 i) ≠ [] := hl
    rcases hget i with e | e
    · rw [hi] at e
      injection e with e
      rw [e]
      exact Classical.not_not.1 hl
    · rw [hi] at e; cases e
  · obtain rfl := hp i W ms hi
    exact ⟨Ext.refl _ _, fun B _ h2 h3 => ⟨i, _, ms, hi, h2, h3⟩, fun j B f ho hr => (out j _ ho hr).elim⟩
def NoPast : List (List Seg) → Prop
  | [] => True
  | l :: r => (∀ W ms, l ≠ [.past W ms]) ∧ NoPast r
theorem NoPast.get {w : World} : ∀ {h : List (List Seg)}, NoPast h → ∀ (i : Nat) (W : World) (ms : List Nat), h[i]? = some [.past W ms] → W = w
  | [], _, i, _, _, e => by simp at e
  | l :: h, k, 0, W, ms, e => by simp at e; exact absurd e (k.1 W ms)
  | l :: h, k, i + 1, W, ms, e => NoPast.get k.2 i W ms (by simpa using e)
theorem bts_np (z : Bool) (N o n : Nat) (b : Nat → BitVec 8) (W : World) (ms : List Nat) : bts z N o n b ≠ [.past W ms] := by
  cases z <;> (intro e; simp [bts] at e)
/-- A law's walk: what came in is only read. -/
theorem FnR.law {P : Program} {T : List (Nat × TD)} {f : FuncId} {n : Nat} {h0 : List (List Seg)} {args : List SA} {raw : World → Prop} {w : World} {vs : List Value} {r0 : Rho} (h : FnR P T f n h0 args raw (fun x _ => x = .a (.c (.bool true)))) (hn : n = h0.length)
    (hat : AllAt r0 w h0 r0) (ha : IsAs r0 args vs) (hr : raw w) (hp : NoPast h0 := by (repeat' first | exact trivial | refine And.intro ?_ ?_ | exact Go.Proofs.YtnehmcpkeamghaaDoor.Sx.bts_np _ _ _ _ _ | (intro W ms e; cases e))) :
    Calls P f vs.toArray w fun e w' => e = .returned (.bool true) ∧ Below w.heap.size w w' := by
  subst hn
  refine (h w r0 vs (heapOk_ro hat hp.get) ha hr).mono ?_
  rintro e w' ⟨v, x, hs, r', rfl, hx, hok, rfl⟩
  obtain rfl : v = .bool true := hx
  refine ⟨rfl, ?_⟩
  have e : Ext ((r0.drop h0.length).map (·.1)) w w' := hok.ext
  rw [List.drop_eq_nil_of_le (by rw [hat.len]; exact Nat.le_refl _)] at e
  exact e.below0
end Sx
end Go.Proofs.YtnehmcpkeamghaaDoor
end

section
/-
  From a function over blocks to a law's walk: structs with slices of bytes that came in. Over any program. No condition of its own.
-/
namespace Go.Proofs.YtnehmcpkeamghaaDoor
set_option linter.unusedVariables false
namespace Sx
open Go.RowKit Go.ChangeShapes Go.WideShapes Sha Vi

/-- What slices of bytes keep to, however long. -/
structure Sl.Fit (s : Sl) : Prop where
  fit : s.o + s.l.length ≤ s.N
  cap : s.l.length ≤ s.c
  nil : s.z = true → s.l = []
theorem Sl.Fit.ok {s : Sl} (h : s.Fit) (hs : s.l.length ≤ 1000000) : s.Ok := ⟨h.fit, h.cap, h.nil, hs⟩
/-- A slice that came in. -/
abbrev slI (z : Bool) (c : Nat) (l : Bs) : Sl := ⟨z, l.length, 0, c, l⟩
theorem InB.fit {w : World} {a : Option Addr} {n c : Nat} {z : Bool} {l : Bs} {B f : Nat} (h : InB w a n c z l B f) : (slI z c l).Fit :=
  ⟨by simp, by have := h.len; have := h.le; show l.length ≤ c; omega, h.nil⟩
end Sx
end Go.Proofs.YtnehmcpkeamghaaDoor
end

section
/-
  A law whose arguments are raw. No condition.
-/
namespace Go.Proofs.YtnehmcpkeamghaaDoor
set_option linter.unusedVariables false
namespace Sx
open Go.RowKit Go.ChangeShapes Go.WideShapes Sha Vi

theorem FnR.lawJ {P : Program} {T : List (Nat × TD)} {f : FuncId} {args : List SA} {w : World} {vs : List Value} (h : FnR P T f 1 [[.past w []]] args (fun _ => True) (fun x _ => x = .a (.c (.bool true))))
    (ha : IsAs [(0, 0)] args vs) : Calls P f vs.toArray w fun e w' => e = .returned (.bool true) ∧ Below w.heap.size w w' := by
  have hat : AllAt [(0, 0)] w [[.past w []]] [(0, 0)] := ⟨fun j x e => by simp [flat] at e, trivial⟩
  refine (h w [(0, 0)] vs (heapOk_ro hat (fun i W ms e => ?_)) ha trivial).mono ?_
  · cases i with
    | zero => simp at e; exact e.1.symm
    | succ i => simp at e
  · rintro e w' ⟨v, x, hs, r', rfl, hx, hok, rfl⟩
    obtain rfl : v = .bool true := hx
    refine ⟨rfl, ?_⟩
    have e : Ext (([((0 : Nat), (0 : Nat))].drop 1).map (·.1)) w w' := hok.ext
    exact e.below0
end Sx
end Go.Proofs.YtnehmcpkeamghaaDoor
end
