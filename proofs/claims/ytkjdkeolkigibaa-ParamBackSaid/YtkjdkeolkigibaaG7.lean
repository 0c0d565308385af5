/-
  Texts of this claim, part 7: PmI, Sxw2. No condition of its own.
-/
import Derived.Test.YtkjdkeolkigibaaG6
section
/-
  The fixed fact about what an endpoint says; any params, put and taken. No condition.
-/
namespace Go.Proofs.Ytkjdkeolkigibaa
set_option linter.unusedVariables false
namespace Sx
open Sha Vi

abbrev pmA : Pm := ⟨0#64, 0#64, 0#64, 0#64, 0#64, 0#64, 0#64, 0#64, 2#64, ⟨true, 0, 0, 0, []⟩⟩
theorem put_A : putP pmA = [1#8, 1#8, 0#8, 4#8, 1#8, 0#8, 5#8, 1#8, 0#8, 6#8, 1#8, 0#8, 7#8, 1#8, 0#8, 8#8, 1#8, 0#8, 9#8, 1#8, 0#8, 11#8, 1#8, 0#8, 14#8, 1#8, 2#8, 15#8, 0#8] := by decide +kernel
theorem check_A : checkP pmA = 0 := by decide +kernel
abbrev twoC (p q : Pm) : List SC := [.w64 p.a0, .w64 p.a1, .w64 p.a2, .w64 p.a3, .w64 p.a4, .w64 p.a5, .w64 p.a6, .w64 p.a7, .w64 p.a8, svC 0 p.s, .w64 q.a0, .w64 q.a1, .w64 q.a2, .w64 q.a3, .w64 q.a4, .w64 q.a5, .w64 q.a6, .w64 q.a7, .w64 q.a8, svC 0 q.s]
set_option maxRecDepth 20000 in
set_option maxHeartbeats 8000000 in
theorem fn_awake10 : FnR Try.prog tds 20 1 [[]] [] (fun _ => True) (fun y hs => y = .a (.c (.bool true)) ∧ hs = [[]]) := by
  refine fn_of_body tds_ok follows_ Try.func20 rfl (t := anys Try.f20.ntmps) rfl (fun w r0 hr _ => ?_)
  obtain ⟨x0, rfl⟩ := List.length_eq_one_iff.1 hr
  (repeat first | (refine And.intro ?_ ?_; first | exact rfl | ((exact fun h => absurd h (by first | decide)); intro yy; clear yy) | (rotate_left; (exact fun h => absurd h (by first | decide)); intro yy; clear yy) | decide | omega) | (with_reducible refine frc_bytesL (by first | omega | decide) ?_) | (with_reducible refine frc_bytesM (by first | omega | decide) ?_))
  refine call_same (fn_pput pmA nil_ok) [0] rfl (by (repeat first | exact trivial | refine ent1 ?_)) (by (repeat first | exact trivial | refine ent1 ?_)) (fun _ _ => trivial) ?_
  rintro x hs' ⟨t, ht, hl, rfl, rfl⟩
  have hl := hl check_A
  rw [put_A] at hl
  rw [check_A]
  have hz : t.z = false := ht.pos (by rw [hl]; decide)
  have hf := ht.fit
  have hcp := ht.cap
  have hlen : t.l.length = 29 := by rw [hl]; rfl
  have v1 : L t.l 27 = 15#8 := by rw [hl]; rfl
  have v2 : L t.l 28 = 0#8 := by rw [hl]; rfl
  clear hl
  obtain ⟨z, N, o, c, l⟩ := t
  dsimp only at hz hf hcp hlen v1 v2
  subst hz
  have e2 : decide ((2 : Int) < (l.length : Int)) = true := decide_eq_true (by omega)
  (repeat first | (refine And.intro ?_ ?_; first | exact rfl | ((exact fun h => absurd h (by first | decide | (rw [e2]; decide))); intro yy; clear yy) | (rotate_left; (exact fun h => absurd h (by first | decide | (rw [e2]; decide))); intro yy; clear yy) | decide | omega) | (with_reducible refine frc_bytesL (by first | omega | decide) ?_) | (with_reducible refine frc_bytesM (by first | omega | decide) ?_))
  refine And.intro (show (-9223372036854775808 : Int) ≤ (l.length : Int) - 2 ∧ (l.length : Int) - 2 ≤ 9223372036854775807 by omega) ?_
  (repeat first | (refine And.intro ?_ ?_; first | exact rfl | ((exact fun h => absurd h (by first | decide | (rw [e2]; decide))); intro yy; clear yy) | (rotate_left; (exact fun h => absurd h (by first | decide | (rw [e2]; decide))); intro yy; clear yy) | decide | omega) | (with_reducible refine frc_bytesL (by first | omega | decide) ?_) | (with_reducible refine frc_bytesM (by first | omega | decide) ?_))
  refine And.intro (show (0 : Int) ≤ (l.length : Int) - 2 ∧ (l.length : Int) - 2 < (l.length : Int) by omega) ?_
  (repeat first | (refine And.intro ?_ ?_; first | exact rfl | ((exact fun h => absurd h (by first | decide | (rw [e2]; decide))); intro yy; clear yy) | (rotate_left; (exact fun h => absurd h (by first | decide | (rw [e2]; decide))); intro yy; clear yy) | decide | omega) | (with_reducible refine frc_bytesL (by first | omega | decide) ?_) | (with_reducible refine frc_bytesM (by first | omega | decide) ?_))
  refine And.intro (show ((l.length : Int) - 2).toNat + o < N by omega) ?_
  refine frc_eq (y := .w8 15#8) (show SC.mp _ (winF o l.length (L l) (((l.length : Int) - 2).toNat + o)) = .w8 15#8 by rw [show ((l.length : Int) - 2).toNat + o = o + 27 by omega, winF_at _ _ _ (by omega), v1]; rfl) ?_
  (repeat first | (refine And.intro ?_ ?_; first | exact rfl | ((exact fun h => absurd h (by first | decide | (rw [e2]; decide))); intro yy; clear yy) | (rotate_left; (exact fun h => absurd h (by first | decide | (rw [e2]; decide))); intro yy; clear yy) | decide | omega) | (with_reducible refine frc_bytesL (by first | omega | decide) ?_) | (with_reducible refine frc_bytesM (by first | omega | decide) ?_))
  refine And.intro (show (-9223372036854775808 : Int) ≤ (l.length : Int) - 1 ∧ (l.length : Int) - 1 ≤ 9223372036854775807 by omega) ?_
  (repeat first | (refine And.intro ?_ ?_; first | exact rfl | ((exact fun h => absurd h (by first | decide | (rw [e2]; decide))); intro yy; clear yy) | (rotate_left; (exact fun h => absurd h (by first | decide | (rw [e2]; decide))); intro yy; clear yy) | decide | omega) | (with_reducible refine frc_bytesL (by first | omega | decide) ?_) | (with_reducible refine frc_bytesM (by first | omega | decide) ?_))
  refine And.intro (show (0 : Int) ≤ (l.length : Int) - 1 ∧ (l.length : Int) - 1 < (l.length : Int) by omega) ?_
  (repeat first | (refine And.intro ?_ ?_; first | exact rfl | ((exact fun h => absurd h (by first | decide | (rw [e2]; decide))); intro yy; clear yy) | (rotate_left; (exact fun h => absurd h (by first | decide | (rw [e2]; decide))); intro yy; clear yy) | decide | omega) | (with_reducible refine frc_bytesL (by first | omega | decide) ?_) | (with_reducible refine frc_bytesM (by first | omega | decide) ?_))
  refine And.intro (show ((l.length : Int) - 1).toNat + o < N by omega) ?_
  refine frc_eq (y := .w8 0#8) (show SC.mp _ (winF o l.length (L l) (((l.length : Int) - 1).toNat + o)) = .w8 0#8 by rw [show ((l.length : Int) - 1).toNat + o = o + 28 by omega, winF_at _ _ _ (by omega), v2]; rfl) ?_
  (repeat first | (refine And.intro ?_ ?_; first | exact rfl | ((exact fun h => absurd h (by first | decide | (rw [e2]; decide))); intro yy; clear yy) | (rotate_left; (exact fun h => absurd h (by first | decide | (rw [e2]; decide))); intro yy; clear yy) | decide | omega) | (with_reducible refine frc_bytesL (by first | omega | decide) ?_) | (with_reducible refine frc_bytesM (by first | omega | decide) ?_))
  refine ⟨.a (.c (.bool true)), _, ⟨[0], ⟨rfl, rfl, rfl⟩, ?_⟩, rfl, rfl⟩
  (repeat first | exact trivial | refine ent1 ?_)
theorem sn_subB {h : List (List Seg)} {s s' : Sl} {j : Nat} {k : (Nat → SC) → Prop} (hs : Sub s s') (ho : s'.Ok) (hj : getH h j = svB s)
    (hk : ∀ g : Nat → SC, (∀ i, i < s'.l.length → g i = .w8 (L s'.l i)) → k g) : ∃ f' : Nat → SC, ((s'.z = true → s'.l.length = 0) ∧ (s'.z = false → SnAt h j 0 s'.o s'.l.length 1 f')) ∧ k f' := by
  refine ⟨fun i => .w8 (L s'.l i), ⟨fun h => by rw [ho.nil h]; rfl, fun hz => ?_⟩, hk _ fun _ _ => rfl⟩
  have hf := ho.fit
  refine ⟨s.N, winF s.o s.l.length (L s.l), [], by rw [hj, svB_row (hs.z hz)]; rfl, by rw [hs.N hz]; exact hf, fun q hq => ?_⟩
  have hq : q < s'.l.length := hq
  have hlo := hs.lo (fun e => by rw [e] at hq; simp at hq)
  show SC.w8 (L s'.l q) = winF s.o s.l.length (L s.l) (q + s'.o)
  rw [show q + s'.o = s.o + (s'.o - s.o + q) by omega, winF_at _ _ _ (by omega), hs.at_ q hq]
theorem eqC_numsM {q : List Nat} {g : Nat → Nat} {l : List (BitVec 64)} {j : Nat} : eqC q (SC.mp g (numsF l j)) (numsF l j) True :=
  eqC_nums (f := fun j => SC.mp g (numsF l j)) (l := l) (fun j x h => by show SC.mp g (numsF l j) = SC.w64 x; unfold numsF; rw [h]; rfl) j
theorem isNum_nums {g : Nat → Nat} {p : Pm} (j : Nat) (hj : j < 9) : isNum .u64 (SC.mp g (numsF (nineL p) j)) = true := by
  obtain ⟨x, hx⟩ : ∃ x, (nineL p)[j]? = some x := ⟨(nineL p)[j], List.getElem?_eq_getElem hj⟩
  unfold numsF; rw [hx]; rfl
theorem mp_nums {g g' : Nat → Nat} {l : List (BitVec 64)} (j : Nat) : SC.mp g (numsF l j) = SC.mp g' (numsF l j) := by
  unfold numsF; split <;> rfl
theorem nine_same {p q : Pm} (h : sameP p q) : nineL p = nineL q := by
  obtain ⟨h0, h1, h2, h3, h4, h5, h6, h7, h8, h9⟩ := h
  unfold nineL
  rw [h0, h1, h2, h3, h4, h5, h6, h7, h8]
theorem lt20 {P : Nat → Prop} (h : P 0 ∧ P 1 ∧ P 2 ∧ P 3 ∧ P 4 ∧ P 5 ∧ P 6 ∧ P 7 ∧ P 8 ∧ P 9 ∧ P 10 ∧ P 11 ∧ P 12 ∧ P 13 ∧ P 14 ∧ P 15 ∧ P 16 ∧ P 17 ∧ P 18 ∧ P 19) (j : Nat) (hj : j < 20) : P j := by
  obtain ⟨h0, h1, h2, h3, h4, h5, h6, h7, h8, h9, h10, h11, h12, h13, h14, h15, h16, h17, h18, h19⟩ := h
  have : j = 0 ∨ j = 1 ∨ j = 2 ∨ j = 3 ∨ j = 4 ∨ j = 5 ∨ j = 6 ∨ j = 7 ∨ j = 8 ∨ j = 9 ∨ j = 10 ∨ j = 11 ∨ j = 12 ∨ j = 13 ∨ j = 14 ∨ j = 15 ∨ j = 16 ∨ j = 17 ∨ j = 18 ∨ j = 19 := by omega
  rcases this with rfl | rfl | rfl | rfl | rfl | rfl | rfl | rfl | rfl | rfl | rfl | rfl | rfl | rfl | rfl | rfl | rfl | rfl | rfl | rfl <;> assumption
theorem eqC_two (p q : Pm) : ∀ j, j < 20 → eqC [0, 1, 2] (nthC (twoC p q) j) (nthC (twoC p q) j) True := by
  refine lt20 ⟨?_, ?_, ?_, ?_, ?_, ?_, ?_, ?_, ?_, ?_, ?_, ?_, ?_, ?_, ?_, ?_, ?_, ?_, ?_, ?_⟩ <;> (repeat first | exact trivial | refine ent1 ?_)
set_option maxRecDepth 20000 in
set_option maxHeartbeats 8000000 in
theorem fn_paramBack (p : Pm) (hfit : p.s.Fit) : FnR Try.prog tds 4 1 [svB p.s] [.agg (pmC 0 p)] (fun _ => True)
    (fun y _ => y = .a (.c (.bool true))) := by
  refine fn_of_body tds_ok follows_ Try.func4 rfl (t := .a (.agg (pmC 0 p)) :: anys (Try.f4.ntmps - 1)) rfl (fun w r0 hr _ => ?_)
  obtain ⟨x0, rfl⟩ := List.length_eq_one_iff.1 hr
  (repeat first | (refine And.intro ?_ ?_; first | exact rfl | ((exact fun h => absurd h (by first | decide)); intro yy; clear yy) | (rotate_left; (exact fun h => absurd h (by first | decide)); intro yy; clear yy) | decide | omega) | (with_reducible refine frc_bytesL (by first | omega | decide) ?_) | (with_reducible refine frc_bytesM (by first | omega | decide) ?_))
  refine call_same fn_awake10 [0] rfl (by (repeat first | exact trivial | refine ent1 ?_)) (by exact eqSegs_nil (by (repeat first | exact trivial | refine ent1 ?_))) (fun _ _ => trivial) ?_
  rintro x hs' ⟨rfl, rfl⟩
  by_cases h1 : 300 < p.s.l.length
  · have e1 : decide ((300 : Int) < (p.s.l.length : Int)) = true := decide_eq_true (by omega)
    (repeat first | (refine And.intro ?_ ?_; first | exact rfl | ((exact fun h => absurd h (by first | decide | (rw [e1]; decide))); intro yy; clear yy) | (rotate_left; (exact fun h => absurd h (by first | decide | (rw [e1]; decide))); intro yy; clear yy) | decide | omega) | (with_reducible refine frc_bytesL (by first | omega | decide) ?_) | (with_reducible refine frc_bytesM (by first | omega | decide) ?_))
    refine ⟨.a (.c (.bool true)), [svB p.s], ⟨[0], ⟨rfl, rfl, rfl⟩, ?_⟩, rfl⟩
    (repeat first | exact trivial | refine ent1 ?_)
    refine eqC_bts ?_
    (repeat first | exact trivial | refine ent1 ?_)
  have hp : p.s.Ok := hfit.ok (by omega)
  have e1 : decide ((300 : Int) < (p.s.l.length : Int)) = false := decide_eq_false (by omega)
  (repeat first | (refine And.intro ?_ ?_; first | exact rfl | ((exact fun h => absurd h (by first | decide | (rw [e1]; decide))); intro yy; clear yy) | (rotate_left; (exact fun h => absurd h (by first | decide | (rw [e1]; decide))); intro yy; clear yy) | decide | omega) | (with_reducible refine frc_bytesL (by first | omega | decide) ?_) | (with_reducible refine frc_bytesM (by first | omega | decide) ?_))
  refine ⟨none, [], [(0, true), (1, true), (5, true), (2, false), (3, false), (4, true)], [], by kernel_rfl, ?_⟩
  (repeat first | (refine And.intro ?_ ?_; first | exact rfl | ((exact fun h => absurd h (by first | decide | (rw [e1]; decide))); intro yy; clear yy) | (rotate_left; (exact fun h => absurd h (by first | decide | (rw [e1]; decide))); intro yy; clear yy) | decide | omega) | (with_reducible refine frc_bytesL (by first | omega | decide) ?_) | (with_reducible refine frc_bytesM (by first | omega | decide) ?_))
  refine call_same (fn_lpfit p hp) [0] rfl (by (repeat first | exact trivial | refine ent1 ?_)) (by refine eqC_bts ?_; (repeat first | exact trivial | refine ent1 ?_)) (fun _ _ => trivial) ?_
  rintro x hs' ⟨rfl, rfl⟩
  obtain ⟨f, hf⟩ : ∃ f, f = fitP p := ⟨_, rfl⟩
  have hfo : f.s.Ok := by rw [hf]; exact take_ok20 hp 20
  have hfs : Sub p.s f.s := by rw [hf]; exact take_sub 20
  (repeat first | (refine And.intro ?_ ?_; first | exact rfl | ((exact fun h => absurd h (by first | decide | (rw [e1]; decide))); intro yy; clear yy) | (rotate_left; (exact fun h => absurd h (by first | decide | (rw [e1]; decide))); intro yy; clear yy) | decide | omega) | (with_reducible refine frc_bytesL (by first | omega | decide) ?_) | (with_reducible refine frc_bytesM (by first | omega | decide) ?_))
  refine And.intro (show 0 + 10 ≤ 20 by decide) ?_
  (repeat first | (refine And.intro ?_ ?_; first | exact rfl | ((exact fun h => absurd h (by first | decide | (rw [e1]; decide))); intro yy; clear yy) | (rotate_left; (exact fun h => absurd h (by first | decide | (rw [e1]; decide))); intro yy; clear yy) | decide | omega) | (with_reducible refine frc_bytesL (by first | omega | decide) ?_) | (with_reducible refine frc_bytesM (by first | omega | decide) ?_))
  refine And.intro (show 10 + 10 ≤ 20 by decide) ?_
  (repeat first | (refine And.intro ?_ ?_; first | exact rfl | ((exact fun h => absurd h (by first | decide | (rw [e1]; decide))); intro yy; clear yy) | (rotate_left; (exact fun h => absurd h (by first | decide | (rw [e1]; decide))); intro yy; clear yy) | decide | omega) | (with_reducible refine frc_bytesL (by first | omega | decide) ?_) | (with_reducible refine frc_bytesM (by first | omega | decide) ?_))
  refine .inl ⟨Nat, fun i => ⟨[.a (.agg (pmC 0 p)), .a (.c (.p 1 0 0)), .any, .any, .any, .any, .any, .any, .any, .any, .any, .any, .any, .any, .any, .any, .any, .any, .any, .a (.c (.sl 2 0 0 2 2)), .a (.c (.int .i64 (2))), .a (.c (.int .i64 ((i : Nat)))), .any, .any, .any, .any, .any, .any, .any, .any, .any, .any, .any, .any, .any, .any, .any, .any, .any, .any, .any, .any, .any, .any, .any, .any, .any, .any, .any, .any, .any, .any, .any, .any, .any, .any, .any, .any, .any, .any, .any, .any, .any, .any, .any, .any, .any, .any, .any, .any, .any, .any, .any, .any, .any, .any, .any, .any, .any, .any, .any, .any, .any, .any], [svB p.s, pmC 0 p, [.row 20 (nthC (twoC p f))]]⟩, fun i => i ≤ 2, fun i => 2 - i, ⟨0, [0, 1, 2], ⟨⟨rfl, rfl, rfl⟩, ?_⟩, by decide⟩, fun i => ?_⟩
  · subst hf
    (repeat first | exact trivial | refine ent1 ?_)
    refine eqC_bts ?_
    (repeat first | exact trivial | refine ent1 ?_)
    refine ⟨lt20 ⟨?_, ?_, ?_, ?_, ?_, ?_, ?_, ?_, ?_, ?_, ?_, ?_, ?_, ?_, ?_, ?_, ?_, ?_, ?_, ?_⟩, ?_⟩ <;> (repeat first | exact trivial | refine ent1 ?_)
  intro hi
  obtain rfl | rfl | rfl : i = 0 ∨ i = 1 ∨ i = 2 := by have : i ≤ 2 := hi; omega
  · (repeat first | (refine And.intro ?_ ?_; first | exact rfl | ((exact fun h => absurd h (by first | decide | (rw [e1]; decide))); intro yy; clear yy) | (rotate_left; (exact fun h => absurd h (by first | decide | (rw [e1]; decide))); intro yy; clear yy) | decide | omega) | (with_reducible refine frc_bytesL (by first | omega | decide) ?_) | (with_reducible refine frc_bytesM (by first | omega | decide) ?_))
    refine call_same (fn_lpcheck p) [0] rfl (by (repeat first | exact trivial | refine ent1 ?_)) (by refine Sub.ent (Sub.refl p.s) ?_; (repeat first | exact trivial | refine ent1 ?_)) (fun _ _ => trivial) ?_
    rintro x hs' ⟨rfl, rfl⟩
    (repeat first | (refine And.intro ?_ ?_; first | exact rfl | ((exact fun h => absurd h (by first | decide | (rw [e1]; decide))); intro yy; clear yy) | (rotate_left; (exact fun h => absurd h (by first | decide | (rw [e1]; decide))); intro yy; clear yy) | decide | omega) | (with_reducible refine frc_bytesL (by first | omega | decide) ?_) | (with_reducible refine frc_bytesM (by first | omega | decide) ?_))
    refine call_same (fn_pput p hp) [0] rfl (by (repeat first | exact trivial | refine ent1 ?_)) (by refine Sub.ent (Sub.refl p.s) ?_; (repeat first | exact trivial | refine ent1 ?_)) (fun _ _ => trivial) ?_
    rintro x hs' ⟨t, ht, hl, rfl, rfl⟩
    (repeat first | (refine And.intro ?_ ?_; first | exact rfl | ((exact fun h => absurd h (by first | decide | (rw [e1]; decide))); intro yy; clear yy) | (rotate_left; (exact fun h => absurd h (by first | decide | (rw [e1]; decide))); intro yy; clear yy) | decide | omega) | (with_reducible refine frc_bytesL (by first | omega | decide) ?_) | (with_reducible refine frc_bytesM (by first | omega | decide) ?_))
    refine call_same (fn_pmcheck p) [0] rfl (by (repeat first | exact trivial | refine ent1 ?_)) (by refine Sub.ent (Sub.refl p.s) ?_; (repeat first | exact trivial | refine ent1 ?_)) (fun _ _ => trivial) ?_
    rintro x hs' ⟨rfl, rfl⟩
    have k1 : decide (checkP p ≠ checkP p) = false := decide_eq_false (fun h => h rfl)
    (repeat first | (refine And.intro ?_ ?_; first | exact rfl | ((exact fun h => absurd h (by first | decide | (rw [k1]; decide))); intro yy; clear yy) | (rotate_left; (exact fun h => absurd h (by first | decide | (rw [k1]; decide))); intro yy; clear yy) | decide | omega) | (with_reducible refine frc_bytesL (by first | omega | decide) ?_) | (with_reducible refine frc_bytesM (by first | omega | decide) ?_))
    by_cases hc : checkP p = 0
    rotate_left
    · have k2 : decide (checkP p ≠ 0) = true := decide_eq_true hc
      (repeat first | (refine And.intro ?_ ?_; first | exact rfl | ((exact fun h => absurd h (by first | decide | (rw [k1]; decide) | (rw [k2]; decide))); intro yy; clear yy) | (rotate_left; (exact fun h => absurd h (by first | decide | (rw [k1]; decide) | (rw [k2]; decide))); intro yy; clear yy) | decide | omega) | (with_reducible refine frc_bytesL (by first | omega | decide) ?_) | (with_reducible refine frc_bytesM (by first | omega | decide) ?_))
      refine ⟨0 + 1, [0, 1, 2], ⟨⟨rfl, rfl, rfl⟩, ?_⟩, by decide, by decide⟩
      (repeat first | exact trivial | refine ent1 ?_)
      refine eqC_bts ?_
      (repeat first | exact trivial | refine ent1 ?_)
      refine ⟨eqC_two p f, ?_⟩
      (repeat first | exact trivial | refine ent1 ?_)
    have k2 : decide (checkP p ≠ 0) = false := decide_eq_false (fun h => h hc)
    (repeat first | (refine And.intro ?_ ?_; first | exact rfl | ((exact fun h => absurd h (by first | decide | (rw [k1]; decide) | (rw [k2]; decide))); intro yy; clear yy) | (rotate_left; (exact fun h => absurd h (by first | decide | (rw [k1]; decide) | (rw [k2]; decide))); intro yy; clear yy) | decide | omega) | (with_reducible refine frc_bytesL (by first | omega | decide) ?_) | (with_reducible refine frc_bytesM (by first | omega | decide) ?_))
    refine call_same (fn_ptake t ht) [4] rfl (by (repeat first | exact trivial | refine ent1 ?_)) (by refine eqC_btsM ?_; (repeat first | exact trivial | refine ent1 ?_)) (fun _ _ => trivial) ?_
    rintro x hs' ⟨q, e, hq, hqo, rfl, rfl⟩
    rw [hl hc] at hq
    obtain ⟨rfl, hs⟩ := take_put hc hq
    (repeat first | (refine And.intro ?_ ?_; first | exact rfl | ((exact fun h => absurd h (by first | decide | (rw [k1]; decide) | (rw [k2]; decide))); intro yy; clear yy) | (rotate_left; (exact fun h => absurd h (by first | decide | (rw [k1]; decide) | (rw [k2]; decide))); intro yy; clear yy) | decide | omega) | (with_reducible refine frc_bytesL (by first | omega | decide) ?_) | (with_reducible refine frc_bytesM (by first | omega | decide) ?_))
    refine ⟨none, [], [(0, true), (1, true), (2, true), (4, true), (5, true), (3, false), (6, false), (7, true), (8, true), (9, true), (10, true), (11, true), (12, true), (13, true), (14, true), (15, true), (16, false), (17, true), (18, true), (19, true), (20, true), (22, true), (21, false), (23, false), (24, true), (25, true), (26, true), (27, true), (28, true), (29, true), (30, true), (31, true), (32, true), (33, true), (34, true)], [], by kernel_rfl, ?_⟩
    (repeat first | (refine And.intro ?_ ?_; first | exact rfl | ((exact fun h => absurd h (by first | decide | (rw [k1]; decide) | (rw [k2]; decide))); intro yy; clear yy) | (rotate_left; (exact fun h => absurd h (by first | decide | (rw [k1]; decide) | (rw [k2]; decide))); intro yy; clear yy) | decide | omega) | (with_reducible refine frc_bytesL (by first | omega | decide) ?_) | (with_reducible refine frc_bytesM (by first | omega | decide) ?_))
    refine sn_btsM rfl ht.fit (fun h => by rw [ht.nil h]; rfl) (fun g hg => ?_)
    refine ⟨U8 t.l, str_of rfl hg, ?_⟩
    (repeat first | (refine And.intro ?_ ?_; first | exact rfl | ((exact fun h => absurd h (by first | decide | (rw [k1]; decide) | (rw [k2]; decide))); intro yy; clear yy) | (rotate_left; (exact fun h => absurd h (by first | decide | (rw [k1]; decide) | (rw [k2]; decide))); intro yy; clear yy) | decide | omega) | (with_reducible refine frc_bytesL (by first | omega | decide) ?_) | (with_reducible refine frc_bytesM (by first | omega | decide) ?_))
    refine call_same (fn_lpnums p) [0] rfl (by (repeat first | exact trivial | refine ent1 ?_)) (by refine Sub.ent (Sub.refl p.s) ?_; (repeat first | exact trivial | refine ent1 ?_)) (fun _ _ => trivial) ?_
    rintro x hs' ⟨rfl, rfl⟩
    (repeat first | (refine And.intro ?_ ?_; first | exact rfl | ((exact fun h => absurd h (by first | decide | (rw [k1]; decide) | (rw [k2]; decide))); intro yy; clear yy) | (rotate_left; (exact fun h => absurd h (by first | decide | (rw [k1]; decide) | (rw [k2]; decide))); intro yy; clear yy) | decide | omega) | (with_reducible refine frc_bytesL (by first | omega | decide) ?_) | (with_reducible refine frc_bytesM (by first | omega | decide) ?_))
    refine call_same (fn_qparams p hp hc) [0] rfl (by (repeat first | exact trivial | refine ent1 ?_); refine ⟨fun j hj => eqC_numsM, ?_⟩; (repeat first | exact trivial | refine ent1 ?_)) (by refine Sub.ent (Sub.refl p.s) ?_; (repeat first | exact trivial | refine ent1 ?_)) (fun _ _ => trivial) ?_
    rintro x hs' ⟨c9, hc9, rfl, rfl⟩
    have hl := hl hc
    generalize putP p = PP at hl hc9 ⊢
    (repeat first | (refine And.intro ?_ ?_; first | exact rfl | ((exact fun h => absurd h (by first | decide | (rw [k1]; decide) | (rw [k2]; decide))); intro yy; clear yy) | (rotate_left; (exact fun h => absurd h (by first | decide | (rw [k1]; decide) | (rw [k2]; decide))); intro yy; clear yy) | decide | omega) | (with_reducible refine frc_bytesL (by first | omega | decide) ?_) | (with_reducible refine frc_bytesM (by first | omega | decide) ?_))
    refine ⟨by show 0 + PP.length ≤ c9; omega, U8 PP, str_of rfl (fun i hi => mp_row i hi), ?_⟩
    have k3 : (!decide (U8 t.l = U8 PP)) = false := by rw [hl]; simp
    have k4 : decide ((0 : Int) ≠ 0) = false := by decide
    (repeat first | (refine And.intro ?_ ?_; first | exact rfl | ((exact fun h => absurd h (by first | decide | (rw [k1]; decide) | (rw [k2]; decide) | (rw [k3]; decide) | (rw [k4]; decide))); intro yy; clear yy) | (rotate_left; (exact fun h => absurd h (by first | decide | (rw [k1]; decide) | (rw [k2]; decide) | (rw [k3]; decide) | (rw [k4]; decide))); intro yy; clear yy) | decide | omega) | (with_reducible refine frc_bytesL (by first | omega | decide) ?_) | (with_reducible refine frc_bytesM (by first | omega | decide) ?_))
    refine call_same (fn_psame q p hqo hp) [5, 0] rfl (by (repeat first | exact trivial | refine ent1 ?_)) (by refine eqC_btsM (Sub.ent (Sub.refl p.s) ?_); (repeat first | exact trivial | refine ent1 ?_)) (fun _ _ => trivial) ?_
    rintro x hs' ⟨rfl, rfl⟩
    have k5 : (!decide (sameP q p)) = false := by rw [decide_eq_true hs]; rfl
    (repeat first | (refine And.intro ?_ ?_; first | exact rfl | ((exact fun h => absurd h (by first | decide | (rw [k1]; decide) | (rw [k2]; decide) | (rw [k3]; decide) | (rw [k4]; decide) | (rw [k5]; decide))); intro yy; clear yy) | (rotate_left; (exact fun h => absurd h (by first | decide | (rw [k1]; decide) | (rw [k2]; decide) | (rw [k3]; decide) | (rw [k4]; decide) | (rw [k5]; decide))); intro yy; clear yy) | decide | omega) | (with_reducible refine frc_bytesL (by first | omega | decide) ?_) | (with_reducible refine frc_bytesM (by first | omega | decide) ?_))
    refine call_same (fn_lpnums q) [5] rfl (by (repeat first | exact trivial | refine ent1 ?_)) (by refine eqC_btsM ?_; (repeat first | exact trivial | refine ent1 ?_)) (fun _ _ => trivial) ?_
    rintro x hs' ⟨rfl, rfl⟩
    (repeat first | (refine And.intro ?_ ?_; first | exact rfl | ((exact fun h => absurd h (by first | decide | (rw [k1]; decide) | (rw [k2]; decide) | (rw [k3]; decide) | (rw [k4]; decide) | (rw [k5]; decide))); intro yy; clear yy) | (rotate_left; (exact fun h => absurd h (by first | decide | (rw [k1]; decide) | (rw [k2]; decide) | (rw [k3]; decide) | (rw [k4]; decide) | (rw [k5]; decide))); intro yy; clear yy) | decide | omega) | (with_reducible refine frc_bytesL (by first | omega | decide) ?_) | (with_reducible refine frc_bytesM (by first | omega | decide) ?_))
    refine call_same (fn_lpnums p) [0] rfl (by (repeat first | exact trivial | refine ent1 ?_)) (by refine Sub.ent (Sub.refl p.s) ?_; (repeat first | exact trivial | refine ent1 ?_)) (fun _ _ => trivial) ?_
    rintro x hs' ⟨rfl, rfl⟩
    (repeat first | (refine And.intro ?_ ?_; first | exact rfl | ((exact fun h => absurd h (by first | decide | (rw [k1]; decide) | (rw [k2]; decide) | (rw [k3]; decide) | (rw [k4]; decide) | (rw [k5]; decide))); intro yy; clear yy) | (rotate_left; (exact fun h => absurd h (by first | decide | (rw [k1]; decide) | (rw [k2]; decide) | (rw [k3]; decide) | (rw [k4]; decide) | (rw [k5]; decide))); intro yy; clear yy) | decide | omega) | (with_reducible refine frc_bytesL (by first | omega | decide) ?_) | (with_reducible refine frc_bytesM (by first | omega | decide) ?_))
    refine ⟨⟨rfl, rfl, fun j hj => isNum_nums j hj, fun j hj => isNum_nums j hj⟩, fun b hb => ?_⟩
    have k6 : (!b) = false := by rw [hb.2 (fun j hj => by rw [nine_same hs]; exact mp_nums j)]; rfl
    (repeat first | (refine And.intro ?_ ?_; first | exact rfl | ((exact fun h => absurd h (by first | decide | (rw [k1]; decide) | (rw [k2]; decide) | (rw [k3]; decide) | (rw [k4]; decide) | (rw [k5]; decide) | (rw [k6]; decide))); intro yy; clear yy) | (rotate_left; (exact fun h => absurd h (by first | decide | (rw [k1]; decide) | (rw [k2]; decide) | (rw [k3]; decide) | (rw [k4]; decide) | (rw [k5]; decide) | (rw [k6]; decide))); intro yy; clear yy) | decide | omega) | (with_reducible refine frc_bytesL (by first | omega | decide) ?_) | (with_reducible refine frc_bytesM (by first | omega | decide) ?_))
    refine sn_btsM rfl hqo.fit (fun h => by rw [hqo.nil h]; rfl) (fun g2 hg2 => ?_)
    refine ⟨U8 q.s.l, str_of rfl hg2, ?_⟩
    (repeat first | (refine And.intro ?_ ?_; first | exact rfl | ((exact fun h => absurd h (by first | decide | (rw [k1]; decide) | (rw [k2]; decide) | (rw [k3]; decide) | (rw [k4]; decide) | (rw [k5]; decide) | (rw [k6]; decide))); intro yy; clear yy) | (rotate_left; (exact fun h => absurd h (by first | decide | (rw [k1]; decide) | (rw [k2]; decide) | (rw [k3]; decide) | (rw [k4]; decide) | (rw [k5]; decide) | (rw [k6]; decide))); intro yy; clear yy) | decide | omega) | (with_reducible refine frc_bytesL (by first | omega | decide) ?_) | (with_reducible refine frc_bytesM (by first | omega | decide) ?_))
    refine sn_subB (Sub.refl p.s) hp rfl (fun g3 hg3 => ?_)
    refine ⟨U8 p.s.l, str_of rfl hg3, ?_⟩
    have k7 : (!decide (U8 q.s.l = U8 p.s.l)) = false := by rw [hs.2.2.2.2.2.2.2.2.2]; simp
    (repeat first | (refine And.intro ?_ ?_; first | exact rfl | ((exact fun h => absurd h (by first | decide | (rw [k1]; decide) | (rw [k2]; decide) | (rw [k3]; decide) | (rw [k4]; decide) | (rw [k5]; decide) | (rw [k6]; decide) | (rw [k7]; decide))); intro yy; clear yy) | (rotate_left; (exact fun h => absurd h (by first | decide | (rw [k1]; decide) | (rw [k2]; decide) | (rw [k3]; decide) | (rw [k4]; decide) | (rw [k5]; decide) | (rw [k6]; decide) | (rw [k7]; decide))); intro yy; clear yy) | decide | omega) | (with_reducible refine frc_bytesL (by first | omega | decide) ?_) | (with_reducible refine frc_bytesM (by first | omega | decide) ?_))
    refine ⟨0 + 1, [0, 1, 2], ⟨⟨rfl, rfl, rfl⟩, ?_⟩, by decide, by decide⟩
    (repeat first | exact trivial | refine ent1 ?_)
    refine eqC_bts ?_
    (repeat first | exact trivial | refine ent1 ?_)
    refine ⟨eqC_two p f, ?_⟩
    (repeat first | exact trivial | refine ent1 ?_)
  · (repeat first | (refine And.intro ?_ ?_; first | exact rfl | ((exact fun h => absurd h (by first | decide | (rw [e1]; decide))); intro yy; clear yy) | (rotate_left; (exact fun h => absurd h (by first | decide | (rw [e1]; decide))); intro yy; clear yy) | decide | omega) | (with_reducible refine frc_bytesL (by first | omega | decide) ?_) | (with_reducible refine frc_bytesM (by first | omega | decide) ?_))
    refine call_same (fn_lpcheck f) [0] rfl (by (repeat first | exact trivial | refine ent1 ?_)) (by refine Sub.ent hfs ?_; (repeat first | exact trivial | refine ent1 ?_)) (fun _ _ => trivial) ?_
    rintro x hs' ⟨rfl, rfl⟩
    (repeat first | (refine And.intro ?_ ?_; first | exact rfl | ((exact fun h => absurd h (by first | decide | (rw [e1]; decide))); intro yy; clear yy) | (rotate_left; (exact fun h => absurd h (by first | decide | (rw [e1]; decide))); intro yy; clear yy) | decide | omega) | (with_reducible refine frc_bytesL (by first | omega | decide) ?_) | (with_reducible refine frc_bytesM (by first | omega | decide) ?_))
    refine call_same (fn_pput f hfo) [0] rfl (by (repeat first | exact trivial | refine ent1 ?_)) (by refine Sub.ent hfs ?_; (repeat first | exact trivial | refine ent1 ?_)) (fun _ _ => trivial) ?_
    rintro x hs' ⟨t, ht, hl, rfl, rfl⟩
    (repeat first | (refine And.intro ?_ ?_; first | exact rfl | ((exact fun h => absurd h (by first | decide | (rw [e1]; decide))); intro yy; clear yy) | (rotate_left; (exact fun h => absurd h (by first | decide | (rw [e1]; decide))); intro yy; clear yy) | decide | omega) | (with_reducible refine frc_bytesL (by first | omega | decide) ?_) | (with_reducible refine frc_bytesM (by first | omega | decide) ?_))
    refine call_same (fn_pmcheck f) [0] rfl (by (repeat first | exact trivial | refine ent1 ?_)) (by refine Sub.ent hfs ?_; (repeat first | exact trivial | refine ent1 ?_)) (fun _ _ => trivial) ?_
    rintro x hs' ⟨rfl, rfl⟩
    have k1 : decide (checkP f ≠ checkP f) = false := decide_eq_false (fun h => h rfl)
    (repeat first | (refine And.intro ?_ ?_; first | exact rfl | ((exact fun h => absurd h (by first | decide | (rw [k1]; decide))); intro yy; clear yy) | (rotate_left; (exact fun h => absurd h (by first | decide | (rw [k1]; decide))); intro yy; clear yy) | decide | omega) | (with_reducible refine frc_bytesL (by first | omega | decide) ?_) | (with_reducible refine frc_bytesM (by first | omega | decide) ?_))
    by_cases hc : checkP f = 0
    rotate_left
    · have k2 : decide (checkP f ≠ 0) = true := decide_eq_true hc
      (repeat first | (refine And.intro ?_ ?_; first | exact rfl | ((exact fun h => absurd h (by first | decide | (rw [k1]; decide) | (rw [k2]; decide))); intro yy; clear yy) | (rotate_left; (exact fun h => absurd h (by first | decide | (rw [k1]; decide) | (rw [k2]; decide))); intro yy; clear yy) | decide | omega) | (with_reducible refine frc_bytesL (by first | omega | decide) ?_) | (with_reducible refine frc_bytesM (by first | omega | decide) ?_))
      refine ⟨1 + 1, [0, 1, 2], ⟨⟨rfl, rfl, rfl⟩, ?_⟩, by decide, by decide⟩
      (repeat first | exact trivial | refine ent1 ?_)
      refine eqC_bts ?_
      (repeat first | exact trivial | refine ent1 ?_)
      refine ⟨eqC_two p f, ?_⟩
      (repeat first | exact trivial | refine ent1 ?_)
    have k2 : decide (checkP f ≠ 0) = false := decide_eq_false (fun h => h hc)
    (repeat first | (refine And.intro ?_ ?_; first | exact rfl | ((exact fun h => absurd h (by first | decide | (rw [k1]; decide) | (rw [k2]; decide))); intro yy; clear yy) | (rotate_left; (exact fun h => absurd h (by first | decide | (rw [k1]; decide) | (rw [k2]; decide))); intro yy; clear yy) | decide | omega) | (with_reducible refine frc_bytesL (by first | omega | decide) ?_) | (with_reducible refine frc_bytesM (by first | omega | decide) ?_))
    refine call_same (fn_ptake t ht) [4] rfl (by (repeat first | exact trivial | refine ent1 ?_)) (by refine eqC_btsM ?_; (repeat first | exact trivial | refine ent1 ?_)) (fun _ _ => trivial) ?_
    rintro x hs' ⟨q, e, hq, hqo, rfl, rfl⟩
    rw [hl hc] at hq
    obtain ⟨rfl, hs⟩ := take_put hc hq
    (repeat first | (refine And.intro ?_ ?_; first | exact rfl | ((exact fun h => absurd h (by first | decide | (rw [k1]; decide) | (rw [k2]; decide))); intro yy; clear yy) | (rotate_left; (exact fun h => absurd h (by first | decide | (rw [k1]; decide) | (rw [k2]; decide))); intro yy; clear yy) | decide | omega) | (with_reducible refine frc_bytesL (by first | omega | decide) ?_) | (with_reducible refine frc_bytesM (by first | omega | decide) ?_))
    refine ⟨none, [], [(0, true), (1, true), (2, true), (4, true), (5, true), (3, false), (6, false), (7, true), (8, true), (9, true), (10, true), (11, true), (12, true), (13, true), (14, true), (15, true), (16, false), (17, true), (18, true), (19, true), (20, true), (22, true), (21, false), (23, false), (24, true), (25, true), (26, true), (27, true), (28, true), (29, true), (30, true), (31, true), (32, true), (33, true), (34, true)], [], by kernel_rfl, ?_⟩
    (repeat first | (refine And.intro ?_ ?_; first | exact rfl | ((exact fun h => absurd h (by first | decide | (rw [k1]; decide) | (rw [k2]; decide))); intro yy; clear yy) | (rotate_left; (exact fun h => absurd h (by first | decide | (rw [k1]; decide) | (rw [k2]; decide))); intro yy; clear yy) | decide | omega) | (with_reducible refine frc_bytesL (by first | omega | decide) ?_) | (with_reducible refine frc_bytesM (by first | omega | decide) ?_))
    refine sn_btsM rfl ht.fit (fun h => by rw [ht.nil h]; rfl) (fun g hg => ?_)
    refine ⟨U8 t.l, str_of rfl hg, ?_⟩
    (repeat first | (refine And.intro ?_ ?_; first | exact rfl | ((exact fun h => absurd h (by first | decide | (rw [k1]; decide) | (rw [k2]; decide))); intro yy; clear yy) | (rotate_left; (exact fun h => absurd h (by first | decide | (rw [k1]; decide) | (rw [k2]; decide))); intro yy; clear yy) | decide | omega) | (with_reducible refine frc_bytesL (by first | omega | decide) ?_) | (with_reducible refine frc_bytesM (by first | omega | decide) ?_))
    refine call_same (fn_lpnums f) [0] rfl (by (repeat first | exact trivial | refine ent1 ?_)) (by refine Sub.ent hfs ?_; (repeat first | exact trivial | refine ent1 ?_)) (fun _ _ => trivial) ?_
    rintro x hs' ⟨rfl, rfl⟩
    (repeat first | (refine And.intro ?_ ?_; first | exact rfl | ((exact fun h => absurd h (by first | decide | (rw [k1]; decide) | (rw [k2]; decide))); intro yy; clear yy) | (rotate_left; (exact fun h => absurd h (by first | decide | (rw [k1]; decide) | (rw [k2]; decide))); intro yy; clear yy) | decide | omega) | (with_reducible refine frc_bytesL (by first | omega | decide) ?_) | (with_reducible refine frc_bytesM (by first | omega | decide) ?_))
    refine call_same (fn_qparams f hfo hc) [0] rfl (by (repeat first | exact trivial | refine ent1 ?_); refine ⟨fun j hj => eqC_numsM, ?_⟩; (repeat first | exact trivial | refine ent1 ?_)) (by refine Sub.ent hfs ?_; (repeat first | exact trivial | refine ent1 ?_)) (fun _ _ => trivial) ?_
    rintro x hs' ⟨c9, hc9, rfl, rfl⟩
    have hl := hl hc
    generalize putP f = PP at hl hc9 ⊢
    (repeat first | (refine And.intro ?_ ?_; first | exact rfl | ((exact fun h => absurd h (by first | decide | (rw [k1]; decide) | (rw [k2]; decide))); intro yy; clear yy) | (rotate_left; (exact fun h => absurd h (by first | decide | (rw [k1]; decide) | (rw [k2]; decide))); intro yy; clear yy) | decide | omega) | (with_reducible refine frc_bytesL (by first | omega | decide) ?_) | (with_reducible refine frc_bytesM (by first | omega | decide) ?_))
    refine ⟨by show 0 + PP.length ≤ c9; omega, U8 PP, str_of rfl (fun i hi => mp_row i hi), ?_⟩
    have k3 : (!decide (U8 t.l = U8 PP)) = false := by rw [hl]; simp
    have k4 : decide ((0 : Int) ≠ 0) = false := by decide
    (repeat first | (refine And.intro ?_ ?_; first | exact rfl | ((exact fun h => absurd h (by first | decide | (rw [k1]; decide) | (rw [k2]; decide) | (rw [k3]; decide) | (rw [k4]; decide))); intro yy; clear yy) | (rotate_left; (exact fun h => absurd h (by first | decide | (rw [k1]; decide) | (rw [k2]; decide) | (rw [k3]; decide) | (rw [k4]; decide))); intro yy; clear yy) | decide | omega) | (with_reducible refine frc_bytesL (by first | omega | decide) ?_) | (with_reducible refine frc_bytesM (by first | omega | decide) ?_))
    refine call_same (fn_psame q f hqo hfo) [5, 0] rfl (by (repeat first | exact trivial | refine ent1 ?_)) (by refine eqC_btsM (Sub.ent hfs ?_); (repeat first | exact trivial | refine ent1 ?_)) (fun _ _ => trivial) ?_
    rintro x hs' ⟨rfl, rfl⟩
    have k5 : (!decide (sameP q f)) = false := by rw [decide_eq_true hs]; rfl
    (repeat first | (refine And.intro ?_ ?_; first | exact rfl | ((exact fun h => absurd h (by first | decide | (rw [k1]; decide) | (rw [k2]; decide) | (rw [k3]; decide) | (rw [k4]; decide) | (rw [k5]; decide))); intro yy; clear yy) | (rotate_left; (exact fun h => absurd h (by first | decide | (rw [k1]; decide) | (rw [k2]; decide) | (rw [k3]; decide) | (rw [k4]; decide) | (rw [k5]; decide))); intro yy; clear yy) | decide | omega) | (with_reducible refine frc_bytesL (by first | omega | decide) ?_) | (with_reducible refine frc_bytesM (by first | omega | decide) ?_))
    refine call_same (fn_lpnums q) [5] rfl (by (repeat first | exact trivial | refine ent1 ?_)) (by refine eqC_btsM ?_; (repeat first | exact trivial | refine ent1 ?_)) (fun _ _ => trivial) ?_
    rintro x hs' ⟨rfl, rfl⟩
    (repeat first | (refine And.intro ?_ ?_; first | exact rfl | ((exact fun h => absurd h (by first | decide | (rw [k1]; decide) | (rw [k2]; decide) | (rw [k3]; decide) | (rw [k4]; decide) | (rw [k5]; decide))); intro yy; clear yy) | (rotate_left; (exact fun h => absurd h (by first | decide | (rw [k1]; decide) | (rw [k2]; decide) | (rw [k3]; decide) | (rw [k4]; decide) | (rw [k5]; decide))); intro yy; clear yy) | decide | omega) | (with_reducible refine frc_bytesL (by first | omega | decide) ?_) | (with_reducible refine frc_bytesM (by first | omega | decide) ?_))
    refine call_same (fn_lpnums f) [0] rfl (by (repeat first | exact trivial | refine ent1 ?_)) (by refine Sub.ent hfs ?_; (repeat first | exact trivial | refine ent1 ?_)) (fun _ _ => trivial) ?_
    rintro x hs' ⟨rfl, rfl⟩
    (repeat first | (refine And.intro ?_ ?_; first | exact rfl | ((exact fun h => absurd h (by first | decide | (rw [k1]; decide) | (rw [k2]; decide) | (rw [k3]; decide) | (rw [k4]; decide) | (rw [k5]; decide))); intro yy; clear yy) | (rotate_left; (exact fun h => absurd h (by first | decide | (rw [k1]; decide) | (rw [k2]; decide) | (rw [k3]; decide) | (rw [k4]; decide) | (rw [k5]; decide))); intro yy; clear yy) | decide | omega) | (with_reducible refine frc_bytesL (by first | omega | decide) ?_) | (with_reducible refine frc_bytesM (by first | omega | decide) ?_))
    refine ⟨⟨rfl, rfl, fun j hj => isNum_nums j hj, fun j hj => isNum_nums j hj⟩, fun b hb => ?_⟩
    have k6 : (!b) = false := by rw [hb.2 (fun j hj => by rw [nine_same hs]; exact mp_nums j)]; rfl
    (repeat first | (refine And.intro ?_ ?_; first | exact rfl | ((exact fun h => absurd h (by first | decide | (rw [k1]; decide) | (rw [k2]; decide) | (rw [k3]; decide) | (rw [k4]; decide) | (rw [k5]; decide) | (rw [k6]; decide))); intro yy; clear yy) | (rotate_left; (exact fun h => absurd h (by first | decide | (rw [k1]; decide) | (rw [k2]; decide) | (rw [k3]; decide) | (rw [k4]; decide) | (rw [k5]; decide) | (rw [k6]; decide))); intro yy; clear yy) | decide | omega) | (with_reducible refine frc_bytesL (by first | omega | decide) ?_) | (with_reducible refine frc_bytesM (by first | omega | decide) ?_))
    refine sn_btsM rfl hqo.fit (fun h => by rw [hqo.nil h]; rfl) (fun g2 hg2 => ?_)
    refine ⟨U8 q.s.l, str_of rfl hg2, ?_⟩
    (repeat first | (refine And.intro ?_ ?_; first | exact rfl | ((exact fun h => absurd h (by first | decide | (rw [k1]; decide) | (rw [k2]; decide) | (rw [k3]; decide) | (rw [k4]; decide) | (rw [k5]; decide) | (rw [k6]; decide))); intro yy; clear yy) | (rotate_left; (exact fun h => absurd h (by first | decide | (rw [k1]; decide) | (rw [k2]; decide) | (rw [k3]; decide) | (rw [k4]; decide) | (rw [k5]; decide) | (rw [k6]; decide))); intro yy; clear yy) | decide | omega) | (with_reducible refine frc_bytesL (by first | omega | decide) ?_) | (with_reducible refine frc_bytesM (by first | omega | decide) ?_))
    refine sn_subB hfs hfo rfl (fun g3 hg3 => ?_)
    refine ⟨U8 f.s.l, str_of rfl hg3, ?_⟩
    have k7 : (!decide (U8 q.s.l = U8 f.s.l)) = false := by rw [hs.2.2.2.2.2.2.2.2.2]; simp
    (repeat first | (refine And.intro ?_ ?_; first | exact rfl | ((exact fun h => absurd h (by first | decide | (rw [k1]; decide) | (rw [k2]; decide) | (rw [k3]; decide) | (rw [k4]; decide) | (rw [k5]; decide) | (rw [k6]; decide) | (rw [k7]; decide))); intro yy; clear yy) | (rotate_left; (exact fun h => absurd h (by first | decide | (rw [k1]; decide) | (rw [k2]; decide) | (rw [k3]; decide) | (rw [k4]; decide) | (rw [k5]; decide) | (rw [k6]; decide) | (rw [k7]; decide))); intro yy; clear yy) | decide | omega) | (with_reducible refine frc_bytesL (by first | omega | decide) ?_) | (with_reducible refine frc_bytesM (by first | omega | decide) ?_))
    refine ⟨1 + 1, [0, 1, 2], ⟨⟨rfl, rfl, rfl⟩, ?_⟩, by decide, by decide⟩
    (repeat first | exact trivial | refine ent1 ?_)
    refine eqC_bts ?_
    (repeat first | exact trivial | refine ent1 ?_)
    refine ⟨eqC_two p f, ?_⟩
    (repeat first | exact trivial | refine ent1 ?_)
  · (repeat first | (refine And.intro ?_ ?_; first | exact rfl | ((exact fun h => absurd h (by first | decide)); intro yy; clear yy) | (rotate_left; (exact fun h => absurd h (by first | decide)); intro yy; clear yy) | decide | omega) | (with_reducible refine frc_bytesL (by first | omega | decide) ?_) | (with_reducible refine frc_bytesM (by first | omega | decide) ?_))
    refine ⟨.a (.c (.bool true)), [svB p.s], ⟨[0], ⟨rfl, rfl, rfl⟩, ?_⟩, rfl⟩
    (repeat first | exact trivial | refine ent1 ?_)
    refine eqC_bts ?_
    (repeat first | exact trivial | refine ent1 ?_)
end Sx
end Go.Proofs.Ytkjdkeolkigibaa
end

section
/-
  Numbers of sixteen bits as arguments. Over any program. No condition of its own.
-/
namespace Go.Proofs.Ytkjdkeolkigibaa
set_option linter.unusedVariables false
namespace Sx
open Go.ChangeShapes

theorem wf_w64 {a : Int} (h : (Lit.int .u64 a).wf = true) : a = ((BitVec.ofInt 64 a).toNat : Int) := by
  have := bounds_u64 h
  rw [BitVec.toNat_ofInt]
  omega
end Sx
end Go.Proofs.Ytkjdkeolkigibaa
end
