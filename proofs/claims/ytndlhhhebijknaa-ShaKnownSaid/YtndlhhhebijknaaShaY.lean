/-
  SHA-256: the law's fixed fact; marks. No condition.
-/
import Derived.Test.YtndlhhhebijknaaShaX
import Derived.Test.YtndlhhhebijknaaShaV
import Derived.Test.YtndlhhhebijknaaSxv
namespace Go.Proofs.Ytndlhhhebijknaa
set_option linter.unusedVariables false
namespace Sha
/-- Bytes as the model's strings have them. -/
def U8 (l : Bs) : List UInt8 := l.map UInt8.ofBitVec
@[simp] theorem U8_len (l : Bs) : (U8 l).length = l.length := by simp [U8]
theorem U8_get (l : Bs) (q : Nat) (h : q < l.length) : ((U8 l).getD q 0).toBitVec = L l q := by
  rw [L_lt h, List.getD_eq_getElem?_getD, U8, List.getElem?_map, List.getElem?_eq_getElem h]
  rfl
theorem U8_inj {l m : Bs} (h : U8 l = U8 m) : l = m := by
  have : (U8 l).map UInt8.toBitVec = (U8 m).map UInt8.toBitVec := congrArg _ h
  simpa [U8, Function.comp_def] using this
theorem cat2 (a b c : Bs) : cat (ps3 a b c) 2 = a ++ b := by simp [cat, ps3]
theorem cat1 (a b c : Bs) : cat (ps3 a b c) 1 = a := by simp [cat, ps3]
theorem cat3 (a b c : Bs) : cat (ps3 a b c) 3 = a ++ b ++ c := by simp [cat, ps3]
end Sha
namespace Sx
open Sha

theorem eqSegs_nil {q : List Nat} {x : List Seg} {k : Prop} (h : k) : eqSegs q x [] k := by
  cases x with
  | nil => exact h
  | cons a r => cases a <;> exact h
/-- Bytes of a string. -/
theorem str_of {g : Nat → SC} {n : Nat} {M : Bs} (hn : M.length = n) (h : ∀ q, q < n → g q = .w8 (L M q)) : (U8 M).length = n ∧ ∀ q, q < n → g q = .w8 ((U8 M).getD q 0).toBitVec :=
  ⟨by rw [U8_len, hn], fun q hq => by rw [h q hq, U8_get M q (by omega)]⟩
theorem nthC_w8 : ∀ (l : Bs) (j : Nat), j < l.length → nthC (l.map SC.w8) j = .w8 (L l j)
  | [], _, h => absurd h (by simp)
  | x :: l, 0, _ => rfl
  | x :: l, j + 1, h => nthC_w8 l j (by simpa using h)
theorem eqC_lit {q : List Nat} (l : Bs) {j : Nat} (h : j < l.length) : eqC q (nthC (l.map SC.w8) j) (winF 0 l.length (L l) j) True :=
  eqC_win0 (f := nthC (l.map SC.w8)) (fun i hi => nthC_w8 l i hi) j
def abc : Bs := [97#8, 98#8, 99#8]
theorem abc_sum : L (sumL abc) 0 = 186#8 ∧ L (sumL abc) 1 = 120#8 ∧ L (sumL abc) 2 = 22#8 ∧ L (sumL abc) 3 = 191#8 :=
  of_decide_eq_true (sum_by (p := fun l => decide (L l 0 = 186#8 ∧ L l 1 = 120#8 ∧ L l 2 = 22#8 ∧ L l 3 = 191#8)) (by decide +kernel))
set_option maxRecDepth 20000 in
theorem fn_awake3 : Fn Try.prog tds 15 [] [] (fun _ => True) (fun x hs => x = .a (.c (.bool true)) ∧ hs = []) := by
  refine fn_of_body tds_ok follows_ Try.func15 rfl (t := anys 27) rfl (fun w r0 hr _ => ?_)
  obtain rfl : r0 = [] := List.eq_nil_of_length_eq_zero hr
  refine ⟨by kernel_rfl, call_same fn_snew [] rfl trivial trivial (fun _ _ => trivial) ?_⟩
  rintro x hs ⟨rfl, rfl⟩
  (repeat first | refine ⟨by omega, ?_⟩ | refine ⟨by decide, ?_⟩ | refine ⟨idx8 _, ?_⟩ | refine ⟨lt8 (Nat.le_refl _) _, ?_⟩ | refine ⟨rfl, ?_⟩)
  refine call_same (fn_ssum3 false true true 3 0 0 0 0 0 3 0 0 abc [] [] 1 1 1 0 (fun _ => 0) (fun _ => 0) (.inl rfl) (by decide) (by decide) (by decide) (by decide) (by decide) (by decide) (by decide) (fun _ => rfl) (fun _ => rfl) (by decide) (by decide)) [1, 2, 2, 2, 0] rfl (by (repeat first | exact trivial | refine ⟨rfl, ?_⟩ | refine ⟨fun _ _ => ⟨rfl, trivial⟩, ?_⟩ | refine ⟨fun _ _ => trivial, ?_⟩ | refine ⟨by omega, ?_⟩ | refine ⟨fun _ _ => eqC_winS, ?_⟩ | refine ⟨fun _ _ => eqC_winM, ?_⟩ | refine ⟨fun _ _ => eqC_winB, ?_⟩ | refine ⟨fun _ _ => eqC_selfB, ?_⟩ | refine ⟨fun _ _ => eqC_mpB, ?_⟩)) ?_ (fun _ _ => trivial) ?_
  · (repeat first | exact trivial | refine ⟨rfl, ?_⟩ | refine ⟨fun _ _ => ⟨rfl, trivial⟩, ?_⟩ | refine ⟨fun _ _ => trivial, ?_⟩ | refine ⟨by omega, ?_⟩ | refine ⟨fun _ _ => eqC_winS, ?_⟩ | refine ⟨fun _ _ => eqC_winM, ?_⟩ | refine ⟨fun _ _ => eqC_winB, ?_⟩ | refine ⟨fun _ _ => eqC_selfB, ?_⟩ | refine ⟨fun _ _ => eqC_mpB, ?_⟩)
    refine ⟨fun j hj => eqC_lit abc hj, ?_⟩
    (repeat first | exact trivial | refine ⟨rfl, ?_⟩ | refine ⟨fun _ _ => ⟨rfl, trivial⟩, ?_⟩ | refine ⟨fun _ _ => trivial, ?_⟩ | refine ⟨by omega, ?_⟩ | refine ⟨fun _ _ => eqC_winS, ?_⟩ | refine ⟨fun _ _ => eqC_winM, ?_⟩ | refine ⟨fun _ _ => eqC_winB, ?_⟩ | refine ⟨fun _ _ => eqC_selfB, ?_⟩ | refine ⟨fun _ _ => eqC_mpB, ?_⟩)
    refine ⟨fun j hj => eqC_parts (fun i hi => ?_) j, ?_⟩
    · obtain rfl : i = 0 := by omega
      exact ⟨rfl, rfl, rfl, rfl, trivial⟩
    · (repeat first | exact trivial | refine ⟨rfl, ?_⟩ | refine ⟨fun _ _ => ⟨rfl, trivial⟩, ?_⟩ | refine ⟨fun _ _ => trivial, ?_⟩ | refine ⟨by omega, ?_⟩ | refine ⟨fun _ _ => eqC_winS, ?_⟩ | refine ⟨fun _ _ => eqC_winM, ?_⟩ | refine ⟨fun _ _ => eqC_winB, ?_⟩ | refine ⟨fun _ _ => eqC_selfB, ?_⟩ | refine ⟨fun _ _ => eqC_mpB, ?_⟩)
  rintro x hs ⟨rfl, rfl⟩
  rw [cat1]
  obtain ⟨h0, h1, h2, h3⟩ := abc_sum
  obtain ⟨S, hS⟩ : ∃ S, sumL abc = S := ⟨_, rfl⟩
  rw [hS] at h0 h1 h2 h3
  rw [hS]
  (repeat first | refine And.intro (by omega) ?_ | refine And.intro (by decide) ?_ | refine And.intro rfl ?_ | refine And.intro (fun _ => ?_) (fun h => Bool.noConfusion h) | refine And.intro (fun _ => ?_) (fun h => absurd h0 (of_decide_eq_false h)) | refine And.intro (fun _ => ?_) (fun h => absurd h1 (of_decide_eq_false h)) | refine And.intro (fun _ => ?_) (fun h => absurd h2 (of_decide_eq_false h)) | refine And.intro (fun _ => ?_) (fun h => absurd h3 (of_decide_eq_false h)))
  exact ⟨.a (.c (.bool true)), [], ⟨[], ⟨rfl, rfl, rfl⟩, rfl, trivial⟩, rfl, rfl⟩
theorem notTrue : (!true) = false := rfl
set_option maxRecDepth 20000 in
set_option maxHeartbeats 1000000 in
theorem fn_shaMarks (z0 z1 z2 : Bool) (c0 c1 c2 : Nat) (l0 l1 l2 : Bs) (hc0 : l0.length ≤ c0) (hc1 : l1.length ≤ c1) (hc2 : l2.length ≤ c2) (hz0 : z0 = true → l0 = []) (hz1 : z1 = true → l1 = []) (hz2 : z2 = true → l2 = []) :
    FnR Try.prog tds 4 3 [bts z0 l0.length 0 l0.length (L l0), bts z1 l1.length 0 l1.length (L l1), bts z2 l2.length 0 l2.length (L l2)] [.c (.sn z0 0 0 0 l0.length c0), .c (.sn z1 1 0 0 l1.length c1), .c (.sn z2 2 0 0 l2.length c2)] (fun _ => True) (fun x _ => x = .a (.c (.bool true))) := by
  refine fn_of_body tds_ok follows_ Try.func4 rfl (t := [.a (.c (.sn z0 0 0 0 l0.length c0)), .a (.c (.sn z1 1 0 0 l1.length c1)), .a (.c (.sn z2 2 0 0 l2.length c2)), .any, .any, .any, .any, .any, .any, .any, .any, .any, .any, .any, .any, .any, .any, .any, .any, .any, .any, .any, .any, .any, .any, .any, .any, .any, .any, .any, .any, .any, .any, .any, .any, .any, .any, .any, .any, .any]) rfl (fun w r0 hr _ => ?_)
  obtain ⟨x0, x1, x2, rfl⟩ := len3' hr
  refine ⟨by kernel_rfl, call_same fn_awake3 [] rfl trivial trivial (fun _ _ => trivial) ?_⟩
  rintro x hs ⟨rfl, rfl⟩
  refine ⟨fun h => Bool.noConfusion h, fun _ => ?_⟩
  by_cases h0 : 200 < l0.length
  · have e0 : decide ((200 : Int) < (l0.length : Int)) = true := decide_eq_true (by omega)
    (repeat first | refine ⟨fun _ => ?_, fun h => absurd h (by rw [e0]; decide)⟩ | refine ⟨fun h => absurd h (by rw [e0]; decide), fun _ => ?_⟩ | refine ⟨fun _ => ?_, fun h => Bool.noConfusion h⟩ | refine ⟨fun h => Bool.noConfusion h, fun _ => ?_⟩)
    exact ⟨.a (.c (.bool true)), [[], [], []], ⟨[0, 1, 2], ⟨rfl, rfl, rfl⟩, rfl, eqSegs_nil (eqSegs_nil (eqSegs_nil trivial))⟩, rfl⟩
  have e0 : decide ((200 : Int) < (l0.length : Int)) = false := decide_eq_false (by omega)
  by_cases h1 : 200 < l1.length
  · have e1 : decide ((200 : Int) < (l1.length : Int)) = true := decide_eq_true (by omega)
    (repeat first | refine ⟨fun _ => ?_, fun h => absurd h (by rw [e0]; decide)⟩ | refine ⟨fun h => absurd h (by rw [e0]; decide), fun _ => ?_⟩ | refine ⟨fun _ => ?_, fun h => absurd h (by rw [e1]; decide)⟩ | refine ⟨fun h => absurd h (by rw [e1]; decide), fun _ => ?_⟩ | refine ⟨fun _ => ?_, fun h => Bool.noConfusion h⟩ | refine ⟨fun h => Bool.noConfusion h, fun _ => ?_⟩)
    exact ⟨.a (.c (.bool true)), [[], [], []], ⟨[0, 1, 2], ⟨rfl, rfl, rfl⟩, rfl, eqSegs_nil (eqSegs_nil (eqSegs_nil trivial))⟩, rfl⟩
  have e1 : decide ((200 : Int) < (l1.length : Int)) = false := decide_eq_false (by omega)
  by_cases h2 : 200 < l2.length
  · have e2 : decide ((200 : Int) < (l2.length : Int)) = true := decide_eq_true (by omega)
    (repeat first | refine ⟨fun _ => ?_, fun h => absurd h (by rw [e0]; decide)⟩ | refine ⟨fun h => absurd h (by rw [e0]; decide), fun _ => ?_⟩ | refine ⟨fun _ => ?_, fun h => absurd h (by rw [e1]; decide)⟩ | refine ⟨fun h => absurd h (by rw [e1]; decide), fun _ => ?_⟩ | refine ⟨fun _ => ?_, fun h => absurd h (by rw [e2]; decide)⟩ | refine ⟨fun h => absurd h (by rw [e2]; decide), fun _ => ?_⟩ | refine ⟨fun _ => ?_, fun h => Bool.noConfusion h⟩ | refine ⟨fun h => Bool.noConfusion h, fun _ => ?_⟩)
    exact ⟨.a (.c (.bool true)), [[], [], []], ⟨[0, 1, 2], ⟨rfl, rfl, rfl⟩, rfl, eqSegs_nil (eqSegs_nil (eqSegs_nil trivial))⟩, rfl⟩
  have e2 : decide ((200 : Int) < (l2.length : Int)) = false := decide_eq_false (by omega)
  (repeat first | refine ⟨fun _ => ?_, fun h => absurd h (by rw [e0]; decide)⟩ | refine ⟨fun h => absurd h (by rw [e0]; decide), fun _ => ?_⟩ | refine ⟨fun _ => ?_, fun h => absurd h (by rw [e1]; decide)⟩ | refine ⟨fun h => absurd h (by rw [e1]; decide), fun _ => ?_⟩ | refine ⟨fun _ => ?_, fun h => absurd h (by rw [e2]; decide)⟩ | refine ⟨fun h => absurd h (by rw [e2]; decide), fun _ => ?_⟩ | refine ⟨fun _ => ?_, fun h => Bool.noConfusion h⟩ | refine ⟨fun h => Bool.noConfusion h, fun _ => ?_⟩)
  refine ⟨by kernel_rfl, call_same fn_snew [] rfl trivial trivial (fun _ _ => trivial) ?_⟩
  rintro x hs ⟨rfl, rfl⟩
  (repeat first | refine And.intro (by omega) ?_ | refine And.intro (by decide) ?_ | (with_reducible refine frc_parts (by first | omega | decide) ?_) | (with_reducible refine frc_bytesL (by first | omega | decide) ?_) | refine And.intro rfl ?_)
  refine call_same (fn_smark z0 z1 z2 true l0.length l1.length l2.length 0 0 0 0 0 c0 c1 c2 0 l0 l1 l2 [] 2 2 2 0 (fun _ => 0) (fun _ => 0) (.inl rfl) (by omega) hc0 hz0 (by omega) hc1 hz1 (by omega) hc2 hz2 (by decide) (by decide) (fun _ => rfl) (by decide) (by decide)) [0, 1, 2, 4, 4, 3] rfl (by (repeat first | exact trivial | refine ⟨rfl, ?_⟩ | refine ⟨fun _ _ => ⟨rfl, trivial⟩, ?_⟩ | refine ⟨fun _ _ => trivial, ?_⟩ | refine ⟨by omega, ?_⟩ | refine ⟨fun _ _ => eqC_winS, ?_⟩ | refine ⟨fun _ _ => eqC_winM, ?_⟩ | refine ⟨fun _ _ => eqC_winB, ?_⟩ | refine ⟨fun _ _ => eqC_selfB, ?_⟩ | refine ⟨fun _ _ => eqC_mpB, ?_⟩)) ?_ (fun _ _ => trivial) ?_
  · refine eqC_bts (eqC_bts (eqC_bts ?_))
    (repeat first | exact trivial | refine ⟨rfl, ?_⟩ | refine ⟨fun _ _ => ⟨rfl, trivial⟩, ?_⟩ | refine ⟨fun _ _ => trivial, ?_⟩ | refine ⟨by omega, ?_⟩ | refine ⟨fun _ _ => eqC_winS, ?_⟩ | refine ⟨fun _ _ => eqC_winM, ?_⟩ | refine ⟨fun _ _ => eqC_winB, ?_⟩ | refine ⟨fun _ _ => eqC_selfB, ?_⟩ | refine ⟨fun _ _ => eqC_mpB, ?_⟩)
    refine ⟨fun j hj => eqC_parts (fun i hi => ?_) j, ?_⟩
    · have : i = 0 ∨ i = 1 := by omega
      rcases this with rfl | rfl
      · exact ⟨rfl, rfl, rfl, rfl, trivial⟩
      · exact ⟨rfl, rfl, rfl, rfl, trivial⟩
    · (repeat first | exact trivial | refine ⟨rfl, ?_⟩ | refine ⟨fun _ _ => ⟨rfl, trivial⟩, ?_⟩ | refine ⟨fun _ _ => trivial, ?_⟩ | refine ⟨by omega, ?_⟩ | refine ⟨fun _ _ => eqC_winS, ?_⟩ | refine ⟨fun _ _ => eqC_winM, ?_⟩ | refine ⟨fun _ _ => eqC_winB, ?_⟩ | refine ⟨fun _ _ => eqC_selfB, ?_⟩ | refine ⟨fun _ _ => eqC_mpB, ?_⟩)
  rintro x hs ⟨rfl, rfl⟩
  rw [cat2]
  obtain ⟨M, hM⟩ : ∃ M, markL l0 (l1 ++ l2) = M := ⟨_, rfl⟩
  have hMl : M.length = 32 := by rw [← hM, markL_len]
  rw [hM]
  (repeat first | refine And.intro (by omega) ?_ | refine And.intro (by decide) ?_ | (with_reducible refine frc_parts (by first | omega | decide) ?_) | (with_reducible refine frc_bytesL (by first | omega | decide) ?_) | refine And.intro rfl ?_)
  refine ⟨some [5, 9], [], [(0, true), (1, true), (2, true), (4, true), (6, true), (3, false), (5, false), (7, false), (8, false), (9, true), (10, true), (11, true)], [], by kernel_rfl, ?_⟩
  (repeat first | refine And.intro (by omega) ?_ | refine And.intro (by decide) ?_ | (with_reducible refine frc_parts (by first | omega | decide) ?_) | (with_reducible refine frc_bytesL (by first | omega | decide) ?_) | refine And.intro rfl ?_)
  refine ⟨U8 M, str_of hMl (fun q hq => rfl), ?_⟩
  (repeat first | refine And.intro (by omega) ?_ | refine And.intro (by decide) ?_ | (with_reducible refine frc_parts (by first | omega | decide) ?_) | (with_reducible refine frc_bytesL (by first | omega | decide) ?_) | refine And.intro rfl ?_)
  refine sn_bts (N := l1.length) (b := L l1) ?_ (by omega) (fun h => by rw [hz1 h]; rfl) (fun g hg => ?_)
  · rfl
  refine ⟨⟨by omega, by simp [scale], by show _ * 1 ≤ _; omega⟩, fun k1 hk1 => ?_⟩
  refine sn_bts (N := l2.length) (b := L l2) ?_ (by omega) (fun h => by rw [hz2 h]; rfl) (fun g2 hg2 => ?_)
  · rfl
  refine ⟨⟨by omega, by simp only [scale]; omega, by show _ * 1 ≤ _; omega⟩, fun k2 hk2 => ?_⟩
  have hr : ∀ i, i < (l1 ++ l2).length → appF (appF (nthC []) 0 (scale 0 (0 + 1)) (scale l1.length (0 + 1)) g) 0 (scale (0 + l1.length) (0 + 1)) (scale l2.length (0 + 1)) g2 i = .w8 (L (l1 ++ l2) i) := fun i hi => by
    rw [List.length_append] at hi
    rw [L_app]
    unfold appF
    by_cases h : i < l1.length
    · rw [if_pos (by simp only [scale]; omega), if_neg (by simp [scale]), if_pos (by simp only [scale]; omega), if_pos h]
      exact hg i h
    · rw [if_neg (by simp only [scale]; omega), if_pos (by simp only [scale]; omega), if_neg h, show scale (0 + l1.length) (0 + 1) = l1.length from Nat.zero_add _]
      exact hg2 _ (by omega)
  refine ⟨by kernel_rfl, call_same (fn_rmark z0 false l0.length k2 0 0 c0 k2 l0 (l1 ++ l2) (by omega) hc0 hz0 (by rw [List.length_append]; omega) (by rw [List.length_append]; omega) (fun h => Bool.noConfusion h) (by omega) (by rw [List.length_append]; omega)) [0, 8] rfl ⟨rfl, rfl, rfl, rfl, ?_⟩ ?_ (fun _ _ => trivial) ?_⟩
  · exact ⟨rfl, rfl, by rw [List.length_append, Nat.zero_add], rfl, trivial⟩
  · refine eqC_bts ?_
    exact ⟨rfl, fun j hj => eqC_win0 hr j, trivial⟩
  rintro x hs ⟨c, rfl, rfl, hc⟩
  rw [hM]
  (repeat first | refine And.intro (by omega) ?_ | refine And.intro (by decide) ?_ | (with_reducible refine frc_parts (by first | omega | decide) ?_) | (with_reducible refine frc_bytesL (by first | omega | decide) ?_) | refine And.intro rfl ?_)
  refine ⟨by simp only [scale]; omega, U8 M, str_of hMl (fun q hq => ?_), ?_⟩
  · show SC.mp _ (bytesF 32 (L M) (q + 0)) = _
    rw [bytesF_lt (by omega)]
    rfl
  exact ⟨.a (.c (.bool true)), [[], [], []], ⟨[0, 1, 2], ⟨rfl, rfl, rfl⟩, decide_eq_true rfl, eqSegs_nil (eqSegs_nil (eqSegs_nil trivial))⟩, rfl⟩
end Sx
end Go.Proofs.Ytndlhhhebijknaa
