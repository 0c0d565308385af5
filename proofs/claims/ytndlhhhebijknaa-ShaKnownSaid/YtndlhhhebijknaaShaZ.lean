/-
  SHA-256: known sums and marks; a nil one. No condition.
-/
import Derived.Test.YtndlhhhebijknaaShaY
namespace Go.Proofs.Ytndlhhhebijknaa
set_option linter.unusedVariables false
namespace Sx
open Sha

/-- The sum of nothing at all. -/
theorem fn_ssum0 (dn : BitVec 32) (f s : Nat → BitVec 32) (hd : dn = 0#32 ∨ dn = 1#32 ∧ f = first ∧ s = steps) :
    Fn Try.prog tds 18 [shaT dn 0 f s] [.c (.p 0 0 0), .c (.slc none 0 0)] (fun _ => True)
      (fun x hs => x = .a (.agg [.row 32 fun i => .w8 (L (sumL []) i)]) ∧ hs = [shaT 1 0 first steps]) := by
  refine fn_of_body tds_ok follows_ Try.func18 rfl (t := [.a (.c (.p 0 0 0)), .a (.c (.slc none 0 0)), .any, .any, .any, .any, .any, .any, .any, .any, .any, .any, .any, .any, .any, .any, .any, .any, .any, .any, .any, .any, .any]) rfl (fun w r0 hr _ => ?_)
  obtain ⟨x0, rfl⟩ := List.length_eq_one_iff.1 hr
  refine ⟨fun h => Bool.noConfusion h, fun _ => ?_⟩
  refine ⟨by kernel_rfl, call_same (fn_begin dn f s hd) [0] rfl (by (repeat first | exact trivial | refine ⟨rfl, ?_⟩ | refine ⟨fun _ _ => ⟨rfl, trivial⟩, ?_⟩ | refine ⟨fun _ _ => trivial, ?_⟩ | refine ⟨by omega, ?_⟩ | refine ⟨fun _ _ => eqC_winS, ?_⟩ | refine ⟨fun _ _ => eqC_winM, ?_⟩ | refine ⟨fun _ _ => eqC_winB, ?_⟩ | refine ⟨fun _ _ => eqC_selfB, ?_⟩ | refine ⟨fun _ _ => eqC_mpB, ?_⟩)) (by (repeat first | exact trivial | refine ⟨rfl, ?_⟩ | refine ⟨fun _ _ => ⟨rfl, trivial⟩, ?_⟩ | refine ⟨fun _ _ => trivial, ?_⟩ | refine ⟨by omega, ?_⟩ | refine ⟨fun _ _ => eqC_winS, ?_⟩ | refine ⟨fun _ _ => eqC_winM, ?_⟩ | refine ⟨fun _ _ => eqC_winB, ?_⟩ | refine ⟨fun _ _ => eqC_selfB, ?_⟩ | refine ⟨fun _ _ => eqC_mpB, ?_⟩)) (fun _ _ => trivial) ?_⟩
  rintro x hs ⟨rfl, rfl⟩
  (repeat first | refine ⟨by omega, ?_⟩ | refine ⟨by decide, ?_⟩ | refine ⟨idx8 _, ?_⟩ | refine ⟨lt8 (Nat.le_refl _) _, ?_⟩ | refine ⟨rfl, ?_⟩)
  refine .inl ⟨Unit, fun _ => ⟨[.any, .any, .any, .any, .a (.c (.p 1 0 0)), .a (.c (.p 2 0 0)), .any, .any, .any, .any, .any, .any, .any, .any, .a (.c (.int .i64 (0))), .a (.c (.int .i64 (0))), .any, .any, .any, .any, .any, .any, .any], [shaT 1 0 first steps, [.row 32 fun _ => .w8 0#8], digC 0 d0.V d0.P d0.h 0]⟩,
    fun _ => True, fun _ => 0, ⟨(), [0, 1, 2], ⟨⟨rfl, rfl, rfl⟩, ?_⟩, trivial⟩, fun _ _ => ⟨fun h => absurd (of_decide_eq_true h) (by omega), fun h => ?_⟩⟩
  · (repeat first | exact trivial | refine ⟨rfl, ?_⟩ | refine ⟨fun _ _ => ⟨rfl, trivial⟩, ?_⟩ | refine ⟨fun _ _ => trivial, ?_⟩ | refine ⟨by omega, ?_⟩ | refine ⟨fun _ _ => eqC_winS, ?_⟩ | refine ⟨fun _ _ => eqC_winM, ?_⟩ | refine ⟨fun _ _ => eqC_winB, ?_⟩ | refine ⟨fun _ _ => eqC_selfB, ?_⟩ | refine ⟨fun _ _ => eqC_mpB, ?_⟩)
  refine ⟨by kernel_rfl, call_same (fn_send d0 0 (by decide)) [0, 2] rfl (by (repeat first | exact trivial | refine ⟨rfl, ?_⟩ | refine ⟨fun _ _ => ⟨rfl, trivial⟩, ?_⟩ | refine ⟨fun _ _ => trivial, ?_⟩ | refine ⟨by omega, ?_⟩ | refine ⟨fun _ _ => eqC_winS, ?_⟩ | refine ⟨fun _ _ => eqC_winM, ?_⟩ | refine ⟨fun _ _ => eqC_winB, ?_⟩ | refine ⟨fun _ _ => eqC_selfB, ?_⟩ | refine ⟨fun _ _ => eqC_mpB, ?_⟩)) (by (repeat first | exact trivial | refine ⟨rfl, ?_⟩ | refine ⟨fun _ _ => ⟨rfl, trivial⟩, ?_⟩ | refine ⟨fun _ _ => trivial, ?_⟩ | refine ⟨by omega, ?_⟩ | refine ⟨fun _ _ => eqC_winS, ?_⟩ | refine ⟨fun _ _ => eqC_winM, ?_⟩ | refine ⟨fun _ _ => eqC_winB, ?_⟩ | refine ⟨fun _ _ => eqC_selfB, ?_⟩ | refine ⟨fun _ _ => eqC_mpB, ?_⟩)) (fun _ _ => trivial) ?_⟩
  rintro x hs ⟨rfl, V', P', h', a', rfl⟩
  (repeat first | refine ⟨by omega, ?_⟩ | refine ⟨by decide, ?_⟩ | refine ⟨idx8 _, ?_⟩ | refine ⟨lt8 (Nat.le_refl _) _, ?_⟩ | refine ⟨rfl, ?_⟩)
  refine ⟨.a (.agg [.row 32 fun i => .w8 (L (sumL []) i)]), [shaT 1 0 first steps], ⟨[0], ⟨rfl, rfl, rfl⟩, ?_⟩, rfl, rfl⟩
  (repeat first | exact trivial | refine ⟨rfl, ?_⟩ | refine ⟨fun _ _ => ⟨rfl, trivial⟩, ?_⟩ | refine ⟨fun _ _ => trivial, ?_⟩ | refine ⟨by omega, ?_⟩ | refine ⟨fun _ _ => eqC_winS, ?_⟩ | refine ⟨fun _ _ => eqC_winM, ?_⟩ | refine ⟨fun _ _ => eqC_winB, ?_⟩ | refine ⟨fun _ _ => eqC_selfB, ?_⟩ | refine ⟨fun _ _ => eqC_mpB, ?_⟩)
  refine ⟨fun j hj => eqC_w8 (congrArg SC.w8 ?_), ?_⟩
  · rw [L_sumL _ hj]; rfl
  · (repeat first | exact trivial | refine ⟨rfl, ?_⟩ | refine ⟨fun _ _ => ⟨rfl, trivial⟩, ?_⟩ | refine ⟨fun _ _ => trivial, ?_⟩ | refine ⟨by omega, ?_⟩ | refine ⟨fun _ _ => eqC_winS, ?_⟩ | refine ⟨fun _ _ => eqC_winM, ?_⟩ | refine ⟨fun _ _ => eqC_winB, ?_⟩ | refine ⟨fun _ _ => eqC_selfB, ?_⟩ | refine ⟨fun _ _ => eqC_mpB, ?_⟩)
theorem zero_row {j : Nat} (hj : j < 32) : nthC ((List.replicate 32 0#8).map SC.w8) j = .w8 0#8 := by
  refine (nthC_w8 (List.replicate 32 0#8) j (by simpa using hj)).trans (congrArg SC.w8 ?_)
  rw [L_lt (by simpa using hj)]
  exact List.getElem_replicate _
theorem zero32 {q : List Nat} {f : Nat → SC} {j : Nat} (h : f = nthC ((List.replicate 32 0#8).map SC.w8)) (hj : j < 32) : eqC q (f j) (.w8 0#8) True := by
  subst h
  refine eqC_w8 ((nthC_w8 (List.replicate 32 0#8) j (by simpa using hj)).trans (congrArg SC.w8 ?_))
  rw [L_lt (by simpa using hj)]
  exact List.getElem_replicate _
theorem fn_ssum_nil (m c : Nat) : FnR Try.prog tds 18 1 [[]] [.c (.ptr none), .c (.sl 0 0 0 m c)] (fun _ => True) (fun x hs => x = .a (.agg [.row 32 fun _ => .w8 0#8]) ∧ hs = [[]]) := by
  refine fn_of_body tds_ok follows_ Try.func18 rfl (t := [.a (.c (.ptr none)), .a (.c (.sl 0 0 0 m c)), .any, .any, .any, .any, .any, .any, .any, .any, .any, .any, .any, .any, .any, .any, .any, .any, .any, .any, .any, .any, .any]) rfl (fun w r0 hr _ => ?_)
  obtain ⟨x0, rfl⟩ := List.length_eq_one_iff.1 hr
  refine ⟨fun _ => ?_, fun h => Bool.noConfusion h⟩
  (repeat first | refine And.intro (by omega) ?_ | refine And.intro (by decide) ?_ | (with_reducible refine frc_parts (by first | omega | decide) ?_) | (with_reducible refine frc_bytesL (by first | omega | decide) ?_) | refine And.intro rfl ?_)
  refine ⟨.a (.agg [.row 32 fun _ => .w8 0#8]), [[]], ⟨[0], ⟨rfl, rfl, rfl⟩, ?_⟩, rfl, rfl⟩
  refine ⟨rfl, rfl, fun j hj => ?_, trivial⟩
  exact zero32 rfl hj
theorem fn_smark_nil (m c : Nat) : FnR Try.prog tds 19 1 [[]] [.c (.ptr none), .c (.slc none 0 0), .c (.sl 0 0 0 m c)] (fun _ => True) (fun x hs => x = .a (.agg [.row 32 fun _ => .w8 0#8]) ∧ hs = [[]]) := by
  refine fn_of_body tds_ok follows_ Try.func19 rfl (t := [.a (.c (.ptr none)), .a (.c (.slc none 0 0)), .a (.c (.sl 0 0 0 m c)), .any, .any, .any, .any, .any, .any, .any, .any, .any, .any, .any, .any, .any, .any, .any, .any, .any, .any, .any, .any, .any, .any, .any, .any, .any, .any, .any, .any, .any, .any, .any, .any, .any, .any, .any, .any, .any, .any, .any, .any, .any, .any, .any, .any, .any, .any, .any, .any, .any, .any, .any, .any, .any, .any, .any, .any, .any, .any, .any, .any, .any, .any]) rfl (fun w r0 hr _ => ?_)
  obtain ⟨x0, rfl⟩ := List.length_eq_one_iff.1 hr
  refine ⟨fun _ => ?_, fun h => Bool.noConfusion h⟩
  (repeat first | refine And.intro (by omega) ?_ | refine And.intro (by decide) ?_ | (with_reducible refine frc_parts (by first | omega | decide) ?_) | (with_reducible refine frc_bytesL (by first | omega | decide) ?_) | refine And.intro rfl ?_)
  refine ⟨.a (.agg [.row 32 fun _ => .w8 0#8]), [[]], ⟨[0], ⟨rfl, rfl, rfl⟩, ?_⟩, rfl, rfl⟩
  refine ⟨rfl, rfl, fun j hj => ?_, trivial⟩
  exact zero32 rfl hj
def jefe : Bs := [74#8, 101#8, 102#8, 101#8]
def want1 : Bs := [119#8, 104#8, 97#8, 116#8, 32#8, 100#8, 111#8, 32#8, 121#8, 97#8, 32#8, 119#8, 97#8, 110#8, 116#8, 32#8]
def want2 : Bs := [102#8, 111#8, 114#8, 32#8, 110#8, 111#8, 116#8, 104#8, 105#8, 110#8, 103#8, 63#8]
theorem no_sum : L (sumL []) 0 = 227#8 ∧ L (sumL []) 31 = 85#8 :=
  of_decide_eq_true (sum_by (p := fun l => decide (L l 0 = 227#8 ∧ L l 31 = 85#8)) (by decide +kernel))
theorem jefe_mark : L (markL jefe (want1 ++ want2)) 0 = 91#8 ∧ L (markL jefe (want1 ++ want2)) 31 = 67#8 :=
  of_decide_eq_true (mark_by (p := fun l => decide (L l 0 = 91#8 ∧ L l 31 = 67#8)) (by decide +kernel))
set_option maxRecDepth 20000 in
set_option maxHeartbeats 1000000 in
theorem fn_shaKnown (n : BitVec 8) : Fn Try.prog tds 5 [] [.c (.w8 n)] (fun _ => True) (fun x hs => x = .a (.c (.bool true)) ∧ hs = []) := by
  refine fn_of_body tds_ok follows_ Try.func5 rfl (t := [.a (.c (.w8 (n))), .any, .any, .any, .any, .any, .any, .any, .any, .any, .any, .any, .any, .any, .any, .any, .any, .any, .any, .any, .any, .any, .any, .any, .any, .any, .any, .any, .any, .any, .any, .any, .any, .any, .any, .any, .any, .any, .any, .any, .any, .any, .any, .any, .any, .any, .any, .any, .any, .any, .any, .any, .any, .any, .any, .any, .any]) rfl (fun w r0 hr _ => ?_)
  obtain rfl : r0 = [] := List.eq_nil_of_length_eq_zero hr
  refine ⟨by kernel_rfl, call_same fn_awake3 [] rfl trivial trivial (fun _ _ => trivial) ?_⟩
  rintro x hs ⟨rfl, rfl⟩
  refine ⟨fun h => Bool.noConfusion h, fun _ => ?_⟩
  refine ⟨by kernel_rfl, call_same fn_snew [] rfl trivial trivial (fun _ _ => trivial) ?_⟩
  rintro x hs ⟨rfl, rfl⟩
  refine ⟨by kernel_rfl, call_same (fn_ssum0 0 (fun _ => 0) (fun _ => 0) (.inl rfl)) [0] rfl (by (repeat first | exact trivial | refine ⟨rfl, ?_⟩ | refine ⟨fun _ _ => ⟨rfl, trivial⟩, ?_⟩ | refine ⟨fun _ _ => trivial, ?_⟩ | refine ⟨by omega, ?_⟩ | refine ⟨fun _ _ => eqC_winS, ?_⟩ | refine ⟨fun _ _ => eqC_winM, ?_⟩ | refine ⟨fun _ _ => eqC_winB, ?_⟩ | refine ⟨fun _ _ => eqC_selfB, ?_⟩ | refine ⟨fun _ _ => eqC_mpB, ?_⟩)) (by (repeat first | exact trivial | refine ⟨rfl, ?_⟩ | refine ⟨fun _ _ => ⟨rfl, trivial⟩, ?_⟩ | refine ⟨fun _ _ => trivial, ?_⟩ | refine ⟨by omega, ?_⟩ | refine ⟨fun _ _ => eqC_winS, ?_⟩ | refine ⟨fun _ _ => eqC_winM, ?_⟩ | refine ⟨fun _ _ => eqC_winB, ?_⟩ | refine ⟨fun _ _ => eqC_selfB, ?_⟩ | refine ⟨fun _ _ => eqC_mpB, ?_⟩)) (fun _ _ => trivial) ?_⟩
  rintro x hs ⟨rfl, rfl⟩
  obtain ⟨h0, h1⟩ := no_sum
  obtain ⟨h2, h3⟩ := jefe_mark
  obtain ⟨S, hS⟩ : ∃ S, sumL [] = S := ⟨_, rfl⟩
  obtain ⟨M, hM⟩ : ∃ M, markL jefe (want1 ++ want2) = M := ⟨_, rfl⟩
  rw [hS] at h0 h1
  rw [hM] at h2 h3
  rw [hS]
  (repeat first | refine And.intro (by omega) ?_ | refine And.intro (by decide) ?_ | (with_reducible refine frc_parts (by first | omega | decide) ?_) | (with_reducible refine frc_bytesL (by first | omega | decide) ?_) | refine And.intro rfl ?_)
  refine call_same (fn_smark false false false true 4 16 12 0 0 0 0 0 4 16 12 0 jefe want1 want2 [] 2 2 2 1 first steps (.inr ⟨rfl, rfl, rfl⟩) (by decide) (by decide) (by decide) (by decide) (by decide) (by decide) (by decide) (by decide) (by decide) (by decide) (by decide) (fun _ => rfl) (by decide) (by decide)) [2, 3, 4, 4, 5, 0] rfl (by (repeat first | exact trivial | refine ⟨rfl, ?_⟩ | refine ⟨fun _ _ => ⟨rfl, trivial⟩, ?_⟩ | refine ⟨fun _ _ => trivial, ?_⟩ | refine ⟨by omega, ?_⟩ | refine ⟨fun _ _ => eqC_winS, ?_⟩ | refine ⟨fun _ _ => eqC_winM, ?_⟩ | refine ⟨fun _ _ => eqC_winB, ?_⟩ | refine ⟨fun _ _ => eqC_selfB, ?_⟩ | refine ⟨fun _ _ => eqC_mpB, ?_⟩)) ?_ (fun _ _ => trivial) ?_
  · (repeat first | exact trivial | refine ⟨rfl, ?_⟩ | refine ⟨fun _ _ => ⟨rfl, trivial⟩, ?_⟩ | refine ⟨fun _ _ => trivial, ?_⟩ | refine ⟨by omega, ?_⟩ | refine ⟨fun _ _ => eqC_winS, ?_⟩ | refine ⟨fun _ _ => eqC_winM, ?_⟩ | refine ⟨fun _ _ => eqC_winB, ?_⟩ | refine ⟨fun _ _ => eqC_selfB, ?_⟩ | refine ⟨fun _ _ => eqC_mpB, ?_⟩)
    refine ⟨fun j hj => eqC_lit jefe hj, ?_⟩
    (repeat first | exact trivial | refine ⟨rfl, ?_⟩ | refine ⟨fun _ _ => ⟨rfl, trivial⟩, ?_⟩ | refine ⟨fun _ _ => trivial, ?_⟩ | refine ⟨by omega, ?_⟩ | refine ⟨fun _ _ => eqC_winS, ?_⟩ | refine ⟨fun _ _ => eqC_winM, ?_⟩ | refine ⟨fun _ _ => eqC_winB, ?_⟩ | refine ⟨fun _ _ => eqC_selfB, ?_⟩ | refine ⟨fun _ _ => eqC_mpB, ?_⟩)
    refine ⟨fun j hj => eqC_lit want1 hj, ?_⟩
    (repeat first | exact trivial | refine ⟨rfl, ?_⟩ | refine ⟨fun _ _ => ⟨rfl, trivial⟩, ?_⟩ | refine ⟨fun _ _ => trivial, ?_⟩ | refine ⟨by omega, ?_⟩ | refine ⟨fun _ _ => eqC_winS, ?_⟩ | refine ⟨fun _ _ => eqC_winM, ?_⟩ | refine ⟨fun _ _ => eqC_winB, ?_⟩ | refine ⟨fun _ _ => eqC_selfB, ?_⟩ | refine ⟨fun _ _ => eqC_mpB, ?_⟩)
    refine ⟨fun j hj => eqC_lit want2 hj, ?_⟩
    (repeat first | exact trivial | refine ⟨rfl, ?_⟩ | refine ⟨fun _ _ => ⟨rfl, trivial⟩, ?_⟩ | refine ⟨fun _ _ => trivial, ?_⟩ | refine ⟨by omega, ?_⟩ | refine ⟨fun _ _ => eqC_winS, ?_⟩ | refine ⟨fun _ _ => eqC_winM, ?_⟩ | refine ⟨fun _ _ => eqC_winB, ?_⟩ | refine ⟨fun _ _ => eqC_selfB, ?_⟩ | refine ⟨fun _ _ => eqC_mpB, ?_⟩)
    refine ⟨fun j hj => eqC_parts (fun i hi => ?_) j, ?_⟩
    · have : i = 0 ∨ i = 1 := by omega
      rcases this with rfl | rfl
      · exact ⟨rfl, rfl, rfl, rfl, trivial⟩
      · exact ⟨rfl, rfl, rfl, rfl, trivial⟩
    · (repeat first | exact trivial | refine ⟨rfl, ?_⟩ | refine ⟨fun _ _ => ⟨rfl, trivial⟩, ?_⟩ | refine ⟨fun _ _ => trivial, ?_⟩ | refine ⟨by omega, ?_⟩ | refine ⟨fun _ _ => eqC_winS, ?_⟩ | refine ⟨fun _ _ => eqC_winM, ?_⟩ | refine ⟨fun _ _ => eqC_winB, ?_⟩ | refine ⟨fun _ _ => eqC_selfB, ?_⟩ | refine ⟨fun _ _ => eqC_mpB, ?_⟩)
  rintro x hs ⟨rfl, rfl⟩
  rw [cat2, hM]
  (repeat first | refine And.intro (by omega) ?_ | refine And.intro (by decide) ?_ | refine And.intro rfl ?_ | refine And.intro (fun _ => ?_) (fun h => Bool.noConfusion h) | refine And.intro (fun _ => ?_) (fun h => absurd h0 (of_decide_eq_false h)) | refine And.intro (fun _ => ?_) (fun h => absurd h1 (of_decide_eq_false h)) | refine And.intro (fun _ => ?_) (fun h => absurd h2 (of_decide_eq_false h)) | refine And.intro (fun _ => ?_) (fun h => absurd h3 (of_decide_eq_false h)))
  refine call_same (fn_ssum_nil 1 1) [8] rfl (by (repeat first | exact trivial | refine ⟨rfl, ?_⟩ | refine ⟨fun _ _ => ⟨rfl, trivial⟩, ?_⟩ | refine ⟨fun _ _ => trivial, ?_⟩ | refine ⟨by omega, ?_⟩ | refine ⟨fun _ _ => eqC_winS, ?_⟩ | refine ⟨fun _ _ => eqC_winM, ?_⟩ | refine ⟨fun _ _ => eqC_winB, ?_⟩ | refine ⟨fun _ _ => eqC_selfB, ?_⟩ | refine ⟨fun _ _ => eqC_mpB, ?_⟩)) (by (repeat first | exact trivial | refine ⟨rfl, ?_⟩ | refine ⟨fun _ _ => ⟨rfl, trivial⟩, ?_⟩ | refine ⟨fun _ _ => trivial, ?_⟩ | refine ⟨by omega, ?_⟩ | refine ⟨fun _ _ => eqC_winS, ?_⟩ | refine ⟨fun _ _ => eqC_winM, ?_⟩ | refine ⟨fun _ _ => eqC_winB, ?_⟩ | refine ⟨fun _ _ => eqC_selfB, ?_⟩ | refine ⟨fun _ _ => eqC_mpB, ?_⟩)) (fun _ _ => trivial) ?_
  rintro x hs ⟨rfl, rfl⟩
  (repeat first | refine And.intro (by omega) ?_ | refine And.intro (by decide) ?_ | refine And.intro rfl ?_ | refine And.intro (fun _ => ?_) (fun h => Bool.noConfusion h) | refine And.intro (fun _ => ?_) (fun h => absurd h0 (of_decide_eq_false h)) | refine And.intro (fun _ => ?_) (fun h => absurd h1 (of_decide_eq_false h)) | refine And.intro (fun _ => ?_) (fun h => absurd h2 (of_decide_eq_false h)) | refine And.intro (fun _ => ?_) (fun h => absurd h3 (of_decide_eq_false h)))
  intro b hb
  obtain rfl : b = true := hb.2 (fun j hj => (zero_row hj).symm)
  (repeat first | refine And.intro (by omega) ?_ | refine And.intro (by decide) ?_ | refine And.intro rfl ?_ | refine And.intro (fun _ => ?_) (fun h => Bool.noConfusion h) | refine And.intro (fun _ => ?_) (fun h => absurd h0 (of_decide_eq_false h)) | refine And.intro (fun _ => ?_) (fun h => absurd h1 (of_decide_eq_false h)) | refine And.intro (fun _ => ?_) (fun h => absurd h2 (of_decide_eq_false h)) | refine And.intro (fun _ => ?_) (fun h => absurd h3 (of_decide_eq_false h)))
  refine call_same (fn_smark_nil 1 1) [10] rfl (by (repeat first | exact trivial | refine ⟨rfl, ?_⟩ | refine ⟨fun _ _ => ⟨rfl, trivial⟩, ?_⟩ | refine ⟨fun _ _ => trivial, ?_⟩ | refine ⟨by omega, ?_⟩ | refine ⟨fun _ _ => eqC_winS, ?_⟩ | refine ⟨fun _ _ => eqC_winM, ?_⟩ | refine ⟨fun _ _ => eqC_winB, ?_⟩ | refine ⟨fun _ _ => eqC_selfB, ?_⟩ | refine ⟨fun _ _ => eqC_mpB, ?_⟩)) (by (repeat first | exact trivial | refine ⟨rfl, ?_⟩ | refine ⟨fun _ _ => ⟨rfl, trivial⟩, ?_⟩ | refine ⟨fun _ _ => trivial, ?_⟩ | refine ⟨by omega, ?_⟩ | refine ⟨fun _ _ => eqC_winS, ?_⟩ | refine ⟨fun _ _ => eqC_winM, ?_⟩ | refine ⟨fun _ _ => eqC_winB, ?_⟩ | refine ⟨fun _ _ => eqC_selfB, ?_⟩ | refine ⟨fun _ _ => eqC_mpB, ?_⟩)) (fun _ _ => trivial) ?_
  rintro x hs ⟨rfl, rfl⟩
  (repeat first | refine And.intro (by omega) ?_ | refine And.intro (by decide) ?_ | refine And.intro rfl ?_ | refine And.intro (fun _ => ?_) (fun h => Bool.noConfusion h) | refine And.intro (fun _ => ?_) (fun h => absurd h0 (of_decide_eq_false h)) | refine And.intro (fun _ => ?_) (fun h => absurd h1 (of_decide_eq_false h)) | refine And.intro (fun _ => ?_) (fun h => absurd h2 (of_decide_eq_false h)) | refine And.intro (fun _ => ?_) (fun h => absurd h3 (of_decide_eq_false h)))
  intro b hb
  obtain rfl : b = true := hb.2 (fun j hj => (zero_row hj).symm)
  (repeat first | refine And.intro (by omega) ?_ | refine And.intro (by decide) ?_ | refine And.intro rfl ?_ | refine And.intro (fun _ => ?_) (fun h => Bool.noConfusion h) | refine And.intro (fun _ => ?_) (fun h => absurd h0 (of_decide_eq_false h)) | refine And.intro (fun _ => ?_) (fun h => absurd h1 (of_decide_eq_false h)) | refine And.intro (fun _ => ?_) (fun h => absurd h2 (of_decide_eq_false h)) | refine And.intro (fun _ => ?_) (fun h => absurd h3 (of_decide_eq_false h)))
  exact ⟨.a (.c (.bool true)), [], ⟨[], ⟨rfl, rfl, rfl⟩, rfl, trivial⟩, rfl, rfl⟩
end Sx
end Go.Proofs.Ytndlhhhebijknaa
