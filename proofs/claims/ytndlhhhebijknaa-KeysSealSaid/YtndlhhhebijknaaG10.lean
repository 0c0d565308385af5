/-
  Texts of this claim, part 10: KeysD, RowL. No condition of its own.
-/
import Derived.Test.YtndlhhhebijknaaG9
section
/-
  The program's keys: nil ones; the law. No condition.
-/
namespace Go.Proofs.Ytndlhhhebijknaa
set_option linter.unusedVariables false
namespace Sx
open Aes Gcm Sha

theorem fn_kInitial_nil (z : Bool) (o n c : Nat) : FnR Try.prog tds 40 1 [[]] [.c (.ptr none), .c (.sn z 0 0 o n c)] (fun _ => True) (fun x hs => x = .tup [.c (.ptr none), .c (.ptr none)] ∧ hs = [[]]) := by
  refine fn_of_body tds_ok follows_ Try.func40 rfl (t := .a (.c (.ptr none)) :: .a (.c (.sn z 0 0 o n c)) :: anys 26) rfl (fun w r0 hr _ => ?_)
  obtain ⟨x0, rfl⟩ := List.length_eq_one_iff.1 hr
  (repeat first | refine And.intro (by omega) ?_ | refine And.intro (by decide) ?_ | refine And.intro rfl ?_ | refine And.intro (fun _ => ?_) (fun h => Bool.noConfusion h) | refine And.intro (fun h => Bool.noConfusion h) (fun _ => ?_) | (with_reducible refine frc_bytesL (by first | omega | decide) ?_) | (with_reducible refine frc_bytesM (by first | omega | decide) ?_) | (with_reducible refine frc_parts (by first | omega | decide) ?_))
  exact ⟨.tup [.c (.ptr none), .c (.ptr none)], [[]], ⟨[0], ⟨rfl, rfl, rfl⟩, rfl, rfl, trivial⟩, rfl, rfl⟩
theorem fn_kOf_nil (s : Nat → BitVec 8) : Fn Try.prog tds 41 [] [.c (.ptr none), .agg [.row 32 fun i => .w8 (s i)]] (fun _ => True) (fun x hs => x = .a (.c (.ptr none)) ∧ hs = []) := by
  refine fn_of_body tds_ok follows_ Try.func41 rfl (t := .a (.c (.ptr none)) :: .a (.agg [.row 32 fun i => .w8 (s i)]) :: anys 49) rfl (fun w r0 hr _ => ?_)
  obtain rfl : r0 = [] := List.eq_nil_of_length_eq_zero hr
  (repeat first | refine And.intro (by omega) ?_ | refine And.intro (by decide) ?_ | refine And.intro rfl ?_ | refine And.intro (fun _ => ?_) (fun h => Bool.noConfusion h) | refine And.intro (fun h => Bool.noConfusion h) (fun _ => ?_) | (with_reducible refine frc_bytesL (by first | omega | decide) ?_) | (with_reducible refine frc_bytesM (by first | omega | decide) ?_) | (with_reducible refine frc_parts (by first | omega | decide) ?_))
  exact ⟨.a (.c (.ptr none)), [], ⟨[], ⟨rfl, rfl, rfl⟩, rfl, trivial⟩, rfl, rfl⟩
theorem fn_kopen_nil (z1 z2 : Bool) (o n c o2 n2 c2 : Nat) (num : BitVec 64) : FnR Try.prog tds 43 2 [[], []] [.c (.ptr none), .c (.w64 num), .c (.sn z1 0 0 o n c), .c (.sn z2 1 0 o2 n2 c2)] (fun _ => True) (fun x hs => x = .tup [.c (.slc none 0 0), .c (.int .i64 1)] ∧ hs = [[], []]) := by
  refine fn_of_body tds_ok follows_ Try.func43 rfl (t := .a (.c (.ptr none)) :: .a (.c (.w64 num)) :: .a (.c (.sn z1 0 0 o n c)) :: .a (.c (.sn z2 1 0 o2 n2 c2)) :: anys 20) rfl (fun w r0 hr _ => ?_)
  obtain ⟨x0, x1, rfl⟩ := len2s hr
  (repeat first | refine And.intro (by omega) ?_ | refine And.intro (by decide) ?_ | refine And.intro rfl ?_ | refine And.intro (fun _ => ?_) (fun h => Bool.noConfusion h) | refine And.intro (fun h => Bool.noConfusion h) (fun _ => ?_) | (with_reducible refine frc_bytesL (by first | omega | decide) ?_) | (with_reducible refine frc_bytesM (by first | omega | decide) ?_) | (with_reducible refine frc_parts (by first | omega | decide) ?_))
  refine ⟨.tup [.c (.slc none 0 0), .c (.int .i64 1)], [[], []], ⟨[0, 1], ⟨rfl, rfl, rfl⟩, ?_⟩, rfl, rfl⟩
  (repeat first | exact trivial | refine ⟨rfl, ?_⟩ | refine ⟨fun _ _ => ⟨rfl, trivial⟩, ?_⟩ | refine ⟨fun _ _ => trivial, ?_⟩ | refine ⟨by omega, ?_⟩ | refine ⟨fun _ _ => eqC_winS, ?_⟩ | refine ⟨fun _ _ => eqC_winM, ?_⟩ | refine ⟨fun _ _ => eqC_winB, ?_⟩ | refine ⟨fun _ _ => eqC_selfB, ?_⟩ | refine ⟨fun _ _ => eqC_mpB, ?_⟩)
theorem fn_kseal_nil (z1 z2 : Bool) (o n c o2 n2 c2 : Nat) (num : BitVec 64) : FnR Try.prog tds 42 2 [[], []] [.c (.ptr none), .c (.w64 num), .c (.sn z1 0 0 o n c), .c (.sn z2 1 0 o2 n2 c2)] (fun _ => True) (fun x hs => x = .a (.c (.slc none 0 0)) ∧ hs = [[], []]) := by
  refine fn_of_body tds_ok follows_ Try.func42 rfl (t := .a (.c (.ptr none)) :: .a (.c (.w64 num)) :: .a (.c (.sn z1 0 0 o n c)) :: .a (.c (.sn z2 1 0 o2 n2 c2)) :: anys 17) rfl (fun w r0 hr _ => ?_)
  obtain ⟨x0, x1, rfl⟩ := len2s hr
  (repeat first | refine And.intro (by omega) ?_ | refine And.intro (by decide) ?_ | refine And.intro rfl ?_ | refine And.intro (fun _ => ?_) (fun h => Bool.noConfusion h) | refine And.intro (fun h => Bool.noConfusion h) (fun _ => ?_) | (with_reducible refine frc_bytesL (by first | omega | decide) ?_) | (with_reducible refine frc_bytesM (by first | omega | decide) ?_) | (with_reducible refine frc_parts (by first | omega | decide) ?_))
  exact ⟨.a (.c (.slc none 0 0)), [[], []], ⟨[0, 1], ⟨rfl, rfl, rfl⟩, rfl, trivial⟩, rfl, rfl⟩
theorem fn_kNext_nil : Fn Try.prog tds 44 [] [.c (.ptr none), .c (.ptr none)] (fun _ => True) (fun x hs => x = .a (.c (.ptr none)) ∧ hs = []) := by
  refine fn_of_body tds_ok follows_ Try.func44 rfl (t := .a (.c (.ptr none)) :: .a (.c (.ptr none)) :: anys (Try.f44.ntmps - 2)) rfl (fun w r0 hr _ => ?_)
  obtain rfl : r0 = [] := List.eq_nil_of_length_eq_zero hr
  (repeat first | refine And.intro (by omega) ?_ | refine And.intro (by decide) ?_ | refine And.intro rfl ?_ | refine And.intro (fun _ => ?_) (fun h => Bool.noConfusion h) | refine And.intro (fun h => Bool.noConfusion h) (fun _ => ?_) | (with_reducible refine frc_bytesL (by first | omega | decide) ?_) | (with_reducible refine frc_bytesM (by first | omega | decide) ?_) | (with_reducible refine frc_parts (by first | omega | decide) ?_))
  exact ⟨.a (.c (.ptr none)), [], ⟨[], ⟨rfl, rfl, rfl⟩, rfl, trivial⟩, rfl, rfl⟩
theorem fn_kNext_nil2 : FnR Try.prog tds 44 1 [[]] [.c (.p 0 0 0), .c (.ptr none)] (fun _ => True) (fun x hs => x = .a (.c (.ptr none)) ∧ hs = [[]]) := by
  refine fn_of_body tds_ok follows_ Try.func44 rfl (t := .a (.c (.p 0 0 0)) :: .a (.c (.ptr none)) :: anys (Try.f44.ntmps - 2)) rfl (fun w r0 hr _ => ?_)
  obtain ⟨x0, rfl⟩ := List.length_eq_one_iff.1 hr
  (repeat first | refine And.intro (by omega) ?_ | refine And.intro (by decide) ?_ | refine And.intro rfl ?_ | refine And.intro (fun _ => ?_) (fun h => Bool.noConfusion h) | refine And.intro (fun h => Bool.noConfusion h) (fun _ => ?_) | (with_reducible refine frc_bytesL (by first | omega | decide) ?_) | (with_reducible refine frc_bytesM (by first | omega | decide) ?_) | (with_reducible refine frc_parts (by first | omega | decide) ?_))
  exact ⟨.a (.c (.ptr none)), [[]], ⟨[0], ⟨rfl, rfl, rfl⟩, rfl, trivial⟩, rfl, rfl⟩
theorem fn_kKdf_nil : Fn Try.prog tds 45 [] [.c (.ptr none)] (fun _ => True) (fun x hs => x = .a (.c (.ptr none)) ∧ hs = []) := by
  refine fn_of_body tds_ok follows_ Try.func45 rfl (t := .a (.c (.ptr none)) :: anys (Try.f45.ntmps - 1)) rfl (fun w r0 hr _ => ?_)
  obtain rfl : r0 = [] := List.eq_nil_of_length_eq_zero hr
  (repeat first | refine And.intro (by omega) ?_ | refine And.intro (by decide) ?_ | refine And.intro rfl ?_ | refine And.intro (fun _ => ?_) (fun h => Bool.noConfusion h) | refine And.intro (fun h => Bool.noConfusion h) (fun _ => ?_) | (with_reducible refine frc_bytesL (by first | omega | decide) ?_) | (with_reducible refine frc_bytesM (by first | omega | decide) ?_) | (with_reducible refine frc_parts (by first | omega | decide) ?_))
  exact ⟨.a (.c (.ptr none)), [], ⟨[], ⟨rfl, rfl, rfl⟩, rfl, trivial⟩, rfl, rfl⟩
theorem fn_kKdf : FnR Try.prog tds 45 2 [[.one (.p 1 0 0), .one .any], []] [.c (.p 0 0 0)] (fun _ => True) (fun x hs => x = .a (.c (.p 1 0 0)) ∧ hs = [[], []]) := by
  refine fn_of_body tds_ok follows_ Try.func45 rfl (t := .a (.c (.p 0 0 0)) :: anys (Try.f45.ntmps - 1)) rfl (fun w r0 hr _ => ?_)
  obtain ⟨x0, x1, rfl⟩ := len2s hr
  (repeat first | refine And.intro (by omega) ?_ | refine And.intro (by decide) ?_ | refine And.intro rfl ?_ | refine And.intro (fun _ => ?_) (fun h => Bool.noConfusion h) | refine And.intro (fun h => Bool.noConfusion h) (fun _ => ?_) | (with_reducible refine frc_bytesL (by first | omega | decide) ?_) | (with_reducible refine frc_bytesM (by first | omega | decide) ?_) | (with_reducible refine frc_parts (by first | omega | decide) ?_))
  exact ⟨.a (.c (.p 1 0 0)), [[], []], ⟨[0, 1], ⟨rfl, rfl, rfl⟩, rfl, eqSegs_nil trivial⟩, rfl, rfl⟩
theorem fn_kMask_nil (x : Nat → BitVec 8) : Fn Try.prog tds 46 [] [.c (.ptr none), blk x] (fun _ => True) (fun y hs => y = .a (.agg [.row 5 fun _ => .w8 0]) ∧ hs = []) := by
  refine fn_of_body tds_ok follows_ Try.func46 rfl (t := .a (.c (.ptr none)) :: .a (blk x) :: anys (Try.f46.ntmps - 2)) rfl (fun w r0 hr _ => ?_)
  obtain rfl : r0 = [] := List.eq_nil_of_length_eq_zero hr
  (repeat first | refine And.intro (by omega) ?_ | refine And.intro (by decide) ?_ | refine And.intro rfl ?_ | refine And.intro (fun _ => ?_) (fun h => Bool.noConfusion h) | refine And.intro (fun h => Bool.noConfusion h) (fun _ => ?_) | (with_reducible refine frc_bytesL (by first | omega | decide) ?_) | (with_reducible refine frc_bytesM (by first | omega | decide) ?_) | (with_reducible refine frc_parts (by first | omega | decide) ?_))
  refine ⟨.a (.agg [.row 5 fun _ => .w8 0]), [], ⟨[], ⟨rfl, rfl, rfl⟩, ?_⟩, rfl, rfl⟩
  (repeat first | exact trivial | refine ⟨rfl, ?_⟩ | refine ⟨fun _ _ => ⟨rfl, trivial⟩, ?_⟩ | refine ⟨fun _ _ => trivial, ?_⟩ | refine ⟨by omega, ?_⟩ | refine ⟨fun _ _ => eqC_winS, ?_⟩ | refine ⟨fun _ _ => eqC_winM, ?_⟩ | refine ⟨fun _ _ => eqC_winB, ?_⟩ | refine ⟨fun _ _ => eqC_selfB, ?_⟩ | refine ⟨fun _ _ => eqC_mpB, ?_⟩)
set_option maxRecDepth 20000 in
set_option maxHeartbeats 2000000 in
theorem fn_keysNone (z : Bool) (c : Nat) (l : Bs) (s x : Nat → BitVec 8) (num : BitVec 64) (hc : l.length ≤ c) (hz : z = true → l = []) :
    FnR Try.prog tds 14 1 [bts z l.length 0 l.length (L l)] [.agg [.row 32 fun i => .w8 (s i)], .c (.w64 num), .c (.sn z 0 0 0 l.length c), blk x] (fun _ => True) (fun x _ => x = .a (.c (.bool true))) := by
  refine fn_of_body tds_ok follows_ Try.func14 rfl (t := .a (.agg [.row 32 fun i => .w8 (s i)]) :: .a (.c (.w64 num)) :: .a (.c (.sn z 0 0 0 l.length c)) :: .a (blk x) :: anys (Try.f14.ntmps - 4)) rfl (fun w r0 hr _ => ?_)
  obtain ⟨x0, rfl⟩ := List.length_eq_one_iff.1 hr
  (repeat first | refine And.intro (by omega) ?_ | refine And.intro (by decide) ?_ | refine And.intro rfl ?_ | refine And.intro (fun _ => ?_) (fun h => Bool.noConfusion h) | refine And.intro (fun h => Bool.noConfusion h) (fun _ => ?_) | (with_reducible refine frc_bytesL (by first | omega | decide) ?_) | (with_reducible refine frc_bytesM (by first | omega | decide) ?_) | (with_reducible refine frc_parts (by first | omega | decide) ?_))
  refine call_same fn_awake11 [] rfl trivial trivial (fun _ _ => trivial) ?_
  rintro y hs ⟨rfl, rfl⟩
  refine ⟨fun h => Bool.noConfusion h, fun _ => ?_⟩
  by_cases h1 : 100 < l.length
  · have e1 : decide ((100 : Int) < (l.length : Int)) = true := decide_eq_true (by omega)
    (repeat first | refine And.intro (by omega) ?_ | refine And.intro (by decide) ?_ | refine And.intro rfl ?_ | refine And.intro (fun _ => ?_) (fun h => Bool.noConfusion h) | refine And.intro (fun h => Bool.noConfusion h) (fun _ => ?_) | refine And.intro (fun _ => ?_) (fun h => absurd h (by rw [e1]; decide)) | refine And.intro (fun h => absurd h (by rw [e1]; decide)) (fun _ => ?_))
    exact ⟨.a (.c (.bool true)), [[]], ⟨[0], ⟨rfl, rfl, rfl⟩, rfl, eqSegs_nil trivial⟩, rfl⟩
  have e1 : decide ((100 : Int) < (l.length : Int)) = false := decide_eq_false (by omega)
  (repeat first | refine And.intro (by omega) ?_ | refine And.intro (by decide) ?_ | refine And.intro rfl ?_ | refine And.intro (fun _ => ?_) (fun h => Bool.noConfusion h) | refine And.intro (fun h => Bool.noConfusion h) (fun _ => ?_) | refine And.intro (fun _ => ?_) (fun h => absurd h (by rw [e1]; decide)) | refine And.intro (fun h => absurd h (by rw [e1]; decide)) (fun _ => ?_))
  refine call_same (fn_kInitial_nil z 0 l.length c) [0] rfl (by (repeat first | exact trivial | refine ⟨rfl, ?_⟩ | refine ⟨fun _ _ => ⟨rfl, trivial⟩, ?_⟩ | refine ⟨fun _ _ => trivial, ?_⟩ | refine ⟨by omega, ?_⟩ | refine ⟨fun _ _ => eqC_winS, ?_⟩ | refine ⟨fun _ _ => eqC_winM, ?_⟩ | refine ⟨fun _ _ => eqC_winB, ?_⟩ | refine ⟨fun _ _ => eqC_selfB, ?_⟩ | refine ⟨fun _ _ => eqC_mpB, ?_⟩)) (eqSegs_nil trivial) (fun _ _ => trivial) ?_
  rintro y hs ⟨rfl, rfl⟩
  (repeat first | refine And.intro (by omega) ?_ | refine And.intro (by decide) ?_ | refine And.intro rfl ?_ | refine And.intro (fun _ => ?_) (fun h => Bool.noConfusion h) | refine And.intro (fun h => Bool.noConfusion h) (fun _ => ?_) | refine And.intro (fun _ => ?_) (fun h => absurd h (by rw [e1]; decide)) | refine And.intro (fun h => absurd h (by rw [e1]; decide)) (fun _ => ?_))
  refine call_same (fn_kopen_nil z z 0 l.length c 0 l.length c num) [0, 0] rfl (by (repeat first | exact trivial | refine ⟨rfl, ?_⟩ | refine ⟨fun _ _ => ⟨rfl, trivial⟩, ?_⟩ | refine ⟨fun _ _ => trivial, ?_⟩ | refine ⟨by omega, ?_⟩ | refine ⟨fun _ _ => eqC_winS, ?_⟩ | refine ⟨fun _ _ => eqC_winM, ?_⟩ | refine ⟨fun _ _ => eqC_winB, ?_⟩ | refine ⟨fun _ _ => eqC_selfB, ?_⟩ | refine ⟨fun _ _ => eqC_mpB, ?_⟩)) (eqSegs_nil (eqSegs_nil trivial)) (fun _ _ => trivial) ?_
  rintro y hs ⟨rfl, rfl⟩
  (repeat first | refine And.intro (by omega) ?_ | refine And.intro (by decide) ?_ | refine And.intro rfl ?_ | refine And.intro (fun _ => ?_) (fun h => Bool.noConfusion h) | refine And.intro (fun h => Bool.noConfusion h) (fun _ => ?_) | refine And.intro (fun _ => ?_) (fun h => absurd h (by rw [e1]; decide)) | refine And.intro (fun h => absurd h (by rw [e1]; decide)) (fun _ => ?_))
  refine call_same (fn_kOf_nil s) [] rfl (by (repeat first | exact trivial | refine ⟨rfl, ?_⟩ | refine ⟨fun _ _ => ⟨rfl, trivial⟩, ?_⟩ | refine ⟨fun _ _ => trivial, ?_⟩ | refine ⟨by omega, ?_⟩ | refine ⟨fun _ _ => eqC_winS, ?_⟩ | refine ⟨fun _ _ => eqC_winM, ?_⟩ | refine ⟨fun _ _ => eqC_winB, ?_⟩ | refine ⟨fun _ _ => eqC_selfB, ?_⟩ | refine ⟨fun _ _ => eqC_mpB, ?_⟩)) trivial (fun _ _ => trivial) ?_
  rintro y hs ⟨rfl, rfl⟩
  (repeat first | refine And.intro (by omega) ?_ | refine And.intro (by decide) ?_ | refine And.intro rfl ?_ | refine And.intro (fun _ => ?_) (fun h => Bool.noConfusion h) | refine And.intro (fun h => Bool.noConfusion h) (fun _ => ?_) | refine And.intro (fun _ => ?_) (fun h => absurd h (by rw [e1]; decide)) | refine And.intro (fun h => absurd h (by rw [e1]; decide)) (fun _ => ?_))
  refine call_same fn_kNext_nil [] rfl (by (repeat first | exact trivial | refine ⟨rfl, ?_⟩ | refine ⟨fun _ _ => ⟨rfl, trivial⟩, ?_⟩ | refine ⟨fun _ _ => trivial, ?_⟩ | refine ⟨by omega, ?_⟩ | refine ⟨fun _ _ => eqC_winS, ?_⟩ | refine ⟨fun _ _ => eqC_winM, ?_⟩ | refine ⟨fun _ _ => eqC_winB, ?_⟩ | refine ⟨fun _ _ => eqC_selfB, ?_⟩ | refine ⟨fun _ _ => eqC_mpB, ?_⟩)) trivial (fun _ _ => trivial) ?_
  rintro y hs ⟨rfl, rfl⟩
  (repeat first | refine And.intro (by omega) ?_ | refine And.intro (by decide) ?_ | refine And.intro rfl ?_ | refine And.intro (fun _ => ?_) (fun h => Bool.noConfusion h) | refine And.intro (fun h => Bool.noConfusion h) (fun _ => ?_) | refine And.intro (fun _ => ?_) (fun h => absurd h (by rw [e1]; decide)) | refine And.intro (fun h => absurd h (by rw [e1]; decide)) (fun _ => ?_))
  refine call_same fn_keysNew [] rfl trivial trivial (fun _ _ => trivial) ?_
  rintro y hs ⟨rfl, rfl⟩
  (repeat first | refine And.intro (by omega) ?_ | refine And.intro (by decide) ?_ | refine And.intro rfl ?_ | refine And.intro (fun _ => ?_) (fun h => Bool.noConfusion h) | refine And.intro (fun h => Bool.noConfusion h) (fun _ => ?_) | refine And.intro (fun _ => ?_) (fun h => absurd h (by rw [e1]; decide)) | refine And.intro (fun h => absurd h (by rw [e1]; decide)) (fun _ => ?_))
  refine call_same fn_kNext_nil2 [5] rfl (by (repeat first | exact trivial | refine ⟨rfl, ?_⟩ | refine ⟨fun _ _ => ⟨rfl, trivial⟩, ?_⟩ | refine ⟨fun _ _ => trivial, ?_⟩ | refine ⟨by omega, ?_⟩ | refine ⟨fun _ _ => eqC_winS, ?_⟩ | refine ⟨fun _ _ => eqC_winM, ?_⟩ | refine ⟨fun _ _ => eqC_winB, ?_⟩ | refine ⟨fun _ _ => eqC_selfB, ?_⟩ | refine ⟨fun _ _ => eqC_mpB, ?_⟩)) (eqSegs_nil trivial) (fun _ _ => trivial) ?_
  rintro y hs ⟨rfl, rfl⟩
  (repeat first | refine And.intro (by omega) ?_ | refine And.intro (by decide) ?_ | refine And.intro rfl ?_ | refine And.intro (fun _ => ?_) (fun h => Bool.noConfusion h) | refine And.intro (fun h => Bool.noConfusion h) (fun _ => ?_) | refine And.intro (fun _ => ?_) (fun h => absurd h (by rw [e1]; decide)) | refine And.intro (fun h => absurd h (by rw [e1]; decide)) (fun _ => ?_))
  refine call_same fn_kKdf_nil [] rfl (by (repeat first | exact trivial | refine ⟨rfl, ?_⟩ | refine ⟨fun _ _ => ⟨rfl, trivial⟩, ?_⟩ | refine ⟨fun _ _ => trivial, ?_⟩ | refine ⟨by omega, ?_⟩ | refine ⟨fun _ _ => eqC_winS, ?_⟩ | refine ⟨fun _ _ => eqC_winM, ?_⟩ | refine ⟨fun _ _ => eqC_winB, ?_⟩ | refine ⟨fun _ _ => eqC_selfB, ?_⟩ | refine ⟨fun _ _ => eqC_mpB, ?_⟩)) trivial (fun _ _ => trivial) ?_
  rintro y hs ⟨rfl, rfl⟩
  (repeat first | refine And.intro (by omega) ?_ | refine And.intro (by decide) ?_ | refine And.intro rfl ?_ | refine And.intro (fun _ => ?_) (fun h => Bool.noConfusion h) | refine And.intro (fun h => Bool.noConfusion h) (fun _ => ?_) | refine And.intro (fun _ => ?_) (fun h => absurd h (by rw [e1]; decide)) | refine And.intro (fun h => absurd h (by rw [e1]; decide)) (fun _ => ?_))
  refine call_same fn_keysNew [] rfl trivial trivial (fun _ _ => trivial) ?_
  rintro y hs ⟨rfl, rfl⟩
  (repeat first | refine And.intro (by omega) ?_ | refine And.intro (by decide) ?_ | refine And.intro rfl ?_ | refine And.intro (fun _ => ?_) (fun h => Bool.noConfusion h) | refine And.intro (fun h => Bool.noConfusion h) (fun _ => ?_) | refine And.intro (fun _ => ?_) (fun h => absurd h (by rw [e1]; decide)) | refine And.intro (fun h => absurd h (by rw [e1]; decide)) (fun _ => ?_))
  refine call_same fn_kKdf [8, 6] rfl (by (repeat first | exact trivial | refine ⟨rfl, ?_⟩ | refine ⟨fun _ _ => ⟨rfl, trivial⟩, ?_⟩ | refine ⟨fun _ _ => trivial, ?_⟩ | refine ⟨by omega, ?_⟩ | refine ⟨fun _ _ => eqC_winS, ?_⟩ | refine ⟨fun _ _ => eqC_winM, ?_⟩ | refine ⟨fun _ _ => eqC_winB, ?_⟩ | refine ⟨fun _ _ => eqC_selfB, ?_⟩ | refine ⟨fun _ _ => eqC_mpB, ?_⟩)) (by (repeat first | exact trivial | refine ⟨rfl, ?_⟩ | refine ⟨fun _ _ => ⟨rfl, trivial⟩, ?_⟩ | refine ⟨fun _ _ => trivial, ?_⟩ | refine ⟨by omega, ?_⟩ | refine ⟨fun _ _ => eqC_winS, ?_⟩ | refine ⟨fun _ _ => eqC_winM, ?_⟩ | refine ⟨fun _ _ => eqC_winB, ?_⟩ | refine ⟨fun _ _ => eqC_selfB, ?_⟩ | refine ⟨fun _ _ => eqC_mpB, ?_⟩)) (fun _ _ => trivial) ?_
  rintro y hs ⟨rfl, rfl⟩
  (repeat first | refine And.intro (by omega) ?_ | refine And.intro (by decide) ?_ | refine And.intro rfl ?_ | refine And.intro (fun _ => ?_) (fun h => Bool.noConfusion h) | refine And.intro (fun h => Bool.noConfusion h) (fun _ => ?_) | refine And.intro (fun _ => ?_) (fun h => absurd h (by rw [e1]; decide)) | refine And.intro (fun h => absurd h (by rw [e1]; decide)) (fun _ => ?_))
  refine call_same (fn_kseal_nil z z 0 l.length c 0 l.length c num) [0, 0] rfl (by (repeat first | exact trivial | refine ⟨rfl, ?_⟩ | refine ⟨fun _ _ => ⟨rfl, trivial⟩, ?_⟩ | refine ⟨fun _ _ => trivial, ?_⟩ | refine ⟨by omega, ?_⟩ | refine ⟨fun _ _ => eqC_winS, ?_⟩ | refine ⟨fun _ _ => eqC_winM, ?_⟩ | refine ⟨fun _ _ => eqC_winB, ?_⟩ | refine ⟨fun _ _ => eqC_selfB, ?_⟩ | refine ⟨fun _ _ => eqC_mpB, ?_⟩)) (eqSegs_nil (eqSegs_nil trivial)) (fun _ _ => trivial) ?_
  rintro y hs ⟨rfl, rfl⟩
  (repeat first | refine And.intro (by omega) ?_ | refine And.intro (by decide) ?_ | refine And.intro rfl ?_ | refine And.intro (fun _ => ?_) (fun h => Bool.noConfusion h) | refine And.intro (fun h => Bool.noConfusion h) (fun _ => ?_) | refine And.intro (fun _ => ?_) (fun h => absurd h (by rw [e1]; decide)) | refine And.intro (fun h => absurd h (by rw [e1]; decide)) (fun _ => ?_))
  refine call_same (fn_kMask_nil x) [] rfl (by (repeat first | exact trivial | refine ⟨rfl, ?_⟩ | refine ⟨fun _ _ => ⟨rfl, trivial⟩, ?_⟩ | refine ⟨fun _ _ => trivial, ?_⟩ | refine ⟨by omega, ?_⟩ | refine ⟨fun _ _ => eqC_winS, ?_⟩ | refine ⟨fun _ _ => eqC_winM, ?_⟩ | refine ⟨fun _ _ => eqC_winB, ?_⟩ | refine ⟨fun _ _ => eqC_selfB, ?_⟩ | refine ⟨fun _ _ => eqC_mpB, ?_⟩)) trivial (fun _ _ => trivial) ?_
  rintro y hs ⟨rfl, rfl⟩
  (repeat first | refine And.intro (by omega) ?_ | refine And.intro (by decide) ?_ | refine And.intro rfl ?_ | refine And.intro (fun _ => ?_) (fun h => Bool.noConfusion h) | refine And.intro (fun h => Bool.noConfusion h) (fun _ => ?_) | refine And.intro (fun _ => ?_) (fun h => absurd h (by rw [e1]; decide)) | refine And.intro (fun h => absurd h (by rw [e1]; decide)) (fun _ => ?_))
  intro b3 hb3
  obtain rfl : b3 = true := hb3.2 (fun j hj => (nthC_rep (n := 5) (x := .w8 0) hj).symm)
  (repeat first | refine And.intro (by omega) ?_ | refine And.intro (by decide) ?_ | refine And.intro rfl ?_ | refine And.intro (fun _ => ?_) (fun h => Bool.noConfusion h) | refine And.intro (fun h => Bool.noConfusion h) (fun _ => ?_) | refine And.intro (fun _ => ?_) (fun h => absurd h (by rw [e1]; decide)) | refine And.intro (fun h => absurd h (by rw [e1]; decide)) (fun _ => ?_))
  exact ⟨.a (.c (.bool true)), [[]], ⟨[0], ⟨rfl, rfl, rfl⟩, rfl, eqSegs_nil trivial⟩, rfl⟩
theorem frc_win0 {n i : Nat} {b : Nat → BitVec 8} {k : SC → Prop} (h : i < n) (hk : k (.w8 (b i))) : frcSC (winF 0 n b i) k := by
  have := winF_at 0 n b h
  rw [Nat.zero_add] at this
  rw [this]; exact hk
theorem turn_nonce (E : (Nat → BitVec 8) → Nat → BitVec 8) (key iv : Nat → BitVec 8) (hE : pTurn key = E) (num : BitVec 64) : ¬ ∀ i, i < 16 → E (ctrB (nonB iv num) 1#32) i = E (ctrB (nonB iv (num + 1#64)) 1#32) i := by
  intro h
  rw [← hE] at h
  have h2 := turn_inj key _ _ h
  have h3 := h2 11 (by omega)
  unfold ctrB at h3
  rw [if_pos (by omega), if_pos (by omega)] at h3
  unfold nonB at h3
  rw [if_neg (by omega), if_neg (by omega)] at h3
  have h4 : (num >>> (8 * (11 - 11))).setWidth 8 = ((num + 1#64) >>> (8 * (11 - 11))).setWidth 8 := by
    have := congrArg (iv 11 ^^^ ·) h3
    simpa [← BitVec.xor_assoc] using this
  have h5 := congrArg BitVec.toNat h4
  simp at h5
  omega
set_option maxRecDepth 20000 in
set_option maxHeartbeats 4000000 in
theorem fn_keysSeal (z0 z1 : Bool) (c0 c1 : Nat) (s l0 l1 : Bs) (num : BitVec 64) (hs : s.length = 32) (hc0 : l0.length ≤ c0) (hc1 : l1.length ≤ c1) (hz0 : z0 = true → l0 = []) (hz1 : z1 = true → l1 = []) :
    FnR Try.prog tds 13 2 [bts z0 l0.length 0 l0.length (L l0), bts z1 l1.length 0 l1.length (L l1)] [.agg [.row 32 fun i => .w8 (L s i)], .c (.w64 num), .c (.sn z0 0 0 0 l0.length c0), .c (.sn z1 1 0 0 l1.length c1)] (fun _ => True) (fun x _ => x = .a (.c (.bool true))) := by
  refine fn_of_body tds_ok follows_ Try.func13 rfl (t := .a (.agg [.row 32 fun i => .w8 (L s i)]) :: .a (.c (.w64 num)) :: .a (.c (.sn z0 0 0 0 l0.length c0)) :: .a (.c (.sn z1 1 0 0 l1.length c1)) :: anys 104) rfl (fun w r0 hr _ => ?_)
  obtain ⟨x0, x1, rfl⟩ := len2s hr
  obtain ⟨kq, hkq⟩ : ∃ v, exF s (labT qKey [] 16) = v := ⟨_, rfl⟩
  obtain ⟨iv, hiv⟩ : ∃ v, exF s (labT qIv [] 12) = v := ⟨_, rfl⟩
  obtain ⟨kh, hkh⟩ : ∃ v, exF s (labT qHp [] 16) = v := ⟨_, rfl⟩
  obtain ⟨K, hK⟩ : ∃ v, pKeys kq = v := ⟨_, rfl⟩
  obtain ⟨K2, hK2⟩ : ∃ v, pKeys kh = v := ⟨_, rfl⟩
  obtain ⟨E, hE⟩ : ∃ v, pTurn kq = v := ⟨_, rfl⟩
  obtain ⟨H, hH⟩ : ∃ H, toE (E fun _ => 0#8) = H := ⟨_, rfl⟩
  obtain ⟨S, hS⟩ : ∃ S, sealL E H (nonB iv num) l0 l1 = S := ⟨_, rfl⟩
  have hSl : S.length = l1.length + 16 := by rw [← hS, sealL_len]
  (repeat first | refine And.intro (by omega) ?_ | refine And.intro (by decide) ?_ | refine And.intro rfl ?_ | refine And.intro (fun _ => ?_) (fun h => Bool.noConfusion h) | refine And.intro (fun h => Bool.noConfusion h) (fun _ => ?_) | (with_reducible refine frc_bytesL (by first | omega | decide) ?_) | (with_reducible refine frc_bytesM (by first | omega | decide) ?_) | (with_reducible refine frc_parts (by first | omega | decide) ?_))
  refine call_same fn_awake11 [] rfl trivial trivial (fun _ _ => trivial) ?_
  rintro x hs' ⟨rfl, rfl⟩
  refine ⟨fun h => Bool.noConfusion h, fun _ => ?_⟩
  by_cases h0 : 40 < l0.length
  · have e0 : decide ((40 : Int) < (l0.length : Int)) = true := decide_eq_true (by omega)
    (repeat first | refine And.intro (by omega) ?_ | refine And.intro (by decide) ?_ | refine And.intro rfl ?_ | refine And.intro (fun _ => ?_) (fun h => Bool.noConfusion h) | refine And.intro (fun h => Bool.noConfusion h) (fun _ => ?_) | refine And.intro (fun _ => ?_) (fun h => absurd h (by rw [e0]; decide)) | refine And.intro (fun h => absurd h (by rw [e0]; decide)) (fun _ => ?_))
    exact ⟨.a (.c (.bool true)), [[], []], ⟨[0, 1], ⟨rfl, rfl, rfl⟩, rfl, eqSegs_nil (eqSegs_nil trivial)⟩, rfl⟩
  have e0 : decide ((40 : Int) < (l0.length : Int)) = false := decide_eq_false (by omega)
  by_cases h1 : 50 < l1.length
  · have e1 : decide ((50 : Int) < (l1.length : Int)) = true := decide_eq_true (by omega)
    (repeat first | refine And.intro (by omega) ?_ | refine And.intro (by decide) ?_ | refine And.intro rfl ?_ | refine And.intro (fun _ => ?_) (fun h => Bool.noConfusion h) | refine And.intro (fun h => Bool.noConfusion h) (fun _ => ?_) | refine And.intro (fun _ => ?_) (fun h => absurd h (by rw [e0]; decide)) | refine And.intro (fun h => absurd h (by rw [e0]; decide)) (fun _ => ?_) | refine And.intro (fun _ => ?_) (fun h => absurd h (by rw [e1]; decide)) | refine And.intro (fun h => absurd h (by rw [e1]; decide)) (fun _ => ?_))
    exact ⟨.a (.c (.bool true)), [[], []], ⟨[0, 1], ⟨rfl, rfl, rfl⟩, rfl, eqSegs_nil (eqSegs_nil trivial)⟩, rfl⟩
  have e1 : decide ((50 : Int) < (l1.length : Int)) = false := decide_eq_false (by omega)
  (repeat first | refine And.intro (by omega) ?_ | refine And.intro (by decide) ?_ | refine And.intro rfl ?_ | refine And.intro (fun _ => ?_) (fun h => Bool.noConfusion h) | refine And.intro (fun h => Bool.noConfusion h) (fun _ => ?_) | refine And.intro (fun _ => ?_) (fun h => absurd h (by rw [e0]; decide)) | refine And.intro (fun h => absurd h (by rw [e0]; decide)) (fun _ => ?_) | refine And.intro (fun _ => ?_) (fun h => absurd h (by rw [e1]; decide)) | refine And.intro (fun h => absurd h (by rw [e1]; decide)) (fun _ => ?_))
  refine ⟨some [2], [], [(1, true), (0, false), (2, false), (3, true)], [], by kernel_rfl, ?_⟩
  (repeat first | refine And.intro (by omega) ?_ | refine And.intro (by decide) ?_ | (with_reducible refine frc_parts (by first | omega | decide) ?_) | (with_reducible refine frc_bytesL (by first | omega | decide) ?_) | refine And.intro rfl ?_)
  refine call_same fn_keysNew [] rfl trivial trivial (fun _ _ => trivial) ?_
  rintro x hs' ⟨rfl, rfl⟩
  (repeat first | refine And.intro (by omega) ?_ | refine And.intro (by decide) ?_ | (with_reducible refine frc_parts (by first | omega | decide) ?_) | (with_reducible refine frc_bytesL (by first | omega | decide) ?_) | refine And.intro rfl ?_)
  refine call_same (fn_kOf s 0 (fun _ => 0#32) (fun _ => 0#32) (.inl rfl) hs 0 (fun _ => 0#8) 0 (.inl rfl) (by omega) kq K kh K2 iv E H hkq hiv hkh hK hE hH hK2) [5, 3, 4] rfl (by (repeat first | exact trivial | refine ⟨rfl, ?_⟩ | refine ⟨fun _ _ => ⟨rfl, trivial⟩, ?_⟩ | refine ⟨fun _ _ => trivial, ?_⟩ | refine ⟨by omega, ?_⟩ | refine ⟨fun _ _ => eqC_winS, ?_⟩ | refine ⟨fun _ _ => eqC_winM, ?_⟩ | refine ⟨fun _ _ => eqC_winB, ?_⟩ | refine ⟨fun _ _ => eqC_selfB, ?_⟩ | refine ⟨fun _ _ => eqC_mpB, ?_⟩)) (by (repeat first | exact trivial | refine ⟨rfl, ?_⟩ | refine ⟨fun _ _ => ⟨rfl, trivial⟩, ?_⟩ | refine ⟨fun _ _ => trivial, ?_⟩ | refine ⟨by omega, ?_⟩ | refine ⟨fun _ _ => eqC_winS, ?_⟩ | refine ⟨fun _ _ => eqC_winM, ?_⟩ | refine ⟨fun _ _ => eqC_winB, ?_⟩ | refine ⟨fun _ _ => eqC_selfB, ?_⟩ | refine ⟨fun _ _ => eqC_mpB, ?_⟩)) (fun _ _ => trivial) ?_
  rintro x hs' ⟨dn, f, g, hd, rfl, rfl⟩
  have hlI := fn_rlabel false true 32 0 0 0 32 0 s [] qIv 12 (by omega) (by omega) (fun h => Bool.noConfusion h) (by decide) (by decide) (fun _ => rfl) (by omega) (by decide) (by decide) (by decide)
  have hlK := fn_rlabel false true 32 0 0 0 32 0 s [] qKey 16 (by omega) (by omega) (fun h => Bool.noConfusion h) (by decide) (by decide) (fun _ => rfl) (by omega) (by decide) (by decide) (by decide)
  rw [hiv] at hlI
  rw [hkq] at hlK
  (repeat first | refine And.intro (by omega) ?_ | refine And.intro (by decide) ?_ | (with_reducible refine frc_parts (by first | omega | decide) ?_) | (with_reducible refine frc_bytesL (by first | omega | decide) ?_) | refine And.intro rfl ?_)
  refine call_same hlI [2, 0] rfl (by (repeat first | exact trivial | refine ⟨rfl, ?_⟩ | refine ⟨fun _ _ => ⟨rfl, trivial⟩, ?_⟩ | refine ⟨fun _ _ => trivial, ?_⟩ | refine ⟨by omega, ?_⟩ | refine ⟨fun _ _ => eqC_winS, ?_⟩ | refine ⟨fun _ _ => eqC_winM, ?_⟩ | refine ⟨fun _ _ => eqC_winB, ?_⟩ | refine ⟨fun _ _ => eqC_selfB, ?_⟩ | refine ⟨fun _ _ => eqC_mpB, ?_⟩); refine ⟨hs.symm, ?_⟩; (repeat first | exact trivial | refine ⟨rfl, ?_⟩ | refine ⟨fun _ _ => ⟨rfl, trivial⟩, ?_⟩ | refine ⟨fun _ _ => trivial, ?_⟩ | refine ⟨by omega, ?_⟩ | refine ⟨fun _ _ => eqC_winS, ?_⟩ | refine ⟨fun _ _ => eqC_winM, ?_⟩ | refine ⟨fun _ _ => eqC_winB, ?_⟩ | refine ⟨fun _ _ => eqC_selfB, ?_⟩ | refine ⟨fun _ _ => eqC_mpB, ?_⟩)) ?_ (fun _ _ => trivial) ?_
  · exact ⟨rfl, fun j hj => by rw [hs]; exact eqC_win8 (fun i hi => rfl) j, eqSegs_nil (eqSegs_nil trivial)⟩
  rintro x hs' ⟨-, hg⟩
  obtain ⟨NI, cI, hNI, hcI, rfl, rfl⟩ := hg (by decide)
  clear hg hlI
  (repeat first | refine And.intro (by omega) ?_ | refine And.intro (by decide) ?_ | (with_reducible refine frc_parts (by first | omega | decide) ?_) | (with_reducible refine frc_bytesL (by first | omega | decide) ?_) | refine And.intro rfl ?_)
  obtain ⟨Y, hY⟩ : ∃ Y, nonB iv num = Y := ⟨_, rfl⟩
  refine .inl ⟨Nat, fun k => ⟨[.any, .a (.c (.w64 (num))), .a (.c (.sn z0 0 0 0 l0.length c0)), .a (.c (.sn z1 1 0 0 l1.length c1)), .a (.c (.p 2 0 0)), .any, .any, .any, .any, .a (.c (.p 6 0 0)), .a (.c (.sl 10 0 0 12 cI)), .any, .any, .any, .any, .any, .any, .any, .any, .any, .any, .any, .any, .any, .any, .any, .any, .any, .any, .any, .any, .any, .any, .any, .a (.c (.int .i64 (↑k))), .any, .any, .any, .any, .any, .any, .any, .any, .any, .any, .any, .any, .any, .any, .any, .any, .any, .any, .any, .any, .any, .any, .any, .any, .any, .any, .any, .any, .any, .any, .any, .any, .any, .any, .any, .any, .any, .any, .any, .any, .any, .any, .any, .any, .any, .any, .any, .any, .any, .any, .any, .any, .any, .any, .any, .any, .any, .any, .any, .any, .any, .any, .any, .any, .any, .any, .any, .any, .any, .any, .any, .any, .any], [bts z0 l0.length 0 l0.length (L l0), bts z1 l1.length 0 l1.length (L l1), [.row 32 fun i => .w8 (L s i)], shaT dn 0 f g, tabs 1 0 boxes (0 + 1), makC 3 4, kysC 8 9 (L s) iv, keyD 4 K, sealC 7 H, keyD 4 K2, [.row NI (winF 0 12 fun i => if 12 ≤ i + k then Y i else iv i)]]⟩, fun k => k ≤ 8, fun k => 8 - k, ⟨0, [0, 1, 2, 3, 4, 5, 6, 7, 8, 9, 10], ⟨⟨rfl, rfl, rfl⟩, ?_⟩, by omega⟩, fun k hk => ⟨fun h => ?_, fun h => ?_⟩⟩
  · (repeat first | exact trivial | refine ⟨rfl, ?_⟩ | refine ⟨fun _ _ => ⟨rfl, trivial⟩, ?_⟩ | refine ⟨fun _ _ => trivial, ?_⟩ | refine ⟨by omega, ?_⟩ | refine ⟨fun _ _ => eqC_winS, ?_⟩ | refine ⟨fun _ _ => eqC_winM, ?_⟩ | refine ⟨fun _ _ => eqC_winB, ?_⟩ | refine ⟨fun _ _ => eqC_selfB, ?_⟩ | refine ⟨fun _ _ => eqC_mpB, ?_⟩)
    refine eqC_bts (eqC_bts ?_)
    (repeat first | exact trivial | refine ⟨rfl, ?_⟩ | refine ⟨fun _ _ => ⟨rfl, trivial⟩, ?_⟩ | refine ⟨fun _ _ => trivial, ?_⟩ | refine ⟨by omega, ?_⟩ | refine ⟨fun _ _ => eqC_winS, ?_⟩ | refine ⟨fun _ _ => eqC_winM, ?_⟩ | refine ⟨fun _ _ => eqC_winB, ?_⟩ | refine ⟨fun _ _ => eqC_selfB, ?_⟩ | refine ⟨fun _ _ => eqC_mpB, ?_⟩)
    refine ⟨fun j hj => eqC_win0 (f := fun j => SC.mp _ (winF 0 12 iv j)) (fun i hi => ?_) j, trivial⟩
    have := winF_at 0 12 iv hi
    rw [Nat.zero_add] at this
    rw [this, if_neg (by omega)]
    rfl
  · have hlt : (k : Int) < 8 := of_decide_eq_true h
    refine ⟨none, [], [(0, true), (1, true), (2, true), (3, true), (4, true), (5, true), (6, true), (7, true), (8, true), (9, true), (10, true), (11, true)], [12], by kernel_rfl, ?_⟩
    have e0 : (11 - (k : Int)).toNat + 0 = 11 - k := by omega
    have e1 : (8 * (k : Int)).toNat = 8 * k := by omega
    (repeat first | refine And.intro (by omega) ?_ | refine And.intro (by decide) ?_ | (with_reducible refine frc_parts (by first | omega | decide) ?_) | (with_reducible refine frc_bytesL (by first | omega | decide) ?_) | refine And.intro rfl ?_)
    rw [e0]
    refine frc_win0 (i := 11 - k) (by omega) ?_
    (repeat first | refine And.intro (by omega) ?_ | refine And.intro (by decide) ?_ | (with_reducible refine frc_parts (by first | omega | decide) ?_) | (with_reducible refine frc_bytesL (by first | omega | decide) ?_) | refine And.intro rfl ?_)
    refine ⟨k + 1, [0, 1, 2, 3, 4, 5, 6, 7, 8, 9, 10], ⟨⟨rfl, rfl, rfl⟩, ?_⟩, by dsimp only; omega, by dsimp only; omega⟩
    (repeat first | exact trivial | refine ⟨rfl, ?_⟩ | refine ⟨fun _ _ => ⟨rfl, trivial⟩, ?_⟩ | refine ⟨fun _ _ => trivial, ?_⟩ | refine ⟨by omega, ?_⟩ | refine ⟨fun _ _ => eqC_winS, ?_⟩ | refine ⟨fun _ _ => eqC_winM, ?_⟩ | refine ⟨fun _ _ => eqC_winB, ?_⟩ | refine ⟨fun _ _ => eqC_selfB, ?_⟩ | refine ⟨fun _ _ => eqC_mpB, ?_⟩)
    refine eqC_bts (eqC_bts ?_)
    (repeat first | exact trivial | refine ⟨rfl, ?_⟩ | refine ⟨fun _ _ => ⟨rfl, trivial⟩, ?_⟩ | refine ⟨fun _ _ => trivial, ?_⟩ | refine ⟨by omega, ?_⟩ | refine ⟨fun _ _ => eqC_winS, ?_⟩ | refine ⟨fun _ _ => eqC_winM, ?_⟩ | refine ⟨fun _ _ => eqC_winB, ?_⟩ | refine ⟨fun _ _ => eqC_selfB, ?_⟩ | refine ⟨fun _ _ => eqC_mpB, ?_⟩)
    refine ⟨fun j hj => eqC_win0 (fun i hi => ?_) j, trivial⟩
    rw [e0, e1]
    by_cases hi2 : i = 11 - k
    · rw [hi2]
      unfold upd
      rw [if_pos rfl, if_neg (by omega : ¬ 12 ≤ 11 - k + k), if_pos (by omega), ← hY]
      unfold nonB
      rw [if_neg (by omega), show 11 - (11 - k) = k by omega]
    · unfold upd
      rw [if_neg hi2]
      have h3 := winF_at 0 12 (fun i => if 12 ≤ i + k then Y i else iv i) hi
      rw [Nat.zero_add] at h3
      rw [h3]
      have : 12 ≤ i + k ↔ 12 ≤ i + (k + 1) := by omega
      simp only [this]
  · obtain rfl : k = 8 := by have : ¬ (k : Int) < 8 := of_decide_eq_false h; have hk : k ≤ 8 := hk; omega
    refine ⟨by kernel_rfl, call_same fn_rboxes [] rfl trivial trivial (fun _ _ => trivial) ?_⟩
    rintro x hs' ⟨cb, rfl, rfl, hcb⟩
    rw [boxes_ref']
    rw [hY] at hS
    (repeat first | refine And.intro (by omega) ?_ | refine And.intro (by decide) ?_ | (with_reducible refine frc_parts (by first | omega | decide) ?_) | (with_reducible refine frc_bytesL (by first | omega | decide) ?_) | refine And.intro rfl ?_)
    refine call_same hlK [2, 0] rfl (by (repeat first | exact trivial | refine ⟨rfl, ?_⟩ | refine ⟨fun _ _ => ⟨rfl, trivial⟩, ?_⟩ | refine ⟨fun _ _ => trivial, ?_⟩ | refine ⟨by omega, ?_⟩ | refine ⟨fun _ _ => eqC_winS, ?_⟩ | refine ⟨fun _ _ => eqC_winM, ?_⟩ | refine ⟨fun _ _ => eqC_winB, ?_⟩ | refine ⟨fun _ _ => eqC_selfB, ?_⟩ | refine ⟨fun _ _ => eqC_mpB, ?_⟩); refine ⟨hs.symm, ?_⟩; (repeat first | exact trivial | refine ⟨rfl, ?_⟩ | refine ⟨fun _ _ => ⟨rfl, trivial⟩, ?_⟩ | refine ⟨fun _ _ => trivial, ?_⟩ | refine ⟨by omega, ?_⟩ | refine ⟨fun _ _ => eqC_winS, ?_⟩ | refine ⟨fun _ _ => eqC_winM, ?_⟩ | refine ⟨fun _ _ => eqC_winB, ?_⟩ | refine ⟨fun _ _ => eqC_selfB, ?_⟩ | refine ⟨fun _ _ => eqC_mpB, ?_⟩)) ?_ (fun _ _ => trivial) ?_
    · exact ⟨rfl, fun j hj => by rw [hs]; exact eqC_win8 (fun i hi => rfl) j, eqSegs_nil (eqSegs_nil trivial)⟩
    rintro x hs' ⟨-, hg⟩
    obtain ⟨NK, cK, hNK, hcK, rfl, rfl⟩ := hg (by decide)
    clear hg hlK
    (repeat first | refine And.intro (by omega) ?_ | refine And.intro (by decide) ?_ | (with_reducible refine frc_parts (by first | omega | decide) ?_) | (with_reducible refine frc_bytesL (by first | omega | decide) ?_) | refine And.intro rfl ?_)
    refine call_same (fn_rgseal z0 z1 l0.length l1.length 0 0 l0.length l1.length c0 c1 cb NK NI cb cK cI l0 l1 S kq E hE H hH Y hS rfl (by omega) hc0 (fun h => by rw [hz0 h]; rfl) (by omega) rfl (by omega) hc1 (fun h => by rw [hz1 h]; rfl) (by omega) hcb hNK hNI) [0, 1, 11, 12, 10] rfl (by (repeat first | exact trivial | refine ⟨rfl, ?_⟩ | refine ⟨fun _ _ => ⟨rfl, trivial⟩, ?_⟩ | refine ⟨fun _ _ => trivial, ?_⟩ | refine ⟨by omega, ?_⟩ | refine ⟨fun _ _ => eqC_winS, ?_⟩ | refine ⟨fun _ _ => eqC_winM, ?_⟩ | refine ⟨fun _ _ => eqC_winB, ?_⟩ | refine ⟨fun _ _ => eqC_selfB, ?_⟩ | refine ⟨fun _ _ => eqC_mpB, ?_⟩)) ?_ (fun _ _ => trivial) ?_
    · refine eqC_bts (eqC_bts ?_)
      (repeat first | exact trivial | refine ⟨rfl, ?_⟩ | refine ⟨fun _ _ => ⟨rfl, trivial⟩, ?_⟩ | refine ⟨fun _ _ => trivial, ?_⟩ | refine ⟨by omega, ?_⟩ | refine ⟨fun _ _ => eqC_winS, ?_⟩ | refine ⟨fun _ _ => eqC_winM, ?_⟩ | refine ⟨fun _ _ => eqC_winB, ?_⟩ | refine ⟨fun _ _ => eqC_selfB, ?_⟩ | refine ⟨fun _ _ => eqC_mpB, ?_⟩)
      refine ⟨fun j hj => eqC_bytes (f := fun j => SC.mp _ (winF 0 16 kq j)) (fun i hi => ?_) j, ?_⟩
      · have := winF_at 0 16 kq hi
        rw [Nat.zero_add] at this
        rw [this]
        rfl
      (repeat first | exact trivial | refine ⟨rfl, ?_⟩ | refine ⟨fun _ _ => ⟨rfl, trivial⟩, ?_⟩ | refine ⟨fun _ _ => trivial, ?_⟩ | refine ⟨by omega, ?_⟩ | refine ⟨fun _ _ => eqC_winS, ?_⟩ | refine ⟨fun _ _ => eqC_winM, ?_⟩ | refine ⟨fun _ _ => eqC_winB, ?_⟩ | refine ⟨fun _ _ => eqC_selfB, ?_⟩ | refine ⟨fun _ _ => eqC_mpB, ?_⟩)
      refine ⟨fun j hj => eqC_bytes (f := winF 0 12 fun i => if 12 ≤ i + 8 then Y i else iv i) (fun i hi => ?_) j, trivial⟩
      have := winF_at 0 12 (fun i => if 12 ≤ i + 8 then Y i else iv i) hi
      rw [Nat.zero_add] at this
      rw [this]
      refine congrArg SC.w8 ?_
      by_cases h4 : 12 ≤ i + 8
      · rw [if_pos h4]
      · rw [if_neg h4, ← hY]
        unfold nonB
        rw [if_pos (by omega)]
    rintro x hs' ⟨c2, hc2, rfl, rfl⟩
    rw [← hY] at hS
    (repeat first | refine And.intro (by omega) ?_ | refine And.intro (by decide) ?_ | (with_reducible refine frc_parts (by first | omega | decide) ?_) | (with_reducible refine frc_bytesL (by first | omega | decide) ?_) | refine And.intro rfl ?_)
    refine call_same (fn_kseal z0 z1 l0.length l1.length 0 0 l0.length l1.length c0 c1 l0 l1 S (0 + 1) kq K iv num E hK hE H hS rfl (by omega) hc0 (fun h => by rw [hz0 h]; rfl) (by omega) rfl (by omega) hc1 (fun h => by rw [hz1 h]; rfl) (by omega) (by omega)) [0, 1, 6, 4, 7, 8] rfl (by (repeat first | exact trivial | refine ⟨rfl, ?_⟩ | refine ⟨fun _ _ => ⟨rfl, trivial⟩, ?_⟩ | refine ⟨fun _ _ => trivial, ?_⟩ | refine ⟨by omega, ?_⟩ | refine ⟨fun _ _ => eqC_winS, ?_⟩ | refine ⟨fun _ _ => eqC_winM, ?_⟩ | refine ⟨fun _ _ => eqC_winB, ?_⟩ | refine ⟨fun _ _ => eqC_selfB, ?_⟩ | refine ⟨fun _ _ => eqC_mpB, ?_⟩)) ?_ (fun _ _ => trivial) ?_
    · refine eqC_bts (eqC_bts ?_)
      (repeat first | exact trivial | refine ⟨rfl, ?_⟩ | refine ⟨fun _ _ => ⟨rfl, trivial⟩, ?_⟩ | refine ⟨fun _ _ => trivial, ?_⟩ | refine ⟨by omega, ?_⟩ | refine ⟨fun _ _ => eqC_winS, ?_⟩ | refine ⟨fun _ _ => eqC_winM, ?_⟩ | refine ⟨fun _ _ => eqC_winB, ?_⟩ | refine ⟨fun _ _ => eqC_selfB, ?_⟩ | refine ⟨fun _ _ => eqC_mpB, ?_⟩)
    rintro x hs' ⟨c3, hc3, rfl, rfl⟩
    obtain ⟨T, hT⟩ : ∃ T, tagB E H (nonB iv num) l0 (S.take (l1.length + 16 - 16)) = T := ⟨_, rfl⟩
    obtain ⟨P, hP⟩ : ∃ P, cryL E (nonB iv num) (S.take (l1.length + 16 - 16)) = P := ⟨_, rfl⟩
    obtain ⟨T2, hT2⟩ : ∃ T, tagB E H (nonB iv (num + 1#64)) l0 (S.take (l1.length + 16 - 16)) = T := ⟨_, rfl⟩
    obtain ⟨P2, hP2⟩ : ∃ P, cryL E (nonB iv (num + 1#64)) (S.take (l1.length + 16 - 16)) = P := ⟨_, rfl⟩
    have htk : S.take (l1.length + 16 - 16) = cryL E (nonB iv num) l1 := by
      have := seal_take E H (nonB iv num) l0 l1
      rw [hS, hSl] at this
      exact this
    have hPl : P = l1 := by rw [← hP, htk, cryL_cryL]
    have hall : ∀ i, i < 16 → L S (l1.length + 16 - 16 + i) = T i := fun i hi => by
      have := seal_tag E H (nonB iv num) l0 l1 i hi
      rw [hS] at this
      rw [show l1.length + 16 - 16 + i = l1.length + i by omega, this, ← hT, htk]
    have hnot : ¬ ∀ i, i < 16 → L S (l1.length + 16 - 16 + i) = T2 i := fun h => turn_nonce E kq iv hE num fun i hi => by
      have h2 := (hall i hi).symm.trans (h i hi)
      rw [← hT, ← hT2] at h2
      unfold tagB at h2
      have := congrArg (byE (tagE H l0 (S.take (l1.length + 16 - 16))) i ^^^ ·) h2
      simpa [← BitVec.xor_assoc] using this
    (repeat first | refine And.intro (by omega) ?_ | refine And.intro (by decide) ?_ | (with_reducible refine frc_parts (by first | omega | decide) ?_) | (with_reducible refine frc_bytesL (by first | omega | decide) ?_) | refine And.intro rfl ?_)
    refine call_same (fn_kopen z0 false l0.length c3 0 0 l0.length (l1.length + 16) c0 c3 l0 S T P (0 + 1 + ((l1.length + 15) / 16 : Nat) + 1) kq K iv num E hK hE H hT hP rfl (by omega) hc0 (fun h => by rw [hz0 h]; rfl) (by omega) hSl (by omega) hc3 (fun h => Bool.noConfusion h) (by omega) (by omega)) [0, 14, 6, 4, 7, 8] rfl (by (repeat first | exact trivial | refine ⟨rfl, ?_⟩ | refine ⟨fun _ _ => ⟨rfl, trivial⟩, ?_⟩ | refine ⟨fun _ _ => trivial, ?_⟩ | refine ⟨by omega, ?_⟩ | refine ⟨fun _ _ => eqC_winS, ?_⟩ | refine ⟨fun _ _ => eqC_winM, ?_⟩ | refine ⟨fun _ _ => eqC_winB, ?_⟩ | refine ⟨fun _ _ => eqC_selfB, ?_⟩ | refine ⟨fun _ _ => eqC_mpB, ?_⟩)) ?_ (fun _ _ => trivial) ?_
    · refine eqC_bts ?_
      (repeat first | exact trivial | refine ⟨rfl, ?_⟩ | refine ⟨fun _ _ => ⟨rfl, trivial⟩, ?_⟩ | refine ⟨fun _ _ => trivial, ?_⟩ | refine ⟨by omega, ?_⟩ | refine ⟨fun _ _ => eqC_winS, ?_⟩ | refine ⟨fun _ _ => eqC_winM, ?_⟩ | refine ⟨fun _ _ => eqC_winB, ?_⟩ | refine ⟨fun _ _ => eqC_selfB, ?_⟩ | refine ⟨fun _ _ => eqC_mpB, ?_⟩)
      refine ⟨fun j hj => eqC_winBM (Nat.le_refl _), ?_⟩
      (repeat first | exact trivial | refine ⟨rfl, ?_⟩ | refine ⟨fun _ _ => ⟨rfl, trivial⟩, ?_⟩ | refine ⟨fun _ _ => trivial, ?_⟩ | refine ⟨by omega, ?_⟩ | refine ⟨fun _ _ => eqC_winS, ?_⟩ | refine ⟨fun _ _ => eqC_winM, ?_⟩ | refine ⟨fun _ _ => eqC_winB, ?_⟩ | refine ⟨fun _ _ => eqC_selfB, ?_⟩ | refine ⟨fun _ _ => eqC_mpB, ?_⟩)
    rintro x hs' ⟨-, hx, -⟩
    obtain ⟨rfl, rfl⟩ := hx (by omega) hall
    rw [hPl]
    (repeat first | refine And.intro (by omega) ?_ | refine And.intro (by decide) ?_ | (with_reducible refine frc_parts (by first | omega | decide) ?_) | (with_reducible refine frc_bytesL (by first | omega | decide) ?_) | refine And.intro rfl ?_)
    refine call_same (fn_kopen z0 false l0.length c3 0 0 l0.length (l1.length + 16) c0 c3 l0 S T2 P2 (0 + 1 + ((l1.length + 15) / 16 : Nat) + 1 + 1 + ((l1.length + 16 - 1) / 16 : Nat)) kq K iv (num + 1#64) E hK hE H hT2 hP2 rfl (by omega) hc0 (fun h => by rw [hz0 h]; rfl) (by omega) hSl (by omega) hc3 (fun h => Bool.noConfusion h) (by omega) (by omega)) [0, 14, 6, 4, 7, 8] rfl (by (repeat first | exact trivial | refine ⟨rfl, ?_⟩ | refine ⟨fun _ _ => ⟨rfl, trivial⟩, ?_⟩ | refine ⟨fun _ _ => trivial, ?_⟩ | refine ⟨by omega, ?_⟩ | refine ⟨fun _ _ => eqC_winS, ?_⟩ | refine ⟨fun _ _ => eqC_winM, ?_⟩ | refine ⟨fun _ _ => eqC_winB, ?_⟩ | refine ⟨fun _ _ => eqC_selfB, ?_⟩ | refine ⟨fun _ _ => eqC_mpB, ?_⟩)) ?_ (fun _ _ => trivial) ?_
    · refine eqC_bts ?_
      (repeat first | exact trivial | refine ⟨rfl, ?_⟩ | refine ⟨fun _ _ => ⟨rfl, trivial⟩, ?_⟩ | refine ⟨fun _ _ => trivial, ?_⟩ | refine ⟨by omega, ?_⟩ | refine ⟨fun _ _ => eqC_winS, ?_⟩ | refine ⟨fun _ _ => eqC_winM, ?_⟩ | refine ⟨fun _ _ => eqC_winB, ?_⟩ | refine ⟨fun _ _ => eqC_selfB, ?_⟩ | refine ⟨fun _ _ => eqC_mpB, ?_⟩)
      refine ⟨fun j hj => eqC_winBM (Nat.le_refl _), ?_⟩
      (repeat first | exact trivial | refine ⟨rfl, ?_⟩ | refine ⟨fun _ _ => ⟨rfl, trivial⟩, ?_⟩ | refine ⟨fun _ _ => trivial, ?_⟩ | refine ⟨by omega, ?_⟩ | refine ⟨fun _ _ => eqC_winS, ?_⟩ | refine ⟨fun _ _ => eqC_winM, ?_⟩ | refine ⟨fun _ _ => eqC_winB, ?_⟩ | refine ⟨fun _ _ => eqC_selfB, ?_⟩ | refine ⟨fun _ _ => eqC_mpB, ?_⟩)
    rintro x hs' ⟨-, -, hx⟩
    obtain ⟨rfl, rfl⟩ := hx (by omega) hnot
    (repeat first | refine And.intro (by omega) ?_ | refine And.intro (by decide) ?_ | (with_reducible refine frc_parts (by first | omega | decide) ?_) | (with_reducible refine frc_bytesL (by first | omega | decide) ?_) | refine And.intro rfl ?_)
    refine ⟨none, [], [(0, true), (1, true), (2, true), (3, true), (4, true), (5, true), (6, true), (7, true), (8, true), (9, true), (10, true), (11, true), (12, true), (13, true), (14, true), (15, true), (16, true), (17, true), (18, true), (19, true), (20, true), (21, true), (22, true), (23, true), (24, true), (25, true), (26, true), (27, true), (28, true)], [], by kernel_rfl, ?_⟩
    (repeat first | refine And.intro (by omega) ?_ | refine And.intro (by decide) ?_ | refine And.intro rfl ?_ | refine And.intro (fun _ => ?_) (fun h => Bool.noConfusion h) | refine And.intro (fun h => Bool.noConfusion h) (fun _ => ?_) | (with_reducible refine frc_bytesL (by first | omega | decide) ?_) | (with_reducible refine frc_bytesM (by first | omega | decide) ?_) | (with_reducible refine frc_parts (by first | omega | decide) ?_))
    refine ⟨⟨rfl, rfl, fun _ _ => rfl, fun _ _ => rfl⟩, fun b1 hb1 => ?_⟩
    obtain rfl : b1 = true := hb1.2 (fun j hj => rfl)
    have q1 : decide (U8 S = U8 S) = true := decide_eq_true rfl
    have q2 : decide (U8 l1 = U8 l1) = true := decide_eq_true rfl
    have rowS : ∀ {g g2 : Nat → Nat} (q : Nat), q < l1.length + 16 → SC.mp g (SC.mp g2 (bytesF (l1.length + 16) (L S) q)) = SC.w8 (L S q) := fun q hq => by rw [bytesF_lt hq]; rfl
    (repeat first | refine And.intro (by omega) ?_ | refine And.intro (by decide) ?_ | refine And.intro rfl ?_ | refine And.intro (fun _ => ?_) (fun h => Bool.noConfusion h) | refine And.intro (fun h => Bool.noConfusion h) (fun _ => ?_) | refine And.intro (fun _ => ?_) (fun h => absurd h (by rw [q1]; decide)) | refine And.intro (fun h => absurd h (by rw [q1]; decide)) (fun _ => ?_))
    try refine And.intro (by simp only [scale]; omega) ?_
    refine ⟨U8 S, str_of hSl (fun q hq => ?_), ?_⟩
    · show SC.mp _ (bytesF _ (L S) q) = _
      rw [bytesF_lt hq]
      rfl
    (repeat first | refine And.intro (by omega) ?_ | refine And.intro (by decide) ?_ | refine And.intro rfl ?_ | refine And.intro (fun _ => ?_) (fun h => Bool.noConfusion h) | refine And.intro (fun h => Bool.noConfusion h) (fun _ => ?_) | refine And.intro (fun _ => ?_) (fun h => absurd h (by rw [q1]; decide)) | refine And.intro (fun h => absurd h (by rw [q1]; decide)) (fun _ => ?_))
    try refine And.intro (by simp only [scale]; omega) ?_
    refine ⟨U8 S, str_of hSl (fun q hq => ?_), ?_⟩
    · show SC.mp _ (bytesF _ (L S) q) = _
      rw [bytesF_lt hq]
      rfl
    (repeat first | refine And.intro (by omega) ?_ | refine And.intro (by decide) ?_ | refine And.intro rfl ?_ | refine And.intro (fun _ => ?_) (fun h => Bool.noConfusion h) | refine And.intro (fun h => Bool.noConfusion h) (fun _ => ?_) | refine And.intro (fun _ => ?_) (fun h => absurd h (by rw [q1]; decide)) | refine And.intro (fun h => absurd h (by rw [q1]; decide)) (fun _ => ?_))
    try refine And.intro (by simp only [scale]; omega) ?_
    refine ⟨U8 l1, str_of (M := l1) (by omega) (fun q hq => ?_), ?_⟩
    · show SC.mp _ (bytesF _ (L l1) q) = _
      rw [bytesF_lt (by omega)]
      rfl
    (repeat first | refine And.intro (by omega) ?_ | refine And.intro (by decide) ?_ | refine And.intro rfl ?_ | refine And.intro (fun _ => ?_) (fun h => Bool.noConfusion h) | refine And.intro (fun h => Bool.noConfusion h) (fun _ => ?_) | refine And.intro (fun _ => ?_) (fun h => absurd h (by rw [q1]; decide)) | refine And.intro (fun h => absurd h (by rw [q1]; decide)) (fun _ => ?_))
    refine sn_bts (N := l1.length) (b := L l1) rfl (by omega) (fun h => by rw [hz1 h]; rfl) (fun g hg => ?_)
    refine ⟨U8 l1, str_of rfl hg, ?_⟩
    (repeat first | refine And.intro (by omega) ?_ | refine And.intro (by decide) ?_ | refine And.intro rfl ?_ | refine And.intro (fun _ => ?_) (fun h => Bool.noConfusion h) | refine And.intro (fun h => Bool.noConfusion h) (fun _ => ?_) | refine And.intro (fun _ => ?_) (fun h => absurd h (by rw [q1]; decide)) | refine And.intro (fun h => absurd h (by rw [q1]; decide)) (fun _ => ?_) | refine And.intro (fun _ => ?_) (fun h => absurd h (by rw [q2]; decide)) | refine And.intro (fun h => absurd h (by rw [q2]; decide)) (fun _ => ?_))
    exact ⟨.a (.c (.bool true)), [[], []], ⟨[0, 1], ⟨rfl, rfl, rfl⟩, rfl, eqSegs_nil (eqSegs_nil trivial)⟩, rfl⟩
end Sx
end Go.Proofs.Ytndlhhhebijknaa
end

section
/-
  An array of bytes, given by a list. No condition.
-/
namespace Go.Proofs.Ytndlhhhebijknaa
set_option linter.unusedVariables false
namespace Sx
open Sha

theorem is_rowL {r : Rho} {n : Nat} {f : Nat → BitVec 8} : SA.Is r (.agg [.row n fun i => .w8 (L (tab n f) i)]) (.agg ((List.range n).map fun i => Value.int .u8 ((f i).toNat : Int)).toArray) := by
  have e : ((List.range n).map fun i => Value.int .u8 ((f i).toNat : Int)) = (List.range n).map fun i => Value.int .u8 ((L (tab n f) i).toNat : Int) :=
    List.map_congr_left fun i hi => by rw [L_tab (List.mem_range.1 hi)]
  rw [e]
  exact is_row

end Sx
end Go.Proofs.Ytndlhhhebijknaa
end
