/-
  binnacle/binnaclelaw05.AesFields: the program's field is the document's, and a field. No condition.
-/
import Derived.Test.YtngajbgfnmahdaaAesTurns
namespace Go.Proofs.Ytngajbgfnmahdaa
namespace Sx
open Aes

theorem fn_aesFields (a b c : BitVec 8) : Fn Try.prog tds 4 [] [.c (.w8 a), .c (.w8 b), .c (.w8 c)] (fun _ => True) (fun x hs => x = .a (.c (.bool true)) ∧ hs = []) := by
  refine fn_of_body tds_ok follows_ Try.func4 rfl (t := .a (.c (.w8 a)) :: .a (.c (.w8 b)) :: .a (.c (.w8 c)) :: anys 60) rfl (fun w r0 hr _ => ?_)
  obtain rfl : r0 = [] := List.eq_nil_of_length_eq_zero hr
  refine ⟨by kernel_rfl, call_same fn_awake [] rfl trivial trivial (fun _ _ => trivial) ?_⟩
  rintro x hs ⟨rfl, rfl⟩
  refine ⟨fun h => absurd h (by decide), fun _ => ?_⟩
  refine ⟨by kernel_rfl, call_same fn_new [] rfl trivial trivial (fun _ _ => trivial) ?_⟩
  rintro x hs ⟨rfl, rfl⟩
  have e1 : times a b = refTimes a b := (ref_times a b).symm
  have e2 : times a b = times b a := times_comm a b
  have e3 : times a (times b c) = times (times a b) c := times_assoc a b c
  have e4 : times a (b ^^^ c) = times a b ^^^ times a c := times_right a b c
  have e5 : box a = refBox a := (refBox_eq a).symm
  refine ⟨by kernel_rfl, call_same (fn_times _ _) [] rfl ⟨rfl, rfl, trivial⟩ trivial (fun _ _ => trivial) ?_⟩
  rintro x hs ⟨rfl, rfl⟩
  refine ⟨by kernel_rfl, call_same (fn_rtimes _ _) [] rfl ⟨rfl, rfl, trivial⟩ trivial (fun _ _ => trivial) ?_⟩
  rintro x hs ⟨rfl, rfl⟩
  refine ⟨fun _ => ?_, fun h => absurd e1 (of_decide_eq_false h)⟩
  refine ⟨fun _ => ?_, fun h => absurd e1 (of_decide_eq_false h)⟩
  refine ⟨fun _ => ⟨by kernel_rfl, call_same (fn_times _ _) [] rfl ⟨rfl, rfl, trivial⟩ trivial (fun _ _ => trivial) ?_⟩, fun h => absurd e1 (of_decide_eq_false h)⟩
  rintro x hs ⟨rfl, rfl⟩
  refine ⟨fun _ => ?_, fun h => absurd e1 (of_decide_eq_false h)⟩
  refine ⟨fun _ => ?_, fun h => absurd e1 (of_decide_eq_false h)⟩
  refine ⟨fun _ => ⟨by kernel_rfl, call_same (fn_times _ _) [] rfl ⟨rfl, rfl, trivial⟩ trivial (fun _ _ => trivial) ?_⟩, fun h => absurd e1 (of_decide_eq_false h)⟩
  rintro x hs ⟨rfl, rfl⟩
  refine ⟨fun _ => ?_, fun h => absurd e1 (of_decide_eq_false h)⟩
  refine ⟨fun _ => ?_, fun h => absurd e1 (of_decide_eq_false h)⟩
  refine ⟨fun _ => ?_, fun h => absurd e2 (of_decide_eq_false h)⟩
  refine ⟨fun _ => ?_, fun h => absurd e2 (of_decide_eq_false h)⟩
  refine ⟨fun _ => ?_, fun h => absurd e2 (of_decide_eq_false h)⟩
  refine ⟨fun _ => ⟨by kernel_rfl, call_same (fn_times _ _) [] rfl ⟨rfl, rfl, trivial⟩ trivial (fun _ _ => trivial) ?_⟩, fun h => absurd e2 (of_decide_eq_false h)⟩
  rintro x hs ⟨rfl, rfl⟩
  refine ⟨fun _ => ⟨by kernel_rfl, call_same (fn_times _ _) [] rfl ⟨rfl, rfl, trivial⟩ trivial (fun _ _ => trivial) ?_⟩, fun h => absurd e2 (of_decide_eq_false h)⟩
  rintro x hs ⟨rfl, rfl⟩
  refine ⟨fun _ => ?_, fun h => absurd e2 (of_decide_eq_false h)⟩
  refine ⟨fun _ => ?_, fun h => absurd e2 (of_decide_eq_false h)⟩
  refine ⟨fun _ => ⟨by kernel_rfl, call_same (fn_times _ _) [] rfl ⟨rfl, rfl, trivial⟩ trivial (fun _ _ => trivial) ?_⟩, fun h => absurd e2 (of_decide_eq_false h)⟩
  rintro x hs ⟨rfl, rfl⟩
  refine ⟨fun _ => ?_, fun h => absurd e2 (of_decide_eq_false h)⟩
  refine ⟨fun _ => ⟨by kernel_rfl, call_same (fn_times _ _) [] rfl ⟨rfl, rfl, trivial⟩ trivial (fun _ _ => trivial) ?_⟩, fun h => absurd e2 (of_decide_eq_false h)⟩
  rintro x hs ⟨rfl, rfl⟩
  refine ⟨fun _ => ?_, fun h => absurd e2 (of_decide_eq_false h)⟩
  refine ⟨fun _ => ?_, fun h => absurd e2 (of_decide_eq_false h)⟩
  refine ⟨fun _ => ?_, fun h => absurd e3 (of_decide_eq_false h)⟩
  refine ⟨fun _ => ?_, fun h => absurd e3 (of_decide_eq_false h)⟩
  refine ⟨fun _ => ?_, fun h => absurd e3 (of_decide_eq_false h)⟩
  refine ⟨fun _ => ?_, fun h => absurd e3 (of_decide_eq_false h)⟩
  refine ⟨fun _ => ⟨by kernel_rfl, call_same (fn_times _ _) [] rfl ⟨rfl, rfl, trivial⟩ trivial (fun _ _ => trivial) ?_⟩, fun h => absurd e3 (of_decide_eq_false h)⟩
  rintro x hs ⟨rfl, rfl⟩
  refine ⟨fun _ => ?_, fun h => absurd e3 (of_decide_eq_false h)⟩
  refine ⟨fun _ => ?_, fun h => absurd e3 (of_decide_eq_false h)⟩
  refine ⟨fun _ => ⟨by kernel_rfl, call_same (fn_times _ _) [] rfl ⟨rfl, rfl, trivial⟩ trivial (fun _ _ => trivial) ?_⟩, fun h => absurd e3 (of_decide_eq_false h)⟩
  rintro x hs ⟨rfl, rfl⟩
  refine ⟨fun _ => ?_, fun h => absurd e3 (of_decide_eq_false h)⟩
  refine ⟨fun _ => ?_, fun h => absurd e3 (of_decide_eq_false h)⟩
  refine ⟨fun _ => ⟨by kernel_rfl, call_same (fn_times _ _) [] rfl ⟨rfl, rfl, trivial⟩ trivial (fun _ _ => trivial) ?_⟩, fun h => absurd e3 (of_decide_eq_false h)⟩
  rintro x hs ⟨rfl, rfl⟩
  refine ⟨fun _ => ?_, fun h => absurd e3 (of_decide_eq_false h)⟩
  refine ⟨fun _ => ?_, fun h => absurd e3 (of_decide_eq_false h)⟩
  refine ⟨fun _ => ?_, fun h => absurd e3 (of_decide_eq_false h)⟩
  refine ⟨fun _ => ?_, fun h => absurd e4 (of_decide_eq_false h)⟩
  refine ⟨fun _ => ?_, fun h => absurd e4 (of_decide_eq_false h)⟩
  refine ⟨fun _ => ⟨by kernel_rfl, call_same (fn_tbox 0 (fun _ => 0#8) 0 a (.inl rfl)) [0] rfl ⟨rfl, rfl, trivial⟩ (by (repeat first | exact trivial | refine ⟨rfl, ?_⟩ | refine ⟨fun _ _ => ⟨rfl, trivial⟩, ?_⟩ | refine ⟨by omega, ?_⟩)) (fun _ _ => trivial) ?_⟩, fun h => absurd e4 (of_decide_eq_false h)⟩
  rintro x hs ⟨rfl, rfl⟩
  refine ⟨fun _ => ?_, fun h => absurd e4 (of_decide_eq_false h)⟩
  refine ⟨fun _ => ⟨by kernel_rfl, call_same (fn_rbox _) [] rfl ⟨rfl, trivial⟩ trivial (fun _ _ => trivial) ?_⟩, fun h => absurd e4 (of_decide_eq_false h)⟩
  rintro x hs ⟨rfl, rfl⟩
  refine ⟨fun _ => ?_, fun h => absurd e4 (of_decide_eq_false h)⟩
  refine ⟨fun _ => ?_, fun h => absurd e4 (of_decide_eq_false h)⟩
  exact ⟨.a (.c (.bool true)), [], ⟨[], ⟨rfl, rfl, rfl⟩, decide_eq_true e5, trivial⟩, rfl, rfl⟩
end Sx
end Go.Proofs.Ytngajbgfnmahdaa
