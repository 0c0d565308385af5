/-
  SHA-256: words turned; tables begun with. No condition.
-/
import Derived.Test.YtndlhhhebijknaaShaA
import Derived.Test.YtndlhhhebijknaaShaN
namespace Go.Proofs.Ytndlhhhebijknaa
set_option linter.unusedVariables false
namespace Sx
open Sha

theorem ror_amt : ∀ n : Nat, n < 32 → 0 < n → ((BitVec.ofInt 64 (-(n : Int))) &&& 31#64).toNat = 32 - n ∧ (32#64 - ((BitVec.ofInt 64 (-(n : Int))) &&& 31#64)).toNat = n := by decide +kernel
theorem fn_rot32 (x : BitVec 32) (n : Nat) (h : n < 32) (h0 : 0 < n) : Fn Try.prog tds 85 [] [.c (.w32 x), .c (.int .i64 (-(n : Int)))] (fun _ => True) (fun v hs => v = .a (.c (.w32 (ror x n))) ∧ hs = []) := by
  refine fn_of_body tds_ok follows_ Try.func85 rfl (t := .a (.c (.w32 x)) :: .a (.c (.int .i64 (-(n : Int)))) :: anys (Try.f85.ntmps - 2)) rfl (fun w r0 hr _ => ?_)
  obtain rfl : r0 = [] := List.eq_nil_of_length_eq_zero hr
  obtain ⟨e1, e2⟩ := ror_amt n h h0
  refine ⟨.a (.c (.w32 (ror x n))), [], ⟨[], ⟨rfl, rfl, rfl⟩, ?_, trivial⟩, rfl, rfl⟩
  show x <<< _ ||| x >>> _ = x <<< (32 - n) ||| x >>> n
  rw [e1, e2]
/-- A sum in the making: whose tables, the words, the bytes that wait, how many they are, how many there were in all. -/
abbrev digC (i : Nat) (V : Nat → BitVec 32) (P : Nat → BitVec 8) (h : Int) (a : BitVec 64) : List Seg := [.one (.p i 0 0), .row 8 (fun j => .w32 (V j)), .row 64 (fun j => .w8 (P j)), .one (.int .i64 h), .one (.w64 a)]
theorem fn_sdo (d : BitVec 32) (f s : Nat → BitVec 32) (hd : d = 0#32 ∨ d = 1#32 ∧ f = first ∧ s = steps) : Fn Try.prog tds 63 [shaT d 0 f s] [.c (.p 0 0 0), .c (.clo 64 0 0 0)] (fun _ => True) (fun x hs => x = .tup [] ∧ hs = [shaT 1 0 first steps]) := by
  rcases hd with rfl | ⟨rfl, rfl, rfl⟩
  · exact fn_once (by kernel_rfl) (fn_sfill 0#32 1 f s)
  · exact fn_once_done
theorem fn_begin (d : BitVec 32) (f s : Nat → BitVec 32) (hd : d = 0#32 ∨ d = 1#32 ∧ f = first ∧ s = steps) : Fn Try.prog tds 49 [shaT d 0 f s] [.c (.p 0 0 0)] (fun _ => True) (fun x hs => x = .a (.agg (digC 0 first (fun _ => 0#8) 0 0)) ∧ hs = [shaT 1 0 first steps]) := by
  refine fn_of_body tds_ok follows_ Try.func49 rfl (t := .a (.c (.p 0 0 0)) :: anys 14) rfl (fun w r0 hr _ => ?_)
  obtain ⟨x0, rfl⟩ := List.length_eq_one_iff.1 hr
  refine ⟨by kernel_rfl, call_same (fn_sdo d f s hd) [0] rfl ⟨rfl, rfl, rfl, trivial⟩ (by (repeat first | exact trivial | refine ⟨rfl, ?_⟩ | refine ⟨fun _ _ => ⟨rfl, trivial⟩, ?_⟩ | refine ⟨by omega, ?_⟩)) (fun _ _ => trivial) ?_⟩
  rintro x hs ⟨rfl, rfl⟩
  (repeat first | refine ⟨by omega, ?_⟩ | refine ⟨by decide, ?_⟩ | refine ⟨idx8 _, ?_⟩ | refine ⟨lt8 (Nat.le_refl _) _, ?_⟩ | refine ⟨rfl, ?_⟩)
  refine ⟨.a (.agg (digC 0 first (fun _ => 0#8) 0 0)), [shaT 1 0 first steps], ⟨[0], ⟨rfl, rfl, rfl⟩, ?_⟩, rfl, rfl⟩
  (repeat first | exact trivial | refine ⟨rfl, ?_⟩ | refine ⟨fun _ _ => ⟨rfl, trivial⟩, ?_⟩ | refine ⟨by omega, ?_⟩)
theorem fn_snew : Fn Try.prog tds 16 [] [] (fun _ => True) (fun x hs => x = .a (.c (.p 0 0 0)) ∧ hs = [shaT 0 0 (fun _ => 0#32) (fun _ => 0#32)]) := by
  refine fn_of_body tds_ok follows_ Try.func16 rfl (t := anys 2) rfl (fun w r0 hr _ => ?_)
  obtain rfl : r0 = [] := List.eq_nil_of_length_eq_zero hr
  refine ⟨.a (.c (.p 0 0 0)), [shaT 0 0 (fun _ => 0#32) (fun _ => 0#32)], ⟨[0], ⟨rfl, rfl, rfl⟩, ?_⟩, rfl, rfl⟩
  (repeat first | exact trivial | refine ⟨rfl, ?_⟩ | refine ⟨fun _ _ => ⟨rfl, trivial⟩, ?_⟩ | refine ⟨by omega, ?_⟩)
end Sx
end Go.Proofs.Ytndlhhhebijknaa
