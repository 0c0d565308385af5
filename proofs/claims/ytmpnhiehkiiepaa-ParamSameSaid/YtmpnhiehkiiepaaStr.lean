/-
  A slice of bytes as a string; a slice against nil. No condition of its own.
-/
import Derived.Test.YtmpnhiehkiiepaaMem
import Derived.Laws.IdiomStrings
import Derived.Lib.BufferRead
namespace Go.Proofs.Ytmpnhiehkiiepaa
open Go.RowKit

theorem run_str {P : Program} {w : World} {B : Nat} {A : Option Addr} {l : List UInt8} (h : Rd u8v w B A l) {m : Nat} (hm : l.length = m) (c : Nat) (src dst e : TypeId) (hs : P.underlying src = some (.slice e)) (he : P.underlying e = some (.int .u8)) (hd : P.underlying dst = some .string) :
    (convert src dst (.slice A m c)).run P w = .ok (.string ⟨l.toArray⟩) w := by
  subst hm
  rcases Nat.eq_zero_or_pos l.length with h0 | h0
  · obtain rfl : l = [] := List.eq_nil_of_length_eq_zero h0
    cases A with
    | none =>
      rw [run_convert_bytes_string w src dst e _ _ _ hs he hd]
      simp [Conv.bytesToString]; rfl
    | some a => exact run_convert_bytes_back w src dst e a c [] hs he hd (fun j hj => absurd hj (by simp))
  · obtain ⟨b, off, rfl, _, hc⟩ := h.2 h0
    refine run_convert_bytes_back w src dst e ⟨b, off, none⟩ c l hs he hd fun j hj => ?_
    have e1 : (⟨b, off, none⟩ : Addr).add j = ⟨b, off + j, none⟩ := by unfold Addr.add; split <;> simp_all
    rw [e1]
    exact hc j _ (by simp [hj, u8v])

/-- string(b) of a slice of bytes that is read. -/
theorem str_of {w : World} {B : Nat} {A : Option Addr} {l : List UInt8} (h : Rd u8v w B A l) {m : Nat} (hm : l.length = m) (c : Nat) :
    (convert 22 9 (.slice A m c)).run Try.prog w = .ok (.string ⟨l.toArray⟩) w :=
  run_str h hm c 22 9 5 Try.underlying22 Try.underlying5 Try.underlying9
theorem neq_nil (W : World) (a : Option Addr) (n c : Nat) : (binOp .neq 22 (.slice a n c) (.slice none 0 0)).run Try.prog W = .ok (.bool (!a.isNone)) W := run_neq_slice_nil_any W 22 5 a n c 0 0 Try.underlying22
theorem eql_nil (W : World) (a : Option Addr) (n c : Nat) : (binOp .eql 22 (.slice a n c) (.slice none 0 0)).run Try.prog W = .ok (.bool a.isNone) W := Lib.run_eql_slice_nil W 22 5 a n c 0 0 Try.underlying22
theorem add_str (x y : List UInt8) (hx : x.length ≤ 8388608) (hy : y.length ≤ 8388608) (W : World) : (Op.stringOp .add ⟨x.toArray⟩ ⟨y.toArray⟩).run Try.prog W = .ok (.string ⟨(x ++ y).toArray⟩) W :=
  run_string_add_lists W x y (by omega) (by omega)
end Go.Proofs.Ytmpnhiehkiiepaa
