/-
  sync.Once's Do; a counter. No condition.
-/
import Derived.Test.YtndlhhhebijknaaOnce
namespace Go.Proofs.Ytndlhhhebijknaa
set_option linter.unusedVariables false
open Go.RowKit

set_option maxRecDepth 100000 in
theorem once_slow (b off : Nat) (v : Value) (w : World) (Post : Ending → World → Prop) (h0 : w.cell? ⟨b, off, none⟩ = some (.int .u32 0)) (h : Calls Try.prog 81 #[.pointer (some ⟨b, off, none⟩), v] w Post)
    (hp : ∀ e w', Post e w' → e = .returned (.tuple #[])) : Calls Try.prog 63 #[.pointer (some ⟨b, off, none⟩), v] w Post := by
  have hnot : ∀ (x : Bool) (w : World), (Op.unary .not (.bool x)).run Try.prog w = .ok (.bool (!x)) w := fun _ _ => rfl
  go_enter Try.func63, Try.ntmps63
  go_wp2_with fail
  refine (bool_load ⟨b, off, none⟩ 0 _ h0).mono ?_
  rintro e w' ⟨rfl, rfl⟩
  go_wp2_with fail
  refine h.mono ?_
  intro e w1 hw1
  obtain rfl := hp e w1 hw1
  dsimp only
  go_wp2_with fail
  go_end0
  exact hw1
set_option maxRecDepth 100000 in
theorem once_done (b off : Nat) (v : Value) (w : World) (h0 : w.cell? ⟨b, off, none⟩ = some (.int .u32 1)) :
    Calls Try.prog 63 #[.pointer (some ⟨b, off, none⟩), v] w fun e w' => e = .returned (.tuple #[]) ∧ w' = w := by
  have hnot : ∀ (x : Bool) (w : World), (Op.unary .not (.bool x)).run Try.prog w = .ok (.bool (!x)) w := fun _ _ => rfl
  go_enter Try.func63, Try.ntmps63
  go_wp2_with fail
  go_at_call 80
  refine (bool_load ⟨b, off, none⟩ 1 _ h0).mono ?_
  rintro e w' ⟨rfl, rfl⟩
  go_wp2_with fail
  go_end0
  exact ⟨rfl, rfl⟩
set_option maxRecDepth 100000 in
theorem i64_add (a : Addr) (n : Int) (w : World) (hc : w.cell? a = some (.int .i64 n)) (hz : w.frozen? a = false) (h : -9223372036854775808 ≤ n + 1 ∧ n + 1 ≤ 9223372036854775807) :
    Calls Try.prog 68 #[.pointer (some a), .int .i64 1] w fun e w' => e = .returned (.int .i64 (n + 1)) ∧ w' = w.setCell a (.int .i64 (n + 1)) := by
  have hadd := run_call_add (P := Try.prog) Try.func89 (by kernel_rfl) (by kernel_rfl) (by kernel_rfl) .i64 (by kernel_rfl) (y := 1) (s := n + 1) hc hz (run_add_i64 h w)
  go_enter Try.func68, Try.ntmps68
  go_wp2
  refine bodyPost_ret (results_tmp rfl _ _ _) rfl ?_
  exact ⟨rfl, rfl⟩
end Go.Proofs.Ytndlhhhebijknaa
