/-
  sync.Once of one goroutine, its lock free: what is called, once; atomic numbers. No condition.
-/
import Derived.Test.YtndlhhhebijknaaBase
import Derived.Tactics
import Derived.Tactics2
import Derived.Defers
import Derived.Laws.Pointers
import Derived.Laws.LoneSync
import Derived.RegionTactic
import Derived.RegionCalls
import Derived.ChangeAlike
namespace Go.Proofs.Ytndlhhhebijknaa
set_option linter.unusedVariables false
open Go.RowKit

theorem run_enter {P : Program} {g : FuncId} (h : ((P.funcs[g]?).any fun fn => fn.body.isSome && fn.name != "runtime.NumGoroutine") = true) (vs : Array Value) (w : World) : (callFunc g vs).run P w = .ok (.enter g vs) w := by
  obtain ⟨fn, hfn, hb⟩ : ∃ fn, P.funcs[g]? = some fn ∧ (fn.body.isSome && fn.name != "runtime.NumGoroutine") = true := by
    cases e : P.funcs[g]? with
    | none => rw [e] at h; cases h
    | some fn => rw [e] at h; exact ⟨fn, rfl, h⟩
  simp only [Bool.and_eq_true, bne_iff_ne] at hb
  have h1 : (fn.name == "runtime.NumGoroutine") = false := by simpa using hb.2
  have h2 : fn.body.isNone = false := by
    cases e : fn.body with
    | none => rw [e] at hb; exact absurd hb.1 (by simp)
    | some b => rfl
  simp only [callFunc, Sem.run_bind, run_program, hfn, Result.andThen_ok, h1, h2, Bool.false_eq_true, if_false]
  rfl
theorem wrap64 {n : Int} (h : -9223372036854775808 ≤ n ∧ n ≤ 9223372036854775807) : IntKind.i64.wrap n = n := by
  unfold IntKind.wrap IntKind.bits IntKind.signed
  simp only [Bool.true_and, decide_eq_true_eq]
  have h2 : ((2 : Int) ^ 64) = 18446744073709551616 := by decide
  have h3 : ((2 : Int) ^ (64 - 1)) = 9223372036854775808 := by decide
  rw [h2, h3]
  split <;> omega
theorem run_add_i64 {P : Program} {n : Int} (h : -9223372036854775808 ≤ n + 1 ∧ n + 1 ≤ 9223372036854775807) (w : World) : (Op.intArith .add .i64 n 1).run P w = .ok (.int .i64 (n + 1)) w := by
  simp [Op.intArith, pure, wrap64 h]
theorem disable (w : World) : (callFunc 100 #[]).run Try.prog w = .ok (.value (.tuple #[])) w := run_call_mark0 Try.func100 (by kernel_rfl) (by kernel_rfl) (by kernel_rfl) .disable (by kernel_rfl) w
theorem enable (w : World) : (callFunc 102 #[]).run Try.prog w = .ok (.value (.tuple #[])) w := run_call_mark0 Try.func102 (by kernel_rfl) (by kernel_rfl) (by kernel_rfl) .enable (by kernel_rfl) w
theorem acquire (a : Addr) (w : World) : (callFunc 103 #[.pointer (some a)]).run Try.prog w = .ok (.value (.tuple #[])) w := run_call_marked Try.func103 (by kernel_rfl) (by kernel_rfl) (by kernel_rfl) .acquire (by kernel_rfl) a w
theorem releaseMerge (a : Addr) (w : World) : (callFunc 105 #[.pointer (some a)]).run Try.prog w = .ok (.value (.tuple #[])) w := run_call_marked Try.func105 (by kernel_rfl) (by kernel_rfl) (by kernel_rfl) .releaseMerge (by kernel_rfl) a w

theorem store_deferred (a : Addr) (x : Value) (u : FrameMode) (w : World) (hc : w.cell? a = some x) (hz : w.frozen? a = false) :
    CallsD Try.prog 94 #[.pointer (some a), .bool true] u w fun e u' w' => u' = u ∧ (e = .returned (.tuple #[]) ∧ w' = w.drew.setCell a (.int .u32 1)) := by
  have hc' : w.drew.cell? a = some x := by go_simp
  have hz' : w.drew.frozen? a = false := by go_simp
  have hst := run_call_store (P := Try.prog) Try.func98 (by kernel_rfl) (by kernel_rfl) (by kernel_rfl) (by kernel_rfl) (k := .u32) (y := 1) hc' hz'
  go_enter_d Try.func94, Try.ntmps94
  go_wp2
  go_region_calls
  all_goals (go_end0; exact ⟨rfl, rfl⟩)

set_option maxRecDepth 100000 in
theorem unlock_deferred (a : Addr) (u : FrameMode) (w : World) (hc : w.cell? a = some (.int .i32 1)) (hz : w.frozen? a = false) :
    CallsD Try.prog 93 #[.pointer (some a)] u w fun e u' w' => u' = u ∧ (e = .returned (.tuple #[]) ∧ w' = w.setCell a (.int .i32 0)) := by
  have hd := disable
  have he := enable
  have hr := releaseMerge
  have hadd := run_call_add (P := Try.prog) Try.func106 (by kernel_rfl) (by kernel_rfl) (by kernel_rfl) .i32 (by kernel_rfl) (y := -1) (s := 0) hc hz (by simp [go_sem]; rfl)
  have hcv := run_convert_to_unsafe (P := Try.prog) (src := 163) (dst := 167) Try.underlying163 Try.underlying167 (by kernel_rfl) hc
  go_enter_d Try.func93, Try.ntmps93
  go_wp2
  go_end0
  exact ⟨rfl, rfl⟩
set_option maxRecDepth 100000 in
theorem lock_free (a : Addr) (w : World) (hc : w.cell? a = some (.int .i32 0)) (hz : w.frozen? a = false) :
    Calls Try.prog 92 #[.pointer (some a)] w fun e w' => e = .returned (.tuple #[]) ∧ w' = w.setCell a (.int .i32 1) := by
  have hd := disable
  have he := enable
  have ha := acquire
  have hcas := run_call_cas_hit (P := Try.prog) Try.func101 (by kernel_rfl) (by kernel_rfl) (by kernel_rfl) .i32 (by kernel_rfl) (y := 1) hc hz
  have hc' : (w.setCell a (.int .i32 1)).cell? a = some (.int .i32 1) := World.cell?_setCell_same w a _ hc
  have hcv := run_convert_to_unsafe (P := Try.prog) (src := 163) (dst := 167) Try.underlying163 Try.underlying167 (by kernel_rfl) hc'
  go_enter Try.func92, Try.ntmps92
  go_wp2
  go_end0
  exact ⟨rfl, rfl⟩
theorem bool_load (a : Addr) (x : Int) (w : World) (hc : w.cell? a = some (.int .u32 x)) :
    Calls Try.prog 80 #[.pointer (some a)] w fun e w' => e = .returned (.bool (x != 0)) ∧ w' = w := by
  have hl := run_call_load (P := Try.prog) Try.func91 (by kernel_rfl) (by kernel_rfl) (by kernel_rfl) .u32 (by kernel_rfl) (w := w) (a := a) (x := x) hc
  go_enter Try.func80, Try.ntmps80
  go_wp2
  refine bodyPost_ret (results_tmp rfl _ _ _) rfl ?_
  exact ⟨rfl, rfl⟩
set_option maxRecDepth 100000 in
set_option maxHeartbeats 1600000 in
/-- What is handed to Do is called, the lock held; then the Once is done. -/
theorem slow_any (b off : Nat) (fv : Go.Fn) (x y : Array Value) (g : FuncId) (vs : Array Value) (R : World → Prop) (w : World) (hfv : fv = .func g) (hgb : ((Try.prog.funcs[g]?).any fun fn => fn.body.isSome && fn.name != "runtime.NumGoroutine") = true) (hvs : x ++ y = vs)
    (h0 : w.cell? ⟨b, off, none⟩ = some (.int .u32 0)) (h1 : w.cell? ⟨b, off + 1, none⟩ = some (.int .i32 0))
    (f0 : w.frozen? ⟨b, off, none⟩ = false) (f1 : w.frozen? ⟨b, off + 1, none⟩ = false)
    (hg : Calls Try.prog g vs (w.setCell ⟨b, off + 1, none⟩ (.int .i32 1)) fun e w1 => e = .returned (.tuple #[]) ∧ R w1)
    (hR : ∀ w1, R w1 → w1.cell? ⟨b, off, none⟩ = some (.int .u32 0) ∧ w1.cell? ⟨b, off + 1, none⟩ = some (.int .i32 1) ∧ w1.frozen? ⟨b, off, none⟩ = false ∧ w1.frozen? ⟨b, off + 1, none⟩ = false) :
    Calls Try.prog 81 #[.pointer (some ⟨b, off, none⟩), .func fv x y] w fun e w' => e = .returned (.tuple #[]) ∧
      ∃ w1, R w1 ∧ w' = (w1.drew.setCell ⟨b, off, none⟩ (.int .u32 1)).setCell ⟨b, off + 1, none⟩ (.int .i32 0) := by
  subst hfv
  subst hvs
  have hl := run_call_load (P := Try.prog) Try.func91 (by kernel_rfl) (by kernel_rfl) (by kernel_rfl) .u32 (by kernel_rfl) (w := w.setCell ⟨b, off + 1, none⟩ (.int .i32 1)) (a := ⟨b, off, none⟩) (x := 0) ((World.cell?_setCell_other _ ⟨b, off + 1, none⟩ ⟨b, off, none⟩ _ (by simp)).trans h0)
  have hnot : ∀ (x : Bool) (w : World), (Op.unary .not (.bool x)).run Try.prog w = .ok (.bool (!x)) w := fun _ _ => rfl
  go_enter_defers Try.func81, Try.ntmps81
  go_wp2_with (go_at_call 92; refine (lock_free ⟨b, off + 1, none⟩ _ (by go_simp) (by go_simp)).mono ?_; rintro e w' ⟨rfl, rfl⟩)
  go_at_call 80
  refine (bool_load ⟨b, off, none⟩ 0 _ ((World.cell?_setCell_other _ ⟨b, off + 1, none⟩ ⟨b, off, none⟩ _ (by simp)).trans h0)).mono ?_
  rintro e w' ⟨rfl, rfl⟩
  go_wp2
  rw [run_enter hgb, Oper.upon_enter]
  refine hg.mono ?_
  rintro e w1 ⟨rfl, hw1⟩
  obtain ⟨r0, r1, r2, r3⟩ := hR w1 hw1
  dsimp only
  go_wp2
  refine leaves_cons (f := 94) (args := #[.pointer (some ⟨b, off, none⟩), .bool true]) (by simp) (by simp [go_sem]) ?_
  refine (store_deferred ⟨b, off, none⟩ (.int .u32 0) .returning _ r0 r2).mono ?_
  rintro e u' w'' ⟨rfl, rfl, rfl⟩
  refine leaves_cons (f := 93) (args := #[.pointer (some ⟨b, off + 1, none⟩)]) (by simp [settle]) (by simp [go_sem]) ?_
  refine (unlock_deferred ⟨b, off + 1, none⟩ _ _ ?_ (by simp [r3])).mono ?_
  · refine (World.cell?_setCell_other _ ⟨b, off, none⟩ ⟨b, off + 1, none⟩ _ (by simp)).trans ?_
    rw [World.cell?_drew]
    exact r1
  rintro e u' w'' ⟨rfl, rfl, rfl⟩
  simp [Leaves, settle, results, Try.results81]
  exact ⟨w1, hw1, rfl⟩
end Go.Proofs.Ytndlhhhebijknaa
