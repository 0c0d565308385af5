/-
  Readers: slicing, len, min, max; all together. Over any program. No condition of its own.
-/
import Derived.Test.YtndlhhhebijknaaSxj
namespace Go.Proofs.Ytndlhhhebijknaa
set_option linter.unusedVariables false
namespace Sx
open Go.RowKit

section
variable {C : Cx} {t : List SV} {h : List (List Seg)} {r : Rho} {a : Act} {w : World} {k : SV → Prop}
theorem bound_spec (ok : Ok C ⟨t, h⟩ r a w) {dflt : Nat} {x : Option Operand} {K : Int → Prop} (hk : bound t dflt x K) :
    ∃ n, K n ∧ (match x with | none => n = (dflt : Int) | some x => ∃ kk, a.eval x = .int kk n) := by
  unfold bound at hk
  split at hk
  · exact ⟨_, hk, rfl⟩
  · obtain ⟨q, hk, hq, _⟩ := ev_c ok hk
    obtain ⟨n, hk, hn⟩ := idx_spec hk
    exact ⟨n, hk, hn _ _ hq⟩
theorem run_sliceBound {P : Program} {v : Value} {kk : IntKind} {n : Int} {y : Nat} {c : BoundsCode} {w : World} (hv : v = .int kk n) (h0 : 0 ≤ n) (h1 : n ≤ (y : Int)) : (Instr.sliceBound v y c).run P w = .ok n.toNat w := by
  subst hv
  simp [Instr.sliceBound, run_asInt, h0, h1, pure]
theorem bounds_spec (ok : Ok C ⟨t, h⟩ r a w) {n c : Nat} {lo hi mx : Option Operand} {K : Nat → Nat → Nat → Prop} (hk : bounds t n c lo hi mx K) :
    ∃ l hh m, K l hh m ∧ l ≤ hh ∧ hh ≤ m ∧ m ≤ c ∧ ∀ (g : Bool) (w' : World), (Instr.sliceBounds g n c (lo.map a.eval) (hi.map a.eval) (mx.map a.eval)).run C.P w' = .ok (l, hh, m) w' := by
  unfold bounds at hk
  split at hk
  · rename_i vm
    split at hk
    · rename_i vh
      obtain ⟨z, hk, hz⟩ := bound_spec ok hk
      obtain ⟨y, hk, hy⟩ := bound_spec ok hk
      obtain ⟨x, hk, hx⟩ := bound_spec ok hk
      obtain ⟨⟨h1, h2, h3, h4⟩, hk⟩ := hk
      rw [frcN_eq, frcN_eq, frcN_eq] at hk
      refine ⟨x.toNat, y.toNat, z.toNat, hk, by omega, by omega, by omega, fun g w' => ?_⟩
      obtain ⟨kz, hz⟩ := hz
      obtain ⟨ky, hy⟩ := hy
      have s3 : ∀ q w', (Instr.sliceBound (a.eval vm) c q).run C.P w' = .ok z.toNat w' := fun q w' => run_sliceBound hz (by omega) h4
      have s2 : ∀ q w', (Instr.sliceBound (a.eval vh) z.toNat q).run C.P w' = .ok y.toNat w' := fun q w' => run_sliceBound hy (by omega) (by omega)
      cases lo with
      | none =>
        simp only at hx
        subst hx
        simp [Instr.sliceBounds, pure, s2, s3]
      | some v' =>
        obtain ⟨kk, hx⟩ := hx
        have s1 : ∀ q w', (Instr.sliceBound (a.eval v') y.toNat q).run C.P w' = .ok x.toNat w' := fun q w' => run_sliceBound hx h1 (by omega)
        simp [Instr.sliceBounds, pure, s1, s2, s3]
    · exact hk.elim
  · obtain ⟨y, hk, hy⟩ := bound_spec ok hk
    obtain ⟨x, hk, hx⟩ := bound_spec ok hk
    obtain ⟨⟨h1, h2, h3⟩, hk⟩ := hk
    rw [frcN_eq, frcN_eq] at hk
    refine ⟨x.toNat, y.toNat, c, hk, by omega, by omega, Nat.le_refl _, fun g w' => ?_⟩
    cases hi with
    | none =>
      simp only at hy
      subst hy
      cases lo with
      | none =>
        simp only at hx
        subst hx
        simp [Instr.sliceBounds, pure]
      | some v =>
        obtain ⟨kk, hx⟩ := hx
        have s1 : ∀ q w', (Instr.sliceBound (a.eval v) n q).run C.P w' = .ok x.toNat w' := fun q w' => run_sliceBound hx h1 (by simpa using h2)
        simp [Instr.sliceBounds, pure, s1]
    | some v =>
      obtain ⟨kk, hy⟩ := hy
      have s2 : ∀ q w', (Instr.sliceBound (a.eval v) c q).run C.P w' = .ok y.toNat w' := fun q w' => run_sliceBound hy (by omega) h3
      cases lo with
      | none =>
        simp only at hx
        subst hx
        simp [Instr.sliceBounds, pure, s2]
      | some v' =>
        obtain ⟨kk, hx⟩ := hx
        have s1 : ∀ q w', (Instr.sliceBound (a.eval v') y.toNat q).run C.P w' = .ok x.toNat w' := fun q w' => run_sliceBound hx h1 (by omega)
        simp [Instr.sliceBounds, pure, s1, s2]
theorem str_extract (l : List UInt8) (x y : Nat) : (⟨l.toArray⟩ : ByteArray).extract x y = ⟨((l.drop x).take (y - x)).toArray⟩ := by
  apply ByteArray.ext
  rw [ByteArray.data_extract]
  simp [List.extract_toArray, List.extract_eq_take_drop]
theorem rd_slice {u : TypeId} {x : Operand} {lo hi mx : Option Operand} (hT : AllT C.P C.T) (ok : Ok C ⟨t, h⟩ r a w) (hk : stepR C (.slice u x lo hi mx) t h k) : RdOk C t (.slice u x lo hi mx) a w r k := by
  unfold stepR at hk
  obtain ⟨d, hd, hk⟩ := td_spec hT hk
  have hkk := hd.kind
  have hv := ok.ev x
  split at hk
  · rename_i l hkd hx
    rw [hkd] at hkk
    simp only [TK.Ok] at hkk
    simp only [hx] at hv
    have hv : a.eval x = .string ⟨l.toArray⟩ := hv
    split at hk <;> try exact hk.elim
    obtain ⟨b, e, m, hk', hbe, hec, hmc, hrun⟩ := bounds_spec ok hk
    refine ⟨_, _, hk', rfl, fun o w' ho _ => ?_⟩
    simp only [execOp, ho]
    refine exec_v ?_
    have hsz : (⟨l.toArray⟩ : ByteArray).size = l.length := rfl
    have hr := hrun false w'
    simp only [Instr.sliceAt, Instr.slice, hv, Sem.run_bind, run_underlying hkk, Result.andThen_ok, hsz]
    simp only [Option.map_none] at hr ⊢
    simp [hr, str_extract, pure]
  · rename_i e i b o n c hkd hx
    rw [hkd] at hkk
    simp only [TK.Ok] at hkk
    simp only [hx] at hv
    obtain ⟨B, f, hr, hv⟩ := hv
    obtain ⟨de, hde, hk⟩ := td_spec hT hk
    obtain ⟨l, hh, m, hk', hbe, hec, hmc, hrun⟩ := bounds_spec ok hk
    simp only [frcN_eq] at hk'
    refine ⟨_, _, hk', ⟨B, f, hr, rfl⟩, fun o' w' ho _ => ?_⟩
    simp only [execOp, ho]
    refine exec_v ?_
    have hr := hrun true w'
    simp only [Instr.sliceAt, Instr.slice, hv, Sem.run_bind, run_underlying hkk, Result.andThen_ok]
    simp [hr, hde.sizeOf, pure]
    split
    · rfl
    · simp only [add_none]; congr 2; omega
  · rename_i e A n c hkd hx
    rw [hkd] at hkk
    simp only [TK.Ok] at hkk
    simp only [hx] at hv
    have hv : a.eval x = .slice A n c := hv
    obtain ⟨de, hde, hk⟩ := td_spec hT hk
    obtain ⟨l, hh, m, hk', hbe, hec, hmc, hrun⟩ := bounds_spec ok hk
    simp only [frcN_eq] at hk'
    refine ⟨_, _, hk', rfl, fun o' w' ho _ => ?_⟩
    simp only [execOp, ho]
    refine exec_v ?_
    have hr := hrun true w'
    simp only [Instr.sliceAt, Instr.slice, hv, Sem.run_bind, run_underlying hkk, Result.andThen_ok]
    simp [hr, hde.sizeOf, pure]
  · rename_i len e i b o hkd hx
    rw [hkd] at hkk
    simp only [TK.Ok] at hkk
    simp only [hx] at hv
    obtain ⟨B, f, hr, hv⟩ := hv
    obtain ⟨de, hde, hk⟩ := td_spec hT hk
    obtain ⟨l, hh, m, hk', hbe, hec, hmc, hrun⟩ := bounds_spec ok hk
    simp only [frcN_eq] at hk'
    refine ⟨_, _, hk', ⟨B, f, hr, rfl⟩, fun o' w' ho _ => ?_⟩
    simp only [execOp, ho]
    refine exec_v ?_
    have hr := hrun false w'
    simp only [Instr.sliceAt, hv, Sem.run_bind, run_underlying hkk, Result.andThen_ok, Instr.sureAddr]
    simp [hr, hde.sizeOf, pure]
    by_cases hc : m = l
    · simp [hc]
    · simp [hc, add_none]; omega
  · rename_i q i b o hkd hx
    rw [hkd] at hkk
    simp only [TK.Ok] at hkk
    simp only [hx] at hv
    obtain ⟨B, f, hr, hv⟩ := hv
    obtain ⟨dq, hdq, hk⟩ := td_spec hT hk
    have hkq := hdq.kind
    split at hk <;> try exact hk.elim
    rename_i len e hkd2
    rw [hkd2] at hkq
    simp only [TK.Ok] at hkq
    obtain ⟨de, hde, hk⟩ := td_spec hT hk
    obtain ⟨l, hh, m, hk', hbe, hec, hmc, hrun⟩ := bounds_spec ok hk
    simp only [frcN_eq] at hk'
    refine ⟨_, _, hk', ⟨B, f, hr, rfl⟩, fun o' w' ho _ => ?_⟩
    simp only [execOp, ho]
    refine exec_v ?_
    have hr := hrun false w'
    simp only [Instr.sliceAt, Instr.slice, hv, Sem.run_bind, run_underlying hkk, Result.andThen_ok, asAddr, run_underlying hkq]
    simp [hr, hde.sizeOf, run_underlying hkq, pure]
    by_cases hc : m = l
    · simp [hc]
    · simp [hc, add_none]; omega
  · rename_i e z i b o n c hkd hx
    rw [hkd] at hkk
    simp only [TK.Ok] at hkk
    simp only [hx] at hv
    obtain ⟨de, hde, hk⟩ := td_spec hT hk
    obtain ⟨l, hh, m, hk', hbe, hec, hmc, hrun⟩ := bounds_spec ok hk
    simp only [frcN_eq] at hk'
    rcases hv with ⟨rfl, hv, rfl, rfl⟩ | ⟨rfl, B, f, hr, hv⟩
    · have e1 : l = 0 := by omega
      have e2 : hh = 0 := by omega
      have e3 : m = 0 := by omega
      subst e1; subst e2; subst e3
      refine ⟨_, _, hk', .inl ⟨rfl, rfl, rfl, rfl⟩, fun o' w' ho _ => ?_⟩
      simp only [execOp, ho]
      refine exec_v ?_
      have hr := hrun true w'
      simp only [Instr.sliceAt, Instr.slice, hv, Sem.run_bind, run_underlying hkk, Result.andThen_ok]
      simp [hr, hde.sizeOf, pure]
    refine ⟨_, _, hk', .inr ⟨rfl, B, f, hr, rfl⟩, fun o' w' ho _ => ?_⟩
    simp only [execOp, ho]
    refine exec_v ?_
    have hr := hrun true w'
    simp only [Instr.sliceAt, Instr.slice, hv, Sem.run_bind, run_underlying hkk, Result.andThen_ok]
    simp [hr, hde.sizeOf, pure]
    split
    · rfl
    · simp only [add_none]; congr 2; omega
  · exact hk.elim
theorem rd_builtin {b : Builtin} {args : Array Operand} {ts : Array TypeId} (hT : AllT C.P C.T) (ok : Ok C ⟨t, h⟩ r a w) (hk : stepR C (.call ⟨.builtin b, args, ts⟩) t h k) : RdOk C t (.call ⟨.builtin b, args, ts⟩) a w r k := by
  cases b <;> try exact hk.elim
  case len =>
    have hk : (match args.toList, ts.toList with
      | [x], u :: _ => td C u fun d => match d.k, ev t x with
        | .str, .a (.c (.str l)) => k (.a (.c (.int .i64 (l.length : Int))))
        | .slice _, .a (.c (.sl _ _ _ n _)) => k (.a (.c (.int .i64 (n : Int))))
        | .slice _, .a (.c (.slc _ n _)) => k (.a (.c (.int .i64 (n : Int))))
        | .slice _, .a (.c (.sn _ _ _ _ n _)) => k (.a (.c (.int .i64 (n : Int))))
        | _, _ => False
      | _, _ => False) := hk
    split at hk <;> try exact hk.elim
    rename_i x u us h1 h2
    obtain ⟨d, hd, hk⟩ := td_spec hT hk
    have hkk := hd.kind
    have hv := ok.ev x
    have e1 : args = #[x] := by rw [← Array.toList_inj]; exact h1
    have e2 : ts[0]? = some u := by rw [← Array.getElem?_toList, h2]; rfl
    have fin : ∀ {n : Nat}, k (.a (.c (.int .i64 (n : Int)))) → (∀ ty w', (Builtin.len_ ts ty #[a.eval x]).run C.P w' = .ok (.int .i64 (n : Int)) w') → RdOk C t (.call ⟨.builtin .len, args, ts⟩) a w r k := by
      intro n h1 h2
      refine ⟨_, _, h1, rfl, fun o w' ho _ => ?_⟩
      subst e1
      simp only [execOp, ho, resolve]
      refine exec_v ?_
      simp only [List.map_toArray, List.map_cons, List.map_nil]
      exact h2 _ w'
    split at hk <;> try exact hk.elim
    · rename_i l hkd hx
      rw [hkd] at hkk
      simp only [TK.Ok] at hkk
      simp only [hx] at hv
      have hv : a.eval x = .string ⟨l.toArray⟩ := hv
      refine fin hk (fun ty w' => ?_)
      simp [Builtin.len_, e2, hv, run_underlying hkk, goInt, pure]
      rfl
    · rename_i i b' o n c hkd hx
      rw [hkd] at hkk
      simp only [TK.Ok] at hkk
      simp only [hx] at hv
      obtain ⟨B, f, _, hv⟩ := hv
      refine fin hk (fun ty w' => ?_)
      simp [Builtin.len_, e2, hv, run_underlying hkk, goInt, pure]
    · rename_i A n c hkd hx
      rw [hkd] at hkk
      simp only [TK.Ok] at hkk
      simp only [hx] at hv
      have hv : a.eval x = .slice A n c := hv
      refine fin hk (fun ty w' => ?_)
      simp [Builtin.len_, e2, hv, run_underlying hkk, goInt, pure]
    · rename_i z i b' o n c hkd hx
      rw [hkd] at hkk
      simp only [TK.Ok] at hkk
      simp only [hx] at hv
      rcases hv with ⟨_, hv, rfl, _⟩ | ⟨_, B, f, _, hv⟩
      · refine fin hk (fun ty w' => ?_)
        simp [Builtin.len_, e2, hv, run_underlying hkk, goInt, pure]
      · refine fin hk (fun ty w' => ?_)
        simp [Builtin.len_, e2, hv, run_underlying hkk, goInt, pure]
  case min =>
    have hk : (match args.toList with
      | [x, y] => asC (ev t x) fun a => asC (ev t y) fun b => match a, b with
        | .int .i64 a, .int .i64 b => k (.a (.c (.int .i64 (if b < a then b else a))))
        | _, _ => False
      | _ => False) := hk
    split at hk <;> try exact hk.elim
    rename_i x y h1
    obtain ⟨p, hk, hp, _⟩ := ev_c ok hk
    obtain ⟨q, hk, hq, _⟩ := ev_c ok hk
    have e1 : args = #[x, y] := by rw [← Array.toList_inj]; exact h1
    split at hk <;> try exact hk.elim
    have hp : a.eval x = _ := hp
    have hq : a.eval y = _ := hq
    refine ⟨_, _, hk, rfl, fun o w' ho _ => ?_⟩
    subst e1
    simp only [execOp, ho, resolve]
    refine exec_v (v := .int .i64 _) ?_
    simp only [List.map_toArray, List.map_cons, List.map_nil]
    rw [hp, hq]
    rfl
  case max =>
    have hk : (match args.toList with
      | [x, y] => asC (ev t x) fun a => asC (ev t y) fun b => match a, b with
        | .int .i64 a, .int .i64 b => k (.a (.c (.int .i64 (if a < b then b else a))))
        | _, _ => False
      | _ => False) := hk
    split at hk <;> try exact hk.elim
    rename_i x y h1
    obtain ⟨p, hk, hp, _⟩ := ev_c ok hk
    obtain ⟨q, hk, hq, _⟩ := ev_c ok hk
    have e1 : args = #[x, y] := by rw [← Array.toList_inj]; exact h1
    split at hk <;> try exact hk.elim
    have hp : a.eval x = _ := hp
    have hq : a.eval y = _ := hq
    refine ⟨_, _, hk, rfl, fun o w' ho _ => ?_⟩
    subst e1
    simp only [execOp, ho, resolve]
    refine exec_v (v := .int .i64 _) ?_
    simp only [List.map_toArray, List.map_cons, List.map_nil]
    rw [hp, hq]
    rfl
/-- Readers, all together. -/
theorem stepR_sound {op : Op} (hT : AllT C.P C.T) (ok : Ok C ⟨t, h⟩ r a w) (hk : stepR C op t h k) : RdOk C t op a w r k := by
  cases op <;> try exact hk.elim
  case move => exact rd_move ok hk
  case assign => exact rd_assign ok hk
  case pick => exact rd_pick ok hk
  case build => exact rd_build hT ok hk
  case load => exact rd_load hT ok hk
  case nilCheck => exact rd_nilCheck ok hk
  case binOp => exact rd_binOp hT ok hk
  case unOp => exact rd_unOp ok hk
  case convert => exact rd_convert hT ok hk
  case makeInterface => exact rd_iface hT ok hk
  case makeFunc => exact rd_func ok hk
  case slice => exact rd_slice hT ok hk
  case fieldAddr => exact rd_fieldAddr hT ok hk
  case field => exact rd_field hT ok hk
  case indexAddr => exact rd_indexAddr hT ok hk
  case index => exact rd_index hT ok hk
  case extract => exact rd_extract ok hk
  case call c =>
    obtain ⟨callee, args, ts⟩ := c
    cases callee <;> try exact hk.elim
    exact rd_builtin hT ok hk
end
end Sx
end Go.Proofs.Ytndlhhhebijknaa
