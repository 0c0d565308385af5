/-
  What the operations on single values do, put together. Over any program. No condition of its own.
-/
import Derived.Test.YtndlhhhebijknaaSxe
namespace Go.Proofs.Ytndlhhhebijknaa
set_option linter.unusedVariables false
namespace Sx
open Go.RowKit

theorem asC_spec {x : SV} {k : SC → Prop} (h : asC x k) : ∃ y, x = .a (.c y) ∧ k y := by
  unfold asC at h
  split at h
  · rw [frcSC_eq] at h; exact ⟨_, rfl, h⟩
  · exact h.elim
theorem td_spec {C : Cx} (hT : AllT C.P C.T) {t : Nat} {k : TD → Prop} (h : td C t k) : ∃ d, TdOk C.P t d ∧ k d := by
  unfold td at h
  split at h
  · rename_i a b c d hd
    exact ⟨_, hT.find hd, h⟩
  · exact h.elim
section
variable {P : Program}
theorem TdOk.und {t : TypeId} {d : TD} (h : TdOk P t d) : ∃ u, P.underlying t = some u ∧ (match u with | .struct _ => true | .array .. => true | _ => false) = d.isAgg := by
  have hk := h.kind
  cases hd : d.k <;> rw [hd] at hk <;> simp only [TK.Ok] at hk <;> simp only [TD.isAgg, hd]
  case struct =>
    unfold fieldsOf at hk
    split at hk
    · exact ⟨_, by assumption, rfl⟩
    · cases hk
  case ifc =>
    unfold isIfc at hk
    split at hk
    · exact ⟨_, by assumption, rfl⟩
    · cases hk
  case fn =>
    unfold isFn at hk
    split at hk
    · exact ⟨_, by assumption, rfl⟩
    · cases hk
  all_goals exact ⟨_, hk, rfl⟩
theorem TdOk.inf {t : TypeId} {d : TD} (h : TdOk P t d) : ∃ i, P.info? t = some i ∧ i.size = d.size ∧ i.bytes = d.bytes ∧ i.zero = some d.zeroVal := by
  obtain ⟨i, hi, e⟩ := Option.map_eq_some_iff.1 h.info
  simp only [Prod.mk.injEq] at e
  exact ⟨i, hi, e.1, e.2.1, e.2.2⟩
theorem TdOk.isAgg {t : TypeId} {d : TD} (h : TdOk P t d) (w : World) : (isAgg t).run P w = .ok d.isAgg w := by
  obtain ⟨u, hu, e⟩ := h.und
  simp only [Go.isAgg, Sem.run_bind, run_underlying hu, Result.andThen_ok, ← e]
  cases u <;> rfl
theorem TdOk.sizeOf {t : TypeId} {d : TD} (h : TdOk P t d) (w : World) : (sizeOf t).run P w = .ok d.size w := by
  obtain ⟨i, hi, e, _, _⟩ := h.inf
  simp [Go.sizeOf, typeInfo, hi, e]
theorem TdOk.zeroValue {t : TypeId} {d : TD} (h : TdOk P t d) (w : World) : (zeroValue t).run P w = .ok d.zeroVal w := by
  obtain ⟨i, hi, _, _, e⟩ := h.inf
  simp [Go.zeroValue, typeInfo, hi, e]

theorem eqGuard_ok {op : BinOp} {t : TypeId} {X Y : Operand} {p q : Value} (h : (∀ a, p ≠ .agg a) ∧ ((p ≠ .nilIface ∨ q ≠ .nilIface) ∨ (isConst X || isConst Y) = true)) (w : World) : (eqGuard op t X Y p q).run P w = .ok () w := by
  unfold eqGuard
  cases op <;> try rfl
  all_goals
    simp only [Bool.not_true, Bool.false_eq_true, if_false]
    obtain ⟨ha, hn⟩ := h
    cases p <;> try rfl
    case agg a => exact absurd rfl (ha a)
    case nilIface =>
      cases q <;> try rfl
      rcases hn with hn | hn
      · exact absurd rfl (by rcases hn with h | h <;> exact h)
      · cases X <;> cases Y <;> first | rfl | cases hn
theorem eql_run {t : TypeId} {p q : Value} {b : Bool} (hd : ∀ d w, (Op.equalIn (d + 1) t p q).run P w = .ok b w) (h1 : binOp .eql t p q = (do pure (.bool (← Op.equal t p q)))) (h2 : binOp .neq t p q = (do pure (.bool (!(← Op.equal t p q))))) :
    (∀ w, (binOp .eql t p q).run P w = .ok (.bool b) w) ∧ (∀ w, (binOp .neq t p q).run P w = .ok (.bool (!b)) w) := by
  have e : ∀ w, (Op.equal t p q).run P w = .ok b w := fun w => hd 9999 w
  constructor
  · intro w
    rw [h1, Sem.run_bind, e]; rfl
  · intro w
    rw [h2, Sem.run_bind, e]; rfl
theorem eqv_spec {tk : TK} {t : TypeId} (hk : tk.Ok P t) {cn : Bool} {x y : SC} {K : Bool → Prop} (h : eqv tk cn x y K) {r : Rho} {p q : Value} (hx : x.Is r p) (hy : y.Is r q) :
    ∃ b, K b ∧ (∀ w, (binOp .eql t p q).run P w = .ok (.bool b) w) ∧ (∀ w, (binOp .neq t p q).run P w = .ok (.bool (!b)) w) ∧ (∀ a, p ≠ .agg a) ∧ ((p ≠ .nilIface ∨ q ≠ .nilIface) ∨ cn = true) := by
  have fin : ∀ {b}, K b → (∀ d w, (Op.equalIn (d + 1) t p q).run P w = .ok b w) → (binOp .eql t p q = (do pure (.bool (← Op.equal t p q)))) → (binOp .neq t p q = (do pure (.bool (!(← Op.equal t p q))))) → (∀ a, p ≠ .agg a) → ((p ≠ .nilIface ∨ q ≠ .nilIface) ∨ cn = true) →
      ∃ b, K b ∧ (∀ w, (binOp .eql t p q).run P w = .ok (.bool b) w) ∧ (∀ w, (binOp .neq t p q).run P w = .ok (.bool (!b)) w) ∧ (∀ a, p ≠ .agg a) ∧ ((p ≠ .nilIface ∨ q ≠ .nilIface) ∨ cn = true) := by
    intro b h1 h2 h3 h4 h5 h6
    exact ⟨b, h1, (eql_run h2 h3 h4).1, (eql_run h2 h3 h4).2, h5, h6⟩
  unfold eqv at h
  split at h <;> simp only [SC.Is] at hx hy <;> try exact h.elim
  all_goals simp only [TK.Ok] at hk
  · subst hx; subst hy
    exact fin h (fun d w => by simp only [Op.equalIn, Sem.run_bind, run_underlying hk, Result.andThen_ok]; rfl) rfl rfl (by simp) (by simp)
  · obtain ⟨B, f, _, rfl⟩ := hx; subst hy
    exact fin h (fun d w => by simp only [Op.equalIn, Sem.run_bind, run_underlying hk, Result.andThen_ok]; rfl) rfl rfl (by simp) (by simp)
  · obtain ⟨B, f, _, rfl⟩ := hy; subst hx
    exact fin h (fun d w => by simp only [Op.equalIn, Sem.run_bind, run_underlying hk, Result.andThen_ok]; rfl) rfl rfl (by simp) (by simp)
  · subst hx; subst hy
    exact fin h (fun d w => by simp only [Op.equalIn, Sem.run_bind, run_underlying hk, Result.andThen_ok]; rfl) rfl rfl (by simp) (by simp)
  · subst hx; subst hy
    exact fin h (fun d w => by simp only [Op.equalIn, Sem.run_bind, run_underlying hk, Result.andThen_ok]; rfl) rfl rfl (by simp) (by simp)
  · obtain ⟨B, f, _, rfl⟩ := hx; subst hy
    exact fin h (fun d w => by simp only [Op.equalIn, Sem.run_bind, run_underlying hk, Result.andThen_ok]; rfl) rfl rfl (by simp) (by simp)
  · obtain ⟨B, f, _, rfl⟩ := hy; subst hx
    exact fin h (fun d w => by simp only [Op.equalIn, Sem.run_bind, run_underlying hk, Result.andThen_ok]; rfl) rfl rfl (by simp) (by simp)
  · subst hx; subst hy
    exact fin h (fun d w => by simp only [Op.equalIn, Sem.run_bind, run_underlying hk, Result.andThen_ok]; rfl) rfl rfl (by simp) (by simp)
  · subst hx; subst hy
    exact fin h (fun d w => by simp only [Op.equalIn, Sem.run_bind, run_underlying hk, Result.andThen_ok]; rfl) rfl rfl (by simp) (by simp)
  · have hk' : ∃ ms, P.underlying t = some (.interface ms) := by
      unfold isIfc at hk
      split at hk
      · exact ⟨_, by assumption⟩
      · cases hk
    obtain ⟨ms, hk⟩ := hk'
    subst hx; subst hy
    split at h
    · exact fin h (fun d w => by simp only [Op.equalIn, Sem.run_bind, run_underlying hk, Result.andThen_ok]; rfl) rfl rfl (by simp) (by simp)
    · exact h.elim
  · have hk' : ∃ ms, P.underlying t = some (.interface ms) := by
      unfold isIfc at hk
      split at hk
      · exact ⟨_, by assumption⟩
      · cases hk
    obtain ⟨ms, hk⟩ := hk'
    subst hx; subst hy
    exact fin h (fun d w => by simp only [Op.equalIn, Sem.run_bind, run_underlying hk, Result.andThen_ok]; rfl) rfl rfl (by simp) (by simp)
  · have hk' : ∃ ms, P.underlying t = some (.interface ms) := by
      unfold isIfc at hk
      split at hk
      · exact ⟨_, by assumption⟩
      · cases hk
    obtain ⟨ms, hk⟩ := hk'
    subst hx; subst hy
    exact fin h (fun d w => by simp only [Op.equalIn, Sem.run_bind, run_underlying hk, Result.andThen_ok]; rfl) rfl rfl (by simp) (by simp)
  · have hk' : ∃ a b c, P.underlying t = some (.func a b c) := by
      unfold isFn at hk
      split at hk
      · exact ⟨_, _, _, by assumption⟩
      · cases hk
    obtain ⟨a, b, c, hk⟩ := hk'
    subst hx; subst hy
    exact fin h (fun d w => by simp only [Op.equalIn, Sem.run_bind, run_underlying hk, Result.andThen_ok]; rfl) rfl rfl (by simp) (by simp)
  · have hk' : ∃ a b c, P.underlying t = some (.func a b c) := by
      unfold isFn at hk
      split at hk
      · exact ⟨_, _, _, by assumption⟩
      · cases hk
    obtain ⟨a, b, c, hk⟩ := hk'
    subst hx; subst hy
    exact fin h (fun d w => by simp only [Op.equalIn, Sem.run_bind, run_underlying hk, Result.andThen_ok]; rfl) rfl rfl (by simp) (by simp)
  · subst hy
    rcases hx with ⟨rfl, rfl, _, _⟩ | ⟨rfl, B, f, _, rfl⟩
    · exact fin h (fun d w => by simp only [Op.equalIn, Sem.run_bind, run_underlying hk, Result.andThen_ok]; rfl) rfl rfl (by simp) (by simp)
    · exact fin h (fun d w => by simp only [Op.equalIn, Sem.run_bind, run_underlying hk, Result.andThen_ok]; rfl) rfl rfl (by simp) (by simp)
  · subst hx
    rcases hy with ⟨rfl, rfl, _, _⟩ | ⟨rfl, B, f, _, rfl⟩
    · exact fin h (fun d w => by simp only [Op.equalIn, Sem.run_bind, run_underlying hk, Result.andThen_ok]; rfl) rfl rfl (by simp) (by simp)
    · exact fin h (fun d w => by simp only [Op.equalIn, Sem.run_bind, run_underlying hk, Result.andThen_ok]; rfl) rfl rfl (by simp) (by simp)
/-- Two values, whatever the operator. -/
theorem bin_spec {tk : TK} {t : TypeId} (hk : tk.Ok P t) {op : BinOp} {X Y : Operand} {x y : SC} {K : SC → Prop} (h : bin op tk (isConst X || isConst Y) x y K) {r : Rho} {p q : Value} (hx : x.Is r p) (hy : y.Is r q) :
    ∃ z v, K z ∧ (∀ r, z.Is r v) ∧ ∀ w, (do eqGuard op t X Y p q; binOp op t p q : Sem Value).run P w = .ok v w := by
  have fin : ∀ {z v}, K z → (∀ r, z.Is r v) → ((∀ a, p ≠ .agg a) ∧ ((p ≠ .nilIface ∨ q ≠ .nilIface) ∨ (isConst X || isConst Y) = true)) → (∀ w, (binOp op t p q).run P w = .ok v w) → ∃ z v, K z ∧ (∀ r, z.Is r v) ∧ ∀ w, (do eqGuard op t X Y p q; binOp op t p q : Sem Value).run P w = .ok v w := by
    intro z v h1 h2 h3 h4
    exact ⟨z, v, h1, h2, fun w => by rw [Sem.run_bind, eqGuard_ok h3]; exact h4 w⟩
  unfold bin at h
  split at h
  · exact h.elim
  · exact h.elim
  split at h
  · simp only [SC.Is] at hx hy
    subst hx; subst hy
    obtain ⟨z, v, h1, h2, h3⟩ := ibin_spec (P := P) t h
    exact fin h1 h2 (by simp) h3
  · simp only [SC.Is] at hx hy
    subst hx; subst hy
    obtain ⟨z, v, h1, h2, h3⟩ := wbin_spec (P := P) (k := .u8) .w8 (fun _ _ => rfl) rfl t h
    exact fin h1 h2 (by simp) h3
  · simp only [SC.Is] at hx hy
    subst hx; subst hy
    obtain ⟨z, v, h1, h2, h3⟩ := wbin_spec (P := P) (k := .u16) .w16 (fun _ _ => rfl) rfl t h
    exact fin h1 h2 (by simp) h3
  · simp only [SC.Is] at hx hy
    subst hx; subst hy
    obtain ⟨z, v, h1, h2, h3⟩ := wbin_spec (P := P) (k := .u32) .w32 (fun _ _ => rfl) rfl t h
    exact fin h1 h2 (by simp) h3
  · simp only [SC.Is] at hx hy
    subst hx; subst hy
    obtain ⟨z, v, h1, h2, h3⟩ := wbin_spec (P := P) (k := .u64) .w64 (fun _ _ => rfl) rfl t h
    exact fin h1 h2 (by simp) h3
  · simp only [SC.Is] at hx hy
    subst hx; subst hy
    split at h
    · refine fin h.2 (fun r => rfl) (by simp) (fun w => ?_)
      have h1 := h.1
      have hm : IntKind.i64.max = 9223372036854775807 := by decide
      simp only [binOp, Op.stringOp, hm]
      rw [if_neg (by show ¬ (((_ : Nat) : Int) > 9223372036854775807); simp only [ByteArray.size]; simp; omega)]
      simp [pure]
      rfl
    · refine fin h (fun r => rfl) (by simp) (fun w => ?_)
      simp [binOp, Op.stringOp, pure]
      rw [Bool.eq_iff_iff]; simp
    · refine fin h (fun r => rfl) (by simp) (fun w => ?_)
      simp [binOp, Op.stringOp, pure]
      rw [Bool.eq_iff_iff]; simp
    · exact h.elim
  · split at h
    · obtain ⟨b, h1, h2, _, h4⟩ := eqv_spec hk h hx hy
      exact fin h1 (fun r => rfl) h4 h2
    · obtain ⟨b, h1, _, h3, h4⟩ := eqv_spec hk h hx hy
      exact fin h1 (fun r => rfl) h4 h3
    · exact h.elim
end
end Sx
end Go.Proofs.Ytndlhhhebijknaa
