/-
  Shifts, single operators, conversions; what a state's slots hold. Over any program. No condition of its own.
-/
import Derived.Test.YtndlhhhebijknaaSxf
namespace Go.Proofs.Ytndlhhhebijknaa
set_option linter.unusedVariables false
namespace Sx
open Go.RowKit

section
variable {P : Program}
theorem ofW_spec {x : SC} {K : (n : Nat) → BitVec n → Prop} (h : ofW x K) : ∃ (k : IntKind) (y : BitVec k.bits), (∀ r v, x.Is r v → v = .int k (y.toNat : Int)) ∧ k.signed = false ∧ K k.bits y := by
  unfold ofW at h
  split at h
  · exact ⟨.u8, _, fun r v hv => hv, rfl, h⟩
  · exact ⟨.u16, _, fun r v hv => hv, rfl, h⟩
  · exact ⟨.u32, _, fun r v hv => hv, rfl, h⟩
  · exact ⟨.u64, _, fun r v hv => hv, rfl, h⟩
  · exact h.elim
/-- A number as Int. -/
theorem idx_spec {x : SC} {K : Int → Prop} (h : idx x K) : ∃ n, K n ∧ ∀ (r : Rho) v, x.Is r v → ∃ k, v = .int k n := by
  unfold idx at h
  split at h
  · exact ⟨_, h, fun r v hv => ⟨_, hv⟩⟩
  · obtain ⟨k, y, e, _, h⟩ := ofW_spec h
    exact ⟨_, h, fun r v hv => ⟨_, e r v hv⟩⟩
theorem amount_spec {x : SC} {K : Nat → Prop} (h : amount x K) : ∃ n, K n ∧ ∀ (r : Rho) v, x.Is r v → ∃ k, v = .int k (n : Int) := by
  unfold amount at h
  split at h
  · exact ⟨_, h, fun r v hv => ⟨_, hv⟩⟩
  · exact ⟨_, h, fun r v hv => ⟨_, hv⟩⟩
  · exact ⟨_, h, fun r v hv => ⟨_, hv⟩⟩
  · exact ⟨_, h, fun r v hv => ⟨_, hv⟩⟩
  · exact ⟨_, h.2, fun r v hv => ⟨_, by rw [Int.toNat_of_nonneg h.1]; exact hv⟩⟩
  · exact h.elim
theorem wsh_spec {k : IntKind} (mk : BitVec k.bits → SC) (hmk : ∀ r x, (mk x).Is r (.int k (x.toNat : Int))) (hk : k.signed = false) {left : Bool} {x : BitVec k.bits} {n : Nat} {K : SC → Prop} (t : TypeId) (h : wsh mk left x n K) :
    ∃ z q, K z ∧ (∀ r, z.Is r q) ∧ ∀ (k' : IntKind) (w : World), (binOp (if left then .shl else .shr) t (.int k (x.toNat : Int)) (.int k' (n : Int))).run P w = .ok q w := by
  cases left <;> simp only [wsh] at h
  · refine ⟨_, _, h, fun r => hmk r _, fun k' w => ?_⟩
    simp only [binOp, Op.shift, Bool.false_eq_true, if_false]
    rw [if_neg (by omega), Int.toNat_natCast, u_shr]; rfl
  · refine ⟨_, _, h, fun r => hmk r _, fun k' w => ?_⟩
    simp only [binOp, Op.shift, if_true]
    rw [if_neg (by omega), Int.toNat_natCast, u_shl hk]; rfl
theorem sh_spec {left : Bool} {x : SC} {n : Nat} {K : SC → Prop} (t : TypeId) (h : sh left x n K) {r : Rho} {p : Value} (hx : x.Is r p) :
    ∃ z q, K z ∧ (∀ r, z.Is r q) ∧ ∀ (k' : IntKind) (w : World), (binOp (if left then .shl else .shr) t p (.int k' (n : Int))).run P w = .ok q w := by
  unfold sh at h
  split at h <;> simp only [SC.Is] at hx
  · subst hx; exact wsh_spec (k := .u8) .w8 (fun _ _ => rfl) rfl t h
  · subst hx; exact wsh_spec (k := .u16) .w16 (fun _ _ => rfl) rfl t h
  · subst hx; exact wsh_spec (k := .u32) .w32 (fun _ _ => rfl) rfl t h
  · subst hx; exact wsh_spec (k := .u64) .w64 (fun _ _ => rfl) rfl t h
  · subst hx
    split at h
    · refine ⟨_, _, h.2, fun r => rfl, fun k' w => ?_⟩
      have h1 : min n IntKind.i64.bits = n := Nat.min_eq_left (by show n ≤ 64; omega)
      simp only [binOp, Op.shift, if_true]
      rw [if_neg (by omega), Int.toNat_natCast, h1, wrap_i64 h.1.2]; rfl
    · refine ⟨_, _, h.2, fun r => rfl, fun k' w => ?_⟩
      have h1 : min n IntKind.i64.bits = n := Nat.min_eq_left (by show n ≤ 64; omega)
      simp only [binOp, Op.shift, Bool.false_eq_true, if_false]
      rw [if_neg (by omega), Int.toNat_natCast, h1, Int.fdiv_eq_ediv_of_nonneg _ (Int.le_of_lt (Int.pow_pos (by omega)))]; rfl
  · exact h.elim
theorem u_neg {k : IntKind} (hk : k.signed = false) (x : BitVec k.bits) : k.wrap (0 - (x.toNat : Int)) = ((-x).toNat : Int) := by
  have := u_sub hk (0 : BitVec k.bits) x
  simpa using this
theorem u_not {k : IntKind} (hk : k.signed = false) (x : BitVec k.bits) : BitVec.ofInt k.bits k.max ^^^ x = ~~~x := by
  have h1 : BitVec.ofInt k.bits k.max = BitVec.allOnes k.bits := by
    cases k <;> first | exact absurd hk (by decide) | decide
  rw [h1]; simp
theorem un_spec {op : UnOp} {x : SC} {K : SC → Prop} (h : un op x K) {r : Rho} {p : Value} (hx : x.Is r p) :
    ∃ z v, K z ∧ (∀ r, z.Is r v) ∧ ∀ w : World, (Op.unary op p).run P w = .ok v w := by
  have neg : ∀ {k : IntKind} (hk : k.signed = false) (x : BitVec k.bits) (w : World), (Op.unary .neg (.int k (x.toNat : Int))).run P w = .ok (.int k ((-x).toNat : Int)) w := by
    intro k hk x w
    simp only [Op.unary, Op.intArith]
    rw [u_neg hk]; rfl
  have not_ : ∀ {k : IntKind} (hk : k.signed = false) (x : BitVec k.bits) (w : World), (Op.unary .xor (.int k (x.toNat : Int))).run P w = .ok (.int k ((~~~x).toNat : Int)) w := by
    intro k hk x w
    simp only [Op.unary, Op.intBits, hk, Bool.false_eq_true, if_false, ofInt_w]
    rw [u_not hk, wrap_w hk]; rfl
  unfold un at h
  split at h <;> simp only [SC.Is] at hx <;> try exact h.elim
  all_goals subst hx
  · exact ⟨_, _, h, fun r => rfl, fun w => rfl⟩
  · refine ⟨_, _, h.2, fun r => rfl, fun w => ?_⟩
    simp only [Op.unary, Op.intArith]
    rw [wrap_i64 (by omega)]; simp [pure]
  · exact ⟨_, _, h, fun r => rfl, fun w => neg (k := .u8) rfl _ w⟩
  · exact ⟨_, _, h, fun r => rfl, fun w => neg (k := .u16) rfl _ w⟩
  · exact ⟨_, _, h, fun r => rfl, fun w => neg (k := .u32) rfl _ w⟩
  · exact ⟨_, _, h, fun r => rfl, fun w => neg (k := .u64) rfl _ w⟩
  · exact ⟨_, _, h, fun r => rfl, fun w => not_ (k := .u8) rfl _ w⟩
  · exact ⟨_, _, h, fun r => rfl, fun w => not_ (k := .u16) rfl _ w⟩
  · exact ⟨_, _, h, fun r => rfl, fun w => not_ (k := .u32) rfl _ w⟩
  · exact ⟨_, _, h, fun r => rfl, fun w => not_ (k := .u64) rfl _ w⟩
theorem conv_nat {k : IntKind} (hk : k.signed = false) {n : Nat} (x : BitVec n) : k.wrap (x.toNat : Int) = ((x.setWidth k.bits).toNat : Int) := by
  rw [wrap_nat hk, BitVec.toNat_setWidth]
theorem conv_int {k : IntKind} (hk : k.signed = false) (a : Int) : k.wrap a = ((BitVec.ofInt k.bits a).toNat : Int) := by
  rw [wrap_u hk, BitVec.toNat_ofInt, Int.toNat_of_nonneg (Int.emod_nonneg _ (by have := Nat.two_pow_pos k.bits; omega))]
theorem run_intint {s d : TypeId} {u : TypeDesc} {k q : IntKind} {n : Int} (hs : P.underlying s = some u) (hd : P.underlying d = some (.int k)) (w : World) : (convert s d (.int q n)).run P w = .ok (.int k (k.wrap n)) w := by
  simp only [convert, Sem.run_bind, run_underlying hs, run_underlying hd, Result.andThen_ok]
  cases u <;> rfl
theorem conv_spec {s d : TypeId} {ds dd : TD} (hs : TdOk P s ds) (hd : TdOk P d dd) {x : SC} {K : SC → Prop} (h : conv dd.k x K) {r : Rho} {p : Value} (hx : x.Is r p) :
    ∃ z v, K z ∧ (∀ r, z.Is r v) ∧ ∀ w : World, (convert s d p).run P w = .ok v w := by
  obtain ⟨u, hu, _⟩ := hs.und
  have hk := hd.kind
  have I : ∀ {k q : IntKind} {n m : Int} {z : SC}, P.underlying d = some (.int k) → k.wrap n = m → K z → (∀ r, z.Is r (.int k m)) → ∃ z v, K z ∧ (∀ r, z.Is r v) ∧ ∀ w : World, (convert s d (.int q n)).run P w = .ok v w := by
    intro k q n m z h1 h2 h3 h4
    exact ⟨z, _, h3, h4, fun w => by rw [run_intint hu h1, h2]⟩
  unfold conv at h
  split at h
  case h_1 e => rw [e] at hk; simp only [SC.Is] at hx; subst hx; exact I hk (wrap_i64 h.1) h.2 (fun r => rfl)
  case h_2 e => rw [e] at hk; simp only [SC.Is] at hx; subst hx; exact I hk (conv_int (k := .u8) rfl _) h (fun r => rfl)
  case h_3 e => rw [e] at hk; simp only [SC.Is] at hx; subst hx; exact I hk (conv_int (k := .u16) rfl _) h (fun r => rfl)
  case h_4 e => rw [e] at hk; simp only [SC.Is] at hx; subst hx; exact I hk (conv_int (k := .u32) rfl _) h (fun r => rfl)
  case h_5 e => rw [e] at hk; simp only [SC.Is] at hx; subst hx; exact I hk (conv_int (k := .u64) rfl _) h (fun r => rfl)
  case h_6 e =>
    rw [e] at hk
    simp only [SC.Is] at hx
    subst hx
    refine ⟨_, _, h, fun r => rfl, fun w => ?_⟩
    simp only [convert, Sem.run_bind, run_underlying hu, run_underlying hk, Result.andThen_ok]
    cases u <;> rfl
  case h_7 e => rw [e] at hk; simp only [SC.Is] at hx; subst hx; exact I hk (wrap_i64 ⟨by omega, Int.ofNat_le.2 h.1⟩) h.2 (fun r => rfl)
  case h_8 e => rw [e] at hk; simp only [SC.Is] at hx; subst hx; rename_i y; exact I hk (wrap_i64 ⟨by omega, Int.ofNat_le.2 (Nat.le_of_lt (Nat.lt_of_lt_of_le (y.isLt) (by decide)))⟩) h (fun r => rfl)
  case h_9 e => rw [e] at hk; simp only [SC.Is] at hx; subst hx; rename_i y; exact I hk (wrap_i64 ⟨by omega, Int.ofNat_le.2 (Nat.le_of_lt (Nat.lt_of_lt_of_le (y.isLt) (by decide)))⟩) h (fun r => rfl)
  case h_10 e => rw [e] at hk; simp only [SC.Is] at hx; subst hx; rename_i y; exact I hk (wrap_i64 ⟨by omega, Int.ofNat_le.2 (Nat.le_of_lt (Nat.lt_of_lt_of_le (y.isLt) (by decide)))⟩) h (fun r => rfl)
  case h_11 => rw [show dd.k = .int .u8 by assumption] at hk; obtain ⟨k, y, e, hs, h⟩ := ofW_spec h; obtain rfl := e r p hx; exact I hk (conv_nat (k := .u8) rfl _) h (fun r => rfl)
  case h_12 => rw [show dd.k = .int .u16 by assumption] at hk; obtain ⟨k, y, e, hs, h⟩ := ofW_spec h; obtain rfl := e r p hx; exact I hk (conv_nat (k := .u16) rfl _) h (fun r => rfl)
  case h_13 => rw [show dd.k = .int .u32 by assumption] at hk; obtain ⟨k, y, e, hs, h⟩ := ofW_spec h; obtain rfl := e r p hx; exact I hk (conv_nat (k := .u32) rfl _) h (fun r => rfl)
  case h_14 => rw [show dd.k = .int .u64 by assumption] at hk; obtain ⟨k, y, e, hs, h⟩ := ofW_spec h; obtain rfl := e r p hx; exact I hk (conv_nat (k := .u64) rfl _) h (fun r => rfl)
  case h_15 => exact h.elim
end
end Sx
end Go.Proofs.Ytndlhhhebijknaa
