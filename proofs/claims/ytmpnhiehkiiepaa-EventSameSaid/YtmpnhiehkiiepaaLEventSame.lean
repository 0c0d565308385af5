/-
  binnacle/binnaclelaw24.EventSame returns true for every input, and each argument reads afterwards as it read before. No condition.
-/
import Derived.Lib.SmallJoins
import Derived.Test.YtmpnhiehkiiepaaEventSame
namespace Go.Proofs.Ytmpnhiehkiiepaa.eventSame
open Go.ChangeShapes Go.WideShapes Go.ChangeAt Go.RowKit
open Go.ChangeMaps (open_string shut_string)
set_option linter.unusedVariables false
open Go.Joins

theorem walk (a0_0 : Int) (a0_1 : Int) (a0_2 : Option Addr) (len0_2 cap0_2 : Nat) (z0_2 : List Int) (a0_3 : Option Addr) (len0_3 cap0_3 : Nat) (z0_3 : List Int) (a1_0 : Int) (a1_1 : Int) (a1_2 : Option Addr) (len1_2 cap1_2 : Nat) (z1_2 : List Int) (a1_3 : Option Addr) (len1_3 cap1_3 : Nat) (z1_3 : List Int) (a2 : Int) (a3 : Int) (w : World) (w0_0 : (Lit.int .u8 a0_0).wf = true) (w0_1 : (Lit.int .u64 a0_1).wf = true) (w0_2 : IsRow .u64 w a0_2 len0_2 cap0_2 z0_2) (w0_3 : IsRow .u8 w a0_3 len0_3 cap0_3 z0_3) (w1_0 : (Lit.int .u8 a1_0).wf = true) (w1_1 : (Lit.int .u64 a1_1).wf = true) (w1_2 : IsRow .u64 w a1_2 len1_2 cap1_2 z1_2) (w1_3 : IsRow .u8 w a1_3 len1_3 cap1_3 z1_3) (w2 : (Lit.int .u8 a2).wf = true) (w3 : (Lit.int .i64 a3).wf = true) :
    Calls Try.prog 11 #[.agg #[.int .u8 a0_0, .int .u64 a0_1, .slice a0_2 len0_2 cap0_2, .slice a0_3 len0_3 cap0_3], .agg #[.int .u8 a1_0, .int .u64 a1_1, .slice a1_2 len1_2 cap1_2, .slice a1_3 len1_3 cap1_3], .int .u8 a2, .int .i64 a3] w fun e w' => e = .returned (.bool true) ∧ Below w.heap.size w w' := by
  have b0 := u8_wf w0_0
  have b1 := u64_wf w0_1
  have b4 := u8_wf w1_0
  have b2 := u8_wf w2
  obtain ⟨k, rfl⟩ : ∃ k : Nat, (k : Int) = a0_0 := ⟨a0_0.toNat, Int.toNat_of_nonneg b0.1⟩
  obtain ⟨k2, rfl⟩ : ∃ k : Nat, (k : Int) = a1_0 := ⟨a1_0.toNat, Int.toNat_of_nonneg b4.1⟩
  obtain ⟨j, rfl⟩ : ∃ j : Nat, (j : Int) = a2 := ⟨a2.toNat, Int.toNat_of_nonneg b2.1⟩
  obtain ⟨hr, hn, hns⟩ := w0_2.rdL
  obtain ⟨bs, hm, hs⟩ := w0_3.sb
  obtain ⟨hr2, hn2, hns2⟩ := w1_2.rdL
  obtain ⟨bs2, hm2, hs2⟩ := w1_3.sb
  exact walk_same k a0_1 a0_2 len0_2 cap0_2 a0_3 len0_3 cap0_3 _ bs k2 a1_1 a1_2 len1_2 cap1_2 a1_3 len1_3 cap1_3 _ bs2 j a3 w hr hn hs hm hr2 hn2 hs2 hm2 (by omega) (by omega) b1.1 b1.2 hns

set_option maxRecDepth 100000 in
theorem lifted (os : Os) (started : os.Started) (H : Type) (enc : TypeId × Value → H) :
    ReturnsInHanded {} Try.checked os 11 .any (Rows.eventSameSpec.pre6 enc Try.prog Try.f11 Rows.eventSameRow.domain false) (Rows.eventSameSpec.post enc Try.prog Try.f11 false true false false) := by
  refine returnsInHanded_of_change (C := Try.checked) own started (by kernel_rfl) Try.func11
    (ChangeSpec.witness6 (enc := enc) (C := Try.checked) false ⟨#[], #[.agg #[.int .u8 0, .int .u64 0, .slice none 0 0, .slice none 0 0], .agg #[.int .u8 0, .int .u64 0, .slice none 0 0, .slice none 0 0], .int .u8 0, .int .i64 0], []⟩ 8 (by kernel_rfl) (by kernel_rfl) (by kernel_rfl) (by kernel_rfl)) ?_
  intro W base args ds gs before hval0 hW hcnd _
  have hval : ∀ (j : Nat) t v, Try.f11.params[j]? = some t → args[j]? = some v → Value.okWide Try.prog W .any base t v := hval0
  have hW' := hW
  obtain ⟨p, q, hA0, hV, rfl, hfz, hnd⟩ := hW
  have hA : DataW.TrodAll enc Try.prog W 0 (fun _ => true) true Try.f11.params.toList args.toList ds p := hA0
  rw [Try.params11] at hA hval
  obtain ⟨v0, vs0, d0, ds0, p0, q0, hargs, rfl, rfl, h0, r0⟩ := trodAll_cons hA
  obtain ⟨v1, vs1, d1, ds1, p1, q1, rfl, rfl, rfl, h1, r1⟩ := trodAll_cons r0
  obtain ⟨v2, vs2, d2, ds2, p2, q2, rfl, rfl, rfl, h2, r2⟩ := trodAll_cons r1
  obtain ⟨v3, vs3, d3, ds3, p3, q3, rfl, rfl, rfl, h3, r3⟩ := trodAll_cons r2
  obtain ⟨rfl, rfl, rfl⟩ := trodAll_nil r3
  obtain rfl : args = #[v0, v1, v2, v3] := by cases args; simp_all
  obtain ⟨rfl, rfl⟩ := trodVars_none hV
  have k0 := h0
  have lt0 : ∀ x ∈ p0, x.block < W.heap.size := by obtain ⟨m, hm⟩ := k0; exact DataW.trod_lt m _ _ _ hm
  obtain ⟨c0_0, c0_1, c0_2, c0_3, y0_0, y0_1, y0_2, y0_3, m0, rfl, rfl, rfl, hy0_0, hy0_1, hy0_2, hy0_3⟩ := open_agg4 Try.underlying63 (by kernel_rfl) (by kernel_rfl) (hval 0 63 v0 rfl rfl) h0
  obtain ⟨a0_0, hc0_0, _, w0_0⟩ := DataW.trod_int Try.underlying43 hy0_0
  simp at hc0_0
  subst hc0_0
  obtain ⟨a0_1, hc0_1, _, w0_1⟩ := DataW.trod_int Try.underlying25 hy0_1
  simp at hc0_1
  subst hc0_1
  obtain ⟨a0_2, len0_2, cap0_2, z0_2, hc0_2, w0_2⟩ : ∃ a len cap zs, c0_2 = .slice a len cap ∧ IsRow .u64 W a len cap zs := by
    rcases open_ints Try.underlying61 Try.underlying25 (by kernel_rfl) hy0_2 with ⟨hcs, _⟩ | ⟨x, l, c, zs, hcs, _, hl, hm, hz, _, hcell, hwz⟩
    · simp at hcs
      exact ⟨none, 0, 0, [], hcs, .inl ⟨rfl, rfl, rfl, rfl⟩⟩
    · simp at hcs
      exact ⟨some x, l, c, zs, hcs, .inr ⟨_, rfl, hl, hm, by simpa using hz, hcell, hwz⟩⟩
  subst hc0_2
  obtain ⟨a0_3, len0_3, cap0_3, z0_3, hc0_3, w0_3⟩ : ∃ a len cap zs, c0_3 = .slice a len cap ∧ IsRow .u8 W a len cap zs := by
    rcases open_ints Try.underlying22 Try.underlying5 (by kernel_rfl) hy0_3 with ⟨hcs, _⟩ | ⟨x, l, c, zs, hcs, _, hl, hm, hz, _, hcell, hwz⟩
    · simp at hcs
      exact ⟨none, 0, 0, [], hcs, .inl ⟨rfl, rfl, rfl, rfl⟩⟩
    · simp at hcs
      exact ⟨some x, l, c, zs, hcs, .inr ⟨_, rfl, hl, hm, by simpa using hz, hcell, hwz⟩⟩
  subst hc0_3
  have k1 := h1
  have lt1 : ∀ x ∈ p1, x.block < W.heap.size := by obtain ⟨m, hm⟩ := k1; exact DataW.trod_lt m _ _ _ hm
  obtain ⟨c1_0, c1_1, c1_2, c1_3, y1_0, y1_1, y1_2, y1_3, m1, rfl, rfl, rfl, hy1_0, hy1_1, hy1_2, hy1_3⟩ := open_agg4 Try.underlying63 (by kernel_rfl) (by kernel_rfl) (hval 1 63 v1 rfl rfl) h1
  obtain ⟨a1_0, hc1_0, _, w1_0⟩ := DataW.trod_int Try.underlying43 hy1_0
  simp at hc1_0
  subst hc1_0
  obtain ⟨a1_1, hc1_1, _, w1_1⟩ := DataW.trod_int Try.underlying25 hy1_1
  simp at hc1_1
  subst hc1_1
  obtain ⟨a1_2, len1_2, cap1_2, z1_2, hc1_2, w1_2⟩ : ∃ a len cap zs, c1_2 = .slice a len cap ∧ IsRow .u64 W a len cap zs := by
    rcases open_ints Try.underlying61 Try.underlying25 (by kernel_rfl) hy1_2 with ⟨hcs, _⟩ | ⟨x, l, c, zs, hcs, _, hl, hm, hz, _, hcell, hwz⟩
    · simp at hcs
      exact ⟨none, 0, 0, [], hcs, .inl ⟨rfl, rfl, rfl, rfl⟩⟩
    · simp at hcs
      exact ⟨some x, l, c, zs, hcs, .inr ⟨_, rfl, hl, hm, by simpa using hz, hcell, hwz⟩⟩
  subst hc1_2
  obtain ⟨a1_3, len1_3, cap1_3, z1_3, hc1_3, w1_3⟩ : ∃ a len cap zs, c1_3 = .slice a len cap ∧ IsRow .u8 W a len cap zs := by
    rcases open_ints Try.underlying22 Try.underlying5 (by kernel_rfl) hy1_3 with ⟨hcs, _⟩ | ⟨x, l, c, zs, hcs, _, hl, hm, hz, _, hcell, hwz⟩
    · simp at hcs
      exact ⟨none, 0, 0, [], hcs, .inl ⟨rfl, rfl, rfl, rfl⟩⟩
    · simp at hcs
      exact ⟨some x, l, c, zs, hcs, .inr ⟨_, rfl, hl, hm, by simpa using hz, hcell, hwz⟩⟩
  subst hc1_3
  obtain ⟨a2, rfl, rfl, rfl, w2⟩ := open_int Try.underlying5 (hval 2 5 v2 rfl rfl) h2
  obtain ⟨a3, rfl, rfl, rfl, w3⟩ := open_int Try.underlying3 (hval 3 3 v3 rfl rfl) h3
  clear hA0 hval0
  refine (walk a0_0 a0_1 a0_2 len0_2 cap0_2 z0_2 a0_3 len0_3 cap0_3 z0_3 a1_0 a1_1 a1_2 len1_2 cap1_2 z1_2 a1_3 len1_3 cap1_3 z1_3 a2 a3 W w0_0 w0_1 w0_2 w0_3 w1_0 w1_1 w1_2 w1_3 w2 w3).mono fun e W' ⟨he, bel⟩ => ?_
  subst he
  exact ⟨_, rfl, _, _, _, [], _, [], hW', trodAll_mk1 (shut_bool Try.underlying4 _), (trodAll_cons_mk (Below.trod laidOut (by kernel_rfl) (of_decide_eq_true (by kernel_rfl)) k0 bel lt0) (trodAll_cons_mk (Below.trod laidOut (by kernel_rfl) (of_decide_eq_true (by kernel_rfl)) k1 bel lt1) (trodAll_cons_mk (shut_int Try.underlying5 w2) (trodAll_cons_mk (shut_int Try.underlying3 w3) trodAll_mk0)))), rfl, bel.frame _, fun h => by cases h⟩

theorem over : Rows.eventSameRow.holds Try.pinned (OpenSpec.ofChange Rows.eventSameSpec) :=
  OpenClaim.holds_of_wide 11 Try.f11 rfl rfl rfl rfl rfl rfl rfl ⟨rfl, rfl, rfl, rfl, rfl⟩ rfl rfl rfl rfl rfl (by kernel_rfl) Try.func11 (by kernel_rfl)
    (of_decide_eq_true (by kernel_rfl)) (by unfold Func.isWrapper; first | (rw [if_pos (by decide +kernel)]; kernel_rfl) | (rw [if_neg (by decide +kernel)]; exact ⟨rfl, rfl⟩))
    (fun os started H enc _ => lifted os started H enc)

/-- THE STATEMENT -/
theorem proved : Rows.EventSameSaid := over
#print axioms proved
end Go.Proofs.Ytmpnhiehkiiepaa.eventSame
