/-
  binnacle/binnaclelaw10.ParamSame returns true for every input, and each argument reads afterwards as it read before. No condition.
-/
import Derived.Lib.SmallJoins
import Derived.Test.YtmpnhiehkiiepaaParamSame
namespace Go.Proofs.Ytmpnhiehkiiepaa.paramSame
open Go.ChangeShapes Go.WideShapes Go.ChangeAt Go.RowKit
open Go.ChangeMaps (open_string shut_string)
set_option linter.unusedVariables false
open Go.Joins Go.Deep

section
variable {H : Type} {enc : TypeId × Value → H} {P : Program} {w : World} {base : Nat} {spare : Nat → Bool} {held : Bool}
theorem open_agg10 {r : Reach} {b0 : Nat} {t : TypeId} {f0 f1 f2 f3 f4 f5 f6 f7 f8 f9 : Field} {v : Value} {d : DataW H} {p : List MemPlace} (hs : P.underlying t = some (.struct #[f0, f1, f2, f3, f4, f5, f6, f7, f8, f9])) (hone : oneCellFields P #[f0, f1, f2, f3, f4, f5, f6, f7, f8, f9] = true) (hC : P.cellsOf t = 10)
    (hv : Value.okWide P w r b0 t v) (h : DataW.Trod enc P w base spare held t v d p) :
    ∃ (v0 v1 v2 v3 v4 v5 v6 v7 v8 v9 : Value) (y0 y1 y2 y3 y4 y5 y6 y7 y8 y9 : DataW H × List MemPlace) (n : Nat), v = .agg #[v0, v1, v2, v3, v4, v5, v6, v7, v8, v9] ∧ d = .agg [y0.1, y1.1, y2.1, y3.1, y4.1, y5.1, y6.1, y7.1, y8.1, y9.1] ∧ p = y0.2 ++ (y1.2 ++ (y2.2 ++ (y3.2 ++ (y4.2 ++ (y5.2 ++ (y6.2 ++ (y7.2 ++ (y8.2 ++ y9.2)))))))) ∧
      DataW.trod enc P w base spare held n f0.type [v0] = some y0 ∧ DataW.trod enc P w base spare held n f1.type [v1] = some y1 ∧ DataW.trod enc P w base spare held n f2.type [v2] = some y2 ∧ DataW.trod enc P w base spare held n f3.type [v3] = some y3 ∧ DataW.trod enc P w base spare held n f4.type [v4] = some y4 ∧ DataW.trod enc P w base spare held n f5.type [v5] = some y5 ∧ DataW.trod enc P w base spare held n f6.type [v6] = some y6 ∧ DataW.trod enc P w base spare held n f7.type [v7] = some y7 ∧ DataW.trod enc P w base spare held n f8.type [v8] = some y8 ∧ DataW.trod enc P w base spare held n f9.type [v9] = some y9 := by
  obtain ⟨cs, rfl, hsz⟩ := okWide_struct hs hv
  obtain ⟨l⟩ := cs
  match l, hsz.trans hC with
  | [c0, c1, c2, c3, c4, c5, c6, c7, c8, c9], _ =>
    obtain ⟨fuel, hf⟩ := h
    obtain ⟨xs, n, _, hx, _, hlen, hg⟩ := DataW.trod_struct hs hf
    obtain ⟨o0, k0⟩ := hone_of hone 0 f0 rfl
    obtain ⟨o1, k1⟩ := hone_of hone 1 f1 rfl
    obtain ⟨o2, k2⟩ := hone_of hone 2 f2 rfl
    obtain ⟨o3, k3⟩ := hone_of hone 3 f3 rfl
    obtain ⟨o4, k4⟩ := hone_of hone 4 f4 rfl
    obtain ⟨o5, k5⟩ := hone_of hone 5 f5 rfl
    obtain ⟨o6, k6⟩ := hone_of hone 6 f6 rfl
    obtain ⟨o7, k7⟩ := hone_of hone 7 f7 rfl
    obtain ⟨o8, k8⟩ := hone_of hone 8 f8 rfl
    obtain ⟨o9, k9⟩ := hone_of hone 9 f9 rfl
    match xs, hlen with
    | [y0, y1, y2, y3, y4, y5, y6, y7, y8, y9], _ =>
      simp only [Prod.mk.injEq] at hx
      exact ⟨c0, c1, c2, c3, c4, c5, c6, c7, c8, c9, y0, y1, y2, y3, y4, y5, y6, y7, y8, y9, n, rfl, by simpa using hx.1, by simpa using hx.2, by simpa [Value.cells, o0, k0] using hg 0 f0 rfl, by simpa [Value.cells, o0, k0, o1, k1] using hg 1 f1 rfl, by simpa [Value.cells, o0, k0, o1, k1, o2, k2] using hg 2 f2 rfl, by simpa [Value.cells, o0, k0, o1, k1, o2, k2, o3, k3] using hg 3 f3 rfl, by simpa [Value.cells, o0, k0, o1, k1, o2, k2, o3, k3, o4, k4] using hg 4 f4 rfl, by simpa [Value.cells, o0, k0, o1, k1, o2, k2, o3, k3, o4, k4, o5, k5] using hg 5 f5 rfl, by simpa [Value.cells, o0, k0, o1, k1, o2, k2, o3, k3, o4, k4, o5, k5, o6, k6] using hg 6 f6 rfl, by simpa [Value.cells, o0, k0, o1, k1, o2, k2, o3, k3, o4, k4, o5, k5, o6, k6, o7, k7] using hg 7 f7 rfl, by simpa [Value.cells, o0, k0, o1, k1, o2, k2, o3, k3, o4, k4, o5, k5, o6, k6, o7, k7, o8, k8] using hg 8 f8 rfl, by simpa [Value.cells, o0, k0, o1, k1, o2, k2, o3, k3, o4, k4, o5, k5, o6, k6, o7, k7, o8, k8, o9, k9] using hg 9 f9 rfl⟩
end

theorem walk (a0_0 : Int) (a0_1 : Int) (a0_2 : Int) (a0_3 : Int) (a0_4 : Int) (a0_5 : Int) (a0_6 : Int) (a0_7 : Int) (a0_8 : Int) (a0_9 : Option Addr) (len0_9 cap0_9 : Nat) (z0_9 : List Int) (a1_0 : Int) (a1_1 : Int) (a1_2 : Int) (a1_3 : Int) (a1_4 : Int) (a1_5 : Int) (a1_6 : Int) (a1_7 : Int) (a1_8 : Int) (a1_9 : Option Addr) (len1_9 cap1_9 : Nat) (z1_9 : List Int) (a2 : Int) (w : World) (w0_0 : (Lit.int .u64 a0_0).wf = true) (w0_1 : (Lit.int .u64 a0_1).wf = true) (w0_2 : (Lit.int .u64 a0_2).wf = true) (w0_3 : (Lit.int .u64 a0_3).wf = true) (w0_4 : (Lit.int .u64 a0_4).wf = true) (w0_5 : (Lit.int .u64 a0_5).wf = true) (w0_6 : (Lit.int .u64 a0_6).wf = true) (w0_7 : (Lit.int .u64 a0_7).wf = true) (w0_8 : (Lit.int .u64 a0_8).wf = true) (w0_9 : IsRow .u8 w a0_9 len0_9 cap0_9 z0_9) (w1_0 : (Lit.int .u64 a1_0).wf = true) (w1_1 : (Lit.int .u64 a1_1).wf = true) (w1_2 : (Lit.int .u64 a1_2).wf = true) (w1_3 : (Lit.int .u64 a1_3).wf = true) (w1_4 : (Lit.int .u64 a1_4).wf = true) (w1_5 : (Lit.int .u64 a1_5).wf = true) (w1_6 : (Lit.int .u64 a1_6).wf = true) (w1_7 : (Lit.int .u64 a1_7).wf = true) (w1_8 : (Lit.int .u64 a1_8).wf = true) (w1_9 : IsRow .u8 w a1_9 len1_9 cap1_9 z1_9) (w2 : (Lit.int .u8 a2).wf = true) :
    Calls Try.prog 12 #[.agg #[.int .u64 a0_0, .int .u64 a0_1, .int .u64 a0_2, .int .u64 a0_3, .int .u64 a0_4, .int .u64 a0_5, .int .u64 a0_6, .int .u64 a0_7, .int .u64 a0_8, .slice a0_9 len0_9 cap0_9], .agg #[.int .u64 a1_0, .int .u64 a1_1, .int .u64 a1_2, .int .u64 a1_3, .int .u64 a1_4, .int .u64 a1_5, .int .u64 a1_6, .int .u64 a1_7, .int .u64 a1_8, .slice a1_9 len1_9 cap1_9], .int .u8 a2] w fun e w' => e = .returned (.bool true) ∧ Below w.heap.size w w' := by
  have b0 := u64_wf w0_0
  have b4 := u64_wf w0_4
  have b8 := u64_wf w0_8
  have b2 := u8_wf w2
  obtain ⟨j, rfl⟩ : ∃ j : Nat, (j : Int) = a2 := ⟨a2.toNat, Int.toNat_of_nonneg b2.1⟩
  obtain ⟨bs, hn, hr⟩ := w0_9.sb
  obtain ⟨cs, hm, hs⟩ := w1_9.sb
  exact walk_psame a0_0 a0_1 a0_2 a0_3 a0_4 a0_5 a0_6 a0_7 a0_8 a1_0 a1_1 a1_2 a1_3 a1_4 a1_5 a1_6 a1_7 a1_8 a0_9 len0_9 cap0_9 a1_9 len1_9 cap1_9 bs cs j w hr hn hs hm (by omega) ⟨b0.1, b4.1, b8.1⟩

set_option maxRecDepth 100000 in
theorem lifted (os : Os) (started : os.Started) (H : Type) (enc : TypeId × Value → H) :
    ReturnsInHanded {} Try.checked os 12 .any (Rows.paramSameSpec.pre6 enc Try.prog Try.f12 Rows.paramSameRow.domain false) (Rows.paramSameSpec.post enc Try.prog Try.f12 false true false false) := by
  refine returnsInHanded_of_change (C := Try.checked) own started (by kernel_rfl) Try.func12
    (ChangeSpec.witness6 (enc := enc) (C := Try.checked) false ⟨#[], #[.agg #[.int .u64 0, .int .u64 0, .int .u64 0, .int .u64 0, .int .u64 0, .int .u64 0, .int .u64 0, .int .u64 0, .int .u64 0, .slice none 0 0], .agg #[.int .u64 0, .int .u64 0, .int .u64 0, .int .u64 0, .int .u64 0, .int .u64 0, .int .u64 0, .int .u64 0, .int .u64 0, .slice none 0 0], .int .u8 0], []⟩ 8 (by kernel_rfl) (by kernel_rfl) (by kernel_rfl) (by kernel_rfl)) ?_
  intro W base args ds gs before hval0 hW hcnd _
  have hval : ∀ (j : Nat) t v, Try.f12.params[j]? = some t → args[j]? = some v → Value.okWide Try.prog W .any base t v := hval0
  have hW' := hW
  obtain ⟨p, q, hA0, hV, rfl, hfz, hnd⟩ := hW
  have hA : DataW.TrodAll enc Try.prog W 0 (fun _ => true) true Try.f12.params.toList args.toList ds p := hA0
  rw [Try.params12] at hA hval
  obtain ⟨v0, vs0, d0, ds0, p0, q0, hargs, rfl, rfl, h0, r0⟩ := trodAll_cons hA
  obtain ⟨v1, vs1, d1, ds1, p1, q1, rfl, rfl, rfl, h1, r1⟩ := trodAll_cons r0
  obtain ⟨v2, vs2, d2, ds2, p2, q2, rfl, rfl, rfl, h2, r2⟩ := trodAll_cons r1
  obtain ⟨rfl, rfl, rfl⟩ := trodAll_nil r2
  obtain rfl : args = #[v0, v1, v2] := by cases args; simp_all
  obtain ⟨rfl, rfl⟩ := trodVars_none hV
  have k0 := h0
  have lt0 : ∀ x ∈ p0, x.block < W.heap.size := by obtain ⟨m, hm⟩ := k0; exact DataW.trod_lt m _ _ _ hm
  obtain ⟨c0_0, c0_1, c0_2, c0_3, c0_4, c0_5, c0_6, c0_7, c0_8, c0_9, y0_0, y0_1, y0_2, y0_3, y0_4, y0_5, y0_6, y0_7, y0_8, y0_9, m0, rfl, rfl, rfl, hy0_0, hy0_1, hy0_2, hy0_3, hy0_4, hy0_5, hy0_6, hy0_7, hy0_8, hy0_9⟩ := open_agg10 Try.underlying83 (by kernel_rfl) (by kernel_rfl) (hval 0 83 v0 rfl rfl) h0
  obtain ⟨a0_0, hc0_0, _, w0_0⟩ := DataW.trod_int Try.underlying25 hy0_0
  simp at hc0_0
  subst hc0_0
  obtain ⟨a0_1, hc0_1, _, w0_1⟩ := DataW.trod_int Try.underlying25 hy0_1
  simp at hc0_1
  subst hc0_1
  obtain ⟨a0_2, hc0_2, _, w0_2⟩ := DataW.trod_int Try.underlying25 hy0_2
  simp at hc0_2
  subst hc0_2
  obtain ⟨a0_3, hc0_3, _, w0_3⟩ := DataW.trod_int Try.underlying25 hy0_3
  simp at hc0_3
  subst hc0_3
  obtain ⟨a0_4, hc0_4, _, w0_4⟩ := DataW.trod_int Try.underlying25 hy0_4
  simp at hc0_4
  subst hc0_4
  obtain ⟨a0_5, hc0_5, _, w0_5⟩ := DataW.trod_int Try.underlying25 hy0_5
  simp at hc0_5
  subst hc0_5
  obtain ⟨a0_6, hc0_6, _, w0_6⟩ := DataW.trod_int Try.underlying25 hy0_6
  simp at hc0_6
  subst hc0_6
  obtain ⟨a0_7, hc0_7, _, w0_7⟩ := DataW.trod_int Try.underlying25 hy0_7
  simp at hc0_7
  subst hc0_7
  obtain ⟨a0_8, hc0_8, _, w0_8⟩ := DataW.trod_int Try.underlying25 hy0_8
  simp at hc0_8
  subst hc0_8
  obtain ⟨a0_9, len0_9, cap0_9, z0_9, hc0_9, w0_9⟩ : ∃ a len cap zs, c0_9 = .slice a len cap ∧ IsRow .u8 W a len cap zs := by
    rcases open_ints Try.underlying22 Try.underlying5 (by kernel_rfl) hy0_9 with ⟨hcs, _⟩ | ⟨x, l, c, zs, hcs, _, hl, hm, hz, _, hcell, hwz⟩
    · simp at hcs
      exact ⟨none, 0, 0, [], hcs, .inl ⟨rfl, rfl, rfl, rfl⟩⟩
    · simp at hcs
      exact ⟨some x, l, c, zs, hcs, .inr ⟨_, rfl, hl, hm, by simpa using hz, hcell, hwz⟩⟩
  subst hc0_9
  have k1 := h1
  have lt1 : ∀ x ∈ p1, x.block < W.heap.size := by obtain ⟨m, hm⟩ := k1; exact DataW.trod_lt m _ _ _ hm
  obtain ⟨c1_0, c1_1, c1_2, c1_3, c1_4, c1_5, c1_6, c1_7, c1_8, c1_9, y1_0, y1_1, y1_2, y1_3, y1_4, y1_5, y1_6, y1_7, y1_8, y1_9, m1, rfl, rfl, rfl, hy1_0, hy1_1, hy1_2, hy1_3, hy1_4, hy1_5, hy1_6, hy1_7, hy1_8, hy1_9⟩ := open_agg10 Try.underlying83 (by kernel_rfl) (by kernel_rfl) (hval 1 83 v1 rfl rfl) h1
  obtain ⟨a1_0, hc1_0, _, w1_0⟩ := DataW.trod_int Try.underlying25 hy1_0
  simp at hc1_0
  subst hc1_0
  obtain ⟨a1_1, hc1_1, _, w1_1⟩ := DataW.trod_int Try.underlying25 hy1_1
  simp at hc1_1
  subst hc1_1
  obtain ⟨a1_2, hc1_2, _, w1_2⟩ := DataW.trod_int Try.underlying25 hy1_2
  simp at hc1_2
  subst hc1_2
  obtain ⟨a1_3, hc1_3, _, w1_3⟩ := DataW.trod_int Try.underlying25 hy1_3
  simp at hc1_3
  subst hc1_3
  obtain ⟨a1_4, hc1_4, _, w1_4⟩ := DataW.trod_int Try.underlying25 hy1_4
  simp at hc1_4
  subst hc1_4
  obtain ⟨a1_5, hc1_5, _, w1_5⟩ := DataW.trod_int Try.underlying25 hy1_5
  simp at hc1_5
  subst hc1_5
  obtain ⟨a1_6, hc1_6, _, w1_6⟩ := DataW.trod_int Try.underlying25 hy1_6
  simp at hc1_6
  subst hc1_6
  obtain ⟨a1_7, hc1_7, _, w1_7⟩ := DataW.trod_int Try.underlying25 hy1_7
  simp at hc1_7
  subst hc1_7
  obtain ⟨a1_8, hc1_8, _, w1_8⟩ := DataW.trod_int Try.underlying25 hy1_8
  simp at hc1_8
  subst hc1_8
  obtain ⟨a1_9, len1_9, cap1_9, z1_9, hc1_9, w1_9⟩ : ∃ a len cap zs, c1_9 = .slice a len cap ∧ IsRow .u8 W a len cap zs := by
    rcases open_ints Try.underlying22 Try.underlying5 (by kernel_rfl) hy1_9 with ⟨hcs, _⟩ | ⟨x, l, c, zs, hcs, _, hl, hm, hz, _, hcell, hwz⟩
    · simp at hcs
      exact ⟨none, 0, 0, [], hcs, .inl ⟨rfl, rfl, rfl, rfl⟩⟩
    · simp at hcs
      exact ⟨some x, l, c, zs, hcs, .inr ⟨_, rfl, hl, hm, by simpa using hz, hcell, hwz⟩⟩
  subst hc1_9
  obtain ⟨a2, rfl, rfl, rfl, w2⟩ := open_int Try.underlying5 (hval 2 5 v2 rfl rfl) h2
  clear hA0 hval0
  refine (walk a0_0 a0_1 a0_2 a0_3 a0_4 a0_5 a0_6 a0_7 a0_8 a0_9 len0_9 cap0_9 z0_9 a1_0 a1_1 a1_2 a1_3 a1_4 a1_5 a1_6 a1_7 a1_8 a1_9 len1_9 cap1_9 z1_9 a2 W w0_0 w0_1 w0_2 w0_3 w0_4 w0_5 w0_6 w0_7 w0_8 w0_9 w1_0 w1_1 w1_2 w1_3 w1_4 w1_5 w1_6 w1_7 w1_8 w1_9 w2).mono fun e W' ⟨he, bel⟩ => ?_
  subst he
  exact ⟨_, rfl, _, _, _, [], _, [], hW', trodAll_mk1 (shut_bool Try.underlying4 _), (trodAll_cons_mk (Below.trod laidOut (by kernel_rfl) (of_decide_eq_true (by kernel_rfl)) k0 bel lt0) (trodAll_cons_mk (Below.trod laidOut (by kernel_rfl) (of_decide_eq_true (by kernel_rfl)) k1 bel lt1) (trodAll_cons_mk (shut_int Try.underlying5 w2) trodAll_mk0))), rfl, bel.frame _, fun h => by cases h⟩

theorem over : Rows.paramSameRow.holds Try.pinned (OpenSpec.ofChange Rows.paramSameSpec) :=
  OpenClaim.holds_of_wide 12 Try.f12 rfl rfl rfl rfl rfl rfl rfl ⟨rfl, rfl, rfl, rfl, rfl⟩ rfl rfl rfl rfl rfl (by kernel_rfl) Try.func12 (by kernel_rfl)
    (of_decide_eq_true (by kernel_rfl)) (by unfold Func.isWrapper; first | (rw [if_pos (by decide +kernel)]; kernel_rfl) | (rw [if_neg (by decide +kernel)]; exact ⟨rfl, rfl⟩))
    (fun os started H enc _ => lifted os started H enc)

/-- THE STATEMENT -/
theorem proved : Rows.ParamSameSaid := over
#print axioms proved
end Go.Proofs.Ytmpnhiehkiiepaa.paramSame
