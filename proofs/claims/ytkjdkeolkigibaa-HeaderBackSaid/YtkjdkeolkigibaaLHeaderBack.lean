/-
  binnacle/binnaclelaw09.HeaderBack returns true for every input, and each argument reads afterwards as it read before. No condition.
-/
import Derived.Lib.SmallJoins
import Derived.Test.YtkjdkeolkigibaaG9
namespace Go.Proofs.Ytkjdkeolkigibaa.headerBack
open Go.ChangeShapes Go.WideShapes Go.ChangeAt Go.RowKit
open Go.ChangeMaps (open_string shut_string)
set_option linter.unusedVariables false
open Go.Joins Go.Deep

section
variable {H : Type} {enc : TypeId × Value → H} {P : Program} {w : World} {base : Nat} {spare : Nat → Bool} {held : Bool}
theorem open_agg6 {r : Reach} {b0 : Nat} {t : TypeId} {f0 f1 f2 f3 f4 f5 : Field} {v : Value} {d : DataW H} {p : List MemPlace} (hs : P.underlying t = some (.struct #[f0, f1, f2, f3, f4, f5])) (hone : oneCellFields P #[f0, f1, f2, f3, f4, f5] = true) (hC : P.cellsOf t = 6)
    (hv : Value.okWide P w r b0 t v) (h : DataW.Trod enc P w base spare held t v d p) :
    ∃ (v0 v1 v2 v3 v4 v5 : Value) (y0 y1 y2 y3 y4 y5 : DataW H × List MemPlace) (n : Nat), v = .agg #[v0, v1, v2, v3, v4, v5] ∧ d = .agg [y0.1, y1.1, y2.1, y3.1, y4.1, y5.1] ∧ p = y0.2 ++ (y1.2 ++ (y2.2 ++ (y3.2 ++ (y4.2 ++ y5.2)))) ∧
      DataW.trod enc P w base spare held n f0.type [v0] = some y0 ∧ DataW.trod enc P w base spare held n f1.type [v1] = some y1 ∧ DataW.trod enc P w base spare held n f2.type [v2] = some y2 ∧ DataW.trod enc P w base spare held n f3.type [v3] = some y3 ∧ DataW.trod enc P w base spare held n f4.type [v4] = some y4 ∧ DataW.trod enc P w base spare held n f5.type [v5] = some y5 := by
  obtain ⟨cs, rfl, hsz⟩ := okWide_struct hs hv
  obtain ⟨l⟩ := cs
  match l, hsz.trans hC with
  | [c0, c1, c2, c3, c4, c5], _ =>
    obtain ⟨fuel, hf⟩ := h
    obtain ⟨xs, n, _, hx, _, hlen, hg⟩ := DataW.trod_struct hs hf
    obtain ⟨o0, k0⟩ := hone_of hone 0 f0 rfl
    obtain ⟨o1, k1⟩ := hone_of hone 1 f1 rfl
    obtain ⟨o2, k2⟩ := hone_of hone 2 f2 rfl
    obtain ⟨o3, k3⟩ := hone_of hone 3 f3 rfl
    obtain ⟨o4, k4⟩ := hone_of hone 4 f4 rfl
    obtain ⟨o5, k5⟩ := hone_of hone 5 f5 rfl
    match xs, hlen with
    | [y0, y1, y2, y3, y4, y5], _ =>
      simp only [Prod.mk.injEq] at hx
      exact ⟨c0, c1, c2, c3, c4, c5, y0, y1, y2, y3, y4, y5, n, rfl, by simpa using hx.1, by simpa using hx.2, by simpa [Value.cells, o0, k0] using hg 0 f0 rfl, by simpa [Value.cells, o0, k0, o1, k1] using hg 1 f1 rfl, by simpa [Value.cells, o0, k0, o1, k1, o2, k2] using hg 2 f2 rfl, by simpa [Value.cells, o0, k0, o1, k1, o2, k2, o3, k3] using hg 3 f3 rfl, by simpa [Value.cells, o0, k0, o1, k1, o2, k2, o3, k3, o4, k4] using hg 4 f4 rfl, by simpa [Value.cells, o0, k0, o1, k1, o2, k2, o3, k3, o4, k4, o5, k5] using hg 5 f5 rfl⟩
end

theorem walk (a0_0 : Int) (a0_1 : Option Addr) (len0_1 cap0_1 : Nat) (z0_1 : Bool) (l0_1 : Sha.Bs) (B0_1 f0_1 : Nat) (a0_2 : Option Addr) (len0_2 cap0_2 : Nat) (z0_2 : Bool) (l0_2 : Sha.Bs) (B0_2 f0_2 : Nat) (a0_3 : Option Addr) (len0_3 cap0_3 : Nat) (z0_3 : Bool) (l0_3 : Sha.Bs) (B0_3 f0_3 : Nat) (a0_4 : Bool) (a0_5 : Option Addr) (len0_5 cap0_5 : Nat) (z0_5 : Bool) (l0_5 : Sha.Bs) (B0_5 f0_5 : Nat) (a1 : Option Addr) (len1 cap1 : Nat) (z1 : Bool) (l1 : Sha.Bs) (B1 f1 : Nat) (a2 : Option Addr) (len2 cap2 : Nat) (z2 : Bool) (l2 : Sha.Bs) (B2 f2 : Nat) (w : World) (w0_0 : (Lit.int .u8 a0_0).wf = true) (w0_1 : Sx.InB w a0_1 len0_1 cap0_1 z0_1 l0_1 B0_1 f0_1) (w0_2 : Sx.InB w a0_2 len0_2 cap0_2 z0_2 l0_2 B0_2 f0_2) (w0_3 : Sx.InB w a0_3 len0_3 cap0_3 z0_3 l0_3 B0_3 f0_3) (w0_5 : Sx.InB w a0_5 len0_5 cap0_5 z0_5 l0_5 B0_5 f0_5) (w1 : Sx.InB w a1 len1 cap1 z1 l1 B1 f1) (w2 : Sx.InB w a2 len2 cap2 z2 l2 B2 f2) :
    Calls Try.prog 7 #[.agg #[.int .u8 a0_0, .slice a0_1 len0_1 cap0_1, .slice a0_2 len0_2 cap0_2, .slice a0_3 len0_3 cap0_3, .bool a0_4, .slice a0_5 len0_5 cap0_5], .slice a1 len1 cap1, .slice a2 len2 cap2] w fun e w' => e = .returned (.bool true) ∧ Below w.heap.size w w' := by
  obtain ⟨b, rfl⟩ : ∃ b : BitVec 8, a0_0 = (b.toNat : Int) := ⟨_, Sx.wf_w8 w0_0⟩
  exact (Sx.fn_headerBack ⟨b, Sx.slI z0_1 cap0_1 l0_1, Sx.slI z0_2 cap0_2 l0_2, Sx.slI z0_3 cap0_3 l0_3, a0_4, Sx.slI z0_5 cap0_5 l0_5⟩ (Sx.slI z1 cap1 l1) (Sx.slI z2 cap2 l2) ⟨w0_1.fit, w0_2.fit, w0_3.fit, w0_5.fit⟩ w1.fit w2.fit).law (r0 := [(B0_1, f0_1), (B0_2, f0_2), (B0_3, f0_3), (B0_5, f0_5), (B1, f1), (B2, f2)]) rfl ⟨w0_1.at' _, w0_2.at' _, w0_3.at' _, w0_5.at' _, w1.at' _, w2.at' _, trivial⟩
    (Sx.isAs_cons ⟨_, rfl, Sx.isL_cons rfl (Sx.isL_cons (w0_1.val' (i := 0) rfl) (Sx.isL_cons (w0_2.val' (i := 1) rfl) (Sx.isL_cons (w0_3.val' (i := 2) rfl) (Sx.isL_cons rfl (Sx.isL_cons (w0_5.val' (i := 3) rfl) (Sx.isL_nil _))))))⟩ (Sx.isAs_cons (w1.val' (i := 4) rfl) (Sx.isAs_cons (w2.val' (i := 5) rfl) (Sx.isAs_nil _)))) trivial

set_option maxRecDepth 100000 in
theorem lifted (os : Os) (started : os.Started) (H : Type) (enc : TypeId × Value → H) :
    ReturnsInHanded {} Try.checked os 7 .any (Rows.headerBackSpec.pre6 enc Try.prog Try.f7 Rows.headerBackRow.domain false) (Rows.headerBackSpec.post enc Try.prog Try.f7 false true false false) := by
  refine returnsInHanded_of_change (C := Try.checked) own started (by kernel_rfl) Try.func7
    (ChangeSpec.witness6 (enc := enc) (C := Try.checked) false ⟨#[], #[.agg #[.int .u8 0, .slice none 0 0, .slice none 0 0, .slice none 0 0, .bool false, .slice none 0 0], .slice none 0 0, .slice none 0 0], []⟩ 8 (by kernel_rfl) (by kernel_rfl) (by kernel_rfl) (by kernel_rfl)) ?_
  intro W base args ds gs before hval0 hW hcnd _
  have hval : ∀ (j : Nat) t v, Try.f7.params[j]? = some t → args[j]? = some v → Value.okWide Try.prog W .any base t v := hval0
  have hW' := hW
  obtain ⟨p, q, hA0, hV, rfl, hfz, hnd⟩ := hW
  have hA : DataW.TrodAll enc Try.prog W 0 (fun _ => true) true Try.f7.params.toList args.toList ds p := hA0
  rw [Try.params7] at hA hval
  obtain ⟨v0, vs0, d0, ds0, p0, q0, hargs, rfl, rfl, h0, r0⟩ := trodAll_cons hA
  obtain ⟨v1, vs1, d1, ds1, p1, q1, rfl, rfl, rfl, h1, r1⟩ := trodAll_cons r0
  obtain ⟨v2, vs2, d2, ds2, p2, q2, rfl, rfl, rfl, h2, r2⟩ := trodAll_cons r1
  obtain ⟨rfl, rfl, rfl⟩ := trodAll_nil r2
  obtain rfl : args = #[v0, v1, v2] := by cases args; simp_all
  obtain ⟨rfl, rfl⟩ := trodVars_none hV
  have k0 := h0
  have lt0 : ∀ x ∈ p0, x.block < W.heap.size := by obtain ⟨m, hm⟩ := k0; exact DataW.trod_lt m _ _ _ hm
  obtain ⟨c0_0, c0_1, c0_2, c0_3, c0_4, c0_5, y0_0, y0_1, y0_2, y0_3, y0_4, y0_5, m0, rfl, rfl, rfl, hy0_0, hy0_1, hy0_2, hy0_3, hy0_4, hy0_5⟩ := open_agg6 Try.underlying25 (by kernel_rfl) (by kernel_rfl) (hval 0 25 v0 rfl rfl) h0
  obtain ⟨a0_0, hc0_0, _, w0_0⟩ := DataW.trod_int Try.underlying22 hy0_0
  simp at hc0_0
  subst hc0_0
  obtain ⟨a0_1, len0_1, cap0_1, z0_1, l0_1, B0_1, f0_1, hc0_1, w0_1⟩ : ∃ a len cap z l B f, c0_1 = .slice a len cap ∧ Sx.InB W a len cap z l B f := by
    rcases open_ints Try.underlying23 Try.underlying5 (by kernel_rfl) hy0_1 with ⟨hcs, _⟩ | ⟨x, l, c, zs, hcs, _, hl, hm, hz, _, hcell, hwz⟩
    · simp at hcs
      obtain ⟨z, l, B, f, h⟩ := Sx.open_b8 (w := W) (.inl ⟨rfl, rfl, rfl, rfl⟩) (fun x e => by cases e)
      exact ⟨none, 0, 0, z, l, B, f, hcs, h⟩
    · simp at hcs
      subst hcs
      obtain ⟨z, l', B, f, h⟩ := Sx.open_b8 (.inr ⟨_, rfl, hl, hm, by simpa using hz, hcell, hwz⟩) (Sx.okWide_cells Try.underlying25 (hval 0 25 _ rfl rfl) (i := 1) rfl)
      exact ⟨some x, l, c, z, l', B, f, rfl, h⟩
  subst hc0_1
  obtain ⟨a0_2, len0_2, cap0_2, z0_2, l0_2, B0_2, f0_2, hc0_2, w0_2⟩ : ∃ a len cap z l B f, c0_2 = .slice a len cap ∧ Sx.InB W a len cap z l B f := by
    rcases open_ints Try.underlying23 Try.underlying5 (by kernel_rfl) hy0_2 with ⟨hcs, _⟩ | ⟨x, l, c, zs, hcs, _, hl, hm, hz, _, hcell, hwz⟩
    · simp at hcs
      obtain ⟨z, l, B, f, h⟩ := Sx.open_b8 (w := W) (.inl ⟨rfl, rfl, rfl, rfl⟩) (fun x e => by cases e)
      exact ⟨none, 0, 0, z, l, B, f, hcs, h⟩
    · simp at hcs
      subst hcs
      obtain ⟨z, l', B, f, h⟩ := Sx.open_b8 (.inr ⟨_, rfl, hl, hm, by simpa using hz, hcell, hwz⟩) (Sx.okWide_cells Try.underlying25 (hval 0 25 _ rfl rfl) (i := 2) rfl)
      exact ⟨some x, l, c, z, l', B, f, rfl, h⟩
  subst hc0_2
  obtain ⟨a0_3, len0_3, cap0_3, z0_3, l0_3, B0_3, f0_3, hc0_3, w0_3⟩ : ∃ a len cap z l B f, c0_3 = .slice a len cap ∧ Sx.InB W a len cap z l B f := by
    rcases open_ints Try.underlying23 Try.underlying5 (by kernel_rfl) hy0_3 with ⟨hcs, _⟩ | ⟨x, l, c, zs, hcs, _, hl, hm, hz, _, hcell, hwz⟩
    · simp at hcs
      obtain ⟨z, l, B, f, h⟩ := Sx.open_b8 (w := W) (.inl ⟨rfl, rfl, rfl, rfl⟩) (fun x e => by cases e)
      exact ⟨none, 0, 0, z, l, B, f, hcs, h⟩
    · simp at hcs
      subst hcs
      obtain ⟨z, l', B, f, h⟩ := Sx.open_b8 (.inr ⟨_, rfl, hl, hm, by simpa using hz, hcell, hwz⟩) (Sx.okWide_cells Try.underlying25 (hval 0 25 _ rfl rfl) (i := 3) rfl)
      exact ⟨some x, l, c, z, l', B, f, rfl, h⟩
  subst hc0_3
  obtain ⟨a0_4, hc0_4, _⟩ := DataW.trod_bool Try.underlying4 hy0_4
  simp at hc0_4
  subst hc0_4
  obtain ⟨a0_5, len0_5, cap0_5, z0_5, l0_5, B0_5, f0_5, hc0_5, w0_5⟩ : ∃ a len cap z l B f, c0_5 = .slice a len cap ∧ Sx.InB W a len cap z l B f := by
    rcases open_ints Try.underlying23 Try.underlying5 (by kernel_rfl) hy0_5 with ⟨hcs, _⟩ | ⟨x, l, c, zs, hcs, _, hl, hm, hz, _, hcell, hwz⟩
    · simp at hcs
      obtain ⟨z, l, B, f, h⟩ := Sx.open_b8 (w := W) (.inl ⟨rfl, rfl, rfl, rfl⟩) (fun x e => by cases e)
      exact ⟨none, 0, 0, z, l, B, f, hcs, h⟩
    · simp at hcs
      subst hcs
      obtain ⟨z, l', B, f, h⟩ := Sx.open_b8 (.inr ⟨_, rfl, hl, hm, by simpa using hz, hcell, hwz⟩) (Sx.okWide_cells Try.underlying25 (hval 0 25 _ rfl rfl) (i := 5) rfl)
      exact ⟨some x, l, c, z, l', B, f, rfl, h⟩
  subst hc0_5
  obtain ⟨a1, len1, cap1, rfl⟩ := okWide_slice Try.underlying23 (hval 1 23 v1 rfl rfl)
  have k1 := h1
  have lt1 : ∀ x ∈ p1, x.block < W.heap.size := by obtain ⟨m, hm⟩ := k1; exact DataW.trod_lt m _ _ _ hm
  obtain ⟨z1, l1, B1, f1, w1⟩ : ∃ z l B f, Sx.InB W a1 len1 cap1 z l B f := by
    refine (fun h => (h : ∃ zs, IsRow .u8 W a1 len1 cap1 zs).elim fun zs hz => Sx.open_b8 hz (Sx.okWide_spot Try.underlying23 (hval 1 23 _ rfl rfl))) ?_
    obtain ⟨fuel, hf⟩ := h1
    rcases open_ints Try.underlying23 Try.underlying5 (by kernel_rfl) hf with ⟨hcs, _⟩ | ⟨x, l, c, zs, hcs, _, hl, hm, hz, _, hcell, hwz⟩
    · simp [Value.cells] at hcs
      obtain ⟨rfl, rfl, rfl⟩ := hcs
      exact ⟨[], .inl ⟨rfl, rfl, rfl, rfl⟩⟩
    · simp [Value.cells] at hcs
      obtain ⟨rfl, rfl, rfl⟩ := hcs
      exact ⟨zs, .inr ⟨_, rfl, hl, hm, by simpa using hz, hcell, hwz⟩⟩
  obtain ⟨a2, len2, cap2, rfl⟩ := okWide_slice Try.underlying23 (hval 2 23 v2 rfl rfl)
  have k2 := h2
  have lt2 : ∀ x ∈ p2, x.block < W.heap.size := by obtain ⟨m, hm⟩ := k2; exact DataW.trod_lt m _ _ _ hm
  obtain ⟨z2, l2, B2, f2, w2⟩ : ∃ z l B f, Sx.InB W a2 len2 cap2 z l B f := by
    refine (fun h => (h : ∃ zs, IsRow .u8 W a2 len2 cap2 zs).elim fun zs hz => Sx.open_b8 hz (Sx.okWide_spot Try.underlying23 (hval 2 23 _ rfl rfl))) ?_
    obtain ⟨fuel, hf⟩ := h2
    rcases open_ints Try.underlying23 Try.underlying5 (by kernel_rfl) hf with ⟨hcs, _⟩ | ⟨x, l, c, zs, hcs, _, hl, hm, hz, _, hcell, hwz⟩
    · simp [Value.cells] at hcs
      obtain ⟨rfl, rfl, rfl⟩ := hcs
      exact ⟨[], .inl ⟨rfl, rfl, rfl, rfl⟩⟩
    · simp [Value.cells] at hcs
      obtain ⟨rfl, rfl, rfl⟩ := hcs
      exact ⟨zs, .inr ⟨_, rfl, hl, hm, by simpa using hz, hcell, hwz⟩⟩
  clear hA0 hval0
  refine (walk a0_0 a0_1 len0_1 cap0_1 z0_1 l0_1 B0_1 f0_1 a0_2 len0_2 cap0_2 z0_2 l0_2 B0_2 f0_2 a0_3 len0_3 cap0_3 z0_3 l0_3 B0_3 f0_3 a0_4 a0_5 len0_5 cap0_5 z0_5 l0_5 B0_5 f0_5 a1 len1 cap1 z1 l1 B1 f1 a2 len2 cap2 z2 l2 B2 f2 W w0_0 w0_1 w0_2 w0_3 w0_5 w1 w2).mono fun e W' ⟨he, bel⟩ => ?_
  subst he
  exact ⟨_, rfl, _, _, _, [], _, [], hW', trodAll_mk1 (shut_bool Try.underlying4 _), (trodAll_cons_mk (Below.trod laidOut (by kernel_rfl) (of_decide_eq_true (by kernel_rfl)) k0 bel lt0) (trodAll_cons_mk (Below.trod laidOut (by kernel_rfl) (of_decide_eq_true (by kernel_rfl)) k1 bel lt1) (trodAll_cons_mk (Below.trod laidOut (by kernel_rfl) (of_decide_eq_true (by kernel_rfl)) k2 bel lt2) trodAll_mk0))), rfl, bel.frame _, fun h => by cases h⟩

theorem over : Rows.headerBackRow.holds Try.pinned (OpenSpec.ofChange Rows.headerBackSpec) :=
  OpenClaim.holds_of_wide 7 Try.f7 rfl rfl rfl rfl rfl rfl rfl ⟨rfl, rfl, rfl, rfl, rfl⟩ rfl rfl rfl rfl rfl (by kernel_rfl) Try.func7 (by kernel_rfl)
    (of_decide_eq_true (by kernel_rfl)) (by unfold Func.isWrapper; first | (rw [if_pos (by decide +kernel)]; kernel_rfl) | (rw [if_neg (by decide +kernel)]; exact ⟨rfl, rfl⟩))
    (fun os started H enc _ => lifted os started H enc)

/-- THE STATEMENT -/
theorem proved : Rows.HeaderBackSaid := over
#print axioms proved
end Go.Proofs.Ytkjdkeolkigibaa.headerBack
