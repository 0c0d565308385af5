/-
  binnacle/binnaclelaw12.SealBack returns true for every input, and each argument reads afterwards as it read before. No condition.
-/
import Derived.Lib.SmallJoins
import Derived.Test.YtkjdkeolkigibaaGreatG9
namespace Go.Proofs.YtkjdkeolkigibaaGreat.sealBack
open Go.ChangeShapes Go.WideShapes Go.ChangeAt Go.RowKit
open Go.ChangeMaps (open_string shut_string)
set_option linter.unusedVariables false
open Go.Joins Go.Deep

section
variable {H : Type} {enc : TypeId × Value → H} {P : Program} {w : World} {base : Nat} {spare : Nat → Bool} {held : Bool}
theorem open_agg6 {r : Reach} {b0 : Nat} {t : TypeId} {f0 f1 f2 f3 f4 f5 : Field} {v : Value} {d : DataW H} {p : List MemPlace} (hs : P.underlying t = some (.struct #[f0, f1, f2, f3, f4, f5])) (hone : oneCellFields P #[f0, f1, f2, f3, f4, f5] = true) (hC : P.cellsOf t = 6)
    (hv : Value.okWide P w r b0 t v) (h : DataW.Trod enc P w base spare held t v d p) :
    ∃ (v0 v1 v2 v3 v4 v5 : Value) (y0 y1 y2 y3 y4 y5 : DataW H × List MemPlace) (n : Nat), v = .agg #[v0, v1, v2, v3, v4, v5] ∧ d = .agg [y0.1, y1.1, y2.1, y3.1, y4.1, y5.1] ∧ p = y0.2 ++ (y1.2 ++ (y2.2 ++ (y3.2 ++ (y4.2 ++ y5.2)))) ∧
      DataW.trod enc P w base spare held n f0.type [v0] = some y0 ∧ DataW.trod enc P w base spare held n f1.type [v1] = some y1 ∧ DataW.trod enc P w base spare held n f2.type [v2] = some y2 ∧ DataW.trod enc P w base spare held n f3.type [v3] = some y3 ∧ DataW.trod enc P w base spare held n f4.type [v4] = some y4 ∧ DataW.trod enc P w base spare held n f5.type [v5] = some y5 := by
  obtain ⟨cs, rfl, hsz⟩ := okWide_struct hs hv
  obtain ⟨l⟩ := cs
  match l, hsz.trans hC with
  | [c0, c1, c2, c3, c4, c5], _ =>
    obtain ⟨fuel, hf⟩ := h
    obtain ⟨xs, n, _, hx, _, hlen, hg⟩ := DataW.trod_struct hs hf
    obtain ⟨o0, k0⟩ := hone_of hone 0 f0 rfl
    obtain ⟨o1, k1⟩ := hone_of hone 1 f1 rfl
    obtain ⟨o2, k2⟩ := hone_of hone 2 f2 rfl
    obtain ⟨o3, k3⟩ := hone_of hone 3 f3 rfl
    obtain ⟨o4, k4⟩ := hone_of hone 4 f4 rfl
    obtain ⟨o5, k5⟩ := hone_of hone 5 f5 rfl
    match xs, hlen with
    | [y0, y1, y2, y3, y4, y5], _ =>
      simp only [Prod.mk.injEq] at hx
      exact ⟨c0, c1, c2, c3, c4, c5, y0, y1, y2, y3, y4, y5, n, rfl, by simpa using hx.1, by simpa using hx.2, by simpa [Value.cells, o0, k0] using hg 0 f0 rfl, by simpa [Value.cells, o0, k0, o1, k1] using hg 1 f1 rfl, by simpa [Value.cells, o0, k0, o1, k1, o2, k2] using hg 2 f2 rfl, by simpa [Value.cells, o0, k0, o1, k1, o2, k2, o3, k3] using hg 3 f3 rfl, by simpa [Value.cells, o0, k0, o1, k1, o2, k2, o3, k3, o4, k4] using hg 4 f4 rfl, by simpa [Value.cells, o0, k0, o1, k1, o2, k2, o3, k3, o4, k4, o5, k5] using hg 5 f5 rfl⟩
end

theorem walk (a0 : Nat → BitVec 8) (a1_0 : Int) (a1_1 : Option Addr) (len1_1 cap1_1 : Nat) (z1_1 : Bool) (l1_1 : Sha.Bs) (B1_1 f1_1 : Nat) (a1_2 : Option Addr) (len1_2 cap1_2 : Nat) (z1_2 : Bool) (l1_2 : Sha.Bs) (B1_2 f1_2 : Nat) (a1_3 : Option Addr) (len1_3 cap1_3 : Nat) (z1_3 : Bool) (l1_3 : Sha.Bs) (B1_3 f1_3 : Nat) (a1_4 : Bool) (a1_5 : Option Addr) (len1_5 cap1_5 : Nat) (z1_5 : Bool) (l1_5 : Sha.Bs) (B1_5 f1_5 : Nat) (a2 : Int) (a3 : Int) (a4 : Option Addr) (len4 cap4 : Nat) (z4 : Bool) (l4 : Sha.Bs) (B4 f4 : Nat) (a5 : Option Addr) (len5 cap5 : Nat) (z5 : Bool) (l5 : Sha.Bs) (B5 f5 : Nat) (w : World) (w1_0 : (Lit.int .u8 a1_0).wf = true) (w1_1 : Sx.InB w a1_1 len1_1 cap1_1 z1_1 l1_1 B1_1 f1_1) (w1_2 : Sx.InB w a1_2 len1_2 cap1_2 z1_2 l1_2 B1_2 f1_2) (w1_3 : Sx.InB w a1_3 len1_3 cap1_3 z1_3 l1_3 B1_3 f1_3) (w1_5 : Sx.InB w a1_5 len1_5 cap1_5 z1_5 l1_5 B1_5 f1_5) (w2 : (Lit.int .u64 a2).wf = true) (w3 : (Lit.int .i64 a3).wf = true) (w4 : Sx.InB w a4 len4 cap4 z4 l4 B4 f4) (w5 : Sx.InB w a5 len5 cap5 z5 l5 B5 f5) :
    Calls Tryz.prog 5 #[.agg ((List.range 32).map fun i => Value.int .u8 ((a0 i).toNat : Int)).toArray, .agg #[.int .u8 a1_0, .slice a1_1 len1_1 cap1_1, .slice a1_2 len1_2 cap1_2, .slice a1_3 len1_3 cap1_3, .bool a1_4, .slice a1_5 len1_5 cap1_5], .int .u64 a2, .int .i64 a3, .slice a4 len4 cap4, .slice a5 len5 cap5] w fun e w' => e = .returned (.bool true) ∧ Below w.heap.size w w' := by
  obtain ⟨hb, rfl⟩ : ∃ b : BitVec 8, a1_0 = (b.toNat : Int) := ⟨_, Sx.wf_w8 w1_0⟩
  obtain ⟨num, rfl⟩ : ∃ b : BitVec 64, a2 = (b.toNat : Int) := ⟨_, Sx.wf_w64 w2⟩
  exact (Sx.fn_sealBack (Sha.tab 32 a0) (Sha.tab_len _ _) ⟨hb, Sx.slI z1_1 cap1_1 l1_1, Sx.slI z1_2 cap1_2 l1_2, Sx.slI z1_3 cap1_3 l1_3, a1_4, Sx.slI z1_5 cap1_5 l1_5⟩ ⟨w1_1.fit, w1_2.fit, w1_3.fit, w1_5.fit⟩ num a3 (Sx.wf_i64 w3) (Sx.slI z4 cap4 l4) (Sx.slI z5 cap5 l5) w4.fit w5.fit).law (r0 := [(B1_1, f1_1), (B1_2, f1_2), (B1_3, f1_3), (B1_5, f1_5), (B4, f4), (B5, f5)]) rfl ⟨w1_1.at' _, w1_2.at' _, w1_3.at' _, w1_5.at' _, w4.at' _, w5.at' _, trivial⟩
    (Sx.isAs_cons Sx.is_rowL (Sx.isAs_cons ⟨_, rfl, Sx.isL_cons rfl (Sx.isL_cons (w1_1.val' (i := 0) rfl) (Sx.isL_cons (w1_2.val' (i := 1) rfl) (Sx.isL_cons (w1_3.val' (i := 2) rfl) (Sx.isL_cons rfl (Sx.isL_cons (w1_5.val' (i := 3) rfl) (Sx.isL_nil _))))))⟩ (Sx.isAs_cons rfl (Sx.isAs_cons rfl (Sx.isAs_cons (w4.val' (i := 4) rfl) (Sx.isAs_cons (w5.val' (i := 5) rfl) (Sx.isAs_nil _))))))) trivial

set_option maxRecDepth 100000 in
theorem lifted (os : Os) (started : os.Started) (H : Type) (enc : TypeId × Value → H) :
    ReturnsInHanded {} Tryz.checked os 5 .any (Rows.sealBackSpec.pre6 enc Tryz.prog Tryz.f5 Rows.sealBackRow.domain false) (Rows.sealBackSpec.post enc Tryz.prog Tryz.f5 false true false false) := by
  refine returnsInHanded_of_change (C := Tryz.checked) own started (by kernel_rfl) Tryz.func5
    (ChangeSpec.witness6 (enc := enc) (C := Tryz.checked) false ⟨#[], #[.agg #[.int .u8 0, .int .u8 0, .int .u8 0, .int .u8 0, .int .u8 0, .int .u8 0, .int .u8 0, .int .u8 0, .int .u8 0, .int .u8 0, .int .u8 0, .int .u8 0, .int .u8 0, .int .u8 0, .int .u8 0, .int .u8 0, .int .u8 0, .int .u8 0, .int .u8 0, .int .u8 0, .int .u8 0, .int .u8 0, .int .u8 0, .int .u8 0, .int .u8 0, .int .u8 0, .int .u8 0, .int .u8 0, .int .u8 0, .int .u8 0, .int .u8 0, .int .u8 0], .agg #[.int .u8 0, .slice none 0 0, .slice none 0 0, .slice none 0 0, .bool false, .slice none 0 0], .int .u64 0, .int .i64 0, .slice none 0 0, .slice none 0 0], []⟩ 8 (by kernel_rfl) (by kernel_rfl) (by kernel_rfl) (by kernel_rfl)) ?_
  intro W base args ds gs before hval0 hW hcnd _
  have hval : ∀ (j : Nat) t v, Tryz.f5.params[j]? = some t → args[j]? = some v → Value.okWide Tryz.prog W .any base t v := hval0
  have hW' := hW
  obtain ⟨p, q, hA0, hV, rfl, hfz, hnd⟩ := hW
  have hA : DataW.TrodAll enc Tryz.prog W 0 (fun _ => true) true Tryz.f5.params.toList args.toList ds p := hA0
  rw [Tryz.params5] at hA hval
  obtain ⟨v0, vs0, d0, ds0, p0, q0, hargs, rfl, rfl, h0, r0⟩ := trodAll_cons hA
  obtain ⟨v1, vs1, d1, ds1, p1, q1, rfl, rfl, rfl, h1, r1⟩ := trodAll_cons r0
  obtain ⟨v2, vs2, d2, ds2, p2, q2, rfl, rfl, rfl, h2, r2⟩ := trodAll_cons r1
  obtain ⟨v3, vs3, d3, ds3, p3, q3, rfl, rfl, rfl, h3, r3⟩ := trodAll_cons r2
  obtain ⟨v4, vs4, d4, ds4, p4, q4, rfl, rfl, rfl, h4, r4⟩ := trodAll_cons r3
  obtain ⟨v5, vs5, d5, ds5, p5, q5, rfl, rfl, rfl, h5, r5⟩ := trodAll_cons r4
  obtain ⟨rfl, rfl, rfl⟩ := trodAll_nil r5
  obtain rfl : args = #[v0, v1, v2, v3, v4, v5] := by cases args; simp_all
  obtain ⟨rfl, rfl⟩ := trodVars_none hV
  have k0 := h0
  have lt0 : ∀ x ∈ p0, x.block < W.heap.size := by obtain ⟨m, hm⟩ := k0; exact DataW.trod_lt m _ _ _ hm
  obtain ⟨a0, rfl⟩ := Sx.open_arr8 Tryz.underlying23 Tryz.underlying5 (by kernel_rfl) (by kernel_rfl) (hval 0 23 v0 rfl rfl) h0
  have k1 := h1
  have lt1 : ∀ x ∈ p1, x.block < W.heap.size := by obtain ⟨m, hm⟩ := k1; exact DataW.trod_lt m _ _ _ hm
  obtain ⟨c1_0, c1_1, c1_2, c1_3, c1_4, c1_5, y1_0, y1_1, y1_2, y1_3, y1_4, y1_5, m1, rfl, rfl, rfl, hy1_0, hy1_1, hy1_2, hy1_3, hy1_4, hy1_5⟩ := open_agg6 Tryz.underlying32 (by kernel_rfl) (by kernel_rfl) (hval 1 32 v1 rfl rfl) h1
  obtain ⟨a1_0, hc1_0, _, w1_0⟩ := DataW.trod_int Tryz.underlying30 hy1_0
  simp at hc1_0
  subst hc1_0
  obtain ⟨a1_1, len1_1, cap1_1, z1_1, l1_1, B1_1, f1_1, hc1_1, w1_1⟩ : ∃ a len cap z l B f, c1_1 = .slice a len cap ∧ Sx.InB W a len cap z l B f := by
    rcases open_ints Tryz.underlying24 Tryz.underlying5 (by kernel_rfl) hy1_1 with ⟨hcs, _⟩ | ⟨x, l, c, zs, hcs, _, hl, hm, hz, _, hcell, hwz⟩
    · simp at hcs
      obtain ⟨z, l, B, f, h⟩ := Sx.open_b8 (w := W) (.inl ⟨rfl, rfl, rfl, rfl⟩) (fun x e => by cases e)
      exact ⟨none, 0, 0, z, l, B, f, hcs, h⟩
    · simp at hcs
      subst hcs
      obtain ⟨z, l', B, f, h⟩ := Sx.open_b8 (.inr ⟨_, rfl, hl, hm, by simpa using hz, hcell, hwz⟩) (Sx.okWide_cells Tryz.underlying32 (hval 1 32 _ rfl rfl) (i := 1) rfl)
      exact ⟨some x, l, c, z, l', B, f, rfl, h⟩
  subst hc1_1
  obtain ⟨a1_2, len1_2, cap1_2, z1_2, l1_2, B1_2, f1_2, hc1_2, w1_2⟩ : ∃ a len cap z l B f, c1_2 = .slice a len cap ∧ Sx.InB W a len cap z l B f := by
    rcases open_ints Tryz.underlying24 Tryz.underlying5 (by kernel_rfl) hy1_2 with ⟨hcs, _⟩ | ⟨x, l, c, zs, hcs, _, hl, hm, hz, _, hcell, hwz⟩
    · simp at hcs
      obtain ⟨z, l, B, f, h⟩ := Sx.open_b8 (w := W) (.inl ⟨rfl, rfl, rfl, rfl⟩) (fun x e => by cases e)
      exact ⟨none, 0, 0, z, l, B, f, hcs, h⟩
    · simp at hcs
      subst hcs
      obtain ⟨z, l', B, f, h⟩ := Sx.open_b8 (.inr ⟨_, rfl, hl, hm, by simpa using hz, hcell, hwz⟩) (Sx.okWide_cells Tryz.underlying32 (hval 1 32 _ rfl rfl) (i := 2) rfl)
      exact ⟨some x, l, c, z, l', B, f, rfl, h⟩
  subst hc1_2
  obtain ⟨a1_3, len1_3, cap1_3, z1_3, l1_3, B1_3, f1_3, hc1_3, w1_3⟩ : ∃ a len cap z l B f, c1_3 = .slice a len cap ∧ Sx.InB W a len cap z l B f := by
    rcases open_ints Tryz.underlying24 Tryz.underlying5 (by kernel_rfl) hy1_3 with ⟨hcs, _⟩ | ⟨x, l, c, zs, hcs, _, hl, hm, hz, _, hcell, hwz⟩
    · simp at hcs
      obtain ⟨z, l, B, f, h⟩ := Sx.open_b8 (w := W) (.inl ⟨rfl, rfl, rfl, rfl⟩) (fun x e => by cases e)
      exact ⟨none, 0, 0, z, l, B, f, hcs, h⟩
    · simp at hcs
      subst hcs
      obtain ⟨z, l', B, f, h⟩ := Sx.open_b8 (.inr ⟨_, rfl, hl, hm, by simpa using hz, hcell, hwz⟩) (Sx.okWide_cells Tryz.underlying32 (hval 1 32 _ rfl rfl) (i := 3) rfl)
      exact ⟨some x, l, c, z, l', B, f, rfl, h⟩
  subst hc1_3
  obtain ⟨a1_4, hc1_4, _⟩ := DataW.trod_bool Tryz.underlying4 hy1_4
  simp at hc1_4
  subst hc1_4
  obtain ⟨a1_5, len1_5, cap1_5, z1_5, l1_5, B1_5, f1_5, hc1_5, w1_5⟩ : ∃ a len cap z l B f, c1_5 = .slice a len cap ∧ Sx.InB W a len cap z l B f := by
    rcases open_ints Tryz.underlying24 Tryz.underlying5 (by kernel_rfl) hy1_5 with ⟨hcs, _⟩ | ⟨x, l, c, zs, hcs, _, hl, hm, hz, _, hcell, hwz⟩
    · simp at hcs
      obtain ⟨z, l, B, f, h⟩ := Sx.open_b8 (w := W) (.inl ⟨rfl, rfl, rfl, rfl⟩) (fun x e => by cases e)
      exact ⟨none, 0, 0, z, l, B, f, hcs, h⟩
    · simp at hcs
      subst hcs
      obtain ⟨z, l', B, f, h⟩ := Sx.open_b8 (.inr ⟨_, rfl, hl, hm, by simpa using hz, hcell, hwz⟩) (Sx.okWide_cells Tryz.underlying32 (hval 1 32 _ rfl rfl) (i := 5) rfl)
      exact ⟨some x, l, c, z, l', B, f, rfl, h⟩
  subst hc1_5
  obtain ⟨a2, rfl, rfl, rfl, w2⟩ := open_int Tryz.underlying40 (hval 2 40 v2 rfl rfl) h2
  obtain ⟨a3, rfl, rfl, rfl, w3⟩ := open_int Tryz.underlying2 (hval 3 2 v3 rfl rfl) h3
  obtain ⟨a4, len4, cap4, rfl⟩ := okWide_slice Tryz.underlying24 (hval 4 24 v4 rfl rfl)
  have k4 := h4
  have lt4 : ∀ x ∈ p4, x.block < W.heap.size := by obtain ⟨m, hm⟩ := k4; exact DataW.trod_lt m _ _ _ hm
  obtain ⟨z4, l4, B4, f4, w4⟩ : ∃ z l B f, Sx.InB W a4 len4 cap4 z l B f := by
    refine (fun h => (h : ∃ zs, IsRow .u8 W a4 len4 cap4 zs).elim fun zs hz => Sx.open_b8 hz (Sx.okWide_spot Tryz.underlying24 (hval 4 24 _ rfl rfl))) ?_
    obtain ⟨fuel, hf⟩ := h4
    rcases open_ints Tryz.underlying24 Tryz.underlying5 (by kernel_rfl) hf with ⟨hcs, _⟩ | ⟨x, l, c, zs, hcs, _, hl, hm, hz, _, hcell, hwz⟩
    · simp [Value.cells] at hcs
      obtain ⟨rfl, rfl, rfl⟩ := hcs
      exact ⟨[], .inl ⟨rfl, rfl, rfl, rfl⟩⟩
    · simp [Value.cells] at hcs
      obtain ⟨rfl, rfl, rfl⟩ := hcs
      exact ⟨zs, .inr ⟨_, rfl, hl, hm, by simpa using hz, hcell, hwz⟩⟩
  obtain ⟨a5, len5, cap5, rfl⟩ := okWide_slice Tryz.underlying24 (hval 5 24 v5 rfl rfl)
  have k5 := h5
  have lt5 : ∀ x ∈ p5, x.block < W.heap.size := by obtain ⟨m, hm⟩ := k5; exact DataW.trod_lt m _ _ _ hm
  obtain ⟨z5, l5, B5, f5, w5⟩ : ∃ z l B f, Sx.InB W a5 len5 cap5 z l B f := by
    refine (fun h => (h : ∃ zs, IsRow .u8 W a5 len5 cap5 zs).elim fun zs hz => Sx.open_b8 hz (Sx.okWide_spot Tryz.underlying24 (hval 5 24 _ rfl rfl))) ?_
    obtain ⟨fuel, hf⟩ := h5
    rcases open_ints Tryz.underlying24 Tryz.underlying5 (by kernel_rfl) hf with ⟨hcs, _⟩ | ⟨x, l, c, zs, hcs, _, hl, hm, hz, _, hcell, hwz⟩
    · simp [Value.cells] at hcs
      obtain ⟨rfl, rfl, rfl⟩ := hcs
      exact ⟨[], .inl ⟨rfl, rfl, rfl, rfl⟩⟩
    · simp [Value.cells] at hcs
      obtain ⟨rfl, rfl, rfl⟩ := hcs
      exact ⟨zs, .inr ⟨_, rfl, hl, hm, by simpa using hz, hcell, hwz⟩⟩
  clear hA0 hval0
  refine (walk a0 a1_0 a1_1 len1_1 cap1_1 z1_1 l1_1 B1_1 f1_1 a1_2 len1_2 cap1_2 z1_2 l1_2 B1_2 f1_2 a1_3 len1_3 cap1_3 z1_3 l1_3 B1_3 f1_3 a1_4 a1_5 len1_5 cap1_5 z1_5 l1_5 B1_5 f1_5 a2 a3 a4 len4 cap4 z4 l4 B4 f4 a5 len5 cap5 z5 l5 B5 f5 W w1_0 w1_1 w1_2 w1_3 w1_5 w2 w3 w4 w5).mono fun e W' ⟨he, bel⟩ => ?_
  subst he
  exact ⟨_, rfl, _, _, _, [], _, [], hW', trodAll_mk1 (shut_bool Tryz.underlying4 _), (trodAll_cons_mk (Below.trod laidOut (by kernel_rfl) (of_decide_eq_true (by kernel_rfl)) k0 bel lt0) (trodAll_cons_mk (Below.trod laidOut (by kernel_rfl) (of_decide_eq_true (by kernel_rfl)) k1 bel lt1) (trodAll_cons_mk (shut_int Tryz.underlying40 w2) (trodAll_cons_mk (shut_int Tryz.underlying2 w3) (trodAll_cons_mk (Below.trod laidOut (by kernel_rfl) (of_decide_eq_true (by kernel_rfl)) k4 bel lt4) (trodAll_cons_mk (Below.trod laidOut (by kernel_rfl) (of_decide_eq_true (by kernel_rfl)) k5 bel lt5) trodAll_mk0)))))), rfl, bel.frame _, fun h => by cases h⟩

theorem over : Rows.sealBackRow.holds Tryz.pinned (OpenSpec.ofChange Rows.sealBackSpec) :=
  OpenClaim.holds_of_wide 5 Tryz.f5 rfl rfl rfl rfl rfl rfl rfl ⟨rfl, rfl, rfl, rfl, rfl⟩ rfl rfl rfl rfl rfl (by kernel_rfl) Tryz.func5 (by kernel_rfl)
    (of_decide_eq_true (by kernel_rfl)) (by unfold Func.isWrapper; first | (rw [if_pos (by decide +kernel)]; kernel_rfl) | (rw [if_neg (by decide +kernel)]; exact ⟨rfl, rfl⟩))
    (fun os started H enc _ => lifted os started H enc)

/-- THE STATEMENT -/
theorem proved : Rows.SealBackSaid := over
#print axioms proved
end Go.Proofs.YtkjdkeolkigibaaGreat.sealBack
