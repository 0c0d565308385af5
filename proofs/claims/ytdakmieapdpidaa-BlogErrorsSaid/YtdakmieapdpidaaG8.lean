/-
  Texts of this claim, part 8: Sxs, EoZ, EpA, Sxzf, EpC, EpE, EpF, EpD, EpG, EpN. No condition of its own.
-/
import Derived.ChangeArms
import Derived.Test.YtdakmieapdpidaaG7
section
/-
  From a function over blocks to a law's walk: structs with slices of bytes that came in. Over any program. No condition of its own.
-/
namespace Go.Proofs.Ytdakmieapdpidaa
set_option linter.unusedVariables false
namespace Sx
open Go.RowKit Go.ChangeShapes Go.WideShapes Sha Vi

theorem isL_nil (r : Rho) : IsL r [] [] := ⟨rfl, fun j x e => by simp at e⟩
theorem isL_cons {r : Rho} {x : SC} {v : Value} {l : List SC} {vs : List Value} (h : x.Is r v) (hs : IsL r l vs) : IsL r (x :: l) (v :: vs) :=
  ⟨by simpa using hs.1, fun j y e => by
    cases j with
    | zero => simp at e; subst e; exact ⟨v, rfl, h⟩
    | succ j => exact hs.2 j y e⟩
/-- What slices of bytes keep to, however long. -/
structure Sl.Fit (s : Sl) : Prop where
  fit : s.o + s.l.length ≤ s.N
  cap : s.l.length ≤ s.c
  nil : s.z = true → s.l = []
theorem Sl.Fit.ok {s : Sl} (h : s.Fit) (hs : s.l.length ≤ 1000000) : s.Ok := ⟨h.fit, h.cap, h.nil, hs⟩
/-- A slice that came in. -/
abbrev slI (z : Bool) (c : Nat) (l : Bs) : Sl := ⟨z, l.length, 0, c, l⟩
theorem InB.fit {w : World} {a : Option Addr} {n c : Nat} {z : Bool} {l : Bs} {B f : Nat} (h : InB w a n c z l B f) : (slI z c l).Fit :=
  ⟨by simp, by have := h.len; have := h.le; show l.length ≤ c; omega, h.nil⟩
end Sx
end Go.Proofs.Ytdakmieapdpidaa
end

section
/-
  A law whose arguments are raw; events as arguments, opened. No condition.
-/
namespace Go.Proofs.Ytdakmieapdpidaa
set_option linter.unusedVariables false
namespace Sx
open Go.RowKit Go.ChangeShapes Go.WideShapes Sha Vi Ev

theorem FnR.lawP {P : Program} {T : List (Nat × TD)} {f : FuncId} {args : List SA} {w : World} {vs : List Value} (h : FnR P T f 1 [[.past w []]] args (fun _ => True) (fun x _ => x = .a (.c (.bool true))))
    (ha : IsAs [(0, 0)] args vs) : Calls P f vs.toArray w fun e w' => e = .returned (.bool true) ∧ Below w.heap.size w w' := by
  have hat : AllAt [(0, 0)] w [[.past w []]] [(0, 0)] := ⟨fun j x e => by simp [flat] at e, trivial⟩
  refine (h w [(0, 0)] vs (heapOk_ro hat (fun i W ms e => ?_)) ha trivial).mono ?_
  · cases i with
    | zero => simp at e; exact e.1.symm
    | succ i => simp at e
  · rintro e w' ⟨v, x, hs, r', rfl, hx, hok, rfl⟩
    obtain rfl : v = .bool true := hx
    refine ⟨rfl, ?_⟩
    have e : Ext (([((0 : Nat), (0 : Nat))].drop 1).map (·.1)) w w' := hok.ext
    exact e.below0
theorem cell_block {w : World} {a : Addr} {v : Value} (h : w.cell? a = some v) : a.block < w.heap.size := by
  unfold World.cell? at h
  rcases Nat.lt_or_ge a.block w.heap.size with hb | hb
  · exact hb
  · rw [Array.getElem?_eq_none hb] at h; cases h
theorem row_bs {w : World} {a : Option Addr} {n c : Nat} {zs : List Int} (h : IsRow .u8 w a n c zs) (hs : ∀ x, a = some x → x.spot = none) : ∃ l : Bs, BsAt w [] a n c l := by
  obtain ⟨z, l, B, f, hI⟩ := open_b8 h hs
  rcases h with ⟨rfl, rfl, rfl, rfl⟩ | ⟨x, rfl, hl, hm, hz, hc, hw⟩
  · exact ⟨[], SlAt.nul⟩
  · obtain ⟨B, f, spot⟩ := x
    obtain rfl : spot = none := hs _ rfl
    have hcap := hI.cap
    refine ⟨(zs.take n).map (BitVec.ofInt 8), by simp; omega, hl, by unfold maxLen at hcap; omega, (fun e => by cases e), fun x e h0 => ?_⟩
    injection e with e
    subst e
    refine ⟨rfl, ?_, List.not_mem_nil, fun j y e => ?_⟩
    · have := cell_block (hc 0 (by omega))
      simpa [Addr.add] using this
    · have hj : j < n := by
        have := (List.getElem?_eq_some_iff.1 e).1
        simp at this; omega
      have hjz : j < zs.length := by omega
      have ha : (⟨B, f, none⟩ : Addr).add j = ⟨B, f + j, none⟩ := by unfold Addr.add; simp
      have hc1 := hc j (by omega)
      rw [ha] at hc1
      refine ⟨_, hc1, ?_⟩
      rw [List.getElem?_map, List.getElem?_map, List.getElem?_take, if_pos hj, List.getElem?_eq_getElem hjz] at e
      simp only [Option.map_some, Option.some.injEq] at e
      subst e
      show Value.int .u8 _ = Value.int .u8 _
      congr 1
      have h3 : zs.getD j 0 = zs[j] := by rw [List.getD_eq_getElem?_getD, List.getElem?_eq_getElem hjz]; rfl
      rw [h3]
      exact wf_w8 (hw _ (List.getElem_mem _))
theorem row_ns {w : World} {a : Option Addr} {n c : Nat} {zs : List Int} (h : IsRow .u64 w a n c zs) (hs : ∀ x, a = some x → x.spot = none) : ∃ l : List (BitVec 64), NsAt w [] a n c l := by
  rcases h with ⟨rfl, rfl, rfl, rfl⟩ | ⟨x, rfl, hl, hm, hz, hc, hw⟩
  · exact ⟨[], SlAt.nul⟩
  · obtain ⟨B, f, spot⟩ := x
    obtain rfl : spot = none := hs _ rfl
    have hcap : c ≤ maxLen := hm
    refine ⟨(zs.take n).map (BitVec.ofInt 64), by simp; omega, hl, by unfold maxLen at hcap; omega, (fun e => by cases e), fun x e h0 => ?_⟩
    injection e with e
    subst e
    refine ⟨rfl, ?_, List.not_mem_nil, fun j y e => ?_⟩
    · have := cell_block (hc 0 (by omega))
      simpa [Addr.add] using this
    · have hj : j < n := by
        have := (List.getElem?_eq_some_iff.1 e).1
        simp at this; omega
      have hjz : j < zs.length := by omega
      have ha : (⟨B, f, none⟩ : Addr).add j = ⟨B, f + j, none⟩ := by unfold Addr.add; simp
      have hc1 := hc j (by omega)
      rw [ha] at hc1
      refine ⟨_, hc1, ?_⟩
      rw [List.getElem?_map, List.getElem?_map, List.getElem?_take, if_pos hj, List.getElem?_eq_getElem hjz] at e
      simp only [Option.map_some, Option.some.injEq] at e
      subst e
      show Value.int .u64 _ = Value.int .u64 _
      congr 1
      have h3 : zs.getD j 0 = zs[j] := by rw [List.getD_eq_getElem?_getD, List.getElem?_eq_getElem hjz]; rfl
      rw [h3]
      exact wf_w64 (hw _ (List.getElem_mem _))
section
variable {H : Type} {enc : TypeId × Value → H} {P : Program} {w : World} {base : Nat} {held : Bool}
theorem raw_b8 {t e : TypeId} {fuel : Nat} {cs : List Value} {y : DataW H × List MemPlace} (ht : P.underlying t = some (.slice e)) (he : P.underlying e = some (.int .u8)) (hc : P.cellsOf e = 1)
    (h : DataW.trod enc P w base (fun _ => true) held fuel t cs = some y) : ∃ (a : Option Addr) (n c : Nat) (l : Bs), cs = [.slice a n c] ∧ BsAt w [] a n c l := by
  rcases open_ints ht he hc h with ⟨rfl, _⟩ | ⟨x, n, c, zs, rfl, _, hl, hm, hz, _, hcell, hwz⟩
  · exact ⟨none, 0, 0, [], rfl, SlAt.nul⟩
  · have hz : zs.length = c := by simpa using hz
    rcases Nat.eq_zero_or_pos c with hc0 | hc0
    · subst hc0
      obtain rfl : n = 0 := by omega
      exact ⟨_, 0, 0, [], rfl, by simp, Nat.le_refl _, by decide, fun _ => rfl, fun x e h0 => absurd rfl h0⟩
    · obtain ⟨l, hl⟩ := row_bs (w := w) (n := n) (c := c) (zs := zs) (.inr ⟨x, rfl, hl, hm, hz, fun i hi => hcell i hi, hwz⟩) (fun y e => by
        cases e
        have := World.cell?_spot (hcell 0 (by omega))
        simpa [Addr.add] using this)
      exact ⟨_, n, c, l, rfl, hl⟩
theorem raw_n64 {t e : TypeId} {fuel : Nat} {cs : List Value} {y : DataW H × List MemPlace} (ht : P.underlying t = some (.slice e)) (he : P.underlying e = some (.int .u64)) (hc : P.cellsOf e = 1)
    (h : DataW.trod enc P w base (fun _ => true) held fuel t cs = some y) : ∃ (a : Option Addr) (n c : Nat) (l : List (BitVec 64)), cs = [.slice a n c] ∧ NsAt w [] a n c l := by
  rcases open_ints ht he hc h with ⟨rfl, _⟩ | ⟨x, n, c, zs, rfl, _, hl, hm, hz, _, hcell, hwz⟩
  · exact ⟨none, 0, 0, [], rfl, SlAt.nul⟩
  · have hz : zs.length = c := by simpa using hz
    rcases Nat.eq_zero_or_pos c with hc0 | hc0
    · subst hc0
      obtain rfl : n = 0 := by omega
      exact ⟨_, 0, 0, [], rfl, by simp, Nat.le_refl _, by decide, fun _ => rfl, fun x e h0 => absurd rfl h0⟩
    · obtain ⟨l, hl⟩ := row_ns (w := w) (n := n) (c := c) (zs := zs) (.inr ⟨x, rfl, hl, hm, hz, fun i hi => hcell i hi, hwz⟩) (fun y e => by
        cases e
        have := World.cell?_spot (hcell 0 (by omega))
        simpa [Addr.add] using this)
      exact ⟨_, n, c, l, rfl, hl⟩
end
section
theorem isL_head {r : Rho} {x : SC} {v : Value} (h : IsL r [x] [v]) : x.Is r v := by
  obtain ⟨u, e, hu⟩ := h.2 0 x rfl
  injection e with e
  rw [e]; exact hu
variable {H : Type} {enc : TypeId × Value → H} {w : World} {base : Nat} {held : Bool}
theorem one_k8 {P : Program} {t : TypeId} {fuel : Nat} {cs : List Value} {y : DataW H × List MemPlace} (ht : P.underlying t = some (.int .u8)) (h : DataW.trod enc P w base (fun _ => true) held fuel t cs = some y) : ∃ b : BitVec 8, ∀ r : Rho, IsL r [.w8 b] cs := by
  obtain ⟨x, rfl, _, wx⟩ := DataW.trod_int ht h
  exact ⟨BitVec.ofInt 8 x, fun r => isL_cons (congrArg _ (wf_w8 wx)) (isL_nil r)⟩
theorem one_t64 {P : Program} {t : TypeId} {fuel : Nat} {cs : List Value} {y : DataW H × List MemPlace} (ht : P.underlying t = some (.int .u64)) (h : DataW.trod enc P w base (fun _ => true) held fuel t cs = some y) : ∃ b : BitVec 64, ∀ r : Rho, IsL r [.w64 b] cs := by
  obtain ⟨x, rfl, _, wx⟩ := DataW.trod_int ht h
  exact ⟨BitVec.ofInt 64 x, fun r => isL_cons (congrArg _ (wf_w64 wx)) (isL_nil r)⟩
set_option maxRecDepth 100000 in
theorem open_ev {fuel : Nat} {cs : List Value} {y : DataW H × List MemPlace} (hl : cs.length = 4) (hf : DataW.trod enc Try.prog w base (fun _ => true) held fuel 28 cs = some y) :
    ∃ (e : Ev) (x : EvC), EvAt w [] x e ∧ ∀ r : Rho, IsL r (flat (evS e x)) cs := by
  obtain ⟨xs, n, _, _, _, hxl, hg⟩ := DataW.trod_struct Try.underlying28 hf
  match cs, hl with
  | [c0, c1, c2, c3], _ =>
    match xs, hxl with
    | [y0, y1, y2, y3], _ =>
      obtain ⟨k, h0⟩ := one_k8 (P := Try.prog) (cs := [c0]) (y := y0) Try.underlying24 (hg 0 _ rfl)
      obtain ⟨t, h1⟩ := one_t64 (P := Try.prog) (cs := [c1]) (y := y1) Try.underlying25 (hg 1 _ rfl)
      obtain ⟨aN, nN, cN, N, e2, hN⟩ := raw_n64 (P := Try.prog) (cs := [c2]) (y := y2) Try.underlying26 Try.underlying25 (by kernel_rfl) (hg 2 _ rfl)
      obtain ⟨aD, nD, cD, D, e3, hD⟩ := raw_b8 (P := Try.prog) (cs := [c3]) (y := y3) Try.underlying23 Try.underlying5 (by kernel_rfl) (hg 3 _ rfl)
      injection e2 with e2; injection e3 with e3
      subst e2; subst e3
      exact ⟨⟨k, t, N, D⟩, ⟨aN, nN, cN, aD, nD, cD⟩, ⟨hN, hD⟩, fun r => isL_cons (isL_head (h0 r)) (isL_cons (isL_head (h1 r)) (isL_cons rfl (isL_cons rfl (isL_nil r))))⟩
set_option maxRecDepth 100000 in
theorem open_evs {rc : Reach} {b0 : Nat} {v : Value} {d : DataW H} {p : List MemPlace} (hval : Value.okWide Try.prog w rc b0 22 v) (h : DataW.Trod enc Try.prog w base (fun _ => true) held 22 v d p) :
    ∃ (a : Option Addr) (n c : Nat) (es : List Ev), v = .slice a n c ∧ EvsAt w [] a n c es := by
  obtain ⟨a0, n0, c0, rfl⟩ := okWide_slice Try.underlying22 hval
  have hspot := okWide_spot Try.underlying22 hval
  obtain ⟨fuel, hf⟩ := h
  rcases DataW.trod_slice Try.underlying22 hf with ⟨hcs, _⟩ | ⟨a, len, cap, elems, rest, m, _, hcs, _, hb, hl, hm, hlen, hel, _, _⟩
  · simp [Value.cells] at hcs
    obtain ⟨rfl, rfl, rfl⟩ := hcs
    exact ⟨none, 0, 0, [], rfl, EvsAt.nul⟩
  simp [Value.cells] at hcs
  obtain ⟨rfl, rfl, rfl⟩ := hcs
  have hsz : Try.prog.cellsOf 28 = 4 := by kernel_rfl
  rw [hsz] at hel
  obtain ⟨B, f, sp⟩ := a
  obtain rfl : sp = none := hspot _ rfl
  have each : ∀ k, ∃ y : Ev, k < n0 → ∃ x, ImAt w [] ((⟨B, f, none⟩ : Addr).add (k * 4)) (flat (evS y x)) ∧ EvAt w [] x y := by
    intro k
    by_cases hk : k < n0
    · have h1 := hel k hk
      rw [List.getElem?_eq_getElem (by omega), Option.bind_eq_some_iff] at h1
      obtain ⟨cs, hcs, ht⟩ := h1
      obtain ⟨hb', hlen', hget⟩ := World.cells?_some hcs
      obtain ⟨e, x, hx, hi⟩ := open_ev hlen' ht
      refine ⟨e, fun _ => ⟨x, ⟨?_, ?_, List.not_mem_nil, fun j y he => ?_⟩, hx⟩⟩
      · simp only [Addr.add]; split <;> rfl
      · have h0 := hget 0 (by omega)
        rw [List.getElem?_eq_getElem (by omega)] at h0
        exact cell_block h0
      · obtain ⟨v, e1, e2⟩ := (hi []).2 j y he
        have hj : j < 4 := (List.getElem?_eq_some_iff.1 he).1
        refine ⟨v, ?_, e2⟩
        have h0 := hget j hj
        rw [e1] at h0
        rw [← h0]
        congr 1
        simp only [Addr.add]
        split <;> split <;> simp <;> omega
    · exact ⟨⟨0#8, 0#64, [], []⟩, fun h => absurd h hk⟩
  obtain ⟨g, hg⟩ := Classical.axiomOfChoice each
  refine ⟨some ⟨B, f, none⟩, n0, c0, (List.range n0).map g, rfl, by simp, hl, by (have : c0 ≤ maxLen := hm; unfold maxLen at this; omega), (fun e => by cases e), fun A hA k e he => ?_⟩
  cases hA
  have hk : k < n0 := by have := (List.getElem?_eq_some_iff.1 he).1; simpa using this
  rw [List.getElem?_map, List.getElem?_range hk] at he
  injection he with he
  subst he
  exact hg k hk
end
end Sx
end Go.Proofs.Ytdakmieapdpidaa
end

section
/-
  A named result that becomes data; Row with its result as data; a law over a past and named blocks. No condition.
-/
namespace Go.Proofs.Ytdakmieapdpidaa
set_option linter.unusedVariables false
namespace Sx
open Go.RowKit Go.ChangeShapes Go.WideShapes Sha Vi Ev

theorem FnR.frzW {P : Program} {T : List (Nat × TD)} {f : FuncId} {n : Nat} {h0 : List (List Seg)} {args : List SA} {raw : World → Prop} {Res Res' : SV → List (List Seg) → Prop} (h : FnR P T f n h0 args raw Res)
    (k : ∀ (w : World) (r0 : Rho) x hs, r0.length = h0.length → Res x hs → FinW (cx0 P T w r0 n h0) x hs Res') : FnR P T f n h0 args raw Res' :=
  fun w r0 vs ok ha hr => (h w r0 vs ok ha hr).mono fun _ _ ⟨v, x, hs, r', e, h1, h2, h3⟩ => by
    obtain ⟨x', hs', r'', a, b, c⟩ := k w r0 x hs ok.len h3 r' _ v h2 h1
    exact ⟨v, x', hs', r'', e, a, b, c⟩
set_option maxRecDepth 20000 in
theorem fn_erowF {W : World} {ms : List Nat} {a : Option Addr} {n c : Nat} {es : List Ev} (h : EvsAt W ms a n c es) {aK : Option Addr} {nK cK : Nat} {ks : Bs} (hK : BsAt W ms aK nK cK ks) (hl : ∀ e ∈ es, e.N.length ≤ 30 ∧ e.D.length ≤ 100) (hn60 : n ≤ 60) :
    FnR Try.prog tds 9 1 [[.past W ms]] [.c (.slc a n c), .c (.slc aK nK cK)] (fun _ => True)
    (fun y hs => ∃ a' c' W' ms', Later W ms W' ms' ∧ EvsAt W' ms' a' n c' (rowE ks es 0 0#64) ∧ y = .a (.c (.slc a' n c')) ∧ hs = [[.past W' ms']]) := by
  rcases Nat.eq_zero_or_pos n with hn | hn
  · obtain rfl : es = [] := List.length_eq_zero_iff.1 (by rw [h.len, hn])
    subst hn
    refine (fn_erow0 (W := W) (ms := ms) (a := a) (c := c) rfl (aK := aK) (nK := nK) (cK := cK)).mono (fun y hs ⟨h1, h2⟩ => ⟨none, 0, W, ms, Later.refl _ _, EvsAt.nul, h1, h2⟩)
  · refine (fn_erow h hK hl hn60 hn).frzW (fun w r0 y hs hr0 ⟨W1, ms1, cs, c', hL, hrow, hc, h1, h2⟩ => ?_)
    obtain ⟨x0, rfl⟩ := List.length_eq_one_iff.1 hr0
    subst h1; subst h2
    refine finW_frz [0] rfl (Nat.zero_lt_one) cx0_m rfl (fun W9 ms9 α hL9 hI => ?_)
    have hrl : (rowE ks es 0 0#64).length = n := by rw [rowE_len, h.len]
    refine ⟨.a (.c (.slc (some ((α 1).add (0 + 0))) n c')), [], ⟨⟨rfl, rfl, rfl⟩, ?_⟩, some ((α 1).add (0 + 0)), c', W9, ms9, hL.trans hL9, hrow.frz (F := fun j => !memB j [0]) hL9 (hI 1 rfl) hrl hc (by omega), rfl, rfl⟩
    (repeat first | exact trivial | refine ent1 ?_)
end Sx
end Go.Proofs.Ytdakmieapdpidaa
end

section
/-
  Blocks given up at the head of a loop's round: from now on they are data that nobody turns. Over any program. No condition of its own.
-/
namespace Go.Proofs.Ytdakmieapdpidaa
set_option linter.unusedVariables false
namespace Sx
open Go.RowKit
variable {C : Cx}

def rzT (F : Nat → Bool) (α : Nat → Addr) : List SV → List SV
  | [] => []
  | x :: r => x.rz F α :: rzT F α r
theorem rzT_len (F : Nat → Bool) (α : Nat → Addr) : ∀ l : List SV, (rzT F α l).length = l.length
  | [] => rfl
  | _ :: r => congrArg Nat.succ (rzT_len F α r)
theorem rzT_get {F : Nat → Bool} {α : Nat → Addr} : ∀ {l : List SV} {d : Nat} {y : SV}, (rzT F α l)[d]? = some y → ∃ x, l[d]? = some x ∧ y = x.rz F α
  | [], d, y, e => by simp [rzT] at e
  | x :: r, 0, y, e => by simp [rzT] at e; exact ⟨x, rfl, e.symm⟩
  | x :: r, d + 1, y, e => by
    obtain ⟨z, h1, h2⟩ := rzT_get (l := r) (d := d) (y := y) (by simpa [rzT] using e)
    exact ⟨z, by simpa using h1, h2⟩
/-- A round's head (or a loop's beginning), where blocks are given up: all that are not in q. -/
theorem entW_frz {X : Type} {s : St} {inv : X → St} {p : X → Prop} (q : List Nat) {W : World} {ms : List Nat} (hp : getH s.h 0 = [.past W ms]) (hro : 0 < C.ro) (hm : ∀ B ∈ C.m, ∃ (j f : Nat), C.ro ≤ j ∧ C.r0[j]? = some (B, f))
    (hq : (pref C.r0.length 0 q && allLt q s.h.length && allNe s.h (q.drop C.ro) && allGe C.ro (q.drop C.ro)) = true)
    (hk : ∀ (W' : World) (ms' : List Nat) (α : Nat → Addr), Later W ms W' ms' → (∀ i, (Nat.blt i s.h.length && Nat.ble C.ro i && !memB i q) = true → flat (getH s.h i) ≠ [] → ImAt W' ms' (α i) (((flat (getH s.h i)).map (SC.rz (fun j => !memB j q) α)).map SC.raw)) →
      ∃ x t hs, Ent C q ⟨rzT (fun j => !memB j q) α s.t, rzH (fun j => !memB j q) α s.h⟩ ⟨t, [.past W ms] :: hs⟩ ∧ inv x = ⟨t, [.past W' ms'] :: hs⟩ ∧ p x) : EntW C s inv p := by
  intro r a w ok0
  obtain ⟨t0, h⟩ := s
  have ok := ok0.heap
  dsimp only at hp hq hk ok
  simp only [Bool.and_eq_true] at hq
  obtain ⟨⟨⟨hpf, hq1⟩, hq2⟩, hq3⟩ := hq
  have hll := allLt_spec hq1
  have hst := allNe_spec hq2
  have hge := allGe_spec hq3
  have hlen := ok.len
  have hp' := getH_ne hp
  have hqr : ∀ i ∈ q, i < r.length := fun i hi => by rw [hlen]; exact hll i hi
  let α : Nat → Addr := fun i => match r[i]? with
    | some (B, f) => ⟨B, f, none⟩
    | none => ⟨0, 0, none⟩
  have hα : Lies (fun j => !memB j q) α r := fun i B f _ e => by simp only [α, e]
  classical
  obtain ⟨ms', hms'⟩ : ∃ l, ((rn q r).drop C.ro).map (·.1) ++ (List.range C.w0.heap.size).filter (fun B => decide (¬ C.safe B)) = l := ⟨_, rfl⟩
  have look : ∀ (i B f : Nat), C.ro ≤ i → (rn q r)[i]? = some (B, f) → ∃ j, j ∈ q.drop C.ro ∧ r[j]? = some (B, f) := by
    intro i B f hi e
    cases hqi : q[i]? with
    | none => rw [rn, List.getElem?_map, hqi] at e; cases e
    | some j => exact ⟨j, List.mem_of_getElem? (i := i - C.ro) (by rw [List.getElem?_drop, show C.ro + (i - C.ro) = i by omega]; exact hqi), by rw [← rn_get hqr hqi]; exact e⟩
  have inms : ∀ B, B ∈ ms' → (∃ j, j ∈ q.drop C.ro ∧ ∃ f, r[j]? = some (B, f)) ∨ (B < C.w0.heap.size ∧ ¬ C.safe B) := by
    intro B hB
    rw [← hms'] at hB
    rcases List.mem_append.1 hB with hB | hB
    · obtain ⟨i, f, hi, e⟩ := mem_drop.1 hB
      obtain ⟨j, hj, e2⟩ := look i B f hi e
      exact .inl ⟨j, hj, f, e2⟩
    · simp only [List.mem_filter, List.mem_range, decide_eq_true_eq] at hB
      exact .inr hB
  have hhi : ∀ i, i < h.length → h[i]? = some (getH h i) := fun i hi => by rw [getH_eq, List.getElem?_eq_getElem hi]; rfl
  have hqs : ∀ i ∈ q.drop C.ro, i ∈ q := fun i hi => List.mem_of_mem_drop hi
  obtain ⟨p1, p2, p3⟩ := ok.past 0 W ms hp'
  have hL : Later W ms w ms' := ⟨p1, fun B h1 h2 hc => by
    rcases inms B hc with ⟨j, hj, f, e⟩ | ⟨h3, h4⟩
    · exact h2 (p3 j B f (hge j hj) e h1)
    · exact h4 (p2 B h3 h1 h2)⟩
  have facts : ∀ i, i < h.length → C.ro ≤ i → memB i q = false → flat (getH h i) ≠ [] → ImAt w ms' (α i) (((flat (getH h i)).map (SC.rz (fun j => !memB j q) α)).map SC.raw) := by
    intro i hil hio hiq hfl
    have hnq : i ∉ q := fun hc => by rw [memB_iff.2 hc] at hiq; cases hiq
    obtain ⟨⟨B, f⟩, hr⟩ : ∃ x, r[i]? = some x := ⟨_, List.getElem?_eq_getElem (by rw [hlen]; exact hil)⟩
    have hAt := (ok.chunk hr).rz hα
    have e : α i = ⟨B, f, none⟩ := by simp only [α, hr]
    rw [e]
    have clash : ∀ j, j ∈ q.drop C.ro → ∀ f', r[j]? ≠ some (B, f') := by
      intro j hj f' hr'
      have hij : i ≠ j := fun e => hnq (e ▸ hqs j hj)
      rcases ok.apart i j B f f' _ _ hij hio (hge j hj) (hhi i hil) (hhi j (hll j (hqs j hj))) hr hr' with h | h
      · rw [h] at hfl; exact hfl rfl
      · exact stirs_ne (hst j hj) h
    refine hAt.im ((ok.chunk hr).lt hfl) fun hc => ?_
    rcases inms B hc with ⟨j, hj, f', hr'⟩ | ⟨h3, h4⟩
    · exact clash j hj f' hr'
    · rcases ok.own i B f hio hr with hB | hB
      · obtain ⟨j, f', hj, e0⟩ := hm B hB
        have hjl : j < C.r0.length := by
          rcases Nat.lt_or_ge j C.r0.length with h | h
          · exact h
          · rw [List.getElem?_eq_none h] at e0; cases e0
        have hqj := pref_spec hpf j hjl
        rw [Nat.zero_add] at hqj
        exact clash j (List.mem_of_getElem? (i := j - C.ro) (by rw [List.getElem?_drop, show C.ro + (j - C.ro) = j by omega]; exact hqj)) f' (ok.agree j _ e0)
      · omega
  obtain ⟨x, t, hs, hent, hinv, hres⟩ := hk w ms' α hL (fun i hi hf => by
    simp only [Bool.and_eq_true, Bool.not_eq_true'] at hi
    exact facts i (by simpa using (Nat.blt_eq ▸ hi.1.1)) (ble_le hi.1.2) hi.2 hf)
  have ok1 : Ok C ⟨rzT (fun j => !memB j q) α t0, rzH (fun j => !memB j q) α h⟩ r a w := ⟨ok.rz hα, by rw [ok0.size]; exact (rzT_len _ _ _).symm, fun d y e => by
    obtain ⟨z, hz, rfl⟩ := rzT_get e
    exact (ok0.slots d z hz).rz hα, ok0.defers⟩
  have ok2 := hent.okN ok1
  have ok3 := ok2.heap.setPast (i0 := 0) hro rfl (W' := w) (ms' := ms') (Ext.refl _ _) (fun B h1 h2 h3 => Classical.byContradiction fun hc => h3 (by
    rw [← hms']
    exact List.mem_append.2 (.inr (by simp only [List.mem_filter, List.mem_range, decide_eq_true_eq]; exact ⟨h1, hc⟩)))) (fun j B f ho e _ => by
    rw [← hms']
    exact List.mem_append.2 (.inl (mem_drop.2 ⟨j, f, ho, e⟩)))
  refine ⟨x, rn q r, ?_, hres⟩
  rw [hinv]
  exact ⟨ok3, ok2.size, ok2.slots, ok2.defers⟩
end Sx
end Go.Proofs.Ytdakmieapdpidaa
end

section
/-
  Events with one put between them: the law BlogErrors' own function. No condition.
-/
namespace Go.Proofs.Ytdakmieapdpidaa
set_option linter.unusedVariables false
namespace Sx
open Go.RowKit Sha Vi Ev

theorem evS_raw (e : Ev) (x : EvC) : ∀ i, ((flat (evS e x)).getD i .any).raw = (flat (evS e x)).getD i .any
  | 0 => rfl
  | 1 => rfl
  | 2 => rfl
  | 3 => rfl
  | _ + 4 => rfl
/-- The cells of events that nobody turns. -/
theorem EvsAt.row {W : World} {ms : List Nat} {A : Addr} {n c : Nat} {es : List Ev} (h : EvsAt W ms (some A) n c es) (hn : 0 < n) : ∃ cs, RowAt W ms cs es ∧ ImAt W ms A cs := by
  have each : ∀ k, ∃ x : EvC, ∀ e, es[k]? = some e → ImAt W ms (A.add (k * 4)) (flat (evS e x)) ∧ EvAt W ms x e := by
    intro k
    by_cases hk : k < es.length
    · obtain ⟨x, h1, h2⟩ := h.elt A rfl k _ (List.getElem?_eq_getElem hk)
      exact ⟨x, fun e he => by rw [List.getElem?_eq_getElem hk] at he; injection he with he; subst he; exact ⟨h1, h2⟩⟩
    · exact ⟨⟨none, 0, 0, none, 0, 0⟩, fun e he => by rw [List.getElem?_eq_none (by omega)] at he; cases he⟩
  obtain ⟨g, hg⟩ := Classical.axiomOfChoice each
  have hlen := h.len
  let F : Nat → SC := fun j => (flat (evS (es.getD (j / 4) ⟨0#8, 0#64, [], []⟩) (g (j / 4)))).getD (j % 4) .any
  have hF : ∀ k e, es[k]? = some e → ∀ i y, (flat (evS e (g k)))[i]? = some y → F (k * 4 + i) = y ∧ i < 4 := by
    intro k e he i y hy
    have hi : i < 4 := (List.getElem?_eq_some_iff.1 hy).1
    refine ⟨?_, hi⟩
    show (flat (evS (es.getD ((k * 4 + i) / 4) _) (g ((k * 4 + i) / 4)))).getD ((k * 4 + i) % 4) .any = y
    rw [show (k * 4 + i) / 4 = k by omega, show (k * 4 + i) % 4 = i by omega, List.getD_eq_getElem?_getD, List.getD_eq_getElem?_getD, he]
    show ((flat (evS e (g k)))[i]?).getD .any = y
    rw [hy]; rfl
  refine ⟨(List.range (es.length * 4)).map F, ⟨by simp, fun x hx => ?_, fun k e he => ⟨g k, fun i y hy => ?_, (hg k e he).2⟩⟩, ?_⟩
  · obtain ⟨j, _, rfl⟩ := List.mem_map.1 hx
    exact evS_raw _ _ _
  · obtain ⟨h1, h2⟩ := hF k e he i y hy
    have hk : k < es.length := (List.getElem?_eq_some_iff.1 he).1
    rw [List.getElem?_map, List.getElem?_range (by omega), Option.map_some, h1]
  · have hz := (hg 0 _ (List.getElem?_eq_getElem (by omega : 0 < es.length))).1
    have hA : A.spot = none := by
      have := hz.1
      obtain ⟨B, f, s⟩ := A
      unfold Addr.add at this
      cases s with
      | none => rfl
      | some s => exact this
    obtain ⟨B, f, s⟩ := A
    simp only at hA
    subst hA
    rw [add_none] at hz
    refine ⟨rfl, hz.2.1, hz.2.2.1, fun j x hx => ?_⟩
    have hj : j < es.length * 4 := by have := (List.getElem?_eq_some_iff.1 hx).1; simpa using this
    rw [List.getElem?_map, List.getElem?_range hj, Option.map_some] at hx
    injection hx with hx
    have hk : j / 4 < es.length := by omega
    have he := List.getElem?_eq_getElem hk
    have hlt : j % 4 < 4 := by omega
    have hy : (flat (evS es[j / 4] (g (j / 4))))[j % 4]? = some ((flat (evS es[j / 4] (g (j / 4))))[j % 4]'(by show j % 4 < 4; exact hlt)) := List.getElem?_eq_getElem _
    obtain ⟨h1, h2⟩ := hF _ _ he _ _ hy
    obtain ⟨h3, _⟩ := hg _ _ he
    rw [add_none] at h3
    obtain ⟨v, e1, e2⟩ := h3.2.2.2 _ _ hy
    refine ⟨v, ?_, ?_⟩
    · rw [← e1]; congr 2; show f + j = f + j / 4 * 4 + j % 4; omega
    · rw [← hx, show j = j / 4 * 4 + j % 4 by omega, h1]; exact e2
theorem RowAt.append {W : World} {ms : List Nat} {cs ds : List SC} {es fs : List Ev} (h : RowAt W ms cs es) (k : RowAt W ms ds fs) : RowAt W ms (cs ++ ds) (es ++ fs) := by
  have hl := h.len
  refine ⟨by rw [List.length_append, hl, k.len, List.length_append]; omega, fun y hy => ?_, fun j e he => ?_⟩
  · rcases List.mem_append.1 hy with hy | hy
    · exact h.raw y hy
    · exact k.raw y hy
  · rcases Nat.lt_or_ge j es.length with hj | hj
    · rw [List.getElem?_append_left hj] at he
      obtain ⟨z, h1, h2⟩ := h.elt j e he
      refine ⟨z, fun i y hy => ?_, h2⟩
      have hi : i < 4 := (List.getElem?_eq_some_iff.1 hy).1
      rw [List.getElem?_append_left (by omega)]
      exact h1 i y hy
    · rw [List.getElem?_append_right hj] at he
      obtain ⟨z, h1, h2⟩ := k.elt _ e he
      refine ⟨z, fun i y hy => ?_, h2⟩
      rw [List.getElem?_append_right (by omega), show j * 4 + i - cs.length = (j - es.length) * 4 + i by omega]
      exact h1 i y hy
theorem RowAt.take {W : World} {ms : List Nat} {cs : List SC} {es : List Ev} (h : RowAt W ms cs es) (k : Nat) (hk : k ≤ es.length) : RowAt W ms (cs.take (k * 4)) (es.take k) := by
  have hl := h.len
  refine ⟨by rw [List.length_take, List.length_take]; omega, fun y hy => h.raw y (List.mem_of_mem_take hy), fun j e he => ?_⟩
  have hj : j < k := by have := (List.getElem?_eq_some_iff.1 he).1; rw [List.length_take] at this; omega
  rw [List.getElem?_take, if_pos hj] at he
  obtain ⟨z, h1, h2⟩ := h.elt j e he
  refine ⟨z, fun i y hy => ?_, h2⟩
  have hi : i < 4 := (List.getElem?_eq_some_iff.1 hy).1
  rw [List.getElem?_take, if_pos (by omega)]
  exact h1 i y hy
theorem RowAt.drop {W : World} {ms : List Nat} {cs : List SC} {es : List Ev} (h : RowAt W ms cs es) (k : Nat) (hk : k ≤ es.length) : RowAt W ms (cs.drop (k * 4)) (es.drop k) := by
  have hl := h.len
  refine ⟨by rw [List.length_drop, List.length_drop]; omega, fun y hy => h.raw y (List.mem_of_mem_drop hy), fun j e he => ?_⟩
  rw [List.getElem?_drop] at he
  obtain ⟨z, h1, h2⟩ := h.elt _ e he
  refine ⟨z, fun i y hy => ?_, h2⟩
  rw [List.getElem?_drop, show k * 4 + (j * 4 + i) = (k + j) * 4 + i by omega]
  exact h1 i y hy
end Sx
end Go.Proofs.Ytdakmieapdpidaa
end

section
/-
  Events with one put between them: binnaclelaw25.BlogErrors$1. No condition.
-/
namespace Go.Proofs.Ytdakmieapdpidaa
set_option linter.unusedVariables false
namespace Sx
open Go.RowKit Sha Vi Ev

theorem raw_sub {C : Cx} {h : List (List Seg)} {i : Nat} {W : World} {ms : List Nat} (hp : h[i]? = some [.past W ms]) {A : Addr} {cs : List SC} (him : ImAt W ms A cs) (o m : Nat) (hm : o + m ≤ cs.length) : RawAt C h (A.add o) ((List.range m).map (nthC (cs.drop o))) :=
  RawAt.past hp (him.part o fun j x hx => by
    have hj : j < m := by have := (List.getElem?_eq_some_iff.1 hx).1; simpa using this
    rw [List.getElem?_map, List.getElem?_range hj, Option.map_some] at hx
    injection hx with hx
    subst hx
    rw [← nthC_get (show j < (cs.drop o).length by rw [List.length_drop]; omega), List.getElem?_drop])
theorem app_csm {cs new : List SC} {n m : Nat} {f g : Nat → SC} (hn : cs.length = n * 4) (hf : ∀ j, j < cs.length → f j = nthC cs j) (hw : new.length = m * 4) (hg : ∀ j, j < m * 4 → g j = nthC new j) (j : Nat) (hj : j < (cs ++ new).length) : appF f 0 (scale n (3 + 1)) (scale m (3 + 1)) g j = nthC (cs ++ new) j := by
  rw [List.length_append] at hj
  unfold appF
  rw [sc4, sc4]
  by_cases h : j < n * 4
  · rw [if_pos h, Nat.add_zero, hf j (by omega), nthC_app_l (by omega)]
  · rw [if_neg h, if_pos (by omega), hg _ (by omega), nthC_app_r (by omega), hn]
theorem nthC_take {cs : List SC} {m j : Nat} (h : j < m) (hm : m ≤ cs.length) : nthC (cs.take m) j = nthC cs j :=
  nthC_get? (by rw [List.getElem?_take, if_pos h, nthC_get (by omega)])
set_option maxRecDepth 20000 in
set_option maxHeartbeats 16000000 in
theorem fn_withS {W : World} {ms : List Nat} {A : Addr} {n c : Nat} {es : List Ev} (h : EvsAt W ms (some A) n c es) (hn : 0 < n) (hn2 : n ≤ 100) {x : EvC} {e : Ev} (hx : EvAt W ms x e) (k : Nat) (hk : k ≤ n) :
    FnR Try.prog tds 10 3 [[.past W ms], [.one (.slc (some A) n c)], [.one (.int .i64 (k : Int))]] [.agg (evS e x), .c (.p 1 0 0), .c (.p 2 0 0)] (fun _ => True)
    (fun y hs => ∃ a' c' W' ms', Later W ms W' ms' ∧ EvsAt W' ms' a' (n + 1) c' (es.take k ++ e :: es.drop k) ∧ y = .a (.c (.slc a' (n + 1) c')) ∧ hs = [[.past W' ms'], [.one (.slc (some A) n c)], [.one (.int .i64 (k : Int))]]) := by
  have hlen := h.len
  have hle := h.le
  have hcap := h.cap
  obtain ⟨cs, hrow, him⟩ := h.row hn
  refine fn_of_bodyW tds_ok follows_ Try.func10 rfl (t := .a (.agg (evS e x)) :: .a (.c (.p 1 0 0)) :: .a (.c (.p 2 0 0)) :: anys (Try.f10.ntmps - 3)) rfl (fun w r0 hr _ => ?_)
  obtain ⟨x0, x1, x2, rfl⟩ := len3' hr
  (repeat first | (refine And.intro ?_ ?_; first | exact rfl | ((exact fun h => absurd h (by first | decide)); intro yy; clear yy) | (rotate_left; (exact fun h => absurd h (by first | decide)); intro yy; clear yy) | decide | omega) | (with_reducible refine frc_bytesL (by first | omega | decide) ?_) | (with_reducible refine frc_bytesM (by first | omega | decide) ?_))
  refine ⟨some [3], [1001, 1001, 1002, 1003, 1005, 1008, 1009, 1010, 3, 0, 6, 3, 4, 6, 2006, 2007, 2011, 2012, 0, 2004, 2007, 2011, 2012, 0, 2000, 2004, 2007, 2011, 2012, 0], [(0, false), (1, true), (2, true), (3, true), (4, false), (5, true), (6, false), (7, false), (8, true), (9, true), (10, true), (11, false), (12, false)], [], by (show planAny tds _ _ _ _ = true; decide +kernel), ?_⟩
  (repeat first | (refine And.intro ?_ ?_; first | exact rfl | ((exact fun h => absurd h (by first | decide)); intro yy; clear yy) | (rotate_left; (exact fun h => absurd h (by first | decide)); intro yy; clear yy) | decide | omega) | (with_reducible refine frc_bytesL (by first | omega | decide) ?_) | (with_reducible refine frc_bytesM (by first | omega | decide) ?_))
  refine frcN_of (show ((k : Int)).toNat = k by omega) ?_
  refine frcN_of (show ((n : Int)).toNat = n by omega) ?_
  refine frcN_of (rfl : n - k = n - k) ?_
  refine frcN_of (rfl : c - k = c - k) ?_
  have hc0 : ¬ c = 0 := by omega
  rw [if_neg hc0]
  obtain ⟨A2, hA2⟩ : ∃ A2, (if c = k then some A else Option.map (fun x => x.add (k * 4)) (some A)) = some A2 := by split <;> exact ⟨_, rfl⟩
  rw [show (if c = k then some A else Option.map (fun x => x.add (k * 4)) (some A)) = some A2 from hA2]
  have hcl := hrow.len
  have src1 : ∀ {C : Cx} {h : List (List Seg)}, (h[0]? = some [.past W ms]) → (((k : Nat) : Int).toNat - 0 = 0 ∨ RawAt C h (A.add (0 * 4)) ((List.range ((((k : Nat) : Int).toNat - 0) * 4)).map (nthC (cs.drop (0 * 4))))) := fun hp => .inr (raw_sub hp him _ _ (by omega))
  have src2 : ∀ {C : Cx} {h : List (List Seg)}, (h[0]? = some [.past W ms]) → (n - k = 0 ∨ RawAt C h A2 ((List.range ((n - k) * 4)).map (nthC (cs.drop (k * 4))))) := fun hp => by
    by_cases hck : c = k
    · exact .inl (by omega)
    · rw [if_neg hck] at hA2
      injection hA2 with hA2
      subst hA2
      exact .inr (raw_sub hp him _ _ (by omega))
  have hR : RowAt W ms ((cs.take (k * 4) ++ flat (evS e x)) ++ cs.drop (k * 4)) (es.take k ++ e :: es.drop k) := by
    have := ((hrow.take k (by omega)).snoc hx).append (hrow.drop k (by omega))
    rw [List.append_assoc (es.take k)] at this
    exact this
  have hRl : (es.take k ++ e :: es.drop k).length = n + 1 := by rw [List.length_append, List.length_take, List.length_cons, List.length_drop]; omega
  refine And.intro ?_ ?_
  · (repeat first | (refine And.intro ?_ ?_; first | exact rfl | ((exact fun h => absurd h (by first | decide)); intro yy; clear yy) | (rotate_left; (exact fun h => absurd h (by first | decide)); intro yy; clear yy) | decide | omega) | (with_reducible refine frc_bytesL (by first | omega | decide) ?_) | (with_reducible refine frc_bytesM (by first | omega | decide) ?_))
    refine And.intro ?_ ?_
    · refine ⟨nthC (cs.drop (0 * 4)), src1 rfl, ?_⟩
      refine ⟨⟨Nat.le_refl _, (show 0 + scale 0 (3 + 1) ≤ 0 by decide), (show (0 + (((k : Nat) : Int).toNat - 0)) * 64 ≤ 140737488355328 by omega)⟩, fun c1 hc1 => ?_⟩
      (repeat first | (refine And.intro ?_ ?_; first | exact rfl | ((exact fun h => absurd h (by first | decide)); intro yy; clear yy) | (rotate_left; (exact fun h => absurd h (by first | decide)); intro yy; clear yy) | decide | omega) | (with_reducible refine frc_bytesL (by first | omega | decide) ?_) | (with_reducible refine frc_bytesM (by first | omega | decide) ?_))
      refine And.intro (show 0 + 4 ≤ 4 by decide) ?_
      (repeat first | (refine And.intro ?_ ?_; first | exact rfl | ((exact fun h => absurd h (by first | decide)); intro yy; clear yy) | (rotate_left; (exact fun h => absurd h (by first | decide)); intro yy; clear yy) | decide | omega) | (with_reducible refine frc_bytesL (by first | omega | decide) ?_) | (with_reducible refine frc_bytesM (by first | omega | decide) ?_))
      refine And.intro ⟨hc1, Nat.le_of_eq (Nat.zero_add _), (show (0 + (((k : Nat) : Int).toNat - 0) + 1) * 64 ≤ 140737488355328 by omega)⟩ ?_
      intro c2 hc2
      (repeat first | (refine And.intro ?_ ?_; first | exact rfl | ((exact fun h => absurd h (by first | decide)); intro yy; clear yy) | (rotate_left; (exact fun h => absurd h (by first | decide)); intro yy; clear yy) | decide | omega) | (with_reducible refine frc_bytesL (by first | omega | decide) ?_) | (with_reducible refine frc_bytesM (by first | omega | decide) ?_))
      refine ⟨nthC (cs.drop (k * 4)), src2 rfl, ?_⟩
      refine And.intro ⟨hc2, Nat.le_of_eq (Nat.zero_add _), (show (0 + (((k : Nat) : Int).toNat - 0) + 1 + (n - k)) * 64 ≤ 140737488355328 by omega)⟩ ?_
      intro c3 hc3
      have hc3 : 0 + (((k : Nat) : Int).toNat - 0) + 1 + (n - k) ≤ c3 := hc3
      (repeat first | (refine And.intro ?_ ?_; first | exact rfl | ((exact fun h => absurd h (by first | decide)); intro yy; clear yy) | (rotate_left; (exact fun h => absurd h (by first | decide)); intro yy; clear yy) | decide | omega) | (with_reducible refine frc_bytesL (by first | omega | decide) ?_) | (with_reducible refine frc_bytesM (by first | omega | decide) ?_))
      refine finW_frz [0, 1, 2] rfl (Nat.zero_lt_succ 2) cx0_m rfl (fun W9 ms9 α hL9 hI => ?_)
      have hEv := hR.frzF (F := fun j => !memB j [0, 1, 2]) (n := n + 1) (c := c3) hL9 (by exact fun j hj => app_csm (cs := cs.take (k * 4) ++ flat (evS e x)) (n := 0 + (((k : Nat) : Int).toNat - 0) + 1) (m := n - k) (by rw [List.length_append, List.length_take]; show _ + 4 = _; omega) (fun j hj => app_csm (cs := cs.take (k * 4)) (n := 0 + (((k : Nat) : Int).toNat - 0)) (m := 1) (by rw [List.length_take]; omega) (fun j hj => app_csm (cs := []) (n := 0) (m := ((k : Nat) : Int).toNat - 0) rfl (fun j hj => absurd hj (Nat.not_lt_zero _)) (by rw [List.length_take]; omega) (fun j hj => by rw [nthC_take (by omega) (by omega), Nat.zero_mul, List.drop_zero]) j hj) rfl (fun j hj => updN_new hj) j hj) (by rw [List.length_drop]; omega) (fun j hj => rfl) j hj) (hI 8 rfl) hRl (by omega) (by omega)
      refine ⟨.a (.c (.slc (some ((α 8).add (0 + 0))) (n + 1) c3)), [[.one (.slc (some A) n c)], [.one (.int .i64 (k : Int))]], ⟨⟨rfl, rfl, rfl⟩, ?_⟩, some ((α 8).add (0 + 0)), c3, W9, ms9, hL9, hEv, rfl, rfl⟩
      refine ⟨by rw [show 0 + (((k : Nat) : Int).toNat - 0) + 1 + (n - k) = n + 1 by omega]; rfl, ?_⟩
      (repeat first | exact trivial | refine ent1 ?_)
    · (repeat first | (refine And.intro ?_ ?_; first | exact rfl | ((exact fun h => absurd h (by first | decide)); intro yy; clear yy) | (rotate_left; (exact fun h => absurd h (by first | decide)); intro yy; clear yy) | decide | omega) | (with_reducible refine frc_bytesL (by first | omega | decide) ?_) | (with_reducible refine frc_bytesM (by first | omega | decide) ?_))
      refine And.intro (show 0 + 4 ≤ 4 by decide) ?_
      (repeat first | (refine And.intro ?_ ?_; first | exact rfl | ((exact fun h => absurd h (by first | decide)); intro yy; clear yy) | (rotate_left; (exact fun h => absurd h (by first | decide)); intro yy; clear yy) | decide | omega) | (with_reducible refine frc_bytesL (by first | omega | decide) ?_) | (with_reducible refine frc_bytesM (by first | omega | decide) ?_))
      refine ⟨nthC (cs.drop (0 * 4)), src1 rfl, ?_⟩
      refine ⟨⟨Nat.le_refl _, (show 0 + scale 0 (3 + 1) ≤ 0 by decide), (show (0 + (((k : Nat) : Int).toNat - 0)) * 64 ≤ 140737488355328 by omega)⟩, fun c1 hc1 => ?_⟩
      (repeat first | (refine And.intro ?_ ?_; first | exact rfl | ((exact fun h => absurd h (by first | decide)); intro yy; clear yy) | (rotate_left; (exact fun h => absurd h (by first | decide)); intro yy; clear yy) | decide | omega) | (with_reducible refine frc_bytesL (by first | omega | decide) ?_) | (with_reducible refine frc_bytesM (by first | omega | decide) ?_))
      refine And.intro ⟨hc1, Nat.le_of_eq (Nat.zero_add _), (show (0 + (((k : Nat) : Int).toNat - 0) + 1) * 64 ≤ 140737488355328 by omega)⟩ ?_
      intro c2 hc2
      (repeat first | (refine And.intro ?_ ?_; first | exact rfl | ((exact fun h => absurd h (by first | decide)); intro yy; clear yy) | (rotate_left; (exact fun h => absurd h (by first | decide)); intro yy; clear yy) | decide | omega) | (with_reducible refine frc_bytesL (by first | omega | decide) ?_) | (with_reducible refine frc_bytesM (by first | omega | decide) ?_))
      refine ⟨nthC (cs.drop (k * 4)), src2 rfl, ?_⟩
      refine And.intro ⟨hc2, Nat.le_of_eq (Nat.zero_add _), (show (0 + (((k : Nat) : Int).toNat - 0) + 1 + (n - k)) * 64 ≤ 140737488355328 by omega)⟩ ?_
      intro c3 hc3
      have hc3 : 0 + (((k : Nat) : Int).toNat - 0) + 1 + (n - k) ≤ c3 := hc3
      (repeat first | (refine And.intro ?_ ?_; first | exact rfl | ((exact fun h => absurd h (by first | decide)); intro yy; clear yy) | (rotate_left; (exact fun h => absurd h (by first | decide)); intro yy; clear yy) | decide | omega) | (with_reducible refine frc_bytesL (by first | omega | decide) ?_) | (with_reducible refine frc_bytesM (by first | omega | decide) ?_))
      refine finW_frz [0, 1, 2] rfl (Nat.zero_lt_succ 2) cx0_m rfl (fun W9 ms9 α hL9 hI => ?_)
      have hEv := hR.frzF (F := fun j => !memB j [0, 1, 2]) (n := n + 1) (c := c3) hL9 (by exact fun j hj => app_csm (cs := cs.take (k * 4) ++ flat (evS e x)) (n := 0 + (((k : Nat) : Int).toNat - 0) + 1) (m := n - k) (by rw [List.length_append, List.length_take]; show _ + 4 = _; omega) (fun j hj => app_csm (cs := cs.take (k * 4)) (n := 0 + (((k : Nat) : Int).toNat - 0)) (m := 1) (by rw [List.length_take]; omega) (fun j hj => app_csm (cs := []) (n := 0) (m := ((k : Nat) : Int).toNat - 0) rfl (fun j hj => absurd hj (Nat.not_lt_zero _)) (by rw [List.length_take]; omega) (fun j hj => by rw [nthC_take (by omega) (by omega), Nat.zero_mul, List.drop_zero]) j hj) rfl (fun j hj => updN_new hj) j hj) (by rw [List.length_drop]; omega) (fun j hj => rfl) j hj) (hI 8 rfl) hRl (by omega) (by omega)
      refine ⟨.a (.c (.slc (some ((α 8).add (0 + 0))) (n + 1) c3)), [[.one (.slc (some A) n c)], [.one (.int .i64 (k : Int))]], ⟨⟨rfl, rfl, rfl⟩, ?_⟩, some ((α 8).add (0 + 0)), c3, W9, ms9, hL9, hEv, rfl, rfl⟩
      refine ⟨by rw [show 0 + (((k : Nat) : Int).toNat - 0) + 1 + (n - k) = n + 1 by omega]; rfl, ?_⟩
      (repeat first | exact trivial | refine ent1 ?_)
  · (repeat first | (refine And.intro ?_ ?_; first | exact rfl | ((exact fun h => absurd h (by first | decide)); intro yy; clear yy) | (rotate_left; (exact fun h => absurd h (by first | decide)); intro yy; clear yy) | decide | omega) | (with_reducible refine frc_bytesL (by first | omega | decide) ?_) | (with_reducible refine frc_bytesM (by first | omega | decide) ?_))
    refine And.intro (show 0 + 4 ≤ 4 by decide) ?_
    (repeat first | (refine And.intro ?_ ?_; first | exact rfl | ((exact fun h => absurd h (by first | decide)); intro yy; clear yy) | (rotate_left; (exact fun h => absurd h (by first | decide)); intro yy; clear yy) | decide | omega) | (with_reducible refine frc_bytesL (by first | omega | decide) ?_) | (with_reducible refine frc_bytesM (by first | omega | decide) ?_))
    refine ⟨nthC (cs.drop (0 * 4)), src1 rfl, ?_⟩
    refine ⟨⟨Nat.le_refl _, (show 0 + scale 0 (3 + 1) ≤ 0 by decide), (show (0 + (((k : Nat) : Int).toNat - 0)) * 64 ≤ 140737488355328 by omega)⟩, fun c1 hc1 => ?_⟩
    (repeat first | (refine And.intro ?_ ?_; first | exact rfl | ((exact fun h => absurd h (by first | decide)); intro yy; clear yy) | (rotate_left; (exact fun h => absurd h (by first | decide)); intro yy; clear yy) | decide | omega) | (with_reducible refine frc_bytesL (by first | omega | decide) ?_) | (with_reducible refine frc_bytesM (by first | omega | decide) ?_))
    refine And.intro ⟨hc1, Nat.le_of_eq (Nat.zero_add _), (show (0 + (((k : Nat) : Int).toNat - 0) + 1) * 64 ≤ 140737488355328 by omega)⟩ ?_
    intro c2 hc2
    (repeat first | (refine And.intro ?_ ?_; first | exact rfl | ((exact fun h => absurd h (by first | decide)); intro yy; clear yy) | (rotate_left; (exact fun h => absurd h (by first | decide)); intro yy; clear yy) | decide | omega) | (with_reducible refine frc_bytesL (by first | omega | decide) ?_) | (with_reducible refine frc_bytesM (by first | omega | decide) ?_))
    refine ⟨nthC (cs.drop (k * 4)), src2 rfl, ?_⟩
    refine And.intro ⟨hc2, Nat.le_of_eq (Nat.zero_add _), (show (0 + (((k : Nat) : Int).toNat - 0) + 1 + (n - k)) * 64 ≤ 140737488355328 by omega)⟩ ?_
    intro c3 hc3
    have hc3 : 0 + (((k : Nat) : Int).toNat - 0) + 1 + (n - k) ≤ c3 := hc3
    (repeat first | (refine And.intro ?_ ?_; first | exact rfl | ((exact fun h => absurd h (by first | decide)); intro yy; clear yy) | (rotate_left; (exact fun h => absurd h (by first | decide)); intro yy; clear yy) | decide | omega) | (with_reducible refine frc_bytesL (by first | omega | decide) ?_) | (with_reducible refine frc_bytesM (by first | omega | decide) ?_))
    refine finW_frz [0, 1, 2] rfl (Nat.zero_lt_succ 2) cx0_m rfl (fun W9 ms9 α hL9 hI => ?_)
    have hEv := hR.frzF (F := fun j => !memB j [0, 1, 2]) (n := n + 1) (c := c3) hL9 (by exact fun j hj => app_csm (cs := cs.take (k * 4) ++ flat (evS e x)) (n := 0 + (((k : Nat) : Int).toNat - 0) + 1) (m := n - k) (by rw [List.length_append, List.length_take]; show _ + 4 = _; omega) (fun j hj => app_csm (cs := cs.take (k * 4)) (n := 0 + (((k : Nat) : Int).toNat - 0)) (m := 1) (by rw [List.length_take]; omega) (fun j hj => app_csm (cs := []) (n := 0) (m := ((k : Nat) : Int).toNat - 0) rfl (fun j hj => absurd hj (Nat.not_lt_zero _)) (by rw [List.length_take]; omega) (fun j hj => by rw [nthC_take (by omega) (by omega), Nat.zero_mul, List.drop_zero]) j hj) rfl (fun j hj => updN_new hj) j hj) (by rw [List.length_drop]; omega) (fun j hj => rfl) j hj) (hI 8 rfl) hRl (by omega) (by omega)
    refine ⟨.a (.c (.slc (some ((α 8).add (0 + 0))) (n + 1) c3)), [[.one (.slc (some A) n c)], [.one (.int .i64 (k : Int))]], ⟨⟨rfl, rfl, rfl⟩, ?_⟩, some ((α 8).add (0 + 0)), c3, W9, ms9, hL9, hEv, rfl, rfl⟩
    refine ⟨by rw [show 0 + (((k : Nat) : Int).toNat - 0) + 1 + (n - k) = n + 1 by omega]; rfl, ?_⟩
    (repeat first | exact trivial | refine ent1 ?_)
end Sx
end Go.Proofs.Ytdakmieapdpidaa
end

section
/-
  Events with one put between them, of none: binnaclelaw25.BlogErrors$1. No condition.
-/
namespace Go.Proofs.Ytdakmieapdpidaa
set_option linter.unusedVariables false
namespace Sx
open Go.RowKit Sha Vi Ev

set_option maxRecDepth 20000 in
set_option maxHeartbeats 16000000 in
theorem fn_with0 {W : World} {ms : List Nat} {x : EvC} {e : Ev} (hx : EvAt W ms x e) :
    FnR Try.prog tds 10 3 [[.past W ms], [.one (.slc none 0 0)], [.one (.int .i64 0)]] [.agg (evS e x), .c (.p 1 0 0), .c (.p 2 0 0)] (fun _ => True)
    (fun y hs => ∃ a' c' W' ms', Later W ms W' ms' ∧ EvsAt W' ms' a' 1 c' [e] ∧ y = .a (.c (.slc a' 1 c')) ∧ hs = [[.past W' ms'], [.one (.slc none 0 0)], [.one (.int .i64 0)]]) := by
  refine fn_of_bodyW tds_ok follows_ Try.func10 rfl (t := .a (.agg (evS e x)) :: .a (.c (.p 1 0 0)) :: .a (.c (.p 2 0 0)) :: anys (Try.f10.ntmps - 3)) rfl (fun w r0 hr _ => ?_)
  obtain ⟨x0, x1, x2, rfl⟩ := len3' hr
  (repeat first | (refine And.intro ?_ ?_; first | exact rfl | ((exact fun h => absurd h (by first | decide)); intro yy; clear yy) | (rotate_left; (exact fun h => absurd h (by first | decide)); intro yy; clear yy) | decide | omega) | (with_reducible refine frc_bytesL (by first | omega | decide) ?_) | (with_reducible refine frc_bytesM (by first | omega | decide) ?_))
  refine ⟨some [3], [1001, 1001, 1002, 1003, 1005, 1008, 1009, 1010, 3, 0, 6, 3, 4, 6, 2006, 2007, 2011, 2012, 0, 2004, 2007, 2011, 2012, 0, 2000, 2004, 2007, 2011, 2012, 0], [(0, false), (1, true), (2, true), (3, true), (4, false), (5, true), (6, false), (7, false), (8, true), (9, true), (10, true), (11, false), (12, false)], [], by (show planAny tds _ _ _ _ = true; decide +kernel), ?_⟩
  (repeat first | (refine And.intro ?_ ?_; first | exact rfl | ((exact fun h => absurd h (by first | decide)); intro yy; clear yy) | (rotate_left; (exact fun h => absurd h (by first | decide)); intro yy; clear yy) | decide | omega) | (with_reducible refine frc_bytesL (by first | omega | decide) ?_) | (with_reducible refine frc_bytesM (by first | omega | decide) ?_))
  have hR : RowAt W ms (([] ++ flat (evS e x)) ++ []) [e] := (RowAt.nil.snoc hx).append RowAt.nil
  refine And.intro ?_ ?_
  · (repeat first | (refine And.intro ?_ ?_; first | exact rfl | ((exact fun h => absurd h (by first | decide)); intro yy; clear yy) | (rotate_left; (exact fun h => absurd h (by first | decide)); intro yy; clear yy) | decide | omega) | (with_reducible refine frc_bytesL (by first | omega | decide) ?_) | (with_reducible refine frc_bytesM (by first | omega | decide) ?_))
    refine And.intro ?_ ?_
    · refine ⟨rfl, ?_⟩
      refine ⟨⟨Nat.le_refl _, (show 0 + scale 0 (3 + 1) ≤ 0 by decide), (show (0 + (0)) * 64 ≤ 140737488355328 by omega)⟩, fun c1 hc1 => ?_⟩
      (repeat first | (refine And.intro ?_ ?_; first | exact rfl | ((exact fun h => absurd h (by first | decide)); intro yy; clear yy) | (rotate_left; (exact fun h => absurd h (by first | decide)); intro yy; clear yy) | decide | omega) | (with_reducible refine frc_bytesL (by first | omega | decide) ?_) | (with_reducible refine frc_bytesM (by first | omega | decide) ?_))
      refine And.intro (show 0 + 4 ≤ 4 by decide) ?_
      (repeat first | (refine And.intro ?_ ?_; first | exact rfl | ((exact fun h => absurd h (by first | decide)); intro yy; clear yy) | (rotate_left; (exact fun h => absurd h (by first | decide)); intro yy; clear yy) | decide | omega) | (with_reducible refine frc_bytesL (by first | omega | decide) ?_) | (with_reducible refine frc_bytesM (by first | omega | decide) ?_))
      refine And.intro ⟨hc1, Nat.le_of_eq (Nat.zero_add _), (show (0 + (0) + 1) * 64 ≤ 140737488355328 by omega)⟩ ?_
      intro c2 hc2
      (repeat first | (refine And.intro ?_ ?_; first | exact rfl | ((exact fun h => absurd h (by first | decide)); intro yy; clear yy) | (rotate_left; (exact fun h => absurd h (by first | decide)); intro yy; clear yy) | decide | omega) | (with_reducible refine frc_bytesL (by first | omega | decide) ?_) | (with_reducible refine frc_bytesM (by first | omega | decide) ?_))
      refine And.intro ⟨hc2, Nat.le_of_eq (Nat.zero_add _), (show (0 + (0) + 1 + 0) * 64 ≤ 140737488355328 by omega)⟩ ?_
      intro c3 hc3
      have hc3 : 0 + (0) + 1 + 0 ≤ c3 := hc3
      (repeat first | (refine And.intro ?_ ?_; first | exact rfl | ((exact fun h => absurd h (by first | decide)); intro yy; clear yy) | (rotate_left; (exact fun h => absurd h (by first | decide)); intro yy; clear yy) | decide | omega) | (with_reducible refine frc_bytesL (by first | omega | decide) ?_) | (with_reducible refine frc_bytesM (by first | omega | decide) ?_))
      refine finW_frz [0, 1, 2] rfl (Nat.zero_lt_succ 2) cx0_m rfl (fun W9 ms9 α hL9 hI => ?_)
      have hEv := hR.frzF (F := fun j => !memB j [0, 1, 2]) (n := 1) (c := c3) hL9 (by exact fun j hj => app_csm (cs := [] ++ flat (evS e x)) (n := 0 + 0 + 1) (m := 0) (by rfl) (fun j hj => app_csm (cs := []) (n := 0 + 0) (m := 1) rfl (fun j hj => absurd hj (Nat.not_lt_zero _)) rfl (fun j hj => updN_new hj) j hj) rfl (fun j hj => absurd hj (by omega)) j hj) (hI 8 rfl) rfl (by omega) (by decide)
      refine ⟨.a (.c (.slc (some ((α 8).add (0 + 0))) 1 c3)), [[.one (.slc none 0 0)], [.one (.int .i64 0)]], ⟨⟨rfl, rfl, rfl⟩, ?_⟩, some ((α 8).add (0 + 0)), c3, W9, ms9, hL9, hEv, rfl, rfl⟩
      refine ⟨rfl, ?_⟩
      (repeat first | exact trivial | refine ent1 ?_)
    · (repeat first | (refine And.intro ?_ ?_; first | exact rfl | ((exact fun h => absurd h (by first | decide)); intro yy; clear yy) | (rotate_left; (exact fun h => absurd h (by first | decide)); intro yy; clear yy) | decide | omega) | (with_reducible refine frc_bytesL (by first | omega | decide) ?_) | (with_reducible refine frc_bytesM (by first | omega | decide) ?_))
      refine And.intro (show 0 + 4 ≤ 4 by decide) ?_
      (repeat first | (refine And.intro ?_ ?_; first | exact rfl | ((exact fun h => absurd h (by first | decide)); intro yy; clear yy) | (rotate_left; (exact fun h => absurd h (by first | decide)); intro yy; clear yy) | decide | omega) | (with_reducible refine frc_bytesL (by first | omega | decide) ?_) | (with_reducible refine frc_bytesM (by first | omega | decide) ?_))
      intro c1 hc1
      (repeat first | (refine And.intro ?_ ?_; first | exact rfl | ((exact fun h => absurd h (by first | decide)); intro yy; clear yy) | (rotate_left; (exact fun h => absurd h (by first | decide)); intro yy; clear yy) | decide | omega) | (with_reducible refine frc_bytesL (by first | omega | decide) ?_) | (with_reducible refine frc_bytesM (by first | omega | decide) ?_))
      refine And.intro ⟨hc1, Nat.le_of_eq (Nat.zero_add _), (show (0 + (0) + 1) * 64 ≤ 140737488355328 by omega)⟩ ?_
      intro c2 hc2
      (repeat first | (refine And.intro ?_ ?_; first | exact rfl | ((exact fun h => absurd h (by first | decide)); intro yy; clear yy) | (rotate_left; (exact fun h => absurd h (by first | decide)); intro yy; clear yy) | decide | omega) | (with_reducible refine frc_bytesL (by first | omega | decide) ?_) | (with_reducible refine frc_bytesM (by first | omega | decide) ?_))
      refine And.intro ⟨hc2, Nat.le_of_eq (Nat.zero_add _), (show (0 + (0) + 1 + 0) * 64 ≤ 140737488355328 by omega)⟩ ?_
      intro c3 hc3
      have hc3 : 0 + (0) + 1 + 0 ≤ c3 := hc3
      (repeat first | (refine And.intro ?_ ?_; first | exact rfl | ((exact fun h => absurd h (by first | decide)); intro yy; clear yy) | (rotate_left; (exact fun h => absurd h (by first | decide)); intro yy; clear yy) | decide | omega) | (with_reducible refine frc_bytesL (by first | omega | decide) ?_) | (with_reducible refine frc_bytesM (by first | omega | decide) ?_))
      refine finW_frz [0, 1, 2] rfl (Nat.zero_lt_succ 2) cx0_m rfl (fun W9 ms9 α hL9 hI => ?_)
      have hEv := hR.frzF (F := fun j => !memB j [0, 1, 2]) (n := 1) (c := c3) hL9 (by exact fun j hj => app_csm (cs := [] ++ flat (evS e x)) (n := 0 + 0 + 1) (m := 0) (by rfl) (fun j hj => app_csm (cs := []) (n := 0 + 0) (m := 1) rfl (fun j hj => absurd hj (Nat.not_lt_zero _)) rfl (fun j hj => updN_new hj) j hj) rfl (fun j hj => absurd hj (by omega)) j hj) (hI 8 rfl) rfl (by omega) (by decide)
      refine ⟨.a (.c (.slc (some ((α 8).add (0 + 0))) 1 c3)), [[.one (.slc none 0 0)], [.one (.int .i64 0)]], ⟨⟨rfl, rfl, rfl⟩, ?_⟩, some ((α 8).add (0 + 0)), c3, W9, ms9, hL9, hEv, rfl, rfl⟩
      refine ⟨rfl, ?_⟩
      (repeat first | exact trivial | refine ent1 ?_)
  · (repeat first | (refine And.intro ?_ ?_; first | exact rfl | ((exact fun h => absurd h (by first | decide)); intro yy; clear yy) | (rotate_left; (exact fun h => absurd h (by first | decide)); intro yy; clear yy) | decide | omega) | (with_reducible refine frc_bytesL (by first | omega | decide) ?_) | (with_reducible refine frc_bytesM (by first | omega | decide) ?_))
    refine And.intro (show 0 + 4 ≤ 4 by decide) ?_
    (repeat first | (refine And.intro ?_ ?_; first | exact rfl | ((exact fun h => absurd h (by first | decide)); intro yy; clear yy) | (rotate_left; (exact fun h => absurd h (by first | decide)); intro yy; clear yy) | decide | omega) | (with_reducible refine frc_bytesL (by first | omega | decide) ?_) | (with_reducible refine frc_bytesM (by first | omega | decide) ?_))
    intro c1 hc1
    (repeat first | (refine And.intro ?_ ?_; first | exact rfl | ((exact fun h => absurd h (by first | decide)); intro yy; clear yy) | (rotate_left; (exact fun h => absurd h (by first | decide)); intro yy; clear yy) | decide | omega) | (with_reducible refine frc_bytesL (by first | omega | decide) ?_) | (with_reducible refine frc_bytesM (by first | omega | decide) ?_))
    refine And.intro ⟨hc1, Nat.le_of_eq (Nat.zero_add _), (show (0 + (0) + 1) * 64 ≤ 140737488355328 by omega)⟩ ?_
    intro c2 hc2
    (repeat first | (refine And.intro ?_ ?_; first | exact rfl | ((exact fun h => absurd h (by first | decide)); intro yy; clear yy) | (rotate_left; (exact fun h => absurd h (by first | decide)); intro yy; clear yy) | decide | omega) | (with_reducible refine frc_bytesL (by first | omega | decide) ?_) | (with_reducible refine frc_bytesM (by first | omega | decide) ?_))
    refine And.intro ⟨hc2, Nat.le_of_eq (Nat.zero_add _), (show (0 + (0) + 1 + 0) * 64 ≤ 140737488355328 by omega)⟩ ?_
    intro c3 hc3
    have hc3 : 0 + (0) + 1 + 0 ≤ c3 := hc3
    (repeat first | (refine And.intro ?_ ?_; first | exact rfl | ((exact fun h => absurd h (by first | decide)); intro yy; clear yy) | (rotate_left; (exact fun h => absurd h (by first | decide)); intro yy; clear yy) | decide | omega) | (with_reducible refine frc_bytesL (by first | omega | decide) ?_) | (with_reducible refine frc_bytesM (by first | omega | decide) ?_))
    refine finW_frz [0, 1, 2] rfl (Nat.zero_lt_succ 2) cx0_m rfl (fun W9 ms9 α hL9 hI => ?_)
    have hEv := hR.frzF (F := fun j => !memB j [0, 1, 2]) (n := 1) (c := c3) hL9 (by exact fun j hj => app_csm (cs := [] ++ flat (evS e x)) (n := 0 + 0 + 1) (m := 0) (by rfl) (fun j hj => app_csm (cs := []) (n := 0 + 0) (m := 1) rfl (fun j hj => absurd hj (Nat.not_lt_zero _)) rfl (fun j hj => updN_new hj) j hj) rfl (fun j hj => absurd hj (by omega)) j hj) (hI 8 rfl) rfl (by omega) (by decide)
    refine ⟨.a (.c (.slc (some ((α 8).add (0 + 0))) 1 c3)), [[.one (.slc none 0 0)], [.one (.int .i64 0)]], ⟨⟨rfl, rfl, rfl⟩, ?_⟩, some ((α 8).add (0 + 0)), c3, W9, ms9, hL9, hEv, rfl, rfl⟩
    refine ⟨rfl, ?_⟩
    (repeat first | exact trivial | refine ent1 ?_)
end Sx
end Go.Proofs.Ytdakmieapdpidaa
end

section
/-
  Events that can't stand in a log, or not there: plain. No condition.
-/
namespace Go.Proofs.Ytdakmieapdpidaa
set_option linter.unusedVariables false
namespace Ev
open Vi Sha

/-- The time of the last one. -/
def lastT : BitVec 64 → List Ev → BitVec 64
  | last, [] => last
  | _, e :: r => lastT e.t r
theorem GoodL.take : ∀ {es : List Ev} {last : BitVec 64} (k : Nat), GoodL last es → GoodL last (es.take k)
  | [], _, k, _ => by rw [List.take_nil]; trivial
  | _ :: _, _, 0, _ => trivial
  | _ :: _, _, k + 1, ⟨h1, h2, h3⟩ => ⟨h1, fun h => by rw [h2 h]; exact List.take_nil, GoodL.take k h3⟩
theorem GoodL.hi : ∀ {es : List Ev} {last : BitVec 64} {k : Nat} {z : Ev}, GoodL last es → es[k]? = some z → z.t.toNat ≤ 1125899906842624
  | [], _, k, _, _, h => by simp at h
  | e :: r, _, 0, z, ⟨h1, _, _⟩, h => by simp at h; subst h; exact h1.hi
  | e :: r, _, k + 1, z, ⟨_, _, h3⟩, h => GoodL.hi h3 (by simpa using h)
theorem lastT_le : ∀ {es : List Ev} {last : BitVec 64} {k : Nat} {z : Ev}, GoodL last es → es[k]? = some z → (lastT last (es.take k)).toNat ≤ z.t.toNat
  | [], _, k, _, _, h => by simp at h
  | e :: r, _, 0, z, ⟨h1, _, _⟩, h => by simp at h; subst h; exact h1.lo
  | e :: r, _, k + 1, z, ⟨_, _, h3⟩, h => lastT_le (k := k) h3 (by simpa using h)
theorem lastT_eq : ∀ {es : List Ev} {last : BitVec 64} {k : Nat} {z : Ev}, es[k]? = some z → lastT last (es.take (k + 1)) = z.t
  | [], _, k, _, h => by simp at h
  | e :: r, _, 0, z, h => by simp at h; subst h; rfl
  | e :: r, last, k + 1, z, h => by
    rw [List.take_succ_cons]
    exact lastT_eq (last := e.t) (k := k) (by simpa using h)
theorem encL_mid : ∀ {es : List Ev} {last : BitVec 64} {b : Bs} {e : Ev} {fs : List Ev}, GoodL last es → (∀ x ∈ es, x.k ≠ 19#8) → encL (es ++ e :: fs) last b = encL (e :: fs) (lastT last es) (b ++ catE last es)
  | [], last, b, e, fs, _, _ => by show encL (e :: fs) last b = encL (e :: fs) last (b ++ []); rw [List.append_nil]
  | x :: r, last, b, e, fs, ⟨h1, h2, h3⟩, hk => by
    obtain ⟨c1, c2⟩ := h1.check
    rw [List.cons_append, encL, if_neg (by omega), if_neg c2, if_neg (fun hc => hk x (List.mem_cons_self ..) hc.1), encL_mid h3 (fun y hy => hk y (List.mem_cons_of_mem _ hy)), lastT, catE, List.append_assoc]
theorem encM_mid {es fs : List Ev} {e : Ev} (hl : es.length + fs.length < 2048) (h1 : GoodL 0#64 es) (h2 : ∀ x ∈ es, x.k ≠ 19#8) : ∃ b, encM (es ++ e :: fs) = encL (e :: fs) (lastT 0#64 es) b := by
  unfold encM
  rw [if_neg (by rw [List.length_append, List.length_cons]; omega), encL_mid h1 h2]
  exact ⟨_, rfl⟩
/-- One that may not be anywhere. -/
theorem enc_bad {es fs : List Ev} {e : Ev} (hl : es.length + fs.length < 2048) (h1 : GoodL 0#64 es) (h2 : ∀ x ∈ es, x.k ≠ 19#8) (h : checkM e ≠ 0) : encM (es ++ e :: fs) = ([], checkM e) := by
  obtain ⟨b, hb⟩ := encM_mid (e := e) hl h1 h2
  rw [hb, encL, if_pos h]
/-- One that says that the log is cut, ahead of others. -/
theorem enc_cut {es fs : List Ev} {t : BitVec 64} (hl : es.length + fs.length < 2048) (h1 : GoodL 0#64 es) (h2 : ∀ x ∈ es, x.k ≠ 19#8) (ht : t.toNat ≤ 1125899906842624) (hle : (lastT 0#64 es).toNat ≤ t.toNat) (hf : fs ≠ []) :
    encM (es ++ ⟨19#8, t, [], []⟩ :: fs) = ([], 10) := by
  obtain ⟨b, hb⟩ := encM_mid (e := ⟨19#8, t, [], []⟩) hl h1 h2
  have hg : GoodE (lastT 0#64 es) ⟨19#8, t, [], []⟩ := ⟨rfl, hle, ht, rfl, (fun n hn => by cases hn), Nat.zero_le _, fun _ => rfl⟩
  obtain ⟨c1, c2⟩ := hg.check
  rw [hb, encL, if_neg (by omega), if_neg c2, if_pos ⟨rfl, hf⟩]
/-- One of an earlier time. -/
theorem enc_time {es fs : List Ev} {t : BitVec 64} (hl : es.length + fs.length < 2048) (h1 : GoodL 0#64 es) (h2 : ∀ x ∈ es, x.k ≠ 19#8) (ht : t.toNat ≤ 1125899906842624) (hp : 0 < t.toNat) (he : lastT 0#64 es = t) :
    encM (es ++ ⟨6#8, t - 1#64, [1#64], []⟩ :: fs) = ([], 21) := by
  obtain ⟨b, hb⟩ := encM_mid (e := ⟨6#8, t - 1#64, [1#64], []⟩) hl h1 h2
  have h3 : (t - 1#64).toNat = t.toNat - 1 := by
    have := t.isLt
    rw [BitVec.toNat_sub, show (1#64).toNat = 1 from rfl]
    omega
  have hg : GoodE (t - 1#64) ⟨6#8, t - 1#64, [1#64], []⟩ := ⟨rfl, Nat.le_refl _, by show (t - 1#64).toNat ≤ _; omega, rfl, (fun n hn => by simp at hn; subst hn; decide), Nat.zero_le _, fun _ => rfl⟩
  obtain ⟨c1, -⟩ := hg.check
  rw [hb, encL, if_neg (by omega), if_pos (by rw [he, BitVec.lt_def]; show (t - 1#64).toNat < _; omega)]
/-- Many that may be. -/
def manyE (n : Nat) : List Ev := (List.range n).map fun i => ⟨6#8, 0#64, [BitVec.ofNat 64 i], []⟩
theorem good_all : ∀ {es : List Ev}, (∀ e ∈ es, GoodE 0#64 e ∧ e.t = 0#64 ∧ e.k ≠ 19#8) → GoodL 0#64 es
  | [], _ => trivial
  | e :: r, h => by
    obtain ⟨h1, h2, h3⟩ := h e (List.mem_cons_self ..)
    exact ⟨h1, fun hc => absurd hc h3, by rw [h2]; exact good_all fun x hx => h x (List.mem_cons_of_mem _ hx)⟩
theorem manyE_good {n : Nat} (hn : n ≤ 100000) : GoodL 0#64 (manyE n) := by
  refine good_all fun e he => ?_
  obtain ⟨i, hi, rfl⟩ := List.mem_map.1 he
  have hi : i < n := by simpa using hi
  refine ⟨⟨rfl, Nat.le_refl _, Nat.zero_le _, rfl, (fun m hm => ?_), Nat.zero_le _, fun _ => rfl⟩, rfl, (show (6#8 : BitVec 8) ≠ 19#8 by decide)⟩
  simp at hm
  subst hm
  exact lenN_lt (by rw [BitVec.toNat_ofNat, Nat.mod_eq_of_lt (by omega)]; omega)
theorem manyE_len (n : Nat) : (manyE n).length = n := by unfold manyE; simp
end Ev
end Go.Proofs.Ytdakmieapdpidaa
end

section
/-
  Events with one put between them: any. No condition.
-/
namespace Go.Proofs.Ytdakmieapdpidaa
set_option linter.unusedVariables false
namespace Sx
open Go.RowKit Sha Vi Ev

set_option maxRecDepth 20000 in
theorem fn_erowG {W : World} {ms : List Nat} {a : Option Addr} {n c : Nat} {es : List Ev} (h : EvsAt W ms a n c es) {aK : Option Addr} {nK cK : Nat} {ks : Bs} (hK : BsAt W ms aK nK cK ks) (hl : ∀ e ∈ es, e.N.length ≤ 30 ∧ e.D.length ≤ 100) (hn60 : n ≤ 60) :
    FnR Try.prog tds 9 1 [[.past W ms]] [.c (.slc a n c), .c (.slc aK nK cK)] (fun _ => True)
    (fun y hs => ∃ a' c' W' ms', Later W ms W' ms' ∧ EvsAt W' ms' a' n c' (rowE ks es 0 0#64) ∧ (n = 0 → a' = none) ∧ y = .a (.c (.slc a' n c')) ∧ hs = [[.past W' ms']]) := by
  rcases Nat.eq_zero_or_pos n with hn | hn
  · obtain rfl : es = [] := List.length_eq_zero_iff.1 (by rw [h.len, hn])
    subst hn
    refine (fn_erow0 (W := W) (ms := ms) (a := a) (c := c) rfl (aK := aK) (nK := nK) (cK := cK)).mono (fun y hs ⟨h1, h2⟩ => ⟨none, 0, W, ms, Later.refl _ _, EvsAt.nul, fun _ => rfl, h1, h2⟩)
  · exact (fn_erowF h hK hl hn60).mono (fun y hs ⟨a', c', W', ms', h1, h2, h3, h4⟩ => ⟨a', c', W', ms', h1, h2, fun hc => absurd hc (by omega), h3, h4⟩)
theorem fn_with {W : World} {ms : List Nat} {a : Option Addr} {n c : Nat} {es : List Ev} (h : EvsAt W ms a n c es) (hz : n = 0 → a = none) (hn2 : n ≤ 100) {x : EvC} {e : Ev} (hx : EvAt W ms x e) (k : Nat) (hk : k ≤ n) :
    FnR Try.prog tds 10 3 [[.past W ms], [.one (.slc a n c)], [.one (.int .i64 (k : Int))]] [.agg (evS e x), .c (.p 1 0 0), .c (.p 2 0 0)] (fun _ => True)
    (fun y hs => ∃ a' c' W' ms', Later W ms W' ms' ∧ EvsAt W' ms' a' (n + 1) c' (es.take k ++ e :: es.drop k) ∧ y = .a (.c (.slc a' (n + 1) c')) ∧ hs = [[.past W' ms'], [.one (.slc a n c)], [.one (.int .i64 (k : Int))]]) := by
  rcases Nat.eq_zero_or_pos n with hn | hn
  · obtain rfl : a = none := hz hn
    obtain rfl : c = 0 := h.nil rfl
    obtain rfl : es = [] := List.length_eq_zero_iff.1 (by rw [h.len, hn])
    subst hn
    obtain rfl : k = 0 := by omega
    exact fn_with0 hx
  · cases a with
    | none => have := h.nil rfl; have := h.le; omega
    | some A => exact fn_withS h hn hn2 hx k hk
end Sx
end Go.Proofs.Ytdakmieapdpidaa
end

section
/-
  Events with one put between them: binnaclelaw25.BlogErrors$1, its numbers in a block with a name. No condition.
-/
namespace Go.Proofs.Ytdakmieapdpidaa
set_option linter.unusedVariables false
namespace Sx
open Go.RowKit Sha Vi Ev

/-- An event's cells whose numbers have a block with a name. -/
abbrev ev4 (t : BitVec 64) : List SC := [.w8 6#8, .w64 t, .sl 3 0 0 1 1, .slc none 0 0]
theorem eqC_cells {q : List Nat} {f : Nat → SC} {L : List SC} (hf : ∀ j, j < L.length → f j = nthC L j) (hL : ∀ x ∈ L, eqC q x x True) (j : Nat) : eqC q (f j) (nthC L j) True := by
  rcases Nat.lt_or_ge j L.length with h | h
  · rw [hf j h]; exact hL _ (nthC_mem h)
  · rw [nthC_out h]; trivial
abbrev evN (t : BitVec 64) : List Seg := [.one (.w8 6#8), .one (.w64 t), .one (.sl 3 0 0 1 1), .one (.slc none 0 0)]
set_option maxRecDepth 20000 in
set_option maxHeartbeats 16000000 in
theorem fn_withN {W : World} {ms : List Nat} {A : Addr} {n c : Nat} {cs : List SC} {es : List Ev} (hrow : RowAt W ms cs es) (him : ImAt W ms A cs) (hlen : es.length = n) (hle : n ≤ c) (hn : 0 < n) (hn2 : n ≤ 100) (t : BitVec 64) (k : Nat) (hk : k ≤ n) :
    FnR Try.prog tds 10 4 [[.past W ms], [.one (.slc (some A) n c)], [.one (.int .i64 (k : Int))], [.row 1 (nthC [.w64 1#64])]] [.agg (evN t), .c (.p 1 0 0), .c (.p 2 0 0)] (fun _ => True)
    (fun y hs => ∃ c', n + 1 ≤ c' ∧ y = .a (.c (.sl 4 0 0 (n + 1) c')) ∧ hs = [[.past W ms], [.one (.slc (some A) n c)], [.one (.int .i64 (k : Int))], [.row 1 (nthC [.w64 1#64])], [.row (scale c' (3 + 1)) (nthC ((cs.take (k * 4) ++ ev4 t) ++ cs.drop (k * 4)))]]) := by
  refine fn_of_body tds_ok follows_ Try.func10 rfl (t := .a (.agg (evN t)) :: .a (.c (.p 1 0 0)) :: .a (.c (.p 2 0 0)) :: anys (Try.f10.ntmps - 3)) rfl (fun w r0 hr _ => ?_)
  obtain ⟨x0, x1, x2, x3, rfl⟩ := len4' hr
  (repeat first | (refine And.intro ?_ ?_; first | exact rfl | ((exact fun h => absurd h (by first | decide)); intro yy; clear yy) | (rotate_left; (exact fun h => absurd h (by first | decide)); intro yy; clear yy) | decide | omega) | (with_reducible refine frc_bytesL (by first | omega | decide) ?_) | (with_reducible refine frc_bytesM (by first | omega | decide) ?_))
  refine ⟨some [4], [1001, 1001, 1002, 1003, 1005, 1008, 1009, 1010, 3, 0, 6, 3, 4, 6, 2006, 2007, 2011, 2012, 0, 2004, 2007, 2011, 2012, 0, 2000, 2004, 2007, 2011, 2012, 0], [(0, false), (1, true), (2, true), (3, true), (4, false), (5, true), (6, false), (7, false), (8, true), (9, true), (10, true), (11, false), (12, false)], [], by (show planAny tds _ _ _ _ = true; decide +kernel), ?_⟩
  (repeat first | (refine And.intro ?_ ?_; first | exact rfl | ((exact fun h => absurd h (by first | decide)); intro yy; clear yy) | (rotate_left; (exact fun h => absurd h (by first | decide)); intro yy; clear yy) | decide | omega) | (with_reducible refine frc_bytesL (by first | omega | decide) ?_) | (with_reducible refine frc_bytesM (by first | omega | decide) ?_))
  refine frcN_of (show ((k : Int)).toNat = k by omega) ?_
  refine frcN_of (show ((n : Int)).toNat = n by omega) ?_
  refine frcN_of (rfl : n - k = n - k) ?_
  refine frcN_of (rfl : c - k = c - k) ?_
  have hc0 : ¬ c = 0 := by omega
  rw [if_neg hc0]
  obtain ⟨A2, hA2⟩ : ∃ A2, (if c = k then some A else Option.map (fun x => x.add (k * 4)) (some A)) = some A2 := by split <;> exact ⟨_, rfl⟩
  rw [show (if c = k then some A else Option.map (fun x => x.add (k * 4)) (some A)) = some A2 from hA2]
  have hcl := hrow.len
  have src1 : ∀ {C : Cx} {h : List (List Seg)}, (h[0]? = some [.past W ms]) → (((k : Nat) : Int).toNat - 0 = 0 ∨ RawAt C h (A.add (0 * 4)) ((List.range ((((k : Nat) : Int).toNat - 0) * 4)).map (nthC (cs.drop (0 * 4))))) := fun hp => .inr (raw_sub hp him _ _ (by omega))
  have src2 : ∀ {C : Cx} {h : List (List Seg)}, (h[0]? = some [.past W ms]) → (n - k = 0 ∨ RawAt C h A2 ((List.range ((n - k) * 4)).map (nthC (cs.drop (k * 4))))) := fun hp => by
    by_cases hck : c = k
    · exact .inl (by omega)
    · rw [if_neg hck] at hA2
      injection hA2 with hA2
      subst hA2
      exact .inr (raw_sub hp him _ _ (by omega))
  have hLr : ∀ x ∈ (cs.take (k * 4) ++ ev4 t) ++ cs.drop (k * 4), eqC [0, 1, 2, 3, 9] x x True := by
    intro x hx
    rcases List.mem_append.1 hx with hx | hx
    · rcases List.mem_append.1 hx with hx | hx
      · exact eqC_raw (hrow.raw x (List.mem_of_mem_take hx))
      · simp only [List.mem_cons, List.not_mem_nil, or_false] at hx
        rcases hx with rfl | rfl | rfl | rfl
        · (repeat first | exact trivial | refine ent1 ?_)
        · (repeat first | exact trivial | refine ent1 ?_)
        · (repeat first | exact trivial | refine ent1 ?_)
        · (repeat first | exact trivial | refine ent1 ?_)
    · exact eqC_raw (hrow.raw x (List.mem_of_mem_drop hx))
  refine And.intro ?_ ?_
  · (repeat first | (refine And.intro ?_ ?_; first | exact rfl | ((exact fun h => absurd h (by first | decide)); intro yy; clear yy) | (rotate_left; (exact fun h => absurd h (by first | decide)); intro yy; clear yy) | decide | omega) | (with_reducible refine frc_bytesL (by first | omega | decide) ?_) | (with_reducible refine frc_bytesM (by first | omega | decide) ?_))
    refine And.intro ?_ ?_
    · refine ⟨nthC (cs.drop (0 * 4)), src1 rfl, ?_⟩
      refine ⟨⟨Nat.le_refl _, (show 0 + scale 0 (3 + 1) ≤ 0 by decide), (show (0 + (((k : Nat) : Int).toNat - 0)) * 64 ≤ 140737488355328 by omega)⟩, fun c1 hc1 => ?_⟩
      (repeat first | (refine And.intro ?_ ?_; first | exact rfl | ((exact fun h => absurd h (by first | decide)); intro yy; clear yy) | (rotate_left; (exact fun h => absurd h (by first | decide)); intro yy; clear yy) | decide | omega) | (with_reducible refine frc_bytesL (by first | omega | decide) ?_) | (with_reducible refine frc_bytesM (by first | omega | decide) ?_))
      refine And.intro (show 0 + 4 ≤ 4 by decide) ?_
      (repeat first | (refine And.intro ?_ ?_; first | exact rfl | ((exact fun h => absurd h (by first | decide)); intro yy; clear yy) | (rotate_left; (exact fun h => absurd h (by first | decide)); intro yy; clear yy) | decide | omega) | (with_reducible refine frc_bytesL (by first | omega | decide) ?_) | (with_reducible refine frc_bytesM (by first | omega | decide) ?_))
      refine And.intro ⟨hc1, Nat.le_of_eq (Nat.zero_add _), (show (0 + (((k : Nat) : Int).toNat - 0) + 1) * 64 ≤ 140737488355328 by omega)⟩ ?_
      intro c2 hc2
      (repeat first | (refine And.intro ?_ ?_; first | exact rfl | ((exact fun h => absurd h (by first | decide)); intro yy; clear yy) | (rotate_left; (exact fun h => absurd h (by first | decide)); intro yy; clear yy) | decide | omega) | (with_reducible refine frc_bytesL (by first | omega | decide) ?_) | (with_reducible refine frc_bytesM (by first | omega | decide) ?_))
      refine ⟨nthC (cs.drop (k * 4)), src2 rfl, ?_⟩
      refine And.intro ⟨hc2, Nat.le_of_eq (Nat.zero_add _), (show (0 + (((k : Nat) : Int).toNat - 0) + 1 + (n - k)) * 64 ≤ 140737488355328 by omega)⟩ ?_
      intro c3 hc3
      have hc3 : 0 + (((k : Nat) : Int).toNat - 0) + 1 + (n - k) ≤ c3 := hc3
      (repeat first | (refine And.intro ?_ ?_; first | exact rfl | ((exact fun h => absurd h (by first | decide)); intro yy; clear yy) | (rotate_left; (exact fun h => absurd h (by first | decide)); intro yy; clear yy) | decide | omega) | (with_reducible refine frc_bytesL (by first | omega | decide) ?_) | (with_reducible refine frc_bytesM (by first | omega | decide) ?_))
      refine ⟨.a (.c (.sl 4 0 0 (n + 1) c3)), [[.past W ms], [.one (.slc (some A) n c)], [.one (.int .i64 (k : Int))], [.row 1 (nthC [.w64 1#64])], [.row (scale c3 (3 + 1)) (nthC ((cs.take (k * 4) ++ ev4 t) ++ cs.drop (k * 4)))]], ⟨[0, 1, 2, 3, 9], ⟨rfl, rfl, rfl⟩, ?_⟩, c3, (by omega), rfl, rfl⟩
      refine ⟨rfl, (by omega : 0 + (((k : Nat) : Int).toNat - 0) + 1 + (n - k) = n + 1), rfl, ?_⟩
      (repeat first | exact trivial | refine ent1 ?_)
      refine ⟨fun j _ => eqC_cells (L := [.w64 1#64]) (fun _ _ => rfl) (fun x hx => by simp at hx; subst hx; (repeat first | exact trivial | refine ent1 ?_)) j, ?_⟩
      (repeat first | exact trivial | refine ent1 ?_)
      refine ⟨fun j _ => eqC_cells (L := (cs.take (k * 4) ++ ev4 t) ++ cs.drop (k * 4)) ?_ hLr j, ?_⟩
      · exact fun j hj => app_csm (cs := cs.take (k * 4) ++ ev4 t) (n := 0 + (((k : Nat) : Int).toNat - 0) + 1) (m := n - k) (by rw [List.length_append, List.length_take]; show _ + 4 = _; omega) (fun j hj => app_csm (cs := cs.take (k * 4)) (n := 0 + (((k : Nat) : Int).toNat - 0)) (m := 1) (by rw [List.length_take]; omega) (fun j hj => app_csm (cs := []) (n := 0) (m := ((k : Nat) : Int).toNat - 0) rfl (fun j hj => absurd hj (Nat.not_lt_zero _)) (by rw [List.length_take]; omega) (fun j hj => by rw [nthC_take (by omega) (by omega), Nat.zero_mul, List.drop_zero]) j hj) rfl (fun j hj => updN_new hj) j hj) (by rw [List.length_drop]; omega) (fun j hj => rfl) j hj
      (repeat first | exact trivial | refine ent1 ?_)
    · (repeat first | (refine And.intro ?_ ?_; first | exact rfl | ((exact fun h => absurd h (by first | decide)); intro yy; clear yy) | (rotate_left; (exact fun h => absurd h (by first | decide)); intro yy; clear yy) | decide | omega) | (with_reducible refine frc_bytesL (by first | omega | decide) ?_) | (with_reducible refine frc_bytesM (by first | omega | decide) ?_))
      refine And.intro (show 0 + 4 ≤ 4 by decide) ?_
      (repeat first | (refine And.intro ?_ ?_; first | exact rfl | ((exact fun h => absurd h (by first | decide)); intro yy; clear yy) | (rotate_left; (exact fun h => absurd h (by first | decide)); intro yy; clear yy) | decide | omega) | (with_reducible refine frc_bytesL (by first | omega | decide) ?_) | (with_reducible refine frc_bytesM (by first | omega | decide) ?_))
      refine ⟨nthC (cs.drop (0 * 4)), src1 rfl, ?_⟩
      refine ⟨⟨Nat.le_refl _, (show 0 + scale 0 (3 + 1) ≤ 0 by decide), (show (0 + (((k : Nat) : Int).toNat - 0)) * 64 ≤ 140737488355328 by omega)⟩, fun c1 hc1 => ?_⟩
      (repeat first | (refine And.intro ?_ ?_; first | exact rfl | ((exact fun h => absurd h (by first | decide)); intro yy; clear yy) | (rotate_left; (exact fun h => absurd h (by first | decide)); intro yy; clear yy) | decide | omega) | (with_reducible refine frc_bytesL (by first | omega | decide) ?_) | (with_reducible refine frc_bytesM (by first | omega | decide) ?_))
      refine And.intro ⟨hc1, Nat.le_of_eq (Nat.zero_add _), (show (0 + (((k : Nat) : Int).toNat - 0) + 1) * 64 ≤ 140737488355328 by omega)⟩ ?_
      intro c2 hc2
      (repeat first | (refine And.intro ?_ ?_; first | exact rfl | ((exact fun h => absurd h (by first | decide)); intro yy; clear yy) | (rotate_left; (exact fun h => absurd h (by first | decide)); intro yy; clear yy) | decide | omega) | (with_reducible refine frc_bytesL (by first | omega | decide) ?_) | (with_reducible refine frc_bytesM (by first | omega | decide) ?_))
      refine ⟨nthC (cs.drop (k * 4)), src2 rfl, ?_⟩
      refine And.intro ⟨hc2, Nat.le_of_eq (Nat.zero_add _), (show (0 + (((k : Nat) : Int).toNat - 0) + 1 + (n - k)) * 64 ≤ 140737488355328 by omega)⟩ ?_
      intro c3 hc3
      have hc3 : 0 + (((k : Nat) : Int).toNat - 0) + 1 + (n - k) ≤ c3 := hc3
      (repeat first | (refine And.intro ?_ ?_; first | exact rfl | ((exact fun h => absurd h (by first | decide)); intro yy; clear yy) | (rotate_left; (exact fun h => absurd h (by first | decide)); intro yy; clear yy) | decide | omega) | (with_reducible refine frc_bytesL (by first | omega | decide) ?_) | (with_reducible refine frc_bytesM (by first | omega | decide) ?_))
      refine ⟨.a (.c (.sl 4 0 0 (n + 1) c3)), [[.past W ms], [.one (.slc (some A) n c)], [.one (.int .i64 (k : Int))], [.row 1 (nthC [.w64 1#64])], [.row (scale c3 (3 + 1)) (nthC ((cs.take (k * 4) ++ ev4 t) ++ cs.drop (k * 4)))]], ⟨[0, 1, 2, 3, 9], ⟨rfl, rfl, rfl⟩, ?_⟩, c3, (by omega), rfl, rfl⟩
      refine ⟨rfl, (by omega : 0 + (((k : Nat) : Int).toNat - 0) + 1 + (n - k) = n + 1), rfl, ?_⟩
      (repeat first | exact trivial | refine ent1 ?_)
      refine ⟨fun j _ => eqC_cells (L := [.w64 1#64]) (fun _ _ => rfl) (fun x hx => by simp at hx; subst hx; (repeat first | exact trivial | refine ent1 ?_)) j, ?_⟩
      (repeat first | exact trivial | refine ent1 ?_)
      refine ⟨fun j _ => eqC_cells (L := (cs.take (k * 4) ++ ev4 t) ++ cs.drop (k * 4)) ?_ hLr j, ?_⟩
      · exact fun j hj => app_csm (cs := cs.take (k * 4) ++ ev4 t) (n := 0 + (((k : Nat) : Int).toNat - 0) + 1) (m := n - k) (by rw [List.length_append, List.length_take]; show _ + 4 = _; omega) (fun j hj => app_csm (cs := cs.take (k * 4)) (n := 0 + (((k : Nat) : Int).toNat - 0)) (m := 1) (by rw [List.length_take]; omega) (fun j hj => app_csm (cs := []) (n := 0) (m := ((k : Nat) : Int).toNat - 0) rfl (fun j hj => absurd hj (Nat.not_lt_zero _)) (by rw [List.length_take]; omega) (fun j hj => by rw [nthC_take (by omega) (by omega), Nat.zero_mul, List.drop_zero]) j hj) rfl (fun j hj => updN_new hj) j hj) (by rw [List.length_drop]; omega) (fun j hj => rfl) j hj
      (repeat first | exact trivial | refine ent1 ?_)
  · (repeat first | (refine And.intro ?_ ?_; first | exact rfl | ((exact fun h => absurd h (by first | decide)); intro yy; clear yy) | (rotate_left; (exact fun h => absurd h (by first | decide)); intro yy; clear yy) | decide | omega) | (with_reducible refine frc_bytesL (by first | omega | decide) ?_) | (with_reducible refine frc_bytesM (by first | omega | decide) ?_))
    refine And.intro (show 0 + 4 ≤ 4 by decide) ?_
    (repeat first | (refine And.intro ?_ ?_; first | exact rfl | ((exact fun h => absurd h (by first | decide)); intro yy; clear yy) | (rotate_left; (exact fun h => absurd h (by first | decide)); intro yy; clear yy) | decide | omega) | (with_reducible refine frc_bytesL (by first | omega | decide) ?_) | (with_reducible refine frc_bytesM (by first | omega | decide) ?_))
    refine ⟨nthC (cs.drop (0 * 4)), src1 rfl, ?_⟩
    refine ⟨⟨Nat.le_refl _, (show 0 + scale 0 (3 + 1) ≤ 0 by decide), (show (0 + (((k : Nat) : Int).toNat - 0)) * 64 ≤ 140737488355328 by omega)⟩, fun c1 hc1 => ?_⟩
    (repeat first | (refine And.intro ?_ ?_; first | exact rfl | ((exact fun h => absurd h (by first | decide)); intro yy; clear yy) | (rotate_left; (exact fun h => absurd h (by first | decide)); intro yy; clear yy) | decide | omega) | (with_reducible refine frc_bytesL (by first | omega | decide) ?_) | (with_reducible refine frc_bytesM (by first | omega | decide) ?_))
    refine And.intro ⟨hc1, Nat.le_of_eq (Nat.zero_add _), (show (0 + (((k : Nat) : Int).toNat - 0) + 1) * 64 ≤ 140737488355328 by omega)⟩ ?_
    intro c2 hc2
    (repeat first | (refine And.intro ?_ ?_; first | exact rfl | ((exact fun h => absurd h (by first | decide)); intro yy; clear yy) | (rotate_left; (exact fun h => absurd h (by first | decide)); intro yy; clear yy) | decide | omega) | (with_reducible refine frc_bytesL (by first | omega | decide) ?_) | (with_reducible refine frc_bytesM (by first | omega | decide) ?_))
    refine ⟨nthC (cs.drop (k * 4)), src2 rfl, ?_⟩
    refine And.intro ⟨hc2, Nat.le_of_eq (Nat.zero_add _), (show (0 + (((k : Nat) : Int).toNat - 0) + 1 + (n - k)) * 64 ≤ 140737488355328 by omega)⟩ ?_
    intro c3 hc3
    have hc3 : 0 + (((k : Nat) : Int).toNat - 0) + 1 + (n - k) ≤ c3 := hc3
    (repeat first | (refine And.intro ?_ ?_; first | exact rfl | ((exact fun h => absurd h (by first | decide)); intro yy; clear yy) | (rotate_left; (exact fun h => absurd h (by first | decide)); intro yy; clear yy) | decide | omega) | (with_reducible refine frc_bytesL (by first | omega | decide) ?_) | (with_reducible refine frc_bytesM (by first | omega | decide) ?_))
    refine ⟨.a (.c (.sl 4 0 0 (n + 1) c3)), [[.past W ms], [.one (.slc (some A) n c)], [.one (.int .i64 (k : Int))], [.row 1 (nthC [.w64 1#64])], [.row (scale c3 (3 + 1)) (nthC ((cs.take (k * 4) ++ ev4 t) ++ cs.drop (k * 4)))]], ⟨[0, 1, 2, 3, 9], ⟨rfl, rfl, rfl⟩, ?_⟩, c3, (by omega), rfl, rfl⟩
    refine ⟨rfl, (by omega : 0 + (((k : Nat) : Int).toNat - 0) + 1 + (n - k) = n + 1), rfl, ?_⟩
    (repeat first | exact trivial | refine ent1 ?_)
    refine ⟨fun j _ => eqC_cells (L := [.w64 1#64]) (fun _ _ => rfl) (fun x hx => by simp at hx; subst hx; (repeat first | exact trivial | refine ent1 ?_)) j, ?_⟩
    (repeat first | exact trivial | refine ent1 ?_)
    refine ⟨fun j _ => eqC_cells (L := (cs.take (k * 4) ++ ev4 t) ++ cs.drop (k * 4)) ?_ hLr j, ?_⟩
    · exact fun j hj => app_csm (cs := cs.take (k * 4) ++ ev4 t) (n := 0 + (((k : Nat) : Int).toNat - 0) + 1) (m := n - k) (by rw [List.length_append, List.length_take]; show _ + 4 = _; omega) (fun j hj => app_csm (cs := cs.take (k * 4)) (n := 0 + (((k : Nat) : Int).toNat - 0)) (m := 1) (by rw [List.length_take]; omega) (fun j hj => app_csm (cs := []) (n := 0) (m := ((k : Nat) : Int).toNat - 0) rfl (fun j hj => absurd hj (Nat.not_lt_zero _)) (by rw [List.length_take]; omega) (fun j hj => by rw [nthC_take (by omega) (by omega), Nat.zero_mul, List.drop_zero]) j hj) rfl (fun j hj => updN_new hj) j hj) (by rw [List.length_drop]; omega) (fun j hj => rfl) j hj
    (repeat first | exact trivial | refine ent1 ?_)
end Sx
end Go.Proofs.Ytdakmieapdpidaa
end
