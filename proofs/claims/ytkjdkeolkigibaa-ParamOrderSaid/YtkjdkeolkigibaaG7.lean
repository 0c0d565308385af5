/-
  Texts of this claim, part 7: Sxzn, Rw, Sxzf, PoD, PoE, PoF. No condition of its own.
-/
import Derived.Test.YtkjdkeolkigibaaG6
section
/-
  A contract over a block that is only read holds for data that nobody turns: its name is struck. Over any program. No condition of its own.
-/
namespace Go.Proofs.Ytkjdkeolkigibaa
set_option linter.unusedVariables false
namespace Sx
open Go.RowKit

theorem SC.Is.off {x : SC} {j : Nat} {α : Nat → Addr} {r r' : Rho} (hr : ∀ i, i ≠ j → r'[i]? = r[i]?) {v : Value} (h : (x.rz (fun i => Nat.beq i j) α).Is r v) : (x.rz (fun i => Nat.beq i j) α).Is r' v := by
  cases x <;> simp only [SC.rz] at h ⊢
  case p i b o =>
    cases e : Nat.beq i j
    · rw [e] at h
      obtain ⟨B, f, e2, rfl⟩ := h
      exact ⟨B, f, (hr i (fun hc => by subst hc; rw [Nat.beq_refl] at e; cases e)).trans e2, rfl⟩
    · rw [e] at h; exact h
  case sl i b o n c =>
    cases e : Nat.beq i j
    · rw [e] at h
      obtain ⟨B, f, e2, rfl⟩ := h
      exact ⟨B, f, (hr i (fun hc => by subst hc; rw [Nat.beq_refl] at e; cases e)).trans e2, rfl⟩
    · rw [e] at h; exact h
  case sn z i b o n c =>
    cases e : Nat.beq i j
    · rw [e] at h
      rcases h with ⟨h1, h2⟩ | ⟨h1, B, f, e2, h2⟩ | h
      · exact .inl ⟨h1, h2⟩
      · exact .inr (.inl ⟨h1, B, f, (hr i (fun hc => by subst hc; rw [Nat.beq_refl] at e; cases e)).trans e2, h2⟩)
      · exact .inr (.inr h)
    · rw [e] at h; exact h
  case clo g i b o =>
    cases e : Nat.beq i j
    · rw [e] at h
      obtain ⟨B, f, e2, rfl⟩ := h
      exact ⟨B, f, (hr i (fun hc => by subst hc; rw [Nat.beq_refl] at e; cases e)).trans e2, rfl⟩
    · rw [e] at h; exact h
  case cap g i b o =>
    cases e : Nat.beq i j
    · rw [e] at h
      obtain ⟨B, f, e2, rfl⟩ := h
      exact ⟨B, f, (hr i (fun hc => by subst hc; rw [Nat.beq_refl] at e; cases e)).trans e2, rfl⟩
    · rw [e] at h; exact h
  case cap2 g i b o i2 c p =>
    cases e : Nat.beq i j
    · rw [e] at h
      cases e' : Nat.beq i2 j
      · rw [e'] at h
        obtain ⟨B, f, e2, B', f', e3, rfl⟩ := h
        exact ⟨B, f, (hr i (fun hc => by subst hc; rw [Nat.beq_refl] at e; cases e)).trans e2, B', f', (hr i2 (fun hc => by subst hc; rw [Nat.beq_refl] at e'; cases e')).trans e3, rfl⟩
      · rw [e'] at h; exact h
    · rw [e] at h; exact h
  case mh i =>
    cases e : Nat.beq i j
    · rw [e] at h
      obtain ⟨B, f, e2, rfl⟩ := h
      exact ⟨B, f, (hr i (fun hc => by subst hc; rw [Nat.beq_refl] at e; cases e)).trans e2, rfl⟩
    · rw [e] at h; exact h
  all_goals exact h
/-- Nothing there is called j. -/
def Free (j : Nat) (α : Nat → Addr) (l : List SC) : Prop := ∀ x ∈ l, x.rz (fun i => Nat.beq i j) α = x
/-- One thing in a name's place. -/
def unC (j : Nat) (a : Addr) : SC → SC → Prop
  | .slc (some b) n c, .sl i b' o n' c' => i = j ∧ b' = 0 ∧ o = 0 ∧ n = n' ∧ c = c' ∧ b = a
  | .slc (some b) n c, .sn z i b' o n' c' => z = false ∧ i = j ∧ b' = 0 ∧ o = 0 ∧ n = n' ∧ c = c' ∧ b = a
  | .ptr (some b), .p i b' o => i = j ∧ b' = 0 ∧ o = 0 ∧ b = a
  | x, y => x = y ∧ y.rz (fun i => Nat.beq i j) (fun _ => a) = y
def unL (j : Nat) (a : Addr) : List Seg → List Seg → Prop
  | [], [] => True
  | .one x :: r, .one y :: r' => unC j a x y ∧ unL j a r r'
  | .row n f :: r, .row m g :: r' => n = m ∧ (∀ i, i < n → unC j a (f i) (g i)) ∧ unL j a r r'
  | _, _ => False
def unA (j : Nat) (a : Addr) : SA → SA → Prop
  | .c x, .c y => unC j a x y
  | .agg l, .agg l' => unL j a l l'
  | _, _ => False
theorem unL_spec {j : Nat} {a : Addr} : ∀ {l l' : List Seg}, unL j a l l' → (flat l).length = (flat l').length ∧ ∀ (d : Nat) (x y : SC), (flat l)[d]? = some x → (flat l')[d]? = some y → unC j a x y
  | [], [], _ => ⟨rfl, fun d x y e => by simp [flat] at e⟩
  | .one x :: r, .one y :: r', h => by
    obtain ⟨h1, h2⟩ := unL_spec h.2
    refine ⟨by simp [flat, h1], fun d u v e1 e2 => ?_⟩
    cases d with
    | zero => simp [flat] at e1 e2; subst e1; subst e2; exact h.1
    | succ d => exact h2 d u v (by simpa [flat] using e1) (by simpa [flat] using e2)
  | .row n f :: r, .row m g :: r', h => by
    obtain ⟨rfl, h3, h4⟩ := h
    obtain ⟨h1, h2⟩ := unL_spec h4
    refine ⟨by simp [flat, h1], fun d u v e1 e2 => ?_⟩
    simp only [flat] at e1 e2
    by_cases hd : d < n
    · rw [List.getElem?_append_left (by simpa using hd)] at e1 e2
      simp [hd] at e1 e2
      subst e1; subst e2
      exact h3 d hd
    · rw [List.getElem?_append_right (by simpa using Nat.le_of_not_lt hd)] at e1 e2
      simp at e1 e2
      exact h2 _ u v e1 e2
  | [], .one _ :: _, h => h.elim
  | [], .row _ _ :: _, h => h.elim
  | [], .obj _ :: _, h => h.elim
  | [], .past _ _ :: _, h => h.elim
  | .one _ :: _, [], h => h.elim
  | .one _ :: _, .row _ _ :: _, h => h.elim
  | .one _ :: _, .obj _ :: _, h => h.elim
  | .one _ :: _, .past _ _ :: _, h => h.elim
  | .row _ _ :: _, [], h => h.elim
  | .row _ _ :: _, .one _ :: _, h => h.elim
  | .row _ _ :: _, .obj _ :: _, h => h.elim
  | .row _ _ :: _, .past _ _ :: _, h => h.elim
  | .obj _ :: _, _, h => by cases ‹List Seg› with
    | nil => exact h.elim
    | cons x r => cases x <;> exact h.elim
  | .past _ _ :: _, _, h => by cases ‹List Seg› with
    | nil => exact h.elim
    | cons x r => cases x <;> exact h.elim
def unAs (j : Nat) (a : Addr) : List SA → List SA → Prop
  | [], [] => True
  | x :: r, y :: r' => unA j a x y ∧ unAs j a r r'
  | _, _ => False
section
variable {j : Nat} {a : Addr} {r r' : Rho}
theorem SC.Is.fix {x : SC} (hx : x.rz (fun i => Nat.beq i j) (fun _ => a) = x) (hr : ∀ i, i ≠ j → r'[i]? = r[i]?) {v : Value} (h : x.Is r v) : x.Is r' v := by
  rw [← hx] at h ⊢
  exact h.off hr
theorem unC_spec {x y : SC} (h : unC j a x y) (hs : a.spot = none) (hj : r'[j]? = some (a.block, a.off)) (hr : ∀ i, i ≠ j → r'[i]? = r[i]?) {v : Value} (hv : x.Is r v) : y.Is r' v := by
  unfold unC at h
  split at h
  · obtain ⟨rfl, rfl, rfl, rfl, rfl, h6⟩ := h
    rw [h6] at hv
    refine ⟨a.block, a.off, hj, ?_⟩
    rw [show v = _ from hv]
    cases a; simp at hs; subst hs; rfl
  · obtain ⟨rfl, rfl, rfl, rfl, rfl, rfl, h6⟩ := h
    rw [h6] at hv
    refine .inr (.inl ⟨rfl, a.block, a.off, hj, ?_⟩)
    rw [show v = _ from hv]
    cases a; simp at hs; subst hs; rfl
  · obtain ⟨rfl, rfl, rfl, h6⟩ := h
    rw [h6] at hv
    refine ⟨a.block, a.off, hj, ?_⟩
    rw [show v = _ from hv]
    cases a; simp at hs; subst hs; rfl
  · obtain ⟨rfl, h2⟩ := h
    exact hv.fix h2 hr
theorem unA_spec {x y : SA} (h : unA j a x y) (hs : a.spot = none) (hj : r'[j]? = some (a.block, a.off)) (hr : ∀ i, i ≠ j → r'[i]? = r[i]?) {v : Value} (hv : x.Is r v) : y.Is r' v := by
  cases x with
  | c x =>
    cases y with
    | c y => exact unC_spec h hs hj hr hv
    | agg l => exact h.elim
  | agg l =>
    cases y with
    | c y => exact h.elim
    | agg l' =>
      obtain ⟨k1, k2⟩ := unL_spec h
      obtain ⟨vs, e, h1, h2⟩ := hv
      refine ⟨vs, e, by rw [← k1]; exact h1, fun d y e => ?_⟩
      have hd : d < (flat l).length := by
        rw [k1]
        exact (List.getElem?_eq_some_iff.1 e).1
      obtain ⟨u, e1, e2⟩ := h2 d _ (List.getElem?_eq_getElem hd)
      exact ⟨u, e1, unC_spec (k2 d _ y (List.getElem?_eq_getElem hd) e) hs hj hr e2⟩
theorem unAs_spec (hs : a.spot = none) (hj : r'[j]? = some (a.block, a.off)) (hr : ∀ i, i ≠ j → r'[i]? = r[i]?) : ∀ {l l' : List SA} {vs : List Value}, unAs j a l l' → IsAs r l vs → IsAs r' l' vs
  | [], [], vs, _, h => ⟨h.1, fun d x e => by simp at e⟩
  | x :: l, y :: l', vs, h, hv => by
    cases vs with
    | nil => have := hv.1; simp at this
    | cons v vs =>
      have ht := unAs_spec hs hj hr (vs := vs) h.2 ⟨by simpa using hv.1, fun d z e => hv.2 (d + 1) z e⟩
      refine ⟨by simpa using ht.1, fun d z e => ?_⟩
      cases d with
      | zero =>
        simp at e; subst e
        obtain ⟨u, e1, e2⟩ := hv.2 0 x rfl
        exact ⟨u, e1, unA_spec h.1 hs hj hr e2⟩
      | succ d => exact ht.2 d z e
  | [], _ :: _, _, h, _ => h.elim
  | _ :: _, [], _, h, _ => h.elim
end
theorem Rho.set_ne {r : Rho} {j : Nat} (x : Nat × Nat) (i : Nat) (h : i ≠ j) : (r.set j x)[i]? = r[i]? := List.getElem?_set_ne (Ne.symm h)
/-- The block of a name that is struck: what is read there is data that nobody turns. -/
theorem FnR.unname {P : Program} {T : List (Nat × TD)} {f : FuncId} {n : Nat} {h0 : List (List Seg)} {args args' : List SA} {raw : World → Prop} {Res : SV → List (List Seg) → Prop} (h : FnR P T f n h0 args raw Res) (j : Nat) (hj : j < n) {W : World} {ms : List Nat} {a : Addr} {ch : List Seg}
    (hch : h0[j]? = some ch) (hnp : ∀ W ms, ch ≠ [.past W ms]) (him : ImAt W ms a (flat ch)) (hfix : ∀ x ∈ flat ch, x.raw = x) (hfree : ∀ i c, i ≠ j → h0[i]? = some c → Free j (fun _ => a) (flat c)) (hargs : unAs j a args' args) :
    FnR P T f n (h0.set j [.past W ms]) args' raw (fun x hs => ∃ x' hs', Res x' hs' ∧ x = x'.rz (fun i => Nat.beq i j) (fun _ => a) ∧ hs = (rzH (fun i => Nat.beq i j) (fun _ => a) hs').set j [.past W ms]) := by
  intro w r0 vs ok ha hraw
  obtain ⟨i1, i2, i3, i4⟩ := him
  have hjl : j < h0.length := (List.getElem?_eq_some_iff.1 hch).1
  have hlen0 : r0.length = h0.length := by have := ok.len; simpa using this
  have hjr : j < r0.length := by omega
  have hpast : (h0.set j [.past W ms])[j]? = some [.past W ms] := by rw [List.getElem?_set_self hjl]
  obtain ⟨p1, _, p3⟩ := ok.past j W ms hpast
  obtain ⟨xj, hxj⟩ : ∃ x, r0[j]? = some x := ⟨_, List.getElem?_eq_getElem hjr⟩
  have s1 : (r0.set j (a.block, a.off))[j]? = some (a.block, a.off) := by rw [List.getElem?_set_self hjr]
  have s2 : ∀ i, i ≠ j → (r0.set j (a.block, a.off))[i]? = r0[i]? := fun i hi => Rho.set_ne _ i hi
  have hh : ∀ (i : Nat) (c : List Seg), i ≠ j → ((h0.set j [.past W ms])[i]? = some c ↔ h0[i]? = some c) := fun i c hi => by rw [List.getElem?_set_ne (Ne.symm hi)]
  have hd : (r0.set j (a.block, a.off)).drop n = r0.drop n := by
    rw [List.drop_set_of_lt hj]
  have hgl : ∀ i, i ≠ j → getH (h0.set j [.past W ms]) i = getH h0 i := fun i hi => by rw [getH_eq, getH_eq, List.getElem?_set_ne (Ne.symm hi)]
  have mem_ms : ∀ B, B ∈ (r0.drop n).map (·.1) → B < W.heap.size → B ∈ ms := fun B hB hlt => by
    obtain ⟨i, f, hi, e⟩ := mem_drop.1 hB
    exact p3 i B f hi e hlt
  -- what the contract's own caller has
  have ok1 : HeapOk (cx0 P T w (r0.set j (a.block, a.off)) n h0) h0 (r0.set j (a.block, a.off)) w := by
    refine ⟨Ext.refl _ _, RLe.refl _, ?_, by rw [List.length_set]; exact hlen0, fun i c B f hi hr => ?_, fun i B f ho hr => ?_, fun i B f ho hr => ?_, fun i B f ho hlv hr => ?_, fun i c ho hlv hi => ?_, fun i k B f f' c c' hik o1 o2 hi hk hri hrk => ?_, fun i m B f ho hi hr => ?_, fun i W2 ms2 hi => ?_⟩
    · show n ≤ (r0.set j (a.block, a.off)).length
      rw [List.length_set]; exact ok.rol
    · by_cases hij : i = j
      · subst hij
        rw [s1] at hr
        injection hr with hr
        injection hr with hr1 hr2
        subst hr1; subst hr2
        rw [hch] at hi
        injection hi with hi
        subst hi
        have hb : Nat.ble n i = false := by
          cases e : Nat.ble n i
          · rfl
          · have := ble_le e; omega
        show At (Nat.ble n i) _ _ _ _ _
        rw [hb]
        intro d x e
        obtain ⟨v, e1, e2⟩ := i4 d x e
        refine ⟨v, p1.cell (p := ⟨a.block, a.off + d, none⟩) i3 e1, ?_, fun h => Bool.noConfusion h⟩
        have hx := hfix x (List.mem_of_getElem? e)
        rw [← hx] at e2 ⊢
        cases x <;> first | exact e2 | exact SC.Is.one e2
      · rw [s2 i hij] at hr
        have hAt := ok.chunks i c B f ((hh i c hij).2 hi) hr
        intro d x e
        obtain ⟨v, e1, e2, e3⟩ := hAt d x e
        exact ⟨v, e1, e2.fix (hfree i c hij hi x (List.mem_of_getElem? e)) s2, e3⟩
    · have ho : n ≤ i := ho
      rw [s2 i (by omega)] at hr
      exact ok.lt i B f ho hr
    · exact .inl (mem_drop.2 ⟨i, f, ho, hr⟩)
    · have ho : i < n := ho
      by_cases hij : i = j
      · subst hij
        rw [s1] at hr
        injection hr with hr
        injection hr with hr1 hr2
        subst hr1; subst hr2
        refine ⟨fun hc => ?_, Nat.lt_of_lt_of_le i2 p1.size⟩
        have hc : a.block ∈ ((r0.set i (a.block, a.off)).drop n).map (·.1) := hc
        rw [hd] at hc
        exact i3 (mem_ms _ hc i2)
      · rw [s2 i hij] at hr
        have hlv' : flat (getH (h0.set j [.past W ms]) i) ≠ [] := by rw [hgl i hij]; exact hlv
        obtain ⟨g1, g2⟩ := ok.ros i B f ho hlv' hr
        refine ⟨fun hc => g1 ?_, g2⟩
        have hc : B ∈ ((r0.set j (a.block, a.off)).drop n).map (·.1) := hc
        rw [hd] at hc
        exact hc
    · have : getH h0 i = c := by rw [getH_eq, hi]; rfl
      rw [← this]
      exact Classical.byContradiction hlv
    · have o1 : n ≤ i := o1
      have o2 : n ≤ k := o2
      rw [s2 i (by omega)] at hri
      rw [s2 k (by omega)] at hrk
      exact ok.apart i k B f f' c c' hik o1 o2 ((hh i c (by omega)).2 hi) ((hh k c' (by omega)).2 hk) hri hrk
    · have o1 : n ≤ i := ho
      rw [s2 i (by omega)] at hr
      exact ok.maps i m B f o1 ((hh i _ (by omega)).2 hi) hr
    · by_cases hij : i = j
      · subst hij
        rw [hch] at hi
        injection hi with hi
        exact absurd hi (hnp W2 ms2)
      · obtain ⟨q1, _, q3⟩ := ok.past i W2 ms2 ((hh i _ hij).2 hi)
        refine ⟨q1, fun B _ g2 g3 => ⟨i, W2, ms2, hi, g2, g3⟩, fun k B f ho hr hlt => ?_⟩
        have ho : n ≤ k := ho
        rw [s2 k (by omega)] at hr
        exact q3 k B f ho hr hlt
  refine (h w _ vs ok1 (unAs_spec i1 s1 s2 hargs ha) hraw).mono ?_
  rintro e w' ⟨v, x, hs, r', rfl, hx, hok, hres⟩
  have hlen' : r'.length = hs.length := hok.len
  have hrl : (r0.set j (a.block, a.off)).length ≤ r'.length := hok.rlen
  rw [List.length_set] at hrl
  have hjr' : j < r'.length := by omega
  have hjv : r'[j]? = some (a.block, a.off) := hok.agree j _ s1
  have hα : Lies (fun i => Nat.beq i j) (fun _ => a) r' := fun i B f e1 e2 => by
    obtain rfl := Nat.eq_of_beq_eq_true e1
    rw [hjv] at e2
    injection e2 with e2
    injection e2 with e3 e4
    cases a; simp at i1 e3 e4; subst i1; subst e3; subst e4; rfl
  have t1 : (r'.set j xj)[j]? = some xj := by rw [List.getElem?_set_self hjr']
  have t2 : ∀ i, i ≠ j → (r'.set j xj)[i]? = r'[i]? := fun i hi => Rho.set_ne _ i hi
  have okz := hok.rz hα
  have hzl : (rzH (fun i => Nat.beq i j) (fun _ => a) hs).length = hs.length := by rw [rzH_eq, List.length_map]
  have hjz : j < (rzH (fun i => Nat.beq i j) (fun _ => a) hs).length := by omega
  have hm : ∀ B, B ∈ (cx0 P T w (r0.set j (a.block, a.off)) n h0).m ↔ B ∈ (r0.drop n).map (·.1) := fun B => by
    show B ∈ ((r0.set j (a.block, a.off)).drop n).map (·.1) ↔ _
    rw [hd]
  have get : ∀ (i : Nat) (c : List Seg), ((rzH (fun i => Nat.beq i j) (fun _ => a) hs).set j [.past W ms])[i]? = some c → (i = j ∧ c = [.past W ms]) ∨ (i ≠ j ∧ (rzH (fun i => Nat.beq i j) (fun _ => a) hs)[i]? = some c) := fun i c e => by
    by_cases hij : j = i
    · subst hij
      rw [List.getElem?_set_self hjz] at e
      injection e with e
      exact .inl ⟨rfl, e.symm⟩
    · rw [List.getElem?_set_ne hij] at e
      exact .inr ⟨fun e => hij e.symm, e⟩
  refine ⟨v, _, _, r'.set j xj, rfl, ?_, ?_, x, hs, hres, rfl, rfl⟩
  · have := hx.rz hα
    cases x with
    | any => trivial
    | a x =>
      cases x with
      | c x => exact SC.Is.off t2 (x := x) this
      | agg l =>
        obtain ⟨vs, e, h1, h2⟩ := this
        refine ⟨vs, e, h1, fun d y e => ?_⟩
        obtain ⟨u, e1, e2⟩ := h2 d y e
        refine ⟨u, e1, ?_⟩
        rw [flat_rz, List.getElem?_map, Option.map_eq_some_iff] at e
        obtain ⟨z, _, rfl⟩ := e
        exact e2.off t2
    | tup l =>
      obtain ⟨vs, e, hl, h2⟩ := this
      refine ⟨vs, e, hl, fun d y e => ?_⟩
      obtain ⟨u, e1, e2⟩ := h2 d y e
      refine ⟨u, e1, ?_⟩
      rw [rzA_eq, List.getElem?_map, Option.map_eq_some_iff] at e
      obtain ⟨z, _, rfl⟩ := e
      cases z with
      | c z => exact SC.Is.off t2 (x := z) e2
      | agg l =>
        obtain ⟨vs, e, h1, h3⟩ := e2
        refine ⟨vs, e, h1, fun d y e => ?_⟩
        obtain ⟨u, e1, e2⟩ := h3 d y e
        refine ⟨u, e1, ?_⟩
        rw [flat_rz, List.getElem?_map, Option.map_eq_some_iff] at e
        obtain ⟨z, _, rfl⟩ := e
        exact e2.off t2
  · have own' : ∀ (i B f : Nat), n ≤ i → r'[i]? = some (B, f) → B ∈ (r0.drop n).map (·.1) ∨ w.heap.size ≤ B := fun i B f ho hr => by
      rcases hok.own i B f ho hr with h1 | h1
      · exact .inl ((hm B).1 h1)
      · exact .inr h1
    have hext : Ext ((r0.drop n).map (·.1)) w w' := hok.ext.mono fun B hB => .inl ((hm B).1 hB)
    refine ⟨hext, fun i x e => ?_, ?_, by rw [List.length_set, List.length_set, hzl]; exact hlen', fun i c B f hi hr => ?_, fun i B f ho hr => ?_, fun i B f ho hr => ?_, fun i B f ho hlv hr => ?_, fun i c ho hlv hi => ?_, fun i k B f f' c c' hik o1 o2 hi hk hri hrk => ?_, fun i m B f ho hi hr => ?_, fun i W2 ms2 hi => ?_⟩
    · by_cases hij : i = j
      · subst hij
        have : some xj = some x := hxj.symm.trans e
        rw [t1, this]
      · rw [t2 i hij]
        exact hok.agree i x (by rw [s2 i hij]; exact e)
    · exact ok.rol
    · rcases get i c hi with ⟨rfl, rfl⟩ | ⟨hij, hi⟩
      · intro d y e; simp [flat] at e
      · rw [t2 i hij] at hr
        have hAt := okz.chunks i c B f hi hr
        intro d y e
        obtain ⟨v, e1, e2, e3⟩ := hAt d y e
        refine ⟨v, e1, ?_, e3⟩
        rw [rzH_eq, List.getElem?_map, Option.map_eq_some_iff] at hi
        obtain ⟨c', _, rfl⟩ := hi
        rw [flat_rz, List.getElem?_map, Option.map_eq_some_iff] at e
        obtain ⟨z, _, rfl⟩ := e
        exact e2.off t2
    · have ho : n ≤ i := ho
      rw [t2 i (by omega)] at hr
      exact hok.lt i B f ho hr
    · have ho : n ≤ i := ho
      rw [t2 i (by omega)] at hr
      exact own' i B f ho hr
    · have ho : i < n := ho
      have hij : i ≠ j := fun e => by subst e; exact hlv (by show flat (getH (h0.set i [.past W ms]) i) = []; rw [getH_eq, List.getElem?_set_self hjl]; rfl)
      rw [t2 i hij] at hr
      have hlv' : flat (getH h0 i) ≠ [] := by rw [← hgl i hij]; exact hlv
      obtain ⟨g1, g2⟩ := hok.ros i B f ho hlv' hr
      exact ⟨fun hc => g1 ((hm B).2 hc), g2⟩
    · have ho : i < n := ho
      rcases get i c hi with ⟨rfl, rfl⟩ | ⟨hij, hi⟩
      · rfl
      · rw [rzH_eq, List.getElem?_map, Option.map_eq_some_iff] at hi
        obtain ⟨c', h1, rfl⟩ := hi
        rw [flat_rz, hok.dead i c' ho (fun hc => hlv (by
          show flat (getH (h0.set j [.past W ms]) i) ≠ []
          rw [hgl i hij]; exact hc)) h1]
        rfl
    · have o1 : n ≤ i := o1
      have o2 : n ≤ k := o2
      rw [t2 i (by omega)] at hri
      rw [t2 k (by omega)] at hrk
      rcases get i c hi with ⟨rfl, _⟩ | ⟨_, hi⟩
      · omega
      rcases get k c' hk with ⟨rfl, _⟩ | ⟨_, hk⟩
      · omega
      exact okz.apart i k B f f' c c' hik o1 o2 hi hk hri hrk
    · have o1 : n ≤ i := ho
      rw [t2 i (by omega)] at hr
      rcases get i _ hi with ⟨rfl, _⟩ | ⟨_, hi⟩
      · omega
      exact okz.maps i m B f o1 hi hr
    · rcases get i _ hi with ⟨rfl, e⟩ | ⟨hij, hi⟩
      · injection e with e _
        injection e with e1 e2
        subst e1; subst e2
        refine ⟨p1.trans2 hext fun B hB => ?_, fun B _ g2 g3 => ⟨i, _, _, hpast, g2, g3⟩, fun k B f ho hr hlt => ?_⟩
        · rcases Nat.lt_or_ge B W2.heap.size with hlt | hge
          · exact .inl (mem_ms B hB hlt)
          · exact .inr hge
        · have ho : n ≤ k := ho
          rw [t2 k (by omega)] at hr
          rcases own' k B f ho hr with h1 | h1
          · exact mem_ms B h1 hlt
          · have := p1.size
            omega
      · obtain ⟨q1, q2, q3⟩ := okz.past i W2 ms2 hi
        refine ⟨q1, fun B g1 g2 g3 => ?_, fun k B f ho hr hlt => ?_⟩
        · obtain ⟨i2, W3, ms3, g4, g5, g6⟩ := q2 B g1 g2 g3
          refine ⟨i2, W3, ms3, ?_, g5, g6⟩
          have : i2 ≠ j := fun e => by
            subst e
            rw [hch] at g4
            injection g4 with g4
            exact hnp W3 ms3 g4
          exact (hh i2 _ this).2 g4
        · have ho : n ≤ k := ho
          rw [t2 k (by omega)] at hr
          exact q3 k B f ho hr hlt
/-- The same where nothing lies there: a slice that is nil. -/
def nuC (j : Nat) : SC → SC → Prop
  | .slc none n c, .sn z _ _ _ n' c' => z = true ∧ n = 0 ∧ c = 0 ∧ n' = 0 ∧ c' = 0
  | .slc (some _) n c, .sn z _ _ _ n' c' => z = false ∧ n = 0 ∧ c = 0 ∧ n' = 0 ∧ c' = 0
  | x, y => x = y
def nuL (j : Nat) : List Seg → List Seg → Prop
  | [], [] => True
  | .one x :: r, .one y :: r' => nuC j x y ∧ nuL j r r'
  | .row n f :: r, .row m g :: r' => n = m ∧ (∀ i, i < n → nuC j (f i) (g i)) ∧ nuL j r r'
  | _, _ => False
def nuA (j : Nat) : SA → SA → Prop
  | .c x, .c y => nuC j x y
  | .agg l, .agg l' => nuL j l l'
  | _, _ => False
def nuAs (j : Nat) : List SA → List SA → Prop
  | [], [] => True
  | x :: r, y :: r' => nuA j x y ∧ nuAs j r r'
  | _, _ => False
theorem nuC_spec {j : Nat} {x y : SC} {r : Rho} (h : nuC j x y) {v : Value} (hv : x.Is r v) : y.Is r v := by
  have base : x = y → y.Is r v := fun e => e ▸ hv
  cases x with
  | slc a n c =>
    cases a with
    | none =>
      cases y with
      | sn z i b o n' c' =>
        obtain ⟨rfl, rfl, rfl, rfl, rfl⟩ := h
        exact Or.inl ⟨rfl, hv, rfl, rfl⟩
      | _ => exact base h
    | some ad =>
      cases y with
      | sn z i b o n' c' =>
        obtain ⟨rfl, rfl, rfl, rfl, rfl⟩ := h
        exact Or.inr (Or.inr ⟨rfl, rfl, rfl, ad.block, ad.off, ad.spot, hv⟩)
      | _ => exact base h
  | _ => exact base h
theorem nuL_spec {j : Nat} : ∀ {l l' : List Seg}, nuL j l l' → (flat l).length = (flat l').length ∧ ∀ (d : Nat) (x y : SC), (flat l)[d]? = some x → (flat l')[d]? = some y → nuC j x y
  | [], [], _ => ⟨rfl, fun d x y e => by simp [flat] at e⟩
  | .one x :: r, .one y :: r', h => by
    obtain ⟨h1, h2⟩ := nuL_spec h.2
    refine ⟨by simp [flat, h1], fun d u v e1 e2 => ?_⟩
    cases d with
    | zero => simp [flat] at e1 e2; subst e1; subst e2; exact h.1
    | succ d => exact h2 d u v (by simpa [flat] using e1) (by simpa [flat] using e2)
  | .row n f :: r, .row m g :: r', h => by
    obtain ⟨rfl, h3, h4⟩ := h
    obtain ⟨h1, h2⟩ := nuL_spec h4
    refine ⟨by simp [flat, h1], fun d u v e1 e2 => ?_⟩
    simp only [flat] at e1 e2
    by_cases hd : d < n
    · rw [List.getElem?_append_left (by simpa using hd)] at e1 e2
      simp [hd] at e1 e2
      subst e1; subst e2
      exact h3 d hd
    · rw [List.getElem?_append_right (by simpa using Nat.le_of_not_lt hd)] at e1 e2
      simp at e1 e2
      exact h2 _ u v e1 e2
  | [], .one _ :: _, h => h.elim
  | [], .row _ _ :: _, h => h.elim
  | [], .obj _ :: _, h => h.elim
  | [], .past _ _ :: _, h => h.elim
  | .one _ :: _, [], h => h.elim
  | .one _ :: _, .row _ _ :: _, h => h.elim
  | .one _ :: _, .obj _ :: _, h => h.elim
  | .one _ :: _, .past _ _ :: _, h => h.elim
  | .row _ _ :: _, [], h => h.elim
  | .row _ _ :: _, .one _ :: _, h => h.elim
  | .row _ _ :: _, .obj _ :: _, h => h.elim
  | .row _ _ :: _, .past _ _ :: _, h => h.elim
  | .obj _ :: _, _, h => by cases ‹List Seg› with
    | nil => exact h.elim
    | cons x r => cases x <;> exact h.elim
  | .past _ _ :: _, _, h => by cases ‹List Seg› with
    | nil => exact h.elim
    | cons x r => cases x <;> exact h.elim
theorem nuA_spec {j : Nat} {x y : SA} {r : Rho} (h : nuA j x y) {v : Value} (hv : x.Is r v) : y.Is r v := by
  cases x with
  | c x =>
    cases y with
    | c y => exact nuC_spec (j := j) h hv
    | agg l => exact h.elim
  | agg l =>
    cases y with
    | c y => exact h.elim
    | agg l' =>
      obtain ⟨k1, k2⟩ := nuL_spec h
      obtain ⟨vs, e, h1, h2⟩ := hv
      refine ⟨vs, e, by rw [← k1]; exact h1, fun d y e => ?_⟩
      have hd : d < (flat l).length := by
        rw [k1]
        exact (List.getElem?_eq_some_iff.1 e).1
      obtain ⟨u, e1, e2⟩ := h2 d _ (List.getElem?_eq_getElem hd)
      exact ⟨u, e1, nuC_spec (k2 d _ y (List.getElem?_eq_getElem hd) e) e2⟩
theorem nuAs_spec {j : Nat} {r : Rho} : ∀ {l l' : List SA} {vs : List Value}, nuAs j l l' → IsAs r l vs → IsAs r l' vs
  | [], [], vs, _, h => ⟨h.1, fun d x e => by simp at e⟩
  | x :: l, y :: l', vs, h, hv => by
    cases vs with
    | nil => have := hv.1; simp at this
    | cons v vs =>
      have ht := nuAs_spec (vs := vs) h.2 ⟨by simpa using hv.1, fun d z e => hv.2 (d + 1) z e⟩
      refine ⟨by simpa using ht.1, fun d z e => ?_⟩
      cases d with
      | zero =>
        simp at e; subst e
        obtain ⟨u, e1, e2⟩ := hv.2 0 x rfl
        exact ⟨u, e1, nuA_spec h.1 e2⟩
      | succ d => exact ht.2 d z e
  | [], _ :: _, _, h, _ => h.elim
  | _ :: _, [], _, h, _ => h.elim
theorem FnR.nul {P : Program} {T : List (Nat × TD)} {f : FuncId} {n : Nat} {h0 : List (List Seg)} {args args' : List SA} {raw : World → Prop} {Res : SV → List (List Seg) → Prop} (h : FnR P T f n h0 args raw Res) (j : Nat) (hj : j < n) {W : World} {ms : List Nat}
    {ch : List Seg} (hch : h0[j]? = some ch) (hfl : flat ch = []) (hnp : ∀ W ms, ch ≠ [.past W ms]) (hargs : nuAs j args' args) :
    FnR P T f n (h0.set j [.past W ms]) args' raw (fun x hs => ∃ hs', Res x hs' ∧ hs = hs'.set j [.past W ms]) := by
  intro w r0 vs ok ha hraw
  have hjl : j < h0.length := (List.getElem?_eq_some_iff.1 hch).1
  have hlen0 : r0.length = h0.length := by have := ok.len; simpa using this
  have hpast : (h0.set j [.past W ms])[j]? = some [.past W ms] := by rw [List.getElem?_set_self hjl]
  obtain ⟨p1, _, p3⟩ := ok.past j W ms hpast
  have hh : ∀ (i : Nat) (c : List Seg), i ≠ j → ((h0.set j [.past W ms])[i]? = some c ↔ h0[i]? = some c) := fun i c hi => by rw [List.getElem?_set_ne (Ne.symm hi)]
  have hgl : ∀ i, i ≠ j → getH (h0.set j [.past W ms]) i = getH h0 i := fun i hi => by rw [getH_eq, getH_eq, List.getElem?_set_ne (Ne.symm hi)]
  have mem_ms : ∀ B, B ∈ (r0.drop n).map (·.1) → B < W.heap.size → B ∈ ms := fun B hB hlt => by
    obtain ⟨i, f, hi, e⟩ := mem_drop.1 hB
    exact p3 i B f hi e hlt
  have lv : ∀ i, flat (getH h0 i) ≠ [] → flat (getH (h0.set j [.past W ms]) i) ≠ [] := fun i hl => by
    by_cases hij : i = j
    · subst hij
      rw [getH_eq, hch] at hl
      exact absurd hfl hl
    · rw [hgl i hij]; exact hl
  have ok1 : HeapOk (cx0 P T w r0 n h0) h0 r0 w := by
    refine ⟨Ext.refl _ _, RLe.refl _, ok.rol, hlen0, fun i c B f hi hr => ?_, ok.lt, ok.own, fun i B f ho hlv hr => ok.ros i B f ho (lv i hlv) hr, fun i c ho hlv hi => ?_, fun i k B f f' c c' hik o1 o2 hi hk hri hrk => ?_, fun i m B f ho hi hr => ?_, fun i W2 ms2 hi => ?_⟩
    · by_cases hij : i = j
      · subst hij
        rw [hch] at hi
        injection hi with hi
        subst hi
        intro d x e; rw [hfl] at e; simp at e
      · exact ok.chunks i c B f ((hh i c hij).2 hi) hr
    · have : getH h0 i = c := by rw [getH_eq, hi]; rfl
      rw [← this]
      exact Classical.byContradiction hlv
    · have o1 : n ≤ i := o1
      have o2 : n ≤ k := o2
      exact ok.apart i k B f f' c c' hik o1 o2 ((hh i c (by omega)).2 hi) ((hh k c' (by omega)).2 hk) hri hrk
    · have o1 : n ≤ i := ho
      exact ok.maps i m B f o1 ((hh i _ (by omega)).2 hi) hr
    · by_cases hij : i = j
      · subst hij
        rw [hch] at hi
        injection hi with hi
        exact absurd hi (hnp W2 ms2)
      · obtain ⟨q1, _, q3⟩ := ok.past i W2 ms2 ((hh i _ hij).2 hi)
        exact ⟨q1, fun B _ g2 g3 => ⟨i, W2, ms2, hi, g2, g3⟩, q3⟩
  refine (h w _ vs ok1 (nuAs_spec hargs ha) hraw).mono ?_
  rintro e w' ⟨v, x, hs, r', rfl, hx, hok, hres⟩
  have hlen' : r'.length = hs.length := hok.len
  have hrl : r0.length ≤ r'.length := hok.rlen
  have hjz : j < hs.length := by omega
  have get : ∀ (i : Nat) (c : List Seg), (hs.set j [.past W ms])[i]? = some c → (i = j ∧ c = [.past W ms]) ∨ (i ≠ j ∧ hs[i]? = some c) := fun i c e => by
    by_cases hij : j = i
    · subst hij
      rw [List.getElem?_set_self hjz] at e
      injection e with e
      exact .inl ⟨rfl, e.symm⟩
    · rw [List.getElem?_set_ne hij] at e
      exact .inr ⟨fun e => hij e.symm, e⟩
  have hext : Ext ((r0.drop n).map (·.1)) w w' := hok.ext
  refine ⟨v, x, _, r', rfl, hx, ?_, hs, hres, rfl⟩
  refine ⟨hext, hok.agree, ok.rol, by rw [List.length_set]; exact hlen', fun i c B f hi hr => ?_, hok.lt, hok.own, fun i B f ho hlv hr => ?_, fun i c ho hlv hi => ?_, fun i k B f f' c c' hik o1 o2 hi hk hri hrk => ?_, fun i m B f ho hi hr => ?_, fun i W2 ms2 hi => ?_⟩
  · rcases get i c hi with ⟨rfl, rfl⟩ | ⟨hij, hi⟩
    · intro d y e; simp [flat] at e
    · exact hok.chunks i c B f hi hr
  · have ho : i < n := ho
    have hij : i ≠ j := fun e => by subst e; exact hlv (by show flat (getH (h0.set i [.past W ms]) i) = []; rw [getH_eq, List.getElem?_set_self hjl]; rfl)
    have hlv' : flat (getH h0 i) ≠ [] := by rw [← hgl i hij]; exact hlv
    exact hok.ros i B f ho hlv' hr
  · have ho : i < n := ho
    rcases get i c hi with ⟨rfl, rfl⟩ | ⟨hij, hi⟩
    · rfl
    · exact hok.dead i c ho (fun hc => hlv (lv i hc)) hi
  · have o1 : n ≤ i := o1
    have o2 : n ≤ k := o2
    rcases get i c hi with ⟨rfl, _⟩ | ⟨_, hi⟩
    · omega
    rcases get k c' hk with ⟨rfl, _⟩ | ⟨_, hk⟩
    · omega
    exact hok.apart i k B f f' c c' hik o1 o2 hi hk hri hrk
  · have o1 : n ≤ i := ho
    rcases get i _ hi with ⟨rfl, _⟩ | ⟨_, hi⟩
    · omega
    exact hok.maps i m B f o1 hi hr
  · rcases get i _ hi with ⟨rfl, e⟩ | ⟨hij, hi⟩
    · injection e with e _
      injection e with e1 e2
      subst e1; subst e2
      refine ⟨p1.trans2 hext fun B hB => ?_, fun B _ g2 g3 => ⟨i, _, _, hpast, g2, g3⟩, fun k B f ho hr hlt => ?_⟩
      · rcases Nat.lt_or_ge B W2.heap.size with hlt | hge
        · exact .inl (mem_ms B hB hlt)
        · exact .inr hge
      · rcases hok.own k B f ho hr with h1 | h1
        · exact mem_ms B h1 hlt
        · have h1 : w.heap.size ≤ B := h1
          have := p1.size
          omega
    · obtain ⟨q1, q2, q3⟩ := hok.past i W2 ms2 hi
      refine ⟨q1, fun B g1 g2 g3 => ?_, q3⟩
      obtain ⟨i2, W3, ms3, g4, g5, g6⟩ := q2 B g1 g2 g3
      refine ⟨i2, W3, ms3, ?_, g5, g6⟩
      have : i2 ≠ j := fun e => by
        subst e
        rw [hch] at g4
        injection g4 with g4
        exact hnp W3 ms3 g4
      exact (hh i2 _ this).2 g4
end Sx
end Go.Proofs.Ytkjdkeolkigibaa
end

section
/-
  Slices of data that nobody turns: numbers, bytes, texts. No condition.
-/
namespace Go.Proofs.Ytkjdkeolkigibaa
set_option linter.unusedVariables false
namespace Sx
open Go.RowKit Sha Vi

theorem ImAt.part {W : World} {ms : List Nat} {a : Addr} {l : List SC} (h : ImAt W ms a l) (o : Nat) {m : List SC} (hm : ∀ j x, m[j]? = some x → l[o + j]? = some x) : ImAt W ms (a.add o) m := by
  obtain ⟨h0, h1, h2, h3⟩ := h
  obtain ⟨B, f, s⟩ := a
  simp only at h0 h1 h2 h3
  subst h0
  rw [add_none]
  exact ⟨rfl, h1, h2, fun j x e => by
    obtain ⟨v, e1, e2⟩ := h3 (o + j) x (hm j x e)
    exact ⟨v, by rw [show f + o + j = f + (o + j) by omega]; exact e1, e2⟩⟩
theorem ImAt.sub {W : World} {ms : List Nat} {a : Addr} {l : List SC} (h : ImAt W ms a l) (o m : Nat) : ImAt W ms (a.add o) ((l.drop o).take m) :=
  h.part o fun j x e => by
    rw [List.getElem?_take] at e
    split at e
    · rwa [List.getElem?_drop] at e
    · cases e
theorem ImAt.one {W : World} {ms : List Nat} {a : Addr} {l : List SC} (h : ImAt W ms a l) {j : Nat} {x : SC} (e : l[j]? = some x) : ImAt W ms (a.add j) [x] :=
  h.part j fun i y e2 => by
    cases i with
    | zero => simp at e2; subst e2; exact e
    | succ i => simp at e2
theorem ImAt.zero {W : World} {ms : List Nat} {a : Addr} {l : List SC} (h : ImAt W ms a l) : a.add 0 = a := by
  obtain ⟨h0, _⟩ := h
  obtain ⟨B, f, s⟩ := a
  simp only at h0; subst h0
  rw [add_none]; rfl
theorem RawAt.past {C : Cx} {h : List (List Seg)} {i : Nat} {W : World} {ms : List Nat} (hp : h[i]? = some [.past W ms]) {a : Addr} {l : List SC} (k : ImAt W ms a l) : RawAt C h a l := .inr ⟨i, W, ms, hp, k⟩
/-- A slice that nobody turns, its cells. -/
structure SlAt (W : World) (ms : List Nat) (a : Option Addr) (n c sz : Nat) (l : List SC) : Prop where
  len : l.length = n * sz
  le : n ≤ c
  cap : n ≤ 9223372036854775807
  nil : a = none → c = 0
  im : ∀ x, a = some x → c ≠ 0 → ImAt W ms x l
theorem SlAt.later {W W' : World} {ms ms' : List Nat} {a : Option Addr} {n c sz : Nat} {l : List SC} (h : SlAt W ms a n c sz l) (k : Later W ms W' ms') : SlAt W' ms' a n c sz l :=
  ⟨h.len, h.le, h.cap, h.nil, fun x e hc => (h.im x e hc).later k⟩
theorem SlAt.nul {W : World} {ms : List Nat} {sz : Nat} : SlAt W ms none 0 0 sz [] := ⟨by simp, Nat.le_refl _, by decide, fun _ => rfl, fun x e _ => by cases e⟩
theorem SlAt.nil_ {W : World} {ms : List Nat} {n c sz : Nat} {l : List SC} (h : SlAt W ms none n c sz l) : n = 0 ∧ c = 0 ∧ l = [] := by
  have h1 := h.nil rfl
  have h2 := h.le
  have h3 : n = 0 := by omega
  exact ⟨h3, h1, List.eq_nil_of_length_eq_zero (by rw [h.len, h3, Nat.zero_mul])⟩
theorem range_nthC (l : List SC) : (List.range l.length).map (nthC l) = l := by
  apply List.ext_getElem (by simp)
  intro i h1 h2
  simp only [List.getElem_map, List.getElem_range]
  have : ∀ (l : List SC) (i : Nat) (h : i < l.length), nthC l i = l[i] := by
    intro l
    induction l with
    | nil => intro i h; simp at h
    | cons x l ih =>
      intro i h
      cases i with
      | zero => rfl
      | succ i => exact ih i (by simpa using h)
  exact this l i h2
/-- What is taken from such a slice. -/
theorem srcR {C : Cx} {h : List (List Seg)} {i : Nat} {W : World} {ms : List Nat} (hp : h[i]? = some [.past W ms]) {a : Addr} {n c sz : Nat} {l : List SC} (k : SlAt W ms (some a) n c sz l) {K : (Nat → SC) → Prop} (hk : K (nthC l)) :
    ∃ f, (n = 0 ∨ RawAt C h a ((List.range (n * sz)).map f)) ∧ K f :=
  ⟨nthC l, by
    rcases Nat.eq_zero_or_pos n with h0 | h0
    · exact .inl h0
    · exact .inr (by rw [← k.len, range_nthC]; exact .past hp (k.im a rfl (by have := k.le; omega))), hk⟩
abbrev BsAt (W : World) (ms : List Nat) (a : Option Addr) (n c : Nat) (l : Bs) : Prop := SlAt W ms a n c 1 (l.map .w8)
theorem SlAt.n1 {α : Type} {g : α → SC} {W : World} {ms : List Nat} {a : Option Addr} {n c : Nat} {l : List α} (h : SlAt W ms a n c 1 (l.map g)) : l.length = n := by
  have := h.len; simpa using this
/-- A load of one of them. -/
theorem loadR {C : Cx} {h : List (List Seg)} {i : Nat} {W : World} {ms : List Nat} (hp : h[i]? = some [.past W ms]) {x : Addr} {l : List SC} (k : ImAt W ms x l) {j : Nat} {y : SC} (e : l[j]? = some y) {K : List Seg → Prop} (hk : K [.one y]) :
    ∃ s, (RawAt C h (x.add j) (flat s) ∧ (flat s).length = 1) ∧ K s :=
  ⟨[.one y], ⟨.past hp (k.one e), rfl⟩, hk⟩
theorem map_get? {α : Type} {g : α → SC} {l : List α} {j : Nat} {y : α} (e : l[j]? = some y) : (l.map g)[j]? = some (g y) := by
  rw [List.getElem?_map, e]; rfl
/-- A row that was given up. -/
theorem SlAt.frz {W : World} {ms : List Nat} {A : Addr} {F : Nat → Bool} {α : Nat → Addr} {N n c sz : Nat} {f : Nat → SC} {l : List SC} (h : flat [.row N f] ≠ [] → ImAt W ms A (((flat [.row N f]).map (SC.rz F α)).map SC.raw)) (hN : scale c sz = N) (hn : n ≤ c) (hc : n ≤ 9223372036854775807) (hsz : sz ≠ 0)
    (hl : l.length = n * sz) (hf : ∀ j x, l[j]? = some x → f j = x) (hr : ∀ x ∈ l, (x.rz F α).raw = x) : SlAt W ms (some (A.add (0 + 0))) n c sz l := by
  refine ⟨hl, hn, hc, (fun e => by cases e), fun x e h0 => ?_⟩
  injection e with e
  subst e
  rw [scale_eq] at hN
  have hpos : 0 < c * sz := Nat.mul_pos (by omega) (by omega)
  have hne : flat [.row N f] ≠ [] := by
    intro e
    have := congrArg List.length e
    simp [flat] at this
    omega
  refine (h hne).part (0 + 0) fun j x e => ?_
  have hj : j < n * sz := by
    rw [← hl]
    exact (List.getElem?_eq_some_iff.1 e).1
  have hjN : j < N := by
    rw [← hN]
    exact Nat.lt_of_lt_of_le hj (Nat.mul_le_mul_right _ hn)
  have e1 := hf j x e
  rw [show 0 + 0 + j = j by omega, List.getElem?_map, List.getElem?_map]
  simp only [flat, List.append_nil, List.getElem?_map, List.getElem?_range hjN, Option.map_some]
  rw [e1, hr x (List.mem_of_getElem? e)]
/-- The slice of bytes as a contract over blocks has it. -/
abbrev slR (a : Option Addr) (c : Nat) (l : Bs) : Sl := ⟨a.isNone, l.length, 0, c, l⟩
theorem SlAt.isNil {W : World} {ms : List Nat} {a : Option Addr} {n c : Nat} {l : Bs} (h : BsAt W ms a n c l) (e : a.isNone = true) : l = [] := by
  cases a with
  | none => have := h.nil_.2.2; simpa using this
  | some A => cases e
theorem SlAt.okB {W : World} {ms : List Nat} {a : Option Addr} {n c : Nat} {l : Bs} (h : BsAt W ms a n c l) (hs : l.length ≤ 1000000) : (slR a c l).Ok :=
  ⟨by simp, by have := h.n1; have := h.le; show l.length ≤ c; omega, h.isNil, hs⟩
theorem flat_bts (n : Nat) (l : Bs) (hn : l.length = n) : flat (bts false n 0 n (L l)) = l.map .w8 := by
  subst hn
  simp only [bts, flat, List.append_nil]
  apply List.ext_getElem (by simp)
  intro i h1 h2
  simp at h1 h2
  have := winF_at 0 l.length (L l) h1
  rw [Nat.zero_add] at this
  simp [this, L_lt h1]
theorem map_w8_raw (l : Bs) : ∀ x ∈ l.map SC.w8, x.raw = x := fun x hx => by
  obtain ⟨b, _, rfl⟩ := List.mem_map.1 hx
  rfl
theorem bts_ne (z : Bool) (N o n : Nat) (b : Nat → BitVec 8) (W : World) (ms : List Nat) : bts z N o n b ≠ [.past W ms] := by
  intro e; cases z <;> simp [bts] at e
/-- A contract over a block of bytes that is only read holds for bytes that nobody turns. -/
theorem FnR.rawB {P : Program} {T : List (Nat × TD)} {f : FuncId} {n : Nat} {h0 : List (List Seg)} {args args' : List SA} {raw : World → Prop} {Res : SV → List (List Seg) → Prop} (h : FnR P T f n h0 args raw Res) (j : Nat) (hj : j < n) {W : World} {ms : List Nat} {a : Option Addr} {m c : Nat} {l : Bs}
    (hb : BsAt W ms a m c l) (hch : h0[j]? = some (svB (slR a c l))) (hfree : ∀ A i c, i ≠ j → h0[i]? = some c → Free j (fun _ => A) (flat c)) (hargs : ∀ A, a = some A → unAs j A args' args) (hargs0 : a = none ∨ c = 0 → nuAs j args' args)
    (hx : ∀ x hs A, Res x hs → x.rz (fun i => Nat.beq i j) (fun _ => A) = x ∧ (rzH (fun i => Nat.beq i j) (fun _ => A) hs).set j [.past W ms] = hs.set j [.past W ms]) :
    FnR P T f n (h0.set j [.past W ms]) args' raw (fun x hs => ∃ hs', Res x hs' ∧ hs = hs'.set j [.past W ms]) := by
  cases a with
  | none =>
    obtain ⟨_, _, hl⟩ := hb.nil_
    exact h.nul j hj hch rfl (bts_ne _ _ _ _ _) (hargs0 (.inl rfl))
  | some A =>
    by_cases hc : c = 0
    · have h1 := hb.n1
      have h2 := hb.le
      have hl0 : l = [] := List.eq_nil_of_length_eq_zero (by omega)
      refine h.nul j hj hch ?_ (bts_ne _ _ _ _ _) (hargs0 (.inr hc))
      subst hl0; rfl
    have hfl : flat (svB (slR (some A) c l)) = l.map .w8 := flat_bts _ l rfl
    refine (h.unname j hj hch (bts_ne _ _ _ _ _) (hfl ▸ hb.im A rfl hc) (hfl ▸ map_w8_raw l) (hfree A) (hargs A rfl)).mono ?_
    rintro x hs ⟨x', hs', h1, rfl, rfl⟩
    obtain ⟨e1, e2⟩ := hx x' hs' A h1
    exact ⟨hs', by rw [e1]; exact h1, e2⟩
/-! Blocks in which a name does not stand. -/
def frL (j : Nat) (A : Addr) : List Seg → Prop
  | [] => True
  | .one x :: r => x.rz (fun i => Nat.beq i j) (fun _ => A) = x ∧ frL j A r
  | .row _ f :: r => (∀ i, (f i).rz (fun i => Nat.beq i j) (fun _ => A) = f i) ∧ frL j A r
  | .obj _ :: r => frL j A r
  | .past _ _ :: r => frL j A r
def frH (j : Nat) (A : Addr) : Nat → List (List Seg) → Prop
  | _, [] => True
  | i, c :: r => (i = j ∨ frL j A c) ∧ frH j A (i + 1) r
theorem frL.free {j : Nat} {A : Addr} : ∀ {l : List Seg}, frL j A l → Free j (fun _ => A) (flat l)
  | [], _ => fun x hx => by simp [flat] at hx
  | .one y :: r, h => fun x hx => by
    simp only [flat, List.mem_cons] at hx
    rcases hx with rfl | hx
    · exact h.1
    · exact frL.free h.2 x hx
  | .row n f :: r, h => fun x hx => by
    simp only [flat, List.mem_append, List.mem_map] at hx
    rcases hx with ⟨i, _, rfl⟩ | hx
    · exact h.1 i
    · exact frL.free h.2 x hx
  | .obj _ :: r, h => fun x hx => frL.free (l := r) h x hx
  | .past _ _ :: r, h => fun x hx => frL.free (l := r) h x hx
theorem frH.free {j : Nat} {A : Addr} : ∀ {h : List (List Seg)} {k : Nat}, frH j A k h → ∀ (i : Nat) (c : List Seg), k + i ≠ j → h[i]? = some c → Free j (fun _ => A) (flat c)
  | [], _, _, i, c, _, e => by simp at e
  | d :: h, k, hh, 0, c, hi, e => by
    simp at e; subst e
    rcases hh.1 with h1 | h1
    · omega
    · exact h1.free
  | d :: h, k, hh, i + 1, c, hi, e => frH.free hh.2 i c (by omega) (by simpa using e)
theorem rz_winF {F : Nat → Bool} {α : Nat → Addr} (o n : Nat) (b : Nat → BitVec 8) (i : Nat) : (winF o n b i).rz F α = winF o n b i := by
  unfold winF; split <;> rfl
theorem frL_bts {j : Nat} {A : Addr} (z : Bool) (N o n : Nat) (b : Nat → BitVec 8) : frL j A (bts z N o n b) := by
  cases z
  · exact ⟨fun i => rz_winF _ _ _ i, trivial⟩
  · trivial
theorem rzL_bts {F : Nat → Bool} {α : Nat → Addr} (z : Bool) (N o n : Nat) (b : Nat → BitVec 8) : rzL F α (bts z N o n b) = bts z N o n b := by
  cases z
  · simp only [bts, rzL, Seg.rz, rz_winF]
  · rfl
end Sx
end Go.Proofs.Ytkjdkeolkigibaa
end

section
/-
  Blocks given up at the head of a loop's round: from now on they are data that nobody turns. Over any program. No condition of its own.
-/
namespace Go.Proofs.Ytkjdkeolkigibaa
set_option linter.unusedVariables false
namespace Sx
open Go.RowKit
variable {C : Cx}

def rzT (F : Nat → Bool) (α : Nat → Addr) : List SV → List SV
  | [] => []
  | x :: r => x.rz F α :: rzT F α r
theorem rzT_len (F : Nat → Bool) (α : Nat → Addr) : ∀ l : List SV, (rzT F α l).length = l.length
  | [] => rfl
  | _ :: r => congrArg Nat.succ (rzT_len F α r)
theorem rzT_get {F : Nat → Bool} {α : Nat → Addr} : ∀ {l : List SV} {d : Nat} {y : SV}, (rzT F α l)[d]? = some y → ∃ x, l[d]? = some x ∧ y = x.rz F α
  | [], d, y, e => by simp [rzT] at e
  | x :: r, 0, y, e => by simp [rzT] at e; exact ⟨x, rfl, e.symm⟩
  | x :: r, d + 1, y, e => by
    obtain ⟨z, h1, h2⟩ := rzT_get (l := r) (d := d) (y := y) (by simpa [rzT] using e)
    exact ⟨z, by simpa using h1, h2⟩
/-- A round's head (or a loop's beginning), where blocks are given up: all that are not in q. -/
theorem entW_frz {X : Type} {s : St} {inv : X → St} {p : X → Prop} (q : List Nat) {W : World} {ms : List Nat} (hp : getH s.h 0 = [.past W ms]) (hro : 0 < C.ro) (hm : ∀ B ∈ C.m, ∃ (j f : Nat), C.ro ≤ j ∧ C.r0[j]? = some (B, f))
    (hq : (pref C.r0.length 0 q && allLt q s.h.length && allNe s.h (q.drop C.ro) && allGe C.ro (q.drop C.ro)) = true)
    (hk : ∀ (W' : World) (ms' : List Nat) (α : Nat → Addr), Later W ms W' ms' → (∀ i, (Nat.blt i s.h.length && Nat.ble C.ro i && !memB i q) = true → flat (getH s.h i) ≠ [] → ImAt W' ms' (α i) (((flat (getH s.h i)).map (SC.rz (fun j => !memB j q) α)).map SC.raw)) →
      ∃ x t hs, Ent C q ⟨rzT (fun j => !memB j q) α s.t, rzH (fun j => !memB j q) α s.h⟩ ⟨t, [.past W ms] :: hs⟩ ∧ inv x = ⟨t, [.past W' ms'] :: hs⟩ ∧ p x) : EntW C s inv p := by
  intro r a w ok0
  obtain ⟨t0, h⟩ := s
  have ok := ok0.heap
  dsimp only at hp hq hk ok
  simp only [Bool.and_eq_true] at hq
  obtain ⟨⟨⟨hpf, hq1⟩, hq2⟩, hq3⟩ := hq
  have hll := allLt_spec hq1
  have hst := allNe_spec hq2
  have hge := allGe_spec hq3
  have hlen := ok.len
  have hp' := getH_ne hp
  have hqr : ∀ i ∈ q, i < r.length := fun i hi => by rw [hlen]; exact hll i hi
  let α : Nat → Addr := fun i => match r[i]? with
    | some (B, f) => ⟨B, f, none⟩
    | none => ⟨0, 0, none⟩
  have hα : Lies (fun j => !memB j q) α r := fun i B f _ e => by simp only [α, e]
  classical
  obtain ⟨ms', hms'⟩ : ∃ l, ((rn q r).drop C.ro).map (·.1) ++ (List.range C.w0.heap.size).filter (fun B => decide (¬ C.safe B)) = l := ⟨_, rfl⟩
  have look : ∀ (i B f : Nat), C.ro ≤ i → (rn q r)[i]? = some (B, f) → ∃ j, j ∈ q.drop C.ro ∧ r[j]? = some (B, f) := by
    intro i B f hi e
    cases hqi : q[i]? with
    | none => rw [rn, List.getElem?_map, hqi] at e; cases e
    | some j => exact ⟨j, List.mem_of_getElem? (i := i - C.ro) (by rw [List.getElem?_drop, show C.ro + (i - C.ro) = i by omega]; exact hqi), by rw [← rn_get hqr hqi]; exact e⟩
  have inms : ∀ B, B ∈ ms' → (∃ j, j ∈ q.drop C.ro ∧ ∃ f, r[j]? = some (B, f)) ∨ (B < C.w0.heap.size ∧ ¬ C.safe B) := by
    intro B hB
    rw [← hms'] at hB
    rcases List.mem_append.1 hB with hB | hB
    · obtain ⟨i, f, hi, e⟩ := mem_drop.1 hB
      obtain ⟨j, hj, e2⟩ := look i B f hi e
      exact .inl ⟨j, hj, f, e2⟩
    · simp only [List.mem_filter, List.mem_range, decide_eq_true_eq] at hB
      exact .inr hB
  have hhi : ∀ i, i < h.length → h[i]? = some (getH h i) := fun i hi => by rw [getH_eq, List.getElem?_eq_getElem hi]; rfl
  have hqs : ∀ i ∈ q.drop C.ro, i ∈ q := fun i hi => List.mem_of_mem_drop hi
  obtain ⟨p1, p2, p3⟩ := ok.past 0 W ms hp'
  have hL : Later W ms w ms' := ⟨p1, fun B h1 h2 hc => by
    rcases inms B hc with ⟨j, hj, f, e⟩ | ⟨h3, h4⟩
    · exact h2 (p3 j B f (hge j hj) e h1)
    · exact h4 (p2 B h3 h1 h2)⟩
  have facts : ∀ i, i < h.length → C.ro ≤ i → memB i q = false → flat (getH h i) ≠ [] → ImAt w ms' (α i) (((flat (getH h i)).map (SC.rz (fun j => !memB j q) α)).map SC.raw) := by
    intro i hil hio hiq hfl
    have hnq : i ∉ q := fun hc => by rw [memB_iff.2 hc] at hiq; cases hiq
    obtain ⟨⟨B, f⟩, hr⟩ : ∃ x, r[i]? = some x := ⟨_, List.getElem?_eq_getElem (by rw [hlen]; exact hil)⟩
    have hAt := (ok.chunk hr).rz hα
    have e : α i = ⟨B, f, none⟩ := by simp only [α, hr]
    rw [e]
    have clash : ∀ j, j ∈ q.drop C.ro → ∀ f', r[j]? ≠ some (B, f') := by
      intro j hj f' hr'
      have hij : i ≠ j := fun e => hnq (e ▸ hqs j hj)
      rcases ok.apart i j B f f' _ _ hij hio (hge j hj) (hhi i hil) (hhi j (hll j (hqs j hj))) hr hr' with h | h
      · rw [h] at hfl; exact hfl rfl
      · exact stirs_ne (hst j hj) h
    refine hAt.im ((ok.chunk hr).lt hfl) fun hc => ?_
    rcases inms B hc with ⟨j, hj, f', hr'⟩ | ⟨h3, h4⟩
    · exact clash j hj f' hr'
    · rcases ok.own i B f hio hr with hB | hB
      · obtain ⟨j, f', hj, e0⟩ := hm B hB
        have hjl : j < C.r0.length := by
          rcases Nat.lt_or_ge j C.r0.length with h | h
          · exact h
          · rw [List.getElem?_eq_none h] at e0; cases e0
        have hqj := pref_spec hpf j hjl
        rw [Nat.zero_add] at hqj
        exact clash j (List.mem_of_getElem? (i := j - C.ro) (by rw [List.getElem?_drop, show C.ro + (j - C.ro) = j by omega]; exact hqj)) f' (ok.agree j _ e0)
      · omega
  obtain ⟨x, t, hs, hent, hinv, hres⟩ := hk w ms' α hL (fun i hi hf => by
    simp only [Bool.and_eq_true, Bool.not_eq_true'] at hi
    exact facts i (by simpa using (Nat.blt_eq ▸ hi.1.1)) (ble_le hi.1.2) hi.2 hf)
  have ok1 : Ok C ⟨rzT (fun j => !memB j q) α t0, rzH (fun j => !memB j q) α h⟩ r a w := ⟨ok.rz hα, by rw [ok0.size]; exact (rzT_len _ _ _).symm, fun d y e => by
    obtain ⟨z, hz, rfl⟩ := rzT_get e
    exact (ok0.slots d z hz).rz hα, ok0.defers⟩
  have ok2 := hent.okN ok1
  have ok3 := ok2.heap.setPast (i0 := 0) hro rfl (W' := w) (ms' := ms') (Ext.refl _ _) (fun B h1 h2 h3 => Classical.byContradiction fun hc => h3 (by
    rw [← hms']
    exact List.mem_append.2 (.inr (by simp only [List.mem_filter, List.mem_range, decide_eq_true_eq]; exact ⟨h1, hc⟩)))) (fun j B f ho e _ => by
    rw [← hms']
    exact List.mem_append.2 (.inl (mem_drop.2 ⟨j, f, ho, e⟩)))
  refine ⟨x, rn q r, ?_, hres⟩
  rw [hinv]
  exact ⟨ok3, ok2.size, ok2.slots, ok2.defers⟩
/-- An empty row behind a row: from now on append leaves what was there under its name. -/
theorem entW_mark {X : Type} {s : St} {inv : X → St} {p : X → Prop} (i : Nat) {N : Nat} {f z : Nat → SC} (hi : s.h[i]? = some [.row N f])
    (hk : EntW C ⟨s.t, s.h.set i [.row N f, .row 0 z]⟩ inv p) : EntW C s inv p := by
  intro r a w ok0
  refine hk r a w ⟨?_, ok0.size, ok0.slots, ok0.defers⟩
  have ok := ok0.heap
  have hil : i < s.h.length := by
    rcases Nat.lt_or_ge i s.h.length with h | h
    · exact h
    · rw [List.getElem?_eq_none h] at hi; cases hi
  have hfl : flat [.row N f, .row 0 z] = flat [.row N f] := by simp [flat]
  have look : ∀ (j : Nat) (ch : List Seg), (s.h.set i [.row N f, .row 0 z])[j]? = some ch → ∃ ch', s.h[j]? = some ch' ∧ flat ch = flat ch' ∧ (ch' = [] → ch = []) ∧ (j ≠ i → ch = ch') ∧ (j = i → ch = [.row N f, .row 0 z]) := by
    intro j ch e
    by_cases hji : j = i
    · subst hji
      rw [List.getElem?_set_self hil] at e
      injection e with e
      subst e
      exact ⟨_, hi, hfl, fun h => (by cases h), fun h => absurd rfl h, fun _ => rfl⟩
    · rw [List.getElem?_set_ne (Ne.symm hji)] at e
      exact ⟨ch, e, rfl, fun h => h, fun _ => rfl, fun h => absurd h hji⟩
  refine ⟨ok.ext, ok.agree, ok.rol, by rw [List.length_set]; exact ok.len, fun j ch B f' hj hr => ?_, ok.lt, ok.own, ok.ros, fun j ch h1 h2 hj => ?_, fun j l B f1 f2 ch ch' hjl o1 o2 hj hl h1 h2 => ?_, fun j m B f' ho hj hr => ?_, fun j W ms hj => ?_⟩
  · obtain ⟨ch', e1, e2, _⟩ := look j ch hj
    rw [e2]
    exact ok.chunks j ch' B f' e1 hr
  · obtain ⟨ch', e1, e2, _⟩ := look j ch hj
    rw [e2]
    exact ok.dead j ch' h1 h2 e1
  · obtain ⟨c1, e1, _, e3, _⟩ := look j ch hj
    obtain ⟨c2, g1, _, g3, _⟩ := look l ch' hl
    exact (ok.apart j l B f1 f2 c1 c2 hjl o1 o2 e1 g1 h1 h2).imp e3 g3
  · obtain ⟨c1, e1, _, _, e4, e5⟩ := look j _ hj
    by_cases hji : j = i
    · cases e5 hji
    · rw [← e4 hji] at e1
      exact ok.maps j m B f' ho e1 hr
  · obtain ⟨c1, e1, _, _, e4, e5⟩ := look j _ hj
    by_cases hji : j = i
    · cases e5 hji
    · rw [← e4 hji] at e1
      exact ok.past j W ms e1
end Sx
end Go.Proofs.Ytkjdkeolkigibaa
end

section
/-
  What one says of oneself, its source raw; things that are said. No condition.
-/
namespace Go.Proofs.Ytkjdkeolkigibaa
set_option linter.unusedVariables false
namespace Sx
open Go.RowKit Sha Vi

abbrev pmR (p : Pm) (a : Option Addr) (c : Nat) : List Seg := [.one (.w64 p.a0), .one (.w64 p.a1), .one (.w64 p.a2), .one (.w64 p.a3), .one (.w64 p.a4), .one (.w64 p.a5), .one (.w64 p.a6), .one (.w64 p.a7), .one (.w64 p.a8), .one (.slc a p.s.l.length c)]
theorem add_zero_of {W : World} {ms : List Nat} {a : Option Addr} {n c sz : Nat} {l : List SC} (h : SlAt W ms a n c sz l) : (if c = 0 then a else a.map (·.add 0)) = a := by
  split
  · rfl
  · rename_i hc
    cases a with
    | none => rfl
    | some A => exact congrArg some (h.im A rfl hc).zero
theorem SlAt.takeB {W : World} {ms : List Nat} {a : Option Addr} {n c : Nat} {l : Bs} (h : BsAt W ms a n c l) (k : Nat) : BsAt W ms a (l.take k).length c (l.take k) := by
  have h1 := h.n1
  have h2 := h.le
  have h3 := h.cap
  refine ⟨by rw [List.length_map, Nat.mul_one], by rw [List.length_take]; omega, by rw [List.length_take]; omega, h.nil, fun x e hc => ?_⟩
  have := (h.im x e hc)
  obtain ⟨i1, i2, i3, i4⟩ := this
  refine ⟨i1, i2, i3, fun j y e => i4 j y ?_⟩
  rw [List.map_take, List.getElem?_take] at e
  split at e
  · exact e
  · cases e
set_option maxRecDepth 20000 in
set_option maxHeartbeats 8000000 in
theorem fn_lpfitR {W : World} {ms : List Nat} (p : Pm) {a : Option Addr} {n c : Nat} (h : BsAt W ms a n c p.s.l) : FnR Try.prog tds 21 1 [[.past W ms]] [.agg (pmR p a c)] (fun _ => True)
    (fun y hs => y = .a (.agg (pmR (fitP p) a c)) ∧ hs = [[.past W ms]]) := by
  refine fn_of_body tds_ok follows_ Try.func21 rfl (t := .a (.agg (pmR p a c)) :: anys (Try.f21.ntmps - 1)) rfl (fun w r0 hr _ => ?_)
  obtain ⟨x0, rfl⟩ := List.length_eq_one_iff.1 hr
  have h1 := h.n1
  have h2 := h.le
  (repeat first | (refine And.intro ?_ ?_; first | exact rfl | ((exact fun h => absurd h (by first | decide)); intro yy; clear yy) | (rotate_left; (exact fun h => absurd h (by first | decide)); intro yy; clear yy) | decide | omega) | (with_reducible refine frc_bytesL (by first | omega | decide) ?_) | (with_reducible refine frc_bytesM (by first | omega | decide) ?_))
  refine ⟨none, [], [(0, true), (1, true), (2, true), (3, true), (4, true), (5, true), (6, true), (7, true), (8, true), (9, true), (10, true), (11, true), (12, true), (13, true), (14, true), (15, true), (16, true), (17, true), (18, true), (19, true), (20, true), (21, true), (22, true), (23, true), (24, true), (25, true), (26, true), (27, true), (28, true), (29, true), (30, true), (31, true), (32, true), (33, true), (34, true), (35, true)], [36], by kernel_rfl, ?_⟩
  (repeat first | (refine And.intro ?_ ?_; first | exact rfl | ((exact fun h => absurd h (by first | decide)); intro yy; clear yy) | (rotate_left; (exact fun h => absurd h (by first | decide)); intro yy; clear yy) | decide | omega) | (with_reducible refine frc_bytesL (by first | omega | decide) ?_) | (with_reducible refine frc_bytesM (by first | omega | decide) ?_))
  refine ⟨.a (.agg (pmR (fitP p) a c)), _, ⟨[0], ⟨rfl, rfl, rfl⟩, ?_⟩, rfl, rfl⟩
  (repeat first | exact trivial | refine ent1 ?_)
  refine ⟨?_, by (repeat first | exact trivial | refine ent1 ?_)⟩
  have ez := add_zero_of h
  have hl : (p.s.l.take 20).length = min 20 p.s.l.length := List.length_take
  show SC.slc (if c = 0 then a else a.map (·.add (0 * 1))) _ (c - 0) = SC.slc a (p.s.l.take 20).length c
  rw [Nat.zero_mul, ez, Nat.sub_zero]
  congr 1
  rw [hl]
  split <;> omega
theorem fn_psameR {W : World} {ms : List Nat} (p q : Pm) (hp : p.s.Ok) {a : Option Addr} {n c0 : Nat} (h : BsAt W ms a n c0 q.s.l) (hq : q.s.l.length ≤ 1000000) : FnR Try.prog tds 28 2 [svB p.s, [.past W ms]] [.agg (pmC 0 p), .agg (pmR q a c0)] (fun _ => True)
    (fun y hs => y = .a (.c (.bool (decide (sameP p q)))) ∧ hs = [svB p.s, [.past W ms]]) := by
  have hN := fn_psame p ⟨q.a0, q.a1, q.a2, q.a3, q.a4, q.a5, q.a6, q.a7, q.a8, slR a c0 q.s.l⟩ hp (h.okB hq)
  have h1 := h.n1
  have h2 := h.le
  refine (hN.rawB 1 (by decide) h rfl (fun A i c hi hc => frH.free (k := 0) (j := 1) ?_ i c (by omega) hc) (fun A ha => ?_) (fun h0 => ?_) (fun y hs A hr => ?_)).mono ?_
  · exact ⟨.inr (frL_bts _ _ _ _ _), .inl rfl, trivial⟩
  · subst ha
    exact ⟨⟨⟨rfl, rfl⟩, ⟨rfl, rfl⟩, ⟨rfl, rfl⟩, ⟨rfl, rfl⟩, ⟨rfl, rfl⟩, ⟨rfl, rfl⟩, ⟨rfl, rfl⟩, ⟨rfl, rfl⟩, ⟨rfl, rfl⟩, ⟨rfl, rfl⟩, trivial⟩, ⟨⟨rfl, rfl⟩, ⟨rfl, rfl⟩, ⟨rfl, rfl⟩, ⟨rfl, rfl⟩, ⟨rfl, rfl⟩, ⟨rfl, rfl⟩, ⟨rfl, rfl⟩, ⟨rfl, rfl⟩, ⟨rfl, rfl⟩, ⟨rfl, rfl, rfl, rfl, rfl, rfl, rfl⟩, trivial⟩, trivial⟩
  · have hc : c0 = 0 := by
      rcases h0 with rfl | h0
      · exact h.nil rfl
      · exact h0
    have hl : q.s.l.length = 0 := by omega
    refine ⟨⟨rfl, rfl, rfl, rfl, rfl, rfl, rfl, rfl, rfl, rfl, trivial⟩, ⟨rfl, rfl, rfl, rfl, rfl, rfl, rfl, rfl, rfl, ?_, trivial⟩, trivial⟩
    cases a with
    | none => exact ⟨rfl, hl, hc, hl, hc⟩
    | some A => exact ⟨rfl, hl, hc, hl, hc⟩
  · obtain ⟨rfl, rfl⟩ := hr
    refine ⟨rfl, ?_⟩
    simp only [rzH, rzL_bts, List.set_cons_zero, List.set_cons_succ]
  · rintro y hs ⟨hs', ⟨rfl, rfl⟩, rfl⟩
    exact ⟨rfl, rfl⟩

set_option maxRecDepth 20000 in
set_option maxHeartbeats 4000000 in
theorem fn_lpnumsR {W : World} {ms : List Nat} (p : Pm) {a : Option Addr} {n c : Nat} (h : BsAt W ms a n c p.s.l) : FnR Try.prog tds 27 1 [[.past W ms]] [.agg (pmR p a c)] (fun _ => True)
    (fun y hs => y = .a (.agg [.row 9 (numsF (nineL p))]) ∧ hs = [[.past W ms]]) := by
  refine fn_of_body tds_ok follows_ Try.func27 rfl (t := .a (.agg (pmR p a c)) :: anys (Try.f27.ntmps - 1)) rfl (fun w r0 hr _ => ?_)
  obtain ⟨x0, rfl⟩ := List.length_eq_one_iff.1 hr
  (repeat first | (refine And.intro ?_ ?_; first | exact rfl | ((exact fun h => absurd h (by first | decide)); intro yy; clear yy) | (rotate_left; (exact fun h => absurd h (by first | decide)); intro yy; clear yy) | decide | omega) | (with_reducible refine frc_bytesL (by first | omega | decide) ?_) | (with_reducible refine frc_bytesM (by first | omega | decide) ?_))
  (repeat first | refine And.intro (by omega) ?_ | refine And.intro (by decide) ?_ | (with_reducible refine frc_parts (by first | omega | decide) ?_) | (with_reducible refine frc_bytesL (by first | omega | decide) ?_) | refine And.intro rfl ?_)
  refine ⟨.a (.agg [.row 9 (numsF (nineL p))]), _, ⟨[0], ⟨rfl, rfl, rfl⟩, ?_⟩, rfl, rfl⟩
  (repeat first | exact trivial | refine ent1 ?_)
  refine ⟨fun j hj => eqC_nums (numsN rfl) j, ?_⟩
  (repeat first | exact trivial | refine ent1 ?_)
end Sx
end Go.Proofs.Ytkjdkeolkigibaa
end

section
/-
  Things that are said, one behind the other: binnaclelaw10.join. No condition.
-/
namespace Go.Proofs.Ytkjdkeolkigibaa
set_option linter.unusedVariables false
namespace Sx
open Go.RowKit Sha Vi

structure ItC where
  a : Option Addr
  n : Nat
  c : Nat
abbrev itS (id : BitVec 64) (x : ItC) : List Seg := [.one (.w64 id), .one (.slc x.a x.n x.c)]
/-- Things in a row that nobody turns. -/
structure ItsAt (W : World) (ms : List Nat) (a : Option Addr) (n c : Nat) (l : List It) : Prop where
  len : l.length = n
  le : n ≤ c
  cap : n ≤ 9223372036854775807
  nil : a = none → c = 0
  elt : ∀ A, a = some A → ∀ k e, l[k]? = some e → ∃ x : ItC, ImAt W ms (A.add (k * 2)) (flat (itS e.id x)) ∧ BsAt W ms x.a x.n x.c e.v
theorem ItsAt.later {W W' : World} {ms ms' : List Nat} {a : Option Addr} {n c : Nat} {l : List It} (h : ItsAt W ms a n c l) (k : Later W ms W' ms') : ItsAt W' ms' a n c l :=
  ⟨h.len, h.le, h.cap, h.nil, fun A ha j e he => let ⟨x, h1, h2⟩ := h.elt A ha j e he; ⟨x, h1.later k, h2.later k⟩⟩
theorem mem_vlen {l : List It} {e : It} (h : e ∈ l) (hb : ∀ m : List It, (∀ x ∈ m, x ∈ l) → m.length ≤ l.length → (joinI m).length ≤ 1000000) : e.v.length ≤ 1000000 := by
  have h1 := hb [e] (fun x hx => by rw [List.mem_singleton.1 hx]; exact h) (by have := List.length_pos_of_mem h; simp; omega)
  rw [show joinI [e] = putL e.id ++ (longL e.v ++ []) from rfl] at h1
  unfold longL at h1
  simp only [List.length_append] at h1
  omega
set_option maxRecDepth 20000 in
set_option maxHeartbeats 16000000 in
theorem fn_join {W : World} {ms : List Nat} {a : Option Addr} {n c : Nat} {l : List It} (h : ItsAt W ms a n c l) (hn : 0 < n) (hid0 : ∀ x ∈ l, lenN x.id ≠ 0) (hb : ∀ m : List It, (∀ x ∈ m, x ∈ l) → m.length ≤ l.length → (joinI m).length ≤ 1000000) :
    FnR Try.prog tds 30 1 [[.past W ms]] [.c (.slc a n c)] (fun _ => True)
    (fun y hs => ∃ c', (joinI l).length ≤ c' ∧ y = .a (.c (.sl 1 0 0 (joinI l).length c')) ∧ hs = [[.past W ms], lsC (joinI l) c']) := by
  have hlen := h.len
  have hle := h.le
  have hcap := h.cap
  refine fn_of_body tds_ok follows_ Try.func30 rfl (t := .a (.c (.slc a n c)) :: anys (Try.f30.ntmps - 1)) rfl (fun w r0 hr0 _ => ?_)
  obtain ⟨x0, rfl⟩ := List.length_eq_one_iff.1 hr0
  (repeat first | (refine And.intro ?_ ?_; first | exact rfl | ((exact fun h => absurd h (by first | decide)); intro yy; clear yy) | (rotate_left; (exact fun h => absurd h (by first | decide)); intro yy; clear yy) | decide | omega) | (with_reducible refine frc_bytesL (by first | omega | decide) ?_) | (with_reducible refine frc_bytesM (by first | omega | decide) ?_))
  refine .inl ⟨Option (Nat × Bs × Nat), fun x => match x with
    | none => ⟨[.a (.c (.slc a n c)), .any, .any, .a (.c (.slc none 0 0)), .any, .any, .a (.c (.slc a n c)), .a (.c (.int .i64 (↑n))), .a (.c (.int .i64 (0))), .any, .any, .any, .any, .any, .any, .any, .any, .any, .any, .any, .any, .any, .any, .any, .any, .any, .any, .any], [[.past W ms]]⟩
    | some (i, B, cB) => ⟨[.a (.c (.slc a n c)), .any, .any, .a (.c (.sl 1 0 0 B.length cB)), .any, .any, .a (.c (.slc a n c)), .a (.c (.int .i64 (↑n))), .a (.c (.int .i64 (↑i))), .any, .any, .any, .any, .any, .any, .any, .any, .any, .any, .any, .any, .any, .any, .any, .any, .any, .any, .any], [[.past W ms], lsC B cB]⟩,
    fun x => match x with
    | none => True
    | some (i, B, cB) => 1 ≤ i ∧ i ≤ n ∧ B.length ≤ 1000000 ∧ B.length ≤ cB ∧ B = joinI (l.take i), fun x => match x with
    | none => n + 1
    | some (i, _, _) => n - i, ⟨none, [0], ⟨⟨rfl, rfl, rfl⟩, by (repeat first | exact trivial | refine ent1 ?_)⟩, trivial⟩, fun x => ?_⟩
  rcases x with _ | ⟨i, B, cB⟩
  · intro _
    refine And.intro (fun _ => ?_) (fun hge => absurd (of_decide_eq_false hge) (by omega))
    obtain ⟨e, he⟩ : ∃ e, l[0]? = some e := ⟨_, List.getElem?_eq_getElem (by omega)⟩
    have hjoin : joinI [e] = putL e.id ++ (longL e.v ++ []) := rfl
    have hid := hid0 e (List.mem_of_getElem? he)
    cases ha : a with
    | none => have := h.nil ha; omega
    | some A =>
    obtain ⟨x, him, hx⟩ := h.elt A ha 0 e he
    have hn1 := hx.n1
    have hv0 := mem_vlen (List.mem_of_getElem? he) hb
    obtain ⟨aV, nV, cV⟩ := x
    dsimp only at hn1 hx him
    subst hn1
    subst ha
    have hlv : lenN (BitVec.ofInt 64 (e.v.length : Int)) ≠ 0 := by rw [BitVec.ofInt_natCast]; exact lenN_of (by omega)
    have p1 := putL_len e.id
    have p2 := lenN_le e.id
    have q1 := putL_len (BitVec.ofInt 64 (e.v.length : Int))
    have q2 := lenN_le (BitVec.ofInt 64 (e.v.length : Int))
    refine And.intro (show (0 : Int) ≤ ((0 : Nat) : Int) ∧ ((0 : Nat) : Int) < (n : Int) by omega) ?_
    refine ⟨itS e.id ⟨aV, e.v.length, cV⟩, ⟨RawAt.past (i := 0) rfl him, rfl⟩, ?_⟩
    (repeat first | (refine And.intro ?_ ?_; first | exact rfl | ((exact fun h => absurd h (by first | decide)); intro yy; clear yy) | (rotate_left; (exact fun h => absurd h (by first | decide)); intro yy; clear yy) | decide | omega) | (with_reducible refine frc_bytesL (by first | omega | decide) ?_) | (with_reducible refine frc_bytesM (by first | omega | decide) ?_))
    refine ⟨some [1], [], [(0, true), (1, true), (2, true), (5, true), (6, true), (7, true), (8, true), (11, true), (12, true), (3, false), (4, false), (9, false), (10, false), (13, false)], [14], by kernel_rfl, ?_⟩
    (repeat first | (refine And.intro ?_ ?_; first | exact rfl | ((exact fun h => absurd h (by first | decide)); intro yy; clear yy) | (rotate_left; (exact fun h => absurd h (by first | decide)); intro yy; clear yy) | decide | omega) | (with_reducible refine frc_bytesL (by first | omega | decide) ?_) | (with_reducible refine frc_bytesM (by first | omega | decide) ?_))
    refine call_same (fn_qput e.id hid) [] rfl (by (repeat first | exact trivial | refine ent1 ?_)) trivial (fun _ _ => trivial) ?_
    rintro x hs' ⟨c3, hc3, rfl, rfl⟩
    (repeat first | (refine And.intro ?_ ?_; first | exact rfl | ((exact fun h => absurd h (by first | decide)); intro yy; clear yy) | (rotate_left; (exact fun h => absurd h (by first | decide)); intro yy; clear yy) | decide | omega) | (with_reducible refine frc_bytesL (by first | omega | decide) ?_) | (with_reducible refine frc_bytesM (by first | omega | decide) ?_))
    refine ⟨by show 0 + (putL e.id).length ≤ c3; omega, ?_⟩
    refine ⟨⟨rfl, rfl⟩, by show (putL e.id).length * 1 ≤ 140737488355328; omega, fun hm0 => absurd hm0 (by omega), fun hm0 c4 hc4 => ?_⟩
    (repeat first | (refine And.intro ?_ ?_; first | exact rfl | ((exact fun h => absurd h (by first | decide)); intro yy; clear yy) | (rotate_left; (exact fun h => absurd h (by first | decide)); intro yy; clear yy) | decide | omega) | (with_reducible refine frc_bytesL (by first | omega | decide) ?_) | (with_reducible refine frc_bytesM (by first | omega | decide) ?_))
    refine call_same (fn_qput (BitVec.ofInt 64 (e.v.length : Int)) hlv) [] rfl (by (repeat first | exact trivial | refine ent1 ?_)) trivial (fun _ _ => trivial) ?_
    rintro x hs' ⟨c5, hc5, rfl, rfl⟩
    (repeat first | (refine And.intro ?_ ?_; first | exact rfl | ((exact fun h => absurd h (by first | decide)); intro yy; clear yy) | (rotate_left; (exact fun h => absurd h (by first | decide)); intro yy; clear yy) | decide | omega) | (with_reducible refine frc_bytesL (by first | omega | decide) ?_) | (with_reducible refine frc_bytesM (by first | omega | decide) ?_))
    refine ⟨by show 0 + (putL (BitVec.ofInt 64 (e.v.length : Int))).length ≤ c5; omega, ?_⟩
    refine ⟨⟨hc4, by show 0 + c4 ≤ c4; omega, by show ((putL e.id).length + (putL (BitVec.ofInt 64 (e.v.length : Int))).length) * 1 ≤ 140737488355328; omega⟩, fun c6 hc6 => ?_⟩
    (repeat first | (refine And.intro ?_ ?_; first | exact rfl | ((exact fun h => absurd h (by first | decide)); intro yy; clear yy) | (rotate_left; (exact fun h => absurd h (by first | decide)); intro yy; clear yy) | decide | omega) | (with_reducible refine frc_bytesL (by first | omega | decide) ?_) | (with_reducible refine frc_bytesM (by first | omega | decide) ?_))
    obtain ⟨Q, hQ⟩ : ∃ Q, Q = ((putL e.id) ++ putL (BitVec.ofInt 64 (e.v.length : Int))) ++ e.v := ⟨_, rfl⟩
    have hQl : Q.length = (putL e.id).length + (putL (BitVec.ofInt 64 (e.v.length : Int))).length + e.v.length := by rw [hQ]; simp only [List.length_append]
    have hQJ : Q = joinI (l.take (0 + 1)) := by
      rw [take_succ he, joinI_app, hjoin, hQ, BitVec.ofInt_natCast]
      unfold longL
      simp only [List.append_assoc, List.append_nil, joinI, List.nil_append, List.take_zero]
    have hQb := hb (l.take (0 + 1)) (fun x hx => List.mem_of_mem_take hx) (by rw [List.length_take]; omega)
    rw [← hQJ] at hQb
    have hput : ∀ {g : Nat → Nat} (m : BitVec 64) (i : Nat), i < (putL m).length → SC.mp g (bytesF (putL m).length (L (putL m)) i) = .w8 (L (putL m) i) := fun m i hi => by rw [bytesF_lt hi]; rfl
    cases haV : aV with
    | none =>
      subst haV
      have hD0 := hx.nil_.1
      refine And.intro hD0 ?_
      refine ⟨⟨hc6, by show 0 + c6 ≤ c6; omega, by show ((putL e.id).length + (putL (BitVec.ofInt 64 (e.v.length : Int))).length + 0) * 1 ≤ 140737488355328; omega⟩, fun c9 hc9 => ?_⟩
      have hc9 : (putL e.id).length + (putL (BitVec.ofInt 64 (e.v.length : Int))).length + 0 ≤ c9 := hc9
      (repeat first | (refine And.intro ?_ ?_; first | exact rfl | ((exact fun h => absurd h (by first | decide)); intro yy; clear yy) | (rotate_left; (exact fun h => absurd h (by first | decide)); intro yy; clear yy) | decide | omega) | (with_reducible refine frc_bytesL (by first | omega | decide) ?_) | (with_reducible refine frc_bytesM (by first | omega | decide) ?_))
      refine ⟨some (0 + 1, Q, c9), [0, 6], ⟨⟨rfl, rfl, rfl⟩, ?_⟩, ⟨by omega, by omega, by omega, by omega, hQJ⟩, by show n - (0 + 1) < n + 1; omega⟩
      (repeat first | exact trivial | refine ent1 ?_)
      (repeat first | exact trivial | refine ent1 ?_)
      refine ⟨fun j hj => eqC_bytes (fun i hi => ?_) j, by (repeat first | exact trivial | refine ent1 ?_)⟩
      rw [hQ]
      refine app_row (l := (putL e.id) ++ putL (BitVec.ofInt 64 (e.v.length : Int))) (m := e.v) (by rw [List.length_append]) hD0 (fun i hi => ?_) (fun i hi => ?_) i (by rw [hQl] at hi; omega)
      · exact app_row (l := putL e.id) (m := putL (BitVec.ofInt 64 (e.v.length : Int))) rfl rfl (fun i hi => new_row (m := putL e.id) (fun i hi => hput e.id i hi) i hi) (fun i hi => hput _ i hi) i hi
      · omega
    | some AV =>
      subst haV
      refine srcR (i := 0) (by rfl) hx ?_
      refine ⟨⟨hc6, by show 0 + c6 ≤ c6; omega, by show ((putL e.id).length + (putL (BitVec.ofInt 64 (e.v.length : Int))).length + e.v.length) * 1 ≤ 140737488355328; omega⟩, fun c9 hc9 => ?_⟩
      have hc9 : (putL e.id).length + (putL (BitVec.ofInt 64 (e.v.length : Int))).length + e.v.length ≤ c9 := hc9
      (repeat first | (refine And.intro ?_ ?_; first | exact rfl | ((exact fun h => absurd h (by first | decide)); intro yy; clear yy) | (rotate_left; (exact fun h => absurd h (by first | decide)); intro yy; clear yy) | decide | omega) | (with_reducible refine frc_bytesL (by first | omega | decide) ?_) | (with_reducible refine frc_bytesM (by first | omega | decide) ?_))
      refine ⟨some (0 + 1, Q, c9), [0, 6], ⟨⟨rfl, rfl, rfl⟩, ?_⟩, ⟨by omega, by omega, by omega, by omega, hQJ⟩, by show n - (0 + 1) < n + 1; omega⟩
      (repeat first | exact trivial | refine ent1 ?_)
      refine And.intro (show (putL e.id).length + (putL (BitVec.ofInt 64 (e.v.length : Int))).length + e.v.length = Q.length by omega) ?_
      (repeat first | exact trivial | refine ent1 ?_)
      refine ⟨fun j hj => eqC_bytes (fun i hi => ?_) j, by (repeat first | exact trivial | refine ent1 ?_)⟩
      rw [hQ]
      refine app_row (l := (putL e.id) ++ putL (BitVec.ofInt 64 (e.v.length : Int))) (m := e.v) (by rw [List.length_append]) rfl (fun i hi => ?_) (fun i hi => ?_) i (by rw [hQl] at hi; omega)
      · exact app_row (l := putL e.id) (m := putL (BitVec.ofInt 64 (e.v.length : Int))) rfl rfl (fun i hi => new_row (m := putL e.id) (fun i hi => hput e.id i hi) i hi) (fun i hi => hput _ i hi) i hi
      · exact nthC_w8 e.v i hi
  · rintro ⟨g0, g1, g2, g3, hB⟩
    refine And.intro (fun hlt => ?_) (fun hge => ?_)
    · have hlt : i < n := by have : (i : Int) < (n : Int) := of_decide_eq_true hlt; omega
      obtain ⟨e, he⟩ : ∃ e, l[i]? = some e := ⟨_, List.getElem?_eq_getElem (by omega)⟩
      have hjoin : joinI [e] = putL e.id ++ (longL e.v ++ []) := rfl
      have hid := hid0 e (List.mem_of_getElem? he)
      cases ha : a with
      | none => have := h.nil ha; omega
      | some A =>
      obtain ⟨x, him, hx⟩ := h.elt A ha i e he
      have hn1 := hx.n1
      have hv0 := mem_vlen (List.mem_of_getElem? he) hb
      obtain ⟨aV, nV, cV⟩ := x
      dsimp only at hn1 hx him
      subst hn1
      subst ha
      have hlv : lenN (BitVec.ofInt 64 (e.v.length : Int)) ≠ 0 := by rw [BitVec.ofInt_natCast]; exact lenN_of (by omega)
      have p1 := putL_len e.id
      have p2 := lenN_le e.id
      have q1 := putL_len (BitVec.ofInt 64 (e.v.length : Int))
      have q2 := lenN_le (BitVec.ofInt 64 (e.v.length : Int))
      refine And.intro (show (0 : Int) ≤ (i : Int) ∧ (i : Int) < (n : Int) by omega) ?_
      refine ⟨itS e.id ⟨aV, e.v.length, cV⟩, ⟨RawAt.past (i := 0) rfl him, rfl⟩, ?_⟩
      (repeat first | (refine And.intro ?_ ?_; first | exact rfl | ((exact fun h => absurd h (by first | decide)); intro yy; clear yy) | (rotate_left; (exact fun h => absurd h (by first | decide)); intro yy; clear yy) | decide | omega) | (with_reducible refine frc_bytesL (by first | omega | decide) ?_) | (with_reducible refine frc_bytesM (by first | omega | decide) ?_))
      refine ⟨some [2], [], [(0, true), (1, true), (2, true), (5, true), (6, true), (7, true), (8, true), (11, true), (12, true), (3, false), (4, false), (9, false), (10, false), (13, false)], [14], by kernel_rfl, ?_⟩
      (repeat first | (refine And.intro ?_ ?_; first | exact rfl | ((exact fun h => absurd h (by first | decide)); intro yy; clear yy) | (rotate_left; (exact fun h => absurd h (by first | decide)); intro yy; clear yy) | decide | omega) | (with_reducible refine frc_bytesL (by first | omega | decide) ?_) | (with_reducible refine frc_bytesM (by first | omega | decide) ?_))
      refine call_same (fn_qput e.id hid) [] rfl (by (repeat first | exact trivial | refine ent1 ?_)) trivial (fun _ _ => trivial) ?_
      rintro x hs' ⟨c3, hc3, rfl, rfl⟩
      (repeat first | (refine And.intro ?_ ?_; first | exact rfl | ((exact fun h => absurd h (by first | decide)); intro yy; clear yy) | (rotate_left; (exact fun h => absurd h (by first | decide)); intro yy; clear yy) | decide | omega) | (with_reducible refine frc_bytesL (by first | omega | decide) ?_) | (with_reducible refine frc_bytesM (by first | omega | decide) ?_))
      refine ⟨by show 0 + (putL e.id).length ≤ c3; omega, ?_⟩
      refine ⟨⟨g3, by show 0 + cB ≤ cB; omega, by show (B.length + (putL e.id).length) * 1 ≤ 140737488355328; omega⟩, fun c4 hc4 => ?_⟩
      (repeat first | (refine And.intro ?_ ?_; first | exact rfl | ((exact fun h => absurd h (by first | decide)); intro yy; clear yy) | (rotate_left; (exact fun h => absurd h (by first | decide)); intro yy; clear yy) | decide | omega) | (with_reducible refine frc_bytesL (by first | omega | decide) ?_) | (with_reducible refine frc_bytesM (by first | omega | decide) ?_))
      refine call_same (fn_qput (BitVec.ofInt 64 (e.v.length : Int)) hlv) [] rfl (by (repeat first | exact trivial | refine ent1 ?_)) trivial (fun _ _ => trivial) ?_
      rintro x hs' ⟨c5, hc5, rfl, rfl⟩
      (repeat first | (refine And.intro ?_ ?_; first | exact rfl | ((exact fun h => absurd h (by first | decide)); intro yy; clear yy) | (rotate_left; (exact fun h => absurd h (by first | decide)); intro yy; clear yy) | decide | omega) | (with_reducible refine frc_bytesL (by first | omega | decide) ?_) | (with_reducible refine frc_bytesM (by first | omega | decide) ?_))
      refine ⟨by show 0 + (putL (BitVec.ofInt 64 (e.v.length : Int))).length ≤ c5; omega, ?_⟩
      refine ⟨⟨hc4, by show 0 + c4 ≤ c4; omega, by show (B.length + (putL e.id).length + (putL (BitVec.ofInt 64 (e.v.length : Int))).length) * 1 ≤ 140737488355328; omega⟩, fun c6 hc6 => ?_⟩
      (repeat first | (refine And.intro ?_ ?_; first | exact rfl | ((exact fun h => absurd h (by first | decide)); intro yy; clear yy) | (rotate_left; (exact fun h => absurd h (by first | decide)); intro yy; clear yy) | decide | omega) | (with_reducible refine frc_bytesL (by first | omega | decide) ?_) | (with_reducible refine frc_bytesM (by first | omega | decide) ?_))
      obtain ⟨Q, hQ⟩ : ∃ Q, Q = ((B ++ putL e.id) ++ putL (BitVec.ofInt 64 (e.v.length : Int))) ++ e.v := ⟨_, rfl⟩
      have hQl : Q.length = B.length + (putL e.id).length + (putL (BitVec.ofInt 64 (e.v.length : Int))).length + e.v.length := by rw [hQ]; simp only [List.length_append]
      have hQJ : Q = joinI (l.take (i + 1)) := by
        rw [take_succ he, joinI_app, hjoin, hQ, BitVec.ofInt_natCast, ← hB]
        unfold longL
        simp only [List.append_assoc, List.append_nil, joinI, List.nil_append, List.take_zero]
      have hQb := hb (l.take (i + 1)) (fun x hx => List.mem_of_mem_take hx) (by rw [List.length_take]; omega)
      rw [← hQJ] at hQb
      have hput : ∀ {g : Nat → Nat} (m : BitVec 64) (i : Nat), i < (putL m).length → SC.mp g (bytesF (putL m).length (L (putL m)) i) = .w8 (L (putL m) i) := fun m i hi => by rw [bytesF_lt hi]; rfl
      cases haV : aV with
      | none =>
        subst haV
        have hD0 := hx.nil_.1
        refine And.intro hD0 ?_
        refine ⟨⟨hc6, by show 0 + c6 ≤ c6; omega, by show (B.length + (putL e.id).length + (putL (BitVec.ofInt 64 (e.v.length : Int))).length + 0) * 1 ≤ 140737488355328; omega⟩, fun c9 hc9 => ?_⟩
        have hc9 : B.length + (putL e.id).length + (putL (BitVec.ofInt 64 (e.v.length : Int))).length + 0 ≤ c9 := hc9
        (repeat first | (refine And.intro ?_ ?_; first | exact rfl | ((exact fun h => absurd h (by first | decide)); intro yy; clear yy) | (rotate_left; (exact fun h => absurd h (by first | decide)); intro yy; clear yy) | decide | omega) | (with_reducible refine frc_bytesL (by first | omega | decide) ?_) | (with_reducible refine frc_bytesM (by first | omega | decide) ?_))
        refine ⟨some (i + 1, Q, c9), [0, 7], ⟨⟨rfl, rfl, rfl⟩, ?_⟩, ⟨by omega, by omega, by omega, by omega, hQJ⟩, by show n - (i + 1) < n - i; omega⟩
        (repeat first | exact trivial | refine ent1 ?_)
        (repeat first | exact trivial | refine ent1 ?_)
        refine ⟨fun j hj => eqC_bytes (fun i hi => ?_) j, by (repeat first | exact trivial | refine ent1 ?_)⟩
        rw [hQ]
        refine app_row (l := (B ++ putL e.id) ++ putL (BitVec.ofInt 64 (e.v.length : Int))) (m := e.v) (by rw [List.length_append, List.length_append]) hD0 (fun i hi => ?_) (fun i hi => ?_) i (by rw [hQl] at hi; omega)
        · exact app_row (l := B ++ putL e.id) (m := putL (BitVec.ofInt 64 (e.v.length : Int))) (List.length_append ..) rfl (fun i hi => app_row (l := B) (m := putL e.id) rfl rfl (fun i hi => bytesF_lt hi) (fun i hi => hput e.id i hi) i hi) (fun i hi => hput _ i hi) i hi
        · omega
      | some AV =>
        subst haV
        refine srcR (i := 0) (by rfl) hx ?_
        refine ⟨⟨hc6, by show 0 + c6 ≤ c6; omega, by show (B.length + (putL e.id).length + (putL (BitVec.ofInt 64 (e.v.length : Int))).length + e.v.length) * 1 ≤ 140737488355328; omega⟩, fun c9 hc9 => ?_⟩
        have hc9 : B.length + (putL e.id).length + (putL (BitVec.ofInt 64 (e.v.length : Int))).length + e.v.length ≤ c9 := hc9
        (repeat first | (refine And.intro ?_ ?_; first | exact rfl | ((exact fun h => absurd h (by first | decide)); intro yy; clear yy) | (rotate_left; (exact fun h => absurd h (by first | decide)); intro yy; clear yy) | decide | omega) | (with_reducible refine frc_bytesL (by first | omega | decide) ?_) | (with_reducible refine frc_bytesM (by first | omega | decide) ?_))
        refine ⟨some (i + 1, Q, c9), [0, 7], ⟨⟨rfl, rfl, rfl⟩, ?_⟩, ⟨by omega, by omega, by omega, by omega, hQJ⟩, by show n - (i + 1) < n - i; omega⟩
        (repeat first | exact trivial | refine ent1 ?_)
        refine And.intro (show B.length + (putL e.id).length + (putL (BitVec.ofInt 64 (e.v.length : Int))).length + e.v.length = Q.length by omega) ?_
        (repeat first | exact trivial | refine ent1 ?_)
        refine ⟨fun j hj => eqC_bytes (fun i hi => ?_) j, by (repeat first | exact trivial | refine ent1 ?_)⟩
        rw [hQ]
        refine app_row (l := (B ++ putL e.id) ++ putL (BitVec.ofInt 64 (e.v.length : Int))) (m := e.v) (by rw [List.length_append, List.length_append]) rfl (fun i hi => ?_) (fun i hi => ?_) i (by rw [hQl] at hi; omega)
        · exact app_row (l := B ++ putL e.id) (m := putL (BitVec.ofInt 64 (e.v.length : Int))) (List.length_append ..) rfl (fun i hi => app_row (l := B) (m := putL e.id) rfl rfl (fun i hi => bytesF_lt hi) (fun i hi => hput e.id i hi) i hi) (fun i hi => hput _ i hi) i hi
        · exact nthC_w8 e.v i hi
    · obtain rfl : i = n := by have : ¬ (i : Int) < (n : Int) := of_decide_eq_false hge; omega
      rw [List.take_of_length_le (by omega)] at hB
      subst hB
      (repeat first | (refine And.intro ?_ ?_; first | exact rfl | ((exact fun h => absurd h (by first | decide)); intro yy; clear yy) | (rotate_left; (exact fun h => absurd h (by first | decide)); intro yy; clear yy) | decide | omega) | (with_reducible refine frc_bytesL (by first | omega | decide) ?_) | (with_reducible refine frc_bytesM (by first | omega | decide) ?_))
      refine ⟨.a (.c (.sl 1 0 0 (joinI l).length cB)), _, ⟨[0, 1], ⟨rfl, rfl, rfl⟩, ?_⟩, cB, g3, rfl, rfl⟩
      (repeat first | exact trivial | refine ent1 ?_)
end Sx
end Go.Proofs.Ytkjdkeolkigibaa
end

section
/-
  Things that are said, in a row of one's own. No condition.
-/
namespace Go.Proofs.Ytkjdkeolkigibaa
set_option linter.unusedVariables false
namespace Sx
open Go.RowKit Sha Vi

theorem eqC_rawI {q : List Nat} : ∀ {x : SC}, x.raw = x → eqC q x x True
  | .int k n, _ => by cases k <;> exact ⟨rfl, trivial⟩
  | .w8 _, _ => ⟨rfl, trivial⟩
  | .w16 _, _ => ⟨rfl, trivial⟩
  | .w32 _, _ => ⟨rfl, trivial⟩
  | .w64 _, _ => ⟨rfl, trivial⟩
  | .bool _, _ => ⟨rfl, trivial⟩
  | .str _, _ => ⟨rfl, trivial⟩
  | .any, _ => trivial
  | .p .., h => by cases h
  | .sl .., h => by cases h
  | .ptr _, _ => ⟨rfl, trivial⟩
  | .slc .., _ => ⟨rfl, trivial⟩
  | .ifc .., _ => ⟨rfl, trivial⟩
  | .nilIfc, _ => trivial
  | .fnv .., _ => ⟨rfl, trivial⟩
  | .clo .., h => by cases h
  | .nilFn, _ => trivial
  | .nilMap, _ => trivial
  | .sn .., h => by cases h
  | .mh _, h => by cases h
  | .cap .., h => by cases h
theorem mp_rawI {g : Nat → Nat} {x : SC} (h : x.raw = x) : SC.mp g x = x := by
  cases x <;> simp only [SC.raw] at h <;> first | rfl | cases h
theorem rz_idI {F : Nat → Bool} {α : Nat → Addr} {x : SC} (h : x.raw = x) : x.rz F α = x := by
  cases x <;> simp only [SC.raw] at h <;> first | rfl | cases h
theorem frc_atI {x y : SC} {k : SC → Prop} (h : x = y) (hk : k y) : frcSC x k := by rw [h, frcSC_eq]; exact hk
theorem takeB_nilI {n : Nat} {f : Nat → SC} {o : Nat} {k : List Seg → Prop} (h : k []) : takeB [] n f o k := h
theorem sc2 (n : Nat) : scale n (1 + 1) = n * 2 := scale_eq _ _
theorem entW_ofI {C : Cx} {X : Type} {s : St} {inv : X → St} {p : X → Prop} (h : ∃ x q, Ent C q s (inv x) ∧ p x) : EntW C s inv p := fun r a w ok => by
  obtain ⟨x, q, h1, h2⟩ := h
  exact ⟨x, rn q r, h1.okN ok, h2⟩
/-- The cells of things that a row of one's own holds. -/
def ItF (W : World) (ms : List Nat) (f : Nat → SC) (l : List It) : Prop :=
  ∀ k e, l[k]? = some e → ∃ x : ItC, f (k * 2) = .w64 e.id ∧ f (k * 2 + 1) = .slc x.a x.n x.c ∧ BsAt W ms x.a x.n x.c e.v
theorem ItF.later {W W' : World} {ms ms' : List Nat} {f : Nat → SC} {l : List It} (h : ItF W ms f l) (k : Later W ms W' ms') : ItF W' ms' f l :=
  fun j e he => let ⟨x, h1, h2, h3⟩ := h j e he; ⟨x, h1, h2, h3.later k⟩
theorem ItF.nil {W : World} {ms : List Nat} {f : Nat → SC} : ItF W ms f [] := fun k e h => by simp at h
theorem ItF.raw {W : World} {ms : List Nat} {f : Nat → SC} {l : List It} (h : ItF W ms f l) {n : Nat} (hn : l.length = n) {j : Nat} (hj : j < n * 2) : (f j).raw = f j := by
  obtain ⟨x, h1, h2, _⟩ := h (j / 2) _ (List.getElem?_eq_getElem (by omega))
  rcases Nat.mod_two_eq_zero_or_one j with hm | hm
  · rw [show j / 2 * 2 = j by omega] at h1
    rw [h1]; rfl
  · rw [show j / 2 * 2 + 1 = j by omega] at h2
    rw [h2]; rfl
theorem ItF.of {W : World} {ms : List Nat} {f g : Nat → SC} {l : List It} (h : ItF W ms f l) (hg : ∀ j, j < l.length * 2 → g j = f j) : ItF W ms g l := by
  intro k e he
  have hk : k < l.length := (List.getElem?_eq_some_iff.1 he).1
  rw [hg _ (by omega), hg _ (by omega)]
  exact h k e he
def cutC (n : Nat) (f : Nat → SC) : Nat → SC := fun j => if j < n * 2 then f j else .any
theorem ItF.cut {W : World} {ms : List Nat} {f : Nat → SC} {l : List It} (h : ItF W ms f l) {n : Nat} (hn : l.length = n) : ItF W ms (cutC n f) l :=
  h.of fun j hj => by unfold cutC; rw [if_pos (by omega)]
theorem eqC_cut {W : World} {ms : List Nat} {f G : Nat → SC} {l : List It} (h : ItF W ms f l) {n : Nat} (hn : l.length = n) {q : List Nat} (hG : ∀ j, j < n * 2 → G j = f j) (j : Nat) : eqC q (G j) (cutC n f j) True := by
  unfold cutC
  split
  · rename_i hj
    rw [hG j hj]
    exact eqC_rawI (h.raw hn hj)
  · trivial
/-- One more. -/
def snocF (f : Nat → SC) (n : Nat) (id : BitVec 64) (x : ItC) : Nat → SC := fun j => if j < n * 2 then f j else if j = n * 2 then .w64 id else if j = n * 2 + 1 then .slc x.a x.n x.c else .any
theorem ItF.snoc {W : World} {ms : List Nat} {f : Nat → SC} {l : List It} (h : ItF W ms f l) {n : Nat} (hn : l.length = n) (id : BitVec 64) {a : Option Addr} {m c : Nat} {v : Bs} (hv : BsAt W ms a m c v) : ItF W ms (snocF f n id ⟨a, m, c⟩) (l ++ [⟨id, v⟩]) := by
  intro k e he
  rcases Nat.lt_or_ge k l.length with hk | hk
  · rw [List.getElem?_append_left hk] at he
    obtain ⟨x, h1, h2, h3⟩ := h k e he
    refine ⟨x, ?_, ?_, h3⟩
    · unfold snocF; rw [if_pos (by omega)]; exact h1
    · unfold snocF; rw [if_pos (by omega)]; exact h2
  · rw [List.getElem?_append_right hk] at he
    have hk0 : k - l.length = 0 := by
      rcases Nat.eq_zero_or_pos (k - l.length) with h1 | h1
      · exact h1
      · rw [List.getElem?_eq_none (by simp; omega)] at he; cases he
    rw [hk0] at he
    injection he with he
    subst he
    refine ⟨⟨a, m, c⟩, ?_, ?_, hv⟩
    · unfold snocF; rw [if_neg (by omega), if_pos (by omega)]
    · unfold snocF; rw [if_neg (by omega), if_neg (by omega), if_pos (by omega)]
theorem eqC_snoc {W : World} {ms : List Nat} {f G : Nat → SC} {l : List It} (h : ItF W ms f l) {n : Nat} (hn : l.length = n) {id : BitVec 64} {x : ItC} {q : List Nat} (hG : ∀ j, j < n * 2 → G j = f j) (h0 : G (n * 2) = .w64 id) (h1 : G (n * 2 + 1) = .slc x.a x.n x.c) (j : Nat) : eqC q (G j) (snocF f n id x j) True := by
  unfold snocF
  split
  · rename_i hj
    rw [hG j hj]
    exact eqC_rawI (h.raw hn hj)
  · split
    · rename_i hj; subst hj; rw [h0]; exact ⟨rfl, trivial⟩
    · split
      · rename_i hj; subst hj; rw [h1]; exact ⟨rfl, trivial⟩
      · trivial
theorem app_lo {f g : Nat → SC} {n m j : Nat} (hj : j < n * 2) : appF f 0 (scale n (1 + 1)) (scale m (1 + 1)) g j = f j := by
  unfold appF; rw [sc2, if_pos hj]; rfl
theorem app_hi {f g : Nat → SC} {n m j i : Nat} (hj : j = n * 2 + i) (hi : i < m * 2) : appF f 0 (scale n (1 + 1)) (scale m (1 + 1)) g j = g i := by
  subst hj
  unfold appF; rw [sc2, sc2, if_neg (by omega), if_pos (by omega)]; congr 1; omega
theorem new_lo {g : Nat → SC} {m i : Nat} (hi : i < m * 2) : newF (scale m (1 + 1)) g i = g i := by
  unfold newF; rw [sc2, if_pos hi]
theorem snoc_raw {f : Nat → SC} {n : Nat} {id : BitVec 64} {x : ItC} (h : ∀ j, j < n * 2 → (f j).raw = f j) (j : Nat) : (snocF f n id x j).raw = snocF f n id x j := by
  unfold snocF
  split
  · rename_i hj; exact h j hj
  · split
    · rfl
    · split <;> rfl
/-- Two exchanged. -/
def swapF (f : Nat → SC) (a b : Nat) : Nat → SC := fun j => if j / 2 = b then f (a * 2 + j % 2) else if j / 2 = a then f (b * 2 + j % 2) else f j
theorem swap_raw {f : Nat → SC} {a b : Nat} (h : ∀ j, (f j).raw = f j) (j : Nat) : (swapF f a b j).raw = swapF f a b j := by
  unfold swapF
  split
  · exact h _
  · split
    · exact h _
    · exact h _
theorem ItF.swap {W : World} {ms : List Nat} {f : Nat → SC} {l : List It} (h : ItF W ms f l) {a b : Nat} (ha : a < l.length) (hb : b < l.length) : ItF W ms (swapF f a b) (swapL l a b) := by
  have hsw : swapL l a b = (l.set a (l[b]'hb)).set b (l[a]'ha) := by
    unfold swapL
    rw [List.getElem?_eq_getElem ha, List.getElem?_eq_getElem hb]
  intro k e he
  rw [hsw] at he
  have hkl : k < l.length := by have := (List.getElem?_eq_some_iff.1 he).1; simpa using this
  unfold swapF
  rw [show k * 2 / 2 = k by omega, show (k * 2 + 1) / 2 = k by omega, show k * 2 % 2 = 0 by omega, show (k * 2 + 1) % 2 = 1 by omega]
  by_cases hkb : k = b
  · subst hkb
    rw [List.getElem?_set_self (by simpa using hkl)] at he
    injection he with he
    subst he
    obtain ⟨x, h1, h2, h3⟩ := h a _ (List.getElem?_eq_getElem ha)
    exact ⟨x, by rw [if_pos rfl]; exact h1, by rw [if_pos rfl]; exact h2, h3⟩
  · rw [List.getElem?_set_ne (Ne.symm hkb)] at he
    by_cases hka : k = a
    · subst hka
      rw [List.getElem?_set_self hkl] at he
      injection he with he
      subst he
      obtain ⟨x, h1, h2, h3⟩ := h b _ (List.getElem?_eq_getElem hb)
      exact ⟨x, by rw [if_neg hkb, if_pos rfl]; exact h1, by rw [if_neg hkb, if_pos rfl]; exact h2, h3⟩
    · rw [List.getElem?_set_ne (Ne.symm hka)] at he
      obtain ⟨x, h1, h2, h3⟩ := h k _ he
      exact ⟨x, by rw [if_neg hkb, if_neg hka]; exact h1, by rw [if_neg hkb, if_neg hka]; exact h2, h3⟩
theorem upd_swap {f u v : Nat → SC} {a b : Nat} (hu : ∀ i, i < 2 → u i = f (b * 2 + i)) (hv : ∀ i, i < 2 → v i = f (a * 2 + i)) (j : Nat) : updN (updN f (a * 2) 2 u) (b * 2) 2 v j = swapF f a b j := by
  unfold updN swapF
  by_cases h1 : j / 2 = b
  · rw [if_pos h1, if_pos (by omega), hv _ (by omega)]; congr 1; omega
  · rw [if_neg h1, if_neg (by omega)]
    by_cases h2 : j / 2 = a
    · rw [if_pos h2, if_pos (by omega), hu _ (by omega)]; congr 1; omega
    · rw [if_neg h2, if_neg (by omega)]
/-- Lent. -/
theorem ItF.im {W : World} {ms : List Nat} {A : Addr} {f : Nat → SC} {m : List SC} {l : List It} (k : ItF W ms f l) {n : Nat} (hn : l.length = n) (h : 0 < n → ImAt W ms A m) (hm : ∀ j, j < n * 2 → m[j]? = some (f j)) {c : Nat} (hc : n ≤ c) (hcap : n ≤ 9223372036854775807) : ItsAt W ms (some (A.add (0 + 0))) n c l := by
  refine ⟨hn, hc, hcap, (fun e => by cases e), fun B hB j e he => ?_⟩
  injection hB with hB
  subst hB
  obtain ⟨x, h1, h2, h3⟩ := k j e he
  have hj : j < l.length := (List.getElem?_eq_some_iff.1 he).1
  refine ⟨x, (((h (by omega)).part (0 + 0) (m := m) (fun j x hx => by simpa using hx)).part (j * 2) fun i y hy => ?_), h3⟩
  match i, hy with
  | 0, hy => rw [hm _ (by omega), show j * 2 + 0 = j * 2 from rfl, h1]; exact hy
  | 1, hy => rw [hm _ (by omega), h2]; exact hy
theorem ItF.lend {W W' : World} {ms ms' : List Nat} {A : Addr} {f : Nat → SC} {l : List It} (k : ItF W ms f l) (hL : Later W ms W' ms') {F : Nat → Bool} {α : Nat → Addr} {n c : Nat} (hn : l.length = n) (hc : n ≤ c) (hn0 : n ≤ 1000) {G : Nat → SC} (hG : ∀ j, j < n * 2 → G j = f j) {ch : List Seg} (hfl : flat ch = (List.range (scale c (1 + 1))).map G)
    (h : flat ch ≠ [] → ImAt W' ms' A (((flat ch).map (SC.rz F α)).map SC.raw)) : ItsAt W' ms' (some (A.add (0 + 0))) n c l := by
  refine (k.later hL).im hn (fun h0 => h fun e => ?_) (fun j hj => ?_) hc (by omega)
  · rw [hfl] at e
    have := congrArg List.length e
    simp [sc2] at this
    omega
  · have hjn : j < scale c (1 + 1) := by rw [sc2]; omega
    rw [hfl, List.getElem?_map, List.getElem?_map, List.getElem?_map, List.getElem?_range hjn]
    have hr := k.raw hn hj
    simp only [Option.map_some]
    rw [hG j hj, rz_idI hr, hr]
end Sx
end Go.Proofs.Ytkjdkeolkigibaa
end
