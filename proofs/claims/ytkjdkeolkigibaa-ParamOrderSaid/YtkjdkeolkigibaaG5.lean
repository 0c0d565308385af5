/-
  Texts of this claim, part 5: Sxq, Tds, Frc, Bts, ViM, VsA, Sxy, VlA, PmA, VsB, VsC, PmB. No condition of its own.
-/
import Derived.Test.YtkjdkeolkigibaaG4
section
/-
  Functions by their bodies; calls by what the callee keeps to. Over any program. No condition of its own.
-/
namespace Go.Proofs.Ytkjdkeolkigibaa
set_option linter.unusedVariables false
namespace Sx
open Go.RowKit

section
variable {C : Cx}
/-- A value and the blocks behind it, said in other words. -/
def Fin (C : Cx) (v : SV) (h : List (List Seg)) (x : SV) (hs : List (List Seg)) : Prop := ∃ q, Ent C q ⟨[v], h⟩ ⟨[x], hs⟩
theorem Fin.ok {v x : SV} {h hs : List (List Seg)} (f : Fin C v h x hs) {r : Rho} {w : World} {u : Value} (hu : v.Is r u) (ok : HeapOk C h r w) : ∃ r', x.Is r' u ∧ HeapOk C hs r' w := by
  obtain ⟨q, e⟩ := f
  have ok1 : Ok C ⟨[v], h⟩ r { tmps := #[u], defers := [] } w := ⟨ok, rfl, fun d y e => by
    cases d with
    | zero => simp at e; subst e; exact hu
    | succ d => simp at e, rfl⟩
  obtain ⟨r', ok2⟩ := e.ok ok1
  exact ⟨r', ok2.slots 0 x rfl, ok2.heap⟩
end
/-- What stands fast for a function that is handed the blocks h0, of which it may not turn the first n. -/
abbrev cx0 (P : Program) (T : List (Nat × TD)) (w : World) (r0 : Rho) (n : Nat) (h0 : List (List Seg)) : Cx := ⟨P, T, w, (r0.drop n).map (·.1), r0, n, fun i => flat (getH h0 i) ≠ [], fun B => ∃ (i : Nat) (W : World) (ms : List Nat), h0[i]? = some [.past W ms] ∧ B < W.heap.size ∧ B ∉ ms⟩
/-- What a function keeps to: the blocks h0 that it is handed (the first n are only read), its arguments, what the world must bear; what it returns and leaves. -/
def FnR (P : Program) (T : List (Nat × TD)) (f : FuncId) (n : Nat) (h0 : List (List Seg)) (args : List SA) (raw : World → Prop) (Res : SV → List (List Seg) → Prop) : Prop :=
  ∀ (w : World) (r0 : Rho) (vs : List Value), HeapOk (cx0 P T w r0 n h0) h0 r0 w → IsAs r0 args vs → raw w → Calls P f vs.toArray w fun e w' =>
    ∃ v x hs r', e = .returned v ∧ SV.Is r' x v ∧ HeapOk (cx0 P T w r0 n h0) hs r' w' ∧ Res x hs
abbrev Fn (P : Program) (T : List (Nat × TD)) (f : FuncId) (h0 : List (List Seg)) (args : List SA) (raw : World → Prop) (Res : SV → List (List Seg) → Prop) : Prop := FnR P T f 0 h0 args raw Res
def anys : Nat → List SV
  | 0 => []
  | n + 1 => .any :: anys n
theorem anys_len : ∀ n, (anys n).length = n
  | 0 => rfl
  | n + 1 => by simp [anys, anys_len n]
theorem anys_get : ∀ (n d : Nat) (x : SV), (anys n)[d]? = some x → x = .any
  | 0, _, _, e => by simp [anys] at e
  | n + 1, 0, _, e => by simp [anys] at e; exact e.symm
  | n + 1, d + 1, x, e => anys_get n d x (by simpa [anys] using e)
theorem fn_of_body {P : Program} {T : List (Nat × TD)} (hT : AllT P T) (hm : P.follows .mixedOrders = true) {f : FuncId} {fn : Func} {c : Code} (hf : P.funcs[f]? = some fn) (hb : fn.body = some c) {n : Nat} {h0 : List (List Seg)} {args : List SA} {raw : World → Prop} {Res : SV → List (List Seg) → Prop}
    {t : List SV} (ht : t = args.map SV.a ++ anys (fn.ntmps - args.length))
    (h : ∀ (w : World) (r0 : Rho), r0.length = h0.length → raw w → Body (cx0 P T w r0 n h0) fn c ⟨t, h0⟩ fun v h' => ∃ x hs, Fin (cx0 P T w r0 n h0) v h' x hs ∧ Res x hs) : FnR P T f n h0 args raw Res := by
  intro w r0 vs ok ha hraw
  subst ht
  have hlen : vs.toArray.size = args.length := by rw [ha.1]; simp
  refine calls_of_body (C := cx0 P T w r0 n h0) hT hm hf hb (s := ⟨args.map SV.a ++ anys (fn.ntmps - args.length), h0⟩) (r := r0) ⟨ok, ?_, fun d x e => ?_, rfl⟩ (h w r0 ok.len hraw) ?_
  · simp [anys_len, ha.1]
  · by_cases hd : d < args.length
    · rw [List.getElem?_append_left (by simpa using hd), List.getElem?_map] at e
      obtain ⟨y, hy, rfl⟩ := Option.map_eq_some_iff.1 e
      obtain ⟨u, hu, hi⟩ := ha.2 d y hy
      have : (vs.toArray ++ Array.replicate (fn.ntmps - vs.toArray.size) undef).getD d undef = u := by
        rw [Array.getD_eq_getD_getElem?, Array.getElem?_append_left (by rw [hlen]; exact hd)]
        simp [hu]
      rw [this]
      exact hi
    · rw [List.getElem?_append_right (by simpa using Nat.le_of_not_lt hd)] at e
      rw [anys_get _ _ _ e]
      trivial
  · rintro v y h' r' w' ⟨x, hs, hf, hr⟩ hy hok
    obtain ⟨r'', hx, hok'⟩ := hf.ok hy hok
    exact ⟨v, x, hs, r'', rfl, hx, hok', hr⟩

/-! Back at the caller's. -/
def bk (N : Nat) : List Nat → Nat → Nat
  | [], j => N + j
  | x :: _, 0 => x
  | _ :: q, j + 1 => bk N q j
def SC.mp (g : Nat → Nat) : SC → SC
  | .p i b o => .p (g i) b o
  | .sl i b o n c => .sl (g i) b o n c
  | .clo f i b o => .clo f (g i) b o
  | .cap f i b o => .cap f (g i) b o
  | .cap2 f i b o j c d => .cap2 f (g i) b o (g j) c d
  | .sn z i b o n c => .sn z (g i) b o n c
  | .mh i => .mh (g i)
  | x => x
def Seg.mp (g : Nat → Nat) : Seg → Seg
  | .one x => .one (x.mp g)
  | .row n f => .row n (fun j => (f j).mp g)
  | .obj m => .obj m
  | .past w ms => .past w ms
def mpL (g : Nat → Nat) : List Seg → List Seg
  | [] => []
  | x :: r => x.mp g :: mpL g r
def SA.mp (g : Nat → Nat) : SA → SA
  | .c x => .c (x.mp g)
  | .agg l => .agg (mpL g l)
def SV.mp (g : Nat → Nat) : SV → SV
  | .any => .any
  | .a x => .a (x.mp g)
  | .tup l => .tup (l.map (SA.mp g))
theorem flat_mp (g : Nat → Nat) : ∀ l : List Seg, flat (mpL g l) = (flat l).map (SC.mp g)
  | [] => rfl
  | .one x :: r => by simp [mpL, Seg.mp, flat, flat_mp g r]
  | .row n f :: r => by simp [mpL, Seg.mp, flat, flat_mp g r, Function.comp_def]
  | .obj _ :: r => by simp [mpL, Seg.mp, flat, flat_mp g r]
  | .past _ _ :: r => by simp [mpL, Seg.mp, flat, flat_mp g r]
theorem mpL_obj {g : Nat → Nat} {l : List Seg} {m : MapD} (h : [.obj m] = mpL g l) : l = [.obj m] := by
  cases l with
  | nil => cases h
  | cons x r =>
    simp only [mpL, List.cons.injEq] at h
    have hr : r = [] := by cases r <;> first | rfl | cases h.2
    subst hr
    cases x <;> simp [Seg.mp] at h
    obtain ⟨rfl, _⟩ := h; rfl
theorem mpL_past {g : Nat → Nat} {l : List Seg} {W : World} {ms : List Nat} (h : [.past W ms] = mpL g l) : l = [.past W ms] := by
  cases l with
  | nil => cases h
  | cons x r =>
    simp only [mpL, List.cons.injEq] at h
    have hr : r = [] := by cases r <;> first | rfl | cases h.2
    subst hr
    cases x <;> simp [Seg.mp] at h
    obtain ⟨⟨rfl, rfl⟩, _⟩ := h; rfl
section
variable {g : Nat → Nat} {r' R : Rho}
theorem SC.Is.mp (hg : ∀ (i : Nat) (x : Nat × Nat), r'[i]? = some x → R[g i]? = some x) {x : SC} {v : Value} (h : x.Is r' v) : (x.mp g).Is R v := by
  cases x <;> first
    | exact h
    | (obtain ⟨B, f, e, rfl⟩ := h; exact ⟨B, f, hg _ _ e, rfl⟩)
    | (obtain ⟨B, f, e, B', f', e', rfl⟩ := h; exact ⟨B, f, hg _ _ e, B', f', hg _ _ e', rfl⟩)
    | (rcases h with ⟨h1, h2⟩ | ⟨h1, B, f, e, h2⟩ | h; exact .inl ⟨h1, h2⟩; exact .inr (.inl ⟨h1, B, f, hg _ _ e, h2⟩); exact .inr (.inr h))
theorem SA.Is.mp (hg : ∀ (i : Nat) (x : Nat × Nat), r'[i]? = some x → R[g i]? = some x) {x : SA} {v : Value} (h : x.Is r' v) : (x.mp g).Is R v := by
  cases x with
  | c x => exact SC.Is.mp hg (x := x) h
  | agg l =>
    obtain ⟨vs, e, h1, h2⟩ := h
    refine ⟨vs, e, by rw [flat_mp]; simpa using h1, fun j y e' => ?_⟩
    rw [flat_mp, List.getElem?_map, Option.map_eq_some_iff] at e'
    obtain ⟨z, hz, rfl⟩ := e'
    obtain ⟨u, e1, e2⟩ := h2 j z hz
    exact ⟨u, e1, e2.mp hg⟩
theorem SV.Is.mp (hg : ∀ (i : Nat) (x : Nat × Nat), r'[i]? = some x → R[g i]? = some x) {x : SV} {v : Value} (h : x.Is r' v) : (x.mp g).Is R v := by
  cases x with
  | any => trivial
  | a x => exact SA.Is.mp hg (x := x) h
  | tup l =>
    obtain ⟨vs, e, h1, h2⟩ := h
    refine ⟨vs, e, by simpa using h1, fun j y e' => ?_⟩
    rw [List.getElem?_map, Option.map_eq_some_iff] at e'
    obtain ⟨z, hz, rfl⟩ := e'
    obtain ⟨u, e1, e2⟩ := h2 j z hz
    exact ⟨u, e1, e2.mp hg⟩
theorem At.mp (hg : ∀ (i : Nat) (x : Nat × Nat), r'[i]? = some x → R[g i]? = some x) {w : World} {B off : Nat} {l : List Seg} {z : Bool} (h : At z r' w B off (flat l)) : At z R w B off (flat (mpL g l)) := by
  intro j y e
  rw [flat_mp, List.getElem?_map, Option.map_eq_some_iff] at e
  obtain ⟨z, hz, rfl⟩ := e
  obtain ⟨v, e1, e2, e3⟩ := h j z hz
  exact ⟨v, e1, e2.mp hg, e3⟩
end
/-- The caller's blocks behind the call. -/
def back (g : Nat → Nat) : List Nat → List (List Seg) → List (List Seg) → List (List Seg)
  | [], hs, h => h ++ hs.map (mpL g)
  | i :: q, c :: hs, h => back g q hs (h.set i (mpL g c))
  | _ :: _, [], h => h
theorem back_get (g : Nat → Nat) : ∀ (q : List Nat) (hs h : List (List Seg)), q.Nodup → (∀ i ∈ q, i < h.length) → q.length ≤ hs.length →
    (back g q hs h).length = h.length + (hs.length - q.length) ∧
    (∀ (k i : Nat), q[k]? = some i → (back g q hs h)[i]? = (hs[k]?).map (mpL g)) ∧
    (∀ (j : Nat), j < h.length → j ∉ q → (back g q hs h)[j]? = h[j]?) ∧
    (∀ (j : Nat), (back g q hs h)[h.length + j]? = (hs[q.length + j]?).map (mpL g))
  | [], hs, h, _, _, _ => ⟨by simp [back], fun k i e => by simp at e, fun j hj _ => by simp [back, List.getElem?_append_left hj], fun j => by simp only [back]; rw [List.getElem?_append_right (by omega), List.getElem?_map]; simp⟩
  | i :: q, c :: hs, h, hn, hq, hl => by
    obtain ⟨h1, h2⟩ := List.nodup_cons.1 hn
    obtain ⟨b1, b2, b3, b4⟩ := back_get g q hs (h.set i (mpL g c)) h2 (fun j hj => by simpa using hq j (by simp [hj])) (by simpa using hl)
    simp only [List.length_set] at b1 b3 b4
    refine ⟨by simp only [back, b1, List.length_cons]; omega, fun k j e => ?_, fun j hj hnj => ?_, fun j => ?_⟩
    · cases k with
      | zero =>
        simp at e
        subst e
        simp only [back, List.getElem?_cons_zero, Option.map_some]
        rw [b3 i (hq i (by simp)) h1]
        simp [hq i (by simp)]
      | succ k => simpa [back] using b2 k j (by simpa using e)
    · simp only [List.mem_cons, not_or] at hnj
      simp only [back]
      rw [b3 j hj hnj.2, List.getElem?_set_ne (Ne.symm hnj.1)]
    · simp only [back, b4, List.length_cons]
      congr 1
      rw [show q.length + 1 + j = (q.length + j) + 1 by omega]; rfl
  | _ :: _, [], _, _, _, hl => by simp at hl
theorem bk_get (N : Nat) : ∀ (q : List Nat) (k : Nat), (∀ i, q[k]? = some i → bk N q k = i) ∧ (q.length ≤ k → bk N q k = N + (k - q.length))
  | [], k => ⟨fun i e => by simp at e, fun _ => by simp [bk]⟩
  | x :: q, 0 => ⟨fun i e => by simp at e; simp [bk, e], fun h => by simp at h⟩
  | x :: q, k + 1 => ⟨fun i e => by simpa [bk] using (bk_get N q k).1 i (by simpa using e), fun h => by simp only [bk]; rw [(bk_get N q k).2 (by simpa using h)]; simp⟩
theorem HeapOk.back {C : Cx} {h hs : List (List Seg)} {r r' : Rho} {w w' : World} (ok : HeapOk C h r w) {q : List Nat} {n : Nat} (hnq : n ≤ q.length) (hn : (q.drop n).Nodup) (hq : ∀ i ∈ q, i < h.length) (hne : ∀ i ∈ q.drop n, getH h i ≠ []) (hwr : ∀ i ∈ q.drop n, C.ro ≤ i) {lv sf : Nat → Prop} (hsf : ∀ B, sf B → ∃ (i : Nat) (W : World) (ms : List Nat), h[i]? = some [.past W ms] ∧ B < W.heap.size ∧ B ∉ ms)
    (ok' : HeapOk ⟨C.P, C.T, w, ((rn q r).drop n).map (·.1), rn q r, n, lv, sf⟩ hs r' w') :
    let R := r ++ r'.drop q.length
    let g := bk h.length q
    HeapOk C (Sx.back g (q.drop n) (hs.drop n) h) R w' ∧ RLe r R ∧ (∀ (i : Nat) (x : Nat × Nat), r'[i]? = some x → R[g i]? = some x) ∧ (q.drop n = [] → Ext [] w w') ∧
    (∀ (k : Nat) (w1 : World) (ms : List Nat), hs[k]? = some [.past w1 ms] → Ext ms w1 w' ∧ (∀ B, B < w.heap.size → B < w1.heap.size → B ∉ ms → ∃ (i : Nat) (W : World) (ms : List Nat), h[i]? = some [.past W ms] ∧ B < W.heap.size ∧ B ∉ ms) ∧
      ∀ (j B f : Nat), C.ro ≤ j → R[j]? = some (B, f) → B < w1.heap.size → B ∈ ms) ∧
    (∀ (i : Nat) (W : World) (ms : List Nat), i ∉ q.drop n → h[i]? = some [.past W ms] → (Sx.back g (q.drop n) (hs.drop n) h)[i]? = some [.past W ms]) ∧
    (∀ (i : Nat) (W : World) (ms : List Nat), (Sx.back g (q.drop n) (hs.drop n) h)[i]? = some [.past W ms] → (h[i]? = some [.past W ms]) ∨ ∃ k : Nat, hs[k]? = some [.past W ms]) := by
  intro R g
  have hlen : r.length = h.length := ok.len
  have hlen' : r'.length = hs.length := ok'.len
  have hqr : ∀ i ∈ q, i < r.length := fun i hi => by rw [hlen]; exact hq i hi
  have hqs : ∀ i ∈ q.drop n, i ∈ q := fun i hi => List.mem_of_mem_drop hi
  have hpre : ∀ (k j : Nat), q[k]? = some j → r'[k]? = r[j]? := fun k j e => by
    have hj := hqr j (List.mem_of_getElem? e)
    have e1 := rn_get hqr e
    rw [List.getElem?_eq_getElem hj] at e1 ⊢
    exact ok'.agree k _ e1
  have hql : q.length ≤ r'.length := by
    rcases Nat.lt_or_ge r'.length q.length with hlt | h
    · have e1 := hpre r'.length q[r'.length] (List.getElem?_eq_getElem hlt)
      rw [List.getElem?_eq_none (Nat.le_refl _), List.getElem?_eq_getElem (hqr _ (List.getElem_mem _))] at e1
      cases e1
    · exact h
  obtain ⟨b1, b2, b3, b4⟩ := back_get g (q.drop n) (hs.drop n) h hn (fun i hi => hq i (hqs i hi)) (by simp only [List.length_drop]; omega)
  have hR1 : ∀ j, j < r.length → R[j]? = r[j]? := fun j hj => List.getElem?_append_left hj
  have hR2 : ∀ j, R[r.length + j]? = r'[q.length + j]? := fun j => by
    rw [List.getElem?_append_right (by omega), List.getElem?_drop]; congr 1; omega
  have hg : ∀ (i : Nat) (x : Nat × Nat), r'[i]? = some x → R[g i]? = some x := by
    intro i x e
    by_cases hi : i < q.length
    · have e1 := List.getElem?_eq_getElem hi
      rw [show g i = q[i] from (bk_get h.length q i).1 _ e1, hR1 _ (hqr _ (List.getElem_mem _)), ← hpre i _ e1]
      exact e
    · rw [show g i = h.length + (i - q.length) from (bk_get h.length q i).2 (by omega), ← hlen, hR2, show q.length + (i - q.length) = i by omega]
      exact e
  -- the callee's blocks that it may turn
  have hm' : ∀ B, B ∈ ((rn q r).drop n).map (·.1) → ∃ i, i ∈ q.drop n ∧ ∃ f, r[i]? = some (B, f) := by
    intro B hB
    obtain ⟨k, f, hk, e⟩ := mem_drop.1 hB
    cases hqk : q[k]? with
    | none => simp [rn, hqk] at e
    | some j =>
      rw [rn_get hqr hqk] at e
      exact ⟨j, List.mem_of_getElem? (i := k - n) (by rw [List.getElem?_drop, show n + (k - n) = k by omega]; exact hqk), f, e⟩
  have hext : Ext C.m C.w0 w' := ok.ext.trans2 ok'.ext (fun B hB => by
    obtain ⟨i, hi, f, e⟩ := hm' B hB
    exact ok.own i B f (hwr i hi) e)
  -- a block of the new list: an old one that was not handed over, or one of the callee's
  have cases_ : ∀ (j B f : Nat) (c : List Seg), (Sx.back g (q.drop n) (hs.drop n) h)[j]? = some c → R[j]? = some (B, f) → (j < h.length ∧ j ∉ q.drop n ∧ h[j]? = some c ∧ r[j]? = some (B, f)) ∨ (∃ k c', n ≤ k ∧ g k = j ∧ hs[k]? = some c' ∧ c = mpL g c' ∧ r'[k]? = some (B, f)) := by
    intro j B f c hc hr
    by_cases hj : j < h.length
    · by_cases hjq : j ∈ q.drop n
      · obtain ⟨k, hk, rfl⟩ := List.mem_iff_getElem.1 hjq
        have e1 := List.getElem?_eq_getElem hk
        rw [b2 k _ e1, Option.map_eq_some_iff] at hc
        obtain ⟨c', hc', rfl⟩ := hc
        rw [List.getElem?_drop] at hc' e1
        rw [hR1 _ (hqr _ (hqs _ hjq)), ← hpre (n + k) _ e1] at hr
        exact .inr ⟨n + k, c', by omega, (bk_get h.length q (n + k)).1 _ e1, hc', rfl, hr⟩
      · rw [b3 j hj hjq] at hc
        rw [hR1 j (by omega)] at hr
        exact .inl ⟨hj, hjq, hc, hr⟩
    · obtain ⟨d, rfl⟩ : ∃ d, j = h.length + d := ⟨j - h.length, by omega⟩
      rw [b4, Option.map_eq_some_iff] at hc
      obtain ⟨c', hc', rfl⟩ := hc
      rw [List.getElem?_drop, List.length_drop, show n + (q.length - n + d) = q.length + d by omega] at hc'
      rw [← hlen, hR2] at hr
      exact .inr ⟨q.length + d, c', by omega, by rw [show g (q.length + d) = h.length + (q.length + d - q.length) from (bk_get h.length q _).2 (by omega)]; omega, hc', rfl, hr⟩
  -- where the callee's blocks lie
  have where_ : ∀ (k B f : Nat), n ≤ k → r'[k]? = some (B, f) → (∃ i, i ∈ q.drop n ∧ ∃ f', r[i]? = some (B, f')) ∨ w.heap.size ≤ B := by
    intro k B f hk e
    rcases ok'.own k B f hk e with hm | hm
    · exact .inl (hm' B hm)
    · exact .inr hm
  have hhi : ∀ i ∈ q.drop n, h[i]? = some (getH h i) := fun i hi => by rw [getH_eq, List.getElem?_eq_getElem (hq i (hqs i hi))]; rfl
  -- an old block that was not handed over has nothing of the callee's
  have old : ∀ (j B f : Nat) (c : List Seg), j ∉ q.drop n → h[j]? = some c → r[j]? = some (B, f) → flat c ≠ [] → B ∉ ((rn q r).drop n).map (·.1) := by
    intro j B f c hjq hc hr hf hm
    obtain ⟨i, hi, f', e⟩ := hm' B hm
    exact hf (ok.sep (fun e => hjq (by rw [e]; exact hi)) (hwr i hi) hc (hhi i hi) hr e (hne i hi))
  have old2 : ∀ (j B f : Nat) (c : List Seg), C.ro ≤ j → j ∉ q.drop n → h[j]? = some c → r[j]? = some (B, f) → c = [] ∨ ((∀ i ∈ q.drop n, ∀ f', r[i]? ≠ some (B, f')) ∧ B < w.heap.size) := by
    intro j B f c ho hjq hc hr
    by_cases hex : ∃ i, i ∈ q.drop n ∧ ∃ f', r[i]? = some (B, f')
    · obtain ⟨i, hi, f', hf'⟩ := hex
      rcases ok.apart j i B f f' c _ (fun e => hjq (by rw [e]; exact hi)) ho (hwr i hi) hc (hhi i hi) hr hf' with h1 | h1
      · exact .inl h1
      · exact absurd h1 (hne i hi)
    · exact .inr ⟨fun i hi f' e => hex ⟨i, hi, f', e⟩, ok.lt j B f ho hr⟩
  have hrl := ok.rlen
  have hrl2 := ok.rol
  have two : ∀ j : Nat, j < r.length ∨ ∃ d, j = r.length + d := fun j => by
    rcases Nat.lt_or_ge j r.length with h | h
    · exact .inl h
    · exact .inr ⟨j - r.length, by omega⟩
  have pold : ∀ (i : Nat) (w1 : World) (ms : List Nat), h[i]? = some [.past w1 ms] → Ext ms w1 w' ∧ (∀ B, B < C.w0.heap.size → B < w1.heap.size → B ∉ ms → C.safe B) ∧ ∀ (j B f : Nat), C.ro ≤ j → R[j]? = some (B, f) → B < w1.heap.size → B ∈ ms := by
    intro i w1 ms hi
    obtain ⟨p1, p2, p3⟩ := ok.past i w1 ms hi
    refine ⟨p1.trans2 ok'.ext fun B hB => ?_, p2, fun j B f ho e hlt => ?_⟩
    · obtain ⟨i2, hi2, f, e⟩ := hm' B hB
      rcases Nat.lt_or_ge B w1.heap.size with hlt | hge
      · exact .inl (p3 i2 B f (hwr i2 hi2) e hlt)
      · exact .inr hge
    · rcases two j with hj | ⟨d, rfl⟩
      · rw [hR1 j hj] at e
        exact p3 j B f ho e hlt
      · rw [hR2] at e
        rcases where_ _ B f (by omega) e with ⟨i2, hi2, f', e2⟩ | hge
        · exact p3 i2 B f' (hwr i2 hi2) e2 hlt
        · have := p1.size
          omega
  have pnew : ∀ (k : Nat) (w1 : World) (ms : List Nat), hs[k]? = some [.past w1 ms] → Ext ms w1 w' ∧ (∀ B, B < w.heap.size → B < w1.heap.size → B ∉ ms → ∃ (i : Nat) (W : World) (ms : List Nat), h[i]? = some [.past W ms] ∧ B < W.heap.size ∧ B ∉ ms) ∧
      ∀ (j B f : Nat), C.ro ≤ j → R[j]? = some (B, f) → B < w1.heap.size → B ∈ ms := by
    intro k w1 ms hk
    obtain ⟨p1, p2, p3⟩ := ok'.past k w1 ms hk
    refine ⟨p1, fun B h1 h2 h3 => hsf B (p2 B h1 h2 h3), fun j B f ho e hlt => ?_⟩
    rcases two j with hj | ⟨d, rfl⟩
    · rw [hR1 j hj] at e
      apply Classical.byContradiction
      intro hn
      obtain ⟨i2, W, ms2, g1, g2, g3⟩ := hsf B (p2 B (ok.lt j B f ho e) hlt hn)
      exact g3 ((ok.past i2 W ms2 g1).2.2 j B f ho e g2)
    · rw [hR2] at e
      exact p3 _ B f (show n ≤ q.length + d by omega) e hlt
  have rows : ∀ (j : Nat) (c : List Seg), (Sx.back g (q.drop n) (hs.drop n) h)[j]? = some c → ∃ B f, R[j]? = some (B, f) := by
    intro j c e
    have hj : j < R.length := by
      have : j < (Sx.back g (q.drop n) (hs.drop n) h).length := by
        rcases Nat.lt_or_ge j (Sx.back g (q.drop n) (hs.drop n) h).length with h | h
        · exact h
        · rw [List.getElem?_eq_none h] at e; cases e
      rw [b1] at this
      simp only [R, List.length_append, List.length_drop, hlen, hlen'] at this ⊢
      omega
    exact ⟨R[j].1, R[j].2, List.getElem?_eq_getElem hj⟩
  have which : ∀ (i : Nat) (W : World) (ms : List Nat), (Sx.back g (q.drop n) (hs.drop n) h)[i]? = some [.past W ms] → (h[i]? = some [.past W ms]) ∨ ∃ k : Nat, hs[k]? = some [.past W ms] := by
    intro i W ms hi
    obtain ⟨B, f, hr⟩ := rows i _ hi
    rcases cases_ i B f _ hi hr with ⟨_, _, h3, _⟩ | ⟨k, c', _, _, h3, h4, _⟩
    · exact .inl h3
    · exact .inr ⟨k, by rw [h3, mpL_past h4]⟩
  refine ⟨⟨hext, fun i x e => ?_, ok.rol, ?_, fun j c B f hc hr => ?_, fun j B f ho hr => ?_, fun j B f ho hr => ?_, fun j B f ho hl hr => ?_, fun j c ho hl hc => ?_, fun i j B f f' c c' hij o1 o2 hi hj hri hrj => ?_, fun j m B f ho hc hr => ?_, fun i w1 ms hi => ?_⟩, fun i x e => ?_, hg, fun e => ?_, pnew, fun i W ms hn' hi => ?_, which⟩
  · have e1 := ok.agree i x e
    have hi : i < r.length := by
      rcases Nat.lt_or_ge i r.length with h | h
      · exact h
      · rw [List.getElem?_eq_none h] at e1; cases e1
    rw [hR1 i hi]; exact e1
  · rw [b1]; simp [R, hlen]; omega
  · rcases cases_ j B f c hc hr with ⟨h1, h2, h3, h4⟩ | ⟨k, c', hkn, hk, h3, rfl, h4⟩
    · refine ((ok.chunks j c B f h3 h4).mono ?_).extm ok'.ext (fun hl => old j B f c h2 h3 h4 hl)
      intro i x e
      have hi : i < r.length := by
        rcases Nat.lt_or_ge i r.length with h | h
        · exact h
        · rw [List.getElem?_eq_none h] at e; cases e
      rw [hR1 i hi]; exact e
    · intro d x e
      obtain ⟨v, e1, e2, e3⟩ := (ok'.chunks k c' B f h3 h4).mp hg d x e
      exact ⟨v, e1, e2, fun _ => e3 (le_ble hkn)⟩
  · have hj : j < r.length ∨ ∃ d, j = r.length + d := by
      rcases Nat.lt_or_ge j r.length with h | h
      · exact .inl h
      · exact .inr ⟨j - r.length, by omega⟩
    rcases hj with hj | ⟨d, rfl⟩
    · rw [hR1 j hj] at hr; exact Nat.lt_of_lt_of_le (ok.lt j B f ho hr) ok'.ext.size
    · rw [hR2] at hr; exact ok'.lt _ B f (show n ≤ q.length + d by omega) hr
  · have hj : j < r.length ∨ ∃ d, j = r.length + d := by
      rcases Nat.lt_or_ge j r.length with h | h
      · exact .inl h
      · exact .inr ⟨j - r.length, by omega⟩
    rcases hj with hj | ⟨d, rfl⟩
    · rw [hR1 j hj] at hr; exact ok.own j B f ho hr
    · rw [hR2] at hr
      rcases where_ _ B f (by omega) hr with ⟨i, hi, f', e⟩ | h
      · exact ok.own i B f' (hwr i hi) e
      · exact .inr (Nat.le_trans ok.ext.size h)
  · rw [hR1 j (by omega)] at hr
    exact ok.ros j B f ho hl hr
  · have hjq : j ∉ q.drop n := fun hc' => by have := hwr j hc'; omega
    rw [b3 j (by omega) hjq] at hc
    exact ok.dead j c ho hl hc
  · rcases cases_ i B f c hi hri with ⟨h1, h2, h3, h4⟩ | ⟨k, d, hkn, hk, h3, rfl, h4⟩ <;> rcases cases_ j B f' c' hj hrj with ⟨g1, g2, g3, g4⟩ | ⟨l, d', hln, hl, g3, rfl, g4⟩
    · exact ok.apart i j B f f' c c' hij o1 o2 h3 g3 h4 g4
    · rcases old2 i B f c o1 h2 h3 h4 with h5 | ⟨h5, h6⟩
      · exact .inl h5
      · rcases where_ _ B f' hln g4 with ⟨i', hi', f'', e⟩ | h
        · exact absurd e (h5 i' hi' f'')
        · omega
    · rcases old2 j B f' c' o2 g2 g3 g4 with h5 | ⟨h5, h6⟩
      · exact .inr h5
      · rcases where_ _ B f hkn h4 with ⟨i', hi', f'', e⟩ | h
        · exact absurd e (h5 i' hi' f'')
        · omega
    · rcases ok'.apart k l B f f' d d' (fun e => hij (by rw [← hk, ← hl, e])) hkn hln h3 g3 h4 g4 with h | h
      · left; rw [h]; rfl
      · right; rw [h]; rfl
  · rcases cases_ j B f _ hc hr with ⟨h1, h2, h3, h4⟩ | ⟨k, c', hkn, hk, h3, h4, h5⟩
    · refine (ok.maps j m B f ho h3 h4).block (ok'.ext.block B (ok.lt j B f ho h4) fun hB => ?_)
      rcases old2 j B f _ ho h2 h3 h4 with h5 | ⟨h5, _⟩
      · cases h5
      · obtain ⟨i2, hi2, f2, e2⟩ := hm' B hB
        exact h5 i2 hi2 f2 e2
    · exact ok'.maps k m B f hkn (by rw [h3, mpL_obj h4]) h5
  · rcases which i w1 ms hi with h1 | ⟨k, h1⟩
    · exact pold i w1 ms h1
    · obtain ⟨p1, p2, p3⟩ := pnew k w1 ms h1
      refine ⟨p1, fun B h2 h3 h4 => ?_, p3⟩
      obtain ⟨i2, W, ms2, g1, g2, g3⟩ := p2 B (Nat.lt_of_lt_of_le h2 ok.ext.size) h3 h4
      exact (ok.past i2 W ms2 g1).2.1 B h2 g2 g3
  · have hi : i < r.length := by
      rcases Nat.lt_or_ge i r.length with h | h
      · exact h
      · rw [List.getElem?_eq_none h] at e; cases e
    rw [hR1 i hi]; exact e
  · refine ok'.ext.mono fun B hB => ?_
    obtain ⟨i, hi, _⟩ := hm' B hB
    rw [e] at hi
    cases hi
  · have hil : i < h.length := by
      rcases Nat.lt_or_ge i h.length with h1 | h1
      · exact h1
      · rw [List.getElem?_eq_none h1] at hi; cases hi
    rw [b3 i hil hn']; exact hi

/-! Calls. -/
/-- The blocks l, where they are, aren't among q. -/
def apartB (h : List (List Seg)) (q : List Nat) : List Nat → Bool
  | [] => true
  | i :: l => (match Nat.blt i h.length with
    | true => !(memB i q) && (match getH h i with
      | [] => false
      | _ => true)
    | false => true) && apartB h q l
def keepB (k : Keep) (q : List Nat) (h : List (List Seg)) : Bool := match k with
  | .free => true
  | .all => q.isEmpty
  | .only l => apartB h q l
def allNe (h : List (List Seg)) : List Nat → Bool
  | [] => true
  | i :: q => match stirs (getH h i) with
    | false => false
    | true => allNe h q
theorem allNe_spec {h : List (List Seg)} : ∀ {q : List Nat}, allNe h q = true → ∀ i ∈ q, stirs (getH h i) = true
  | [], _, i, hi => by cases hi
  | x :: q, hh, i, hi => by
    simp only [allNe] at hh
    split at hh
    · cases hh
    · rename_i hne
      cases hi with
      | head => exact hne
      | tail _ hi => exact allNe_spec hh i hi
theorem stirs_ne {l : List Seg} (h : stirs l = true) : l ≠ [] := fun e => by subst e; cases h
/-- How long a list is, as a number written out. -/
def lenK {α : Type} : List α → Nat → (Nat → Prop) → Prop
  | [], n, k => frcN n k
  | _ :: r, n, k => lenK r (n + 1) k
theorem lenK_eq {α : Type} : ∀ (l : List α) (n : Nat) (k : Nat → Prop), lenK l n k = k (n + l.length)
  | [], n, k => frcN_eq n k
  | _ :: r, n, k => by rw [lenK, lenK_eq r]; simp only [List.length_cons]; congr 1; omega
/-- The caller's blocks behind the call, laid bare. -/
def mapK (g : Nat → Nat) : List (List Seg) → (List (List Seg) → Prop) → Prop
  | [], k => k []
  | x :: r, k => mapK g r fun l => k (mpL g x :: l)
theorem mapK_eq (g : Nat → Nat) : ∀ (l : List (List Seg)) (k : List (List Seg) → Prop), mapK g l k = k (l.map (mpL g))
  | [], _ => rfl
  | x :: r, k => by rw [mapK, mapK_eq g r]; rfl
def appK (g : Nat → Nat) (ys : List (List Seg)) : List (List Seg) → (List (List Seg) → Prop) → Prop
  | [], k => mapK g ys k
  | x :: r, k => appK g ys r fun l => k (x :: l)
theorem appK_eq (g : Nat → Nat) (ys : List (List Seg)) : ∀ (l : List (List Seg)) (k : List (List Seg) → Prop), appK g ys l k = k (l ++ ys.map (mpL g))
  | [], k => mapK_eq g ys k
  | x :: r, k => by rw [appK, appK_eq g ys r]; rfl
def backK (g : Nat → Nat) : List Nat → List (List Seg) → List (List Seg) → (List (List Seg) → Prop) → Prop
  | [], hs, h, k => appK g hs h k
  | i :: q, c :: hs, h, k => setH h i (mpL g c) fun h => backK g q hs h k
  | _ :: _, [], h, k => k h
theorem backK_eq (g : Nat → Nat) : ∀ (q : List Nat) (hs h : List (List Seg)) (k : List (List Seg) → Prop), backK g q hs h k = k (back g q hs h)
  | [], hs, h, k => appK_eq g hs h k
  | i :: q, c :: hs, h, k => by rw [backK, setH_eq, backK_eq g q]; rfl
  | _ :: _, [], _, _ => rfl
section
variable {C : Cx}
theorem apartB_spec {h : List (List Seg)} {q : List Nat} : ∀ {l : List Nat}, apartB h q l = true → ∀ i ∈ l, i < h.length → i ∉ q ∧ getH h i ≠ []
  | [], _, i, hi, _ => by cases hi
  | x :: l, hh, i, hi, hl => by
    simp only [apartB, Bool.and_eq_true] at hh
    cases hi with
    | tail _ hi => exact apartB_spec hh.2 i hi hl
    | head =>
      have h1 := hh.1
      split at h1
      · simp only [Bool.and_eq_true, Bool.not_eq_true'] at h1
        refine ⟨fun hc => ?_, fun e => ?_⟩
        · rw [memB_iff.2 hc] at h1
          exact absurd h1.1 (by simp)
        · rw [e] at h1
          exact absurd h1.2 (by simp)
      · rename_i hb
        have : Nat.blt x h.length = true := Nat.ble_eq_true_of_le hl
        rw [this] at hb
        cases hb
theorem frm_back {k : Keep} {h hs : List (List Seg)} {q : List Nat} {n : Nat} {r r' : Rho} {w w' : World} {lv sf : Nat → Prop} {h' : List (List Seg)} (hqr : ∀ i ∈ q, i < r.length) (hl : ∀ i ∈ q, i < h.length) (hst : ∀ i ∈ q.drop n, stirs (getH h i) = true) (hwr : ∀ i ∈ q.drop n, C.ro ≤ i) (h4 : keepB k (q.drop n) h = true) (ok : HeapOk C h r w)
    (hok : HeapOk ⟨C.P, C.T, w, ((rn q r).drop n).map (·.1), rn q r, n, lv, sf⟩ hs r' w') (hnq : n ≤ q.length) (o4 : q.drop n = [] → Ext [] w w') (ok2 : HeapOk C h' (r ++ r'.drop q.length) w')
    (o5 : ∀ (k : Nat) (w1 : World) (ms : List Nat), hs[k]? = some [.past w1 ms] → Ext ms w1 w' ∧ (∀ B, B < w.heap.size → B < w1.heap.size → B ∉ ms → ∃ (i : Nat) (W : World) (ms : List Nat), h[i]? = some [.past W ms] ∧ B < W.heap.size ∧ B ∉ ms) ∧
      ∀ (j B f : Nat), C.ro ≤ j → (r ++ r'.drop q.length)[j]? = some (B, f) → B < w1.heap.size → B ∈ ms)
    (hkp : k.binds = true → Keeps h h')
    (o7 : ∀ (i : Nat) (W : World) (ms : List Nat), h'[i]? = some [.past W ms] → (h[i]? = some [.past W ms]) ∨ ∃ k : Nat, hs[k]? = some [.past W ms]) : Frm C k h r w h' (r ++ r'.drop q.length) w' := by
  have hne : ∀ i ∈ q.drop n, getH h i ≠ [] := fun i hi => stirs_ne (hst i hi)
  have hqs : ∀ i ∈ q.drop n, i ∈ q := fun i hi => List.mem_of_mem_drop hi
  have hsub : ∀ B, B ∈ ((rn q r).drop n).map (·.1) → ∃ i, i ∈ q.drop n ∧ ∃ f, r[i]? = some (B, f) := by
    intro B hB
    obtain ⟨k, f, hk, e⟩ := mem_drop.1 hB
    cases hqk : q[k]? with
    | none => simp [rn, hqk] at e
    | some j =>
      rw [rn_get hqr hqk] at e
      exact ⟨j, List.mem_of_getElem? (i := k - n) (by rw [List.getElem?_drop, show n + (k - n) = k by omega]; exact hqk), f, e⟩
  have hmem : ∀ B, B ∈ ((rn q r).drop n).map (·.1) → B ∈ (r.drop C.ro).map (·.1) := fun B hB => by
    obtain ⟨i, hi, f, e⟩ := hsub B hB
    exact mem_drop.2 ⟨i, f, hwr i hi, e⟩
  refine ⟨hok.ext.mono fun i hi => .inl (hmem i hi), fun i B f ho e => ?_, ?_, hkp, fun i W ms hi B h1 h2 h3 => ?_⟩
  · rw [List.getElem?_append] at e
    split at e
    · exact .inl (mem_drop.2 ⟨i, f, ho, e⟩)
    · rw [List.getElem?_drop] at e
      rcases hok.own _ B f (show n ≤ q.length + (i - r.length) by omega) e with h | h
      · exact .inl (hmem B h)
      · exact .inr h
  · cases k with
    | free => trivial
    | all => exact o4 (by simpa [keepB] using h4)
    | only l =>
      refine ⟨?_, fun i hi ho B f hr hB => hok.ext.block B hB fun hc => ?_, fun i W ms hi => let ⟨_, _, e2, hl⟩ := hkp rfl i W ms hi; hl.ext (ok2.past i _ _ e2).1⟩
      · exact ok.ext.trans2 hok.ext fun B hB => by
          obtain ⟨i, hi, f, e⟩ := hsub B hB
          exact ok.own i B f (hwr i hi) e
      · obtain ⟨j, hjq, f', e2⟩ := hsub B hc
        have hil : i < h.length := by
          rw [← ok.len]
          rcases Nat.lt_or_ge i r.length with h | h
          · exact h
          · rw [List.getElem?_eq_none h] at hr; cases hr
        obtain ⟨a1, a2⟩ := apartB_spec h4 i hi hil
        have hij : i ≠ j := fun e => by subst e; exact a1 hjq
        have ch : ∀ z, z < h.length → h[z]? = some (getH h z) := fun z hz => by rw [getH_eq, List.getElem?_eq_getElem hz]; rfl
        rcases ok.apart i j B f f' _ _ hij ho (hwr j hjq) (ch i hil) (ch j (hl j (hqs j hjq))) hr e2 with h | h
        · exact a2 h
        · exact hne j hjq h
  · rcases o7 i W ms hi with h5 | ⟨d, h5⟩
    · exact ⟨i, W, ms, h5, h2, h3⟩
    · exact (o5 d W ms h5).2.1 B h1 h2 h3
def allGe (n : Nat) : List Nat → Bool
  | [] => true
  | x :: r => match Nat.ble n x with
    | true => allGe n r
    | false => false
theorem allGe_spec {n : Nat} : ∀ {l : List Nat}, allGe n l = true → ∀ i ∈ l, n ≤ i
  | [], _, i, hi => by cases hi
  | x :: l, h, i, hi => by
    simp only [allGe] at h
    split at h
    · rename_i hb
      cases hi with
      | head => exact ble_le hb
      | tail _ hi => exact allGe_spec h i hi
    · cases h
def disj (a : List Nat) : List Nat → Bool
  | [] => true
  | x :: r => match memB x a with
    | true => false
    | false => disj a r
theorem disj_spec {a : List Nat} : ∀ {l : List Nat}, disj a l = true → ∀ i ∈ l, i ∉ a
  | [], _, i, hi => by cases hi
  | x :: l, h, i, hi => by
    simp only [disj] at h
    split at h
    · cases h
    · rename_i hb
      cases hi with
      | head => exact fun hc => by rw [memB_iff.2 hc] at hb; cases hb
      | tail _ hi => exact disj_spec h i hi
/-- Whether blocks may be handed over: the first n to be read, the others to be turned. -/
def qOk (ro n : Nat) (qt : Keep) (q : List Nat) (h : List (List Seg)) : Bool :=
  Nat.ble n q.length && nodup (q.drop n) && allLt q h.length && allNe h (q.drop n) && allGe ro (q.drop n) && disj (q.take n) (q.drop n) && keepB qt (q.drop n) h
/-- What the callee finds. -/
theorem call_ok0 {qt : Keep} {h : List (List Seg)} {n : Nat} {h0 : List (List Seg)} {q : List Nat} (hq : qOk C.ro n qt q h = true) (hE : entH q h q h0 True) {r : Rho} {w : World} (ok : HeapOk C h r w) :
    HeapOk (cx0 C.P C.T w (rn q r) n h0) h0 (rn q r) w ∧ ∀ (i : Nat) (W : World) (ms : List Nat), h0[i]? = some [.past W ms] → ∃ j, q[i]? = some j ∧ h[j]? = some [.past W ms] := by
  simp only [qOk, Bool.and_eq_true] at hq
  obtain ⟨⟨⟨⟨⟨⟨h0', h1⟩, h2⟩, h3⟩, h5⟩, h6⟩, h4⟩ := hq
  have hnq := ble_le h0'
  have hn := nodup_spec h1
  have hl := allLt_spec h2
  have hst := allNe_spec h3
  have hne : ∀ i ∈ q.drop n, getH h i ≠ [] := fun i hi => stirs_ne (hst i hi)
  have hwr := allGe_spec h5
  have hdj := disj_spec h6
  have hlen := ok.len
  have hqs : ∀ i ∈ q.drop n, i ∈ q := fun i hi => List.mem_of_mem_drop hi
  have hqr : ∀ i ∈ q, i < r.length := fun i hi => by rw [hlen]; exact hl i hi
  obtain ⟨_, e7, e8⟩ := entH_spec hqr h hE
  have look : ∀ (i B f : Nat), (rn q r)[i]? = some (B, f) → ∃ j, q[i]? = some j ∧ r[j]? = some (B, f) := by
    intro i B f e
    cases hi : q[i]? with
    | none => simp [rn, hi] at e
    | some j => exact ⟨j, rfl, by rw [← rn_get hqr hi]; exact e⟩
  have hdrop : ∀ (i j : Nat), n ≤ i → q[i]? = some j → j ∈ q.drop n := fun i j hi e =>
    List.mem_of_getElem? (i := i - n) (by rw [List.getElem?_drop, show n + (i - n) = i by omega]; exact e)
  have chunk : ∀ j, j < h.length → h[j]? = some (getH h j) := fun j hj => by rw [getH_eq, List.getElem?_eq_getElem hj]; rfl
  have cells : ∀ (i B f : Nat) (ch : List Seg), h0[i]? = some ch → (rn q r)[i]? = some (B, f) → At (Nat.ble n i) (rn q r) w B f (flat ch) := by
    intro i B f ch hi hr j y e
    obtain ⟨j', hq', hr'⟩ := look i B f hr
    obtain ⟨_, h9⟩ := e8 i ch j' hi hq'
    obtain ⟨x, hx, hv⟩ := h9 j y e
    obtain ⟨v, e1, e2, e3⟩ := ok.chunk hr' j x hx
    exact ⟨v, e1, hv v e2, fun hb => e3 (le_ble (hwr j' (hdrop i j' (ble_le hb) hq')))⟩
  have pastUp : ∀ (i : Nat) (W : World) (ms : List Nat), h0[i]? = some [.past W ms] → ∃ j, q[i]? = some j ∧ h[j]? = some [.past W ms] := by
    intro i W ms hi
    have hil : i < q.length := by
      rw [e7]
      rcases Nat.lt_or_ge i h0.length with h1 | h1
      · exact h1
      · rw [List.getElem?_eq_none h1] at hi; cases hi
    have hqi := List.getElem?_eq_getElem hil
    refine ⟨_, hqi, ?_⟩
    have hk := (e8 i _ _ hi hqi).1.2.2 W ms rfl
    rw [chunk _ (hl _ (List.getElem_mem _)), hk]
  refine ⟨?_, pastUp⟩
  · refine ⟨Ext.refl _ _, RLe.refl _, by simpa [rn] using hnq, by simp [rn, e7], fun i ch B f hi hr => cells i B f ch hi hr, fun i B f ho hr => ?_, fun i B f ho hr => .inl (mem_drop.2 ⟨i, f, ho, hr⟩), fun i B f ho hlv hr => ?_, fun i ch ho hlv hi => ?_, fun i j B f f' ch ch' hij o1 o2 hi hj hri hrj => ?_, fun i m B f ho hi hr => ?_, fun i W ms hi => ?_⟩
    · obtain ⟨j', hq', hr'⟩ := look i B f hr
      exact ok.lt j' B f (hwr j' (hdrop i j' ho hq')) hr'
    · have hi0 : i < h0.length := by
        rw [← e7]
        obtain ⟨j', hq', _⟩ := look i B f hr
        rcases Nat.lt_or_ge i q.length with h | h
        · exact h
        · rw [List.getElem?_eq_none h] at hq'; cases hq'
      have hch : h0[i]? = some (getH h0 i) := by rw [getH_eq, List.getElem?_eq_getElem hi0]; rfl
      have hAt := cells i B f _ hch hr
      refine ⟨fun hc => ?_, hAt.lt hlv⟩
      obtain ⟨j', hq', hr'⟩ := look i B f hr
      obtain ⟨i2, f2, hi2, e2⟩ := mem_drop.1 hc
      obtain ⟨j2, hq2, hr2⟩ := look i2 B f2 e2
      have hj2 := hdrop i2 j2 hi2 hq2
      have hjt : j' ∈ q.take n := List.mem_of_getElem? (i := i) (by rw [List.getElem?_take, if_pos ho]; exact hq')
      have hne2 : j' ≠ j2 := fun e => hdj j2 hj2 (e ▸ hjt)
      have hfl := ok.sep hne2 (hwr j2 hj2) (chunk j' (hl j' (List.mem_of_getElem? hq'))) (chunk j2 (hl j2 (hqs j2 hj2))) hr' hr2 (hne j2 hj2)
      obtain ⟨_, h9⟩ := e8 i _ j' hch hq'
      cases e : flat (getH h0 i) with
      | nil => exact hlv e
      | cons y l =>
        obtain ⟨x, hx, _⟩ := h9 0 y (by rw [e]; rfl)
        rw [hfl] at hx
        cases hx
    · have : getH h0 i = ch := by rw [getH_eq, hi]; rfl
      rw [← this]
      exact Classical.byContradiction hlv
    · have o1 : n ≤ i := o1
      have o2 : n ≤ j := o2
      obtain ⟨i', hqi, hri'⟩ := look i B f hri
      obtain ⟨j', hqj, hrj'⟩ := look j B f' hrj
      have m1 := hdrop i i' o1 hqi
      have m2 := hdrop j j' o2 hqj
      have hne' : i' ≠ j' := by
        intro e
        subst e
        have g1 : (q.drop n)[i - n]? = some i' := by rw [List.getElem?_drop, show n + (i - n) = i by omega]; exact hqi
        have g2 : (q.drop n)[j - n]? = some i' := by rw [List.getElem?_drop, show n + (j - n) = j by omega]; exact hqj
        have hi1 : i - n < (q.drop n).length := by
          rcases Nat.lt_or_ge (i - n) (q.drop n).length with h | h
          · exact h
          · rw [List.getElem?_eq_none h] at g1; cases g1
        have := (List.getElem?_inj hi1 hn).1 (g1.trans g2.symm)
        omega
      have l1 := hl i' (hqs i' m1)
      have l2 := hl j' (hqs j' m2)
      rcases ok.apart i' j' B f f' _ _ hne' (hwr i' m1) (hwr j' m2) (chunk i' l1) (chunk j' l2) hri' hrj' with h | h
      · exact .inl ((e8 i ch i' hi hqi).1.1 h)
      · exact .inr ((e8 j ch' j' hj hqj).1.1 h)
    · obtain ⟨j', hq', hr'⟩ := look i B f hr
      have m1 := hdrop i j' ho hq'
      refine ok.maps j' m B f (hwr j' m1) ?_ hr'
      have hk := (e8 i _ _ hi hq').1.2.1 m rfl
      rw [← hk]
      exact chunk _ (hl _ (hqs j' m1))
    · obtain ⟨j', hq', hj'⟩ := pastUp i W ms hi
      obtain ⟨p1, _, p3⟩ := ok.past j' W ms hj'
      refine ⟨p1, fun B _ h2 h3 => ⟨i, W, ms, hi, h2, h3⟩, fun j B f ho hr hlt => ?_⟩
      obtain ⟨j2, hq2, hr2⟩ := look j B f hr
      exact p3 j2 B f (hwr j2 (hdrop j j2 ho hq2)) hr2 hlt
/-- A call by what the callee keeps to; q: what the callee's blocks are called here. -/
theorem call_fn {qt : Keep} {f : FuncId} {args args0 : List SA} {t : List SV} {h : List (List Seg)} {k : SV → List (List Seg) → Prop} {n : Nat} {h0 : List (List Seg)} {raw : World → Prop} {Res : SV → List (List Seg) → Prop}
    (hfn : FnR C.P C.T f n h0 args0 raw Res) (q : List Nat) (hq : qOk C.ro n qt q h = true)
    (hE : entH q h q h0 True) (hA : ∀ r w vs, HeapOk C h r w → IsAs r args vs → IsAs (rn q r) args0 vs) (hraw : ∀ r w, HeapOk C h r w → raw w)
    (hk : ∀ x hs, Res x hs → lenK h 0 fun N => backK (bk N q) (q.drop n) (hs.drop n) h fun h' => k (x.mp (bk N q)) h') : CallVC C qt f #[] args #[] t h k := by
  intro r a w vs ok ha
  obtain ⟨ok0, pastUp⟩ := call_ok0 hq hE ok.heap
  simp only [qOk, Bool.and_eq_true] at hq
  obtain ⟨⟨⟨⟨⟨⟨h0', h1⟩, h2⟩, h3⟩, h5⟩, h6⟩, h4⟩ := hq
  have hnq := ble_le h0'
  have hn := nodup_spec h1
  have hl := allLt_spec h2
  have hst := allNe_spec h3
  have hne : ∀ i ∈ q.drop n, getH h i ≠ [] := fun i hi => stirs_ne (hst i hi)
  have hwr := allGe_spec h5
  have hlen := ok.heap.len
  have hqr : ∀ i ∈ q, i < r.length := fun i hi => by rw [hlen]; exact hl i hi
  have hcall := hfn w (rn q r) vs ok0 (hA r w vs ok.heap ha) (hraw r w ok.heap)
  have hargs : (#[] : Array Value) ++ vs.toArray ++ #[] = vs.toArray := by simp
  rw [hargs]
  refine hcall.mono ?_
  rintro e w' ⟨v, x, hs, r', rfl, hx, hok, hres⟩
  obtain ⟨o1, o2, o3, o4, o5, o6, o7⟩ := ok.heap.back hnq hn hl hne hwr (fun B ⟨i, W, ms, h1, h2, h3⟩ => by
    obtain ⟨j', _, hj'⟩ := pastUp i W ms h1
    exact ⟨j', W, ms, hj', h2, h3⟩) hok
  have hk' := hk x hs hres
  rw [lenK_eq, Nat.zero_add, backK_eq] at hk'
  exact ⟨v, _, _, _, rfl, hx.mp o3, o2, o1, frm_back hqr hl hst hwr h4 ok.heap hok hnq o4 o1 o5 (fun _ => .of fun i W ms hi => o6 i W ms (fun hc => by
    have := hst i hc
    rw [getH_eq, hi] at this
    cases this) hi) o7, hk'⟩
/-- Arguments that are the same there. -/
def eqAs (q : List Nat) : List SA → List SA → Prop
  | [], [] => True
  | x :: r, y :: r' => eqA q x y (eqAs q r r')
  | _, _ => False
theorem eqAs_spec {q : List Nat} {r : Rho} (hq : ∀ i ∈ q, i < r.length) : ∀ {l l' : List SA} {vs : List Value}, eqAs q l l' → IsAs r l vs → IsAs (rn q r) l' vs
  | [], [], vs, _, h => ⟨h.1, fun j x e => by simp at e⟩
  | x :: l, y :: l', vs, h, hv => by
    obtain ⟨h, h1⟩ := eqA_spec hq (show eqA q x y (eqAs q l l') from h)
    cases vs with
    | nil => have := hv.1; simp at this
    | cons v vs =>
      have ht := eqAs_spec (vs := vs) hq h ⟨by simpa using hv.1, fun j z e => hv.2 (j + 1) z e⟩
      refine ⟨by simpa using ht.1, fun j z e => ?_⟩
      cases j with
      | zero =>
        simp at e
        subst e
        obtain ⟨u, e1, e2⟩ := hv.2 0 x rfl
        exact ⟨u, e1, h1 u e2⟩
      | succ j => exact ht.2 j z e
  | [], _ :: _, _, h, _ => h.elim
  | _ :: _, [], _, h, _ => h.elim
theorem call_same {qt : Keep} {f : FuncId} {args args0 : List SA} {t : List SV} {h : List (List Seg)} {k : SV → List (List Seg) → Prop} {n : Nat} {h0 : List (List Seg)} {raw : World → Prop} {Res : SV → List (List Seg) → Prop}
    (hfn : FnR C.P C.T f n h0 args0 raw Res) (q : List Nat) (hq : qOk C.ro n qt q h = true)
    (hA : eqAs q args args0) (hE : entH q h q h0 True) (hraw : ∀ w, Ext C.m C.w0 w → raw w)
    (hk : ∀ x hs, Res x hs → lenK h 0 fun N => backK (bk N q) (q.drop n) (hs.drop n) h fun h' => k (x.mp (bk N q)) h') : CallVC C qt f #[] args #[] t h k := by
  refine call_fn hfn q hq hE (fun r w vs ok hv => eqAs_spec (fun i hi => ?_) hA hv) (fun r w ok => hraw w ok.ext) hk
  simp only [qOk, Bool.and_eq_true] at hq
  rw [ok.len]
  exact allLt_spec hq.1.1.1.1.2 i hi
/-- What is returned where a function is called from outside. -/
theorem Fn.calls {P : Program} {T : List (Nat × TD)} {f : FuncId} {args : List SA} {raw : World → Prop} {Res : SV → List (List Seg) → Prop} (h : FnR P T f 0 [] args raw Res) {w : World} {vs : List Value} (ha : IsAs [] args vs) (hr : raw w) :
    Calls P f vs.toArray w fun e w' => ∃ v x hs r', e = .returned v ∧ SV.Is r' x v ∧ HeapOk (cx0 P T w [] 0 []) hs r' w' ∧ Res x hs :=
  h w [] vs ⟨Ext.refl _ _, RLe.refl _, Nat.le_refl _, rfl, fun i ch B f hi => by simp at hi, fun i B f _ hr => by simp at hr, fun i B f _ hr => by simp at hr, fun i B f _ _ hr => by simp at hr, fun i ch _ _ hi => by simp at hi, fun i j B f f' ch ch' _ _ _ hi => by simp at hi, fun i m B f _ hi => by simp at hi, fun i W ms hi => by simp at hi⟩ ha hr
end
end Sx
end Go.Proofs.Ytkjdkeolkigibaa
end

section
/-
  The table of types. No condition.
-/
namespace Go.Proofs.Ytkjdkeolkigibaa
set_option linter.unusedVariables false
namespace Sx
def tds : List (Nat × TD) := [(1, ⟨.fn, 1, 8, [.one (.nilFn)]⟩),
  (2, ⟨.int .i64, 1, 8, [.one (.int .i64 0)]⟩),
  (3, ⟨.int .i64, 1, 8, [.one (.int .i64 0)]⟩),
  (4, ⟨.bool, 1, 1, [.one (.bool false)]⟩),
  (5, ⟨.int .u8, 1, 1, [.one (.w8 0)]⟩),
  (6, ⟨.int .u8, 1, 1, [.one (.w8 0)]⟩),
  (7, ⟨.struct [(2, 0), (3, 1), (4, 2), (6, 3)], 4, 24, [.one (.int .i64 0), .one (.int .i64 0), .one (.bool false), .one (.w8 0)]⟩),
  (8, ⟨.struct [(2, 0), (3, 1), (4, 2), (6, 3)], 4, 24, [.one (.int .i64 0), .one (.int .i64 0), .one (.bool false), .one (.w8 0)]⟩),
  (9, ⟨.str, 1, 16, [.one (.str [])]⟩),
  (10, ⟨.str, 1, 16, [.one (.str [])]⟩),
  (11, ⟨.str, 1, 16, [.one (.str [])]⟩),
  (12, ⟨.int .u64, 1, 8, [.one (.w64 0)]⟩),
  (13, ⟨.struct [(9, 0), (12, 1)], 2, 24, [.one (.str []), .one (.w64 0)]⟩),
  (14, ⟨.struct [(9, 0), (12, 1)], 2, 24, [.one (.str []), .one (.w64 0)]⟩),
  (15, ⟨.ptr 202, 1, 8, [.one (.ptr none)]⟩),
  (16, ⟨.ptr 205, 1, 8, [.one (.ptr none)]⟩),
  (17, ⟨.ptr 213, 1, 8, [.one (.ptr none)]⟩),
  (18, ⟨.struct [(17, 0)], 1, 8, [.one (.ptr none)]⟩),
  (19, ⟨.struct [(17, 0)], 1, 8, [.one (.ptr none)]⟩),
  (20, ⟨.ifc, 1, 16, [.one (.nilIfc)]⟩),
  (21, ⟨.int .i32, 1, 4, [.one (.int .i32 0)]⟩),
  (22, ⟨.int .u8, 1, 1, [.one (.w8 0)]⟩),
  (23, ⟨.slice 5, 1, 24, [.one (.slc none 0 0)]⟩),
  (24, ⟨.struct [(22, 0), (23, 1), (23, 2), (23, 3), (4, 4), (23, 5)], 6, 112, [.one (.w8 0), .one (.slc none 0 0), .one (.slc none 0 0), .one (.slc none 0 0), .one (.bool false), .one (.slc none 0 0)]⟩),
  (25, ⟨.struct [(22, 0), (23, 1), (23, 2), (23, 3), (4, 4), (23, 5)], 6, 112, [.one (.w8 0), .one (.slc none 0 0), .one (.slc none 0 0), .one (.slc none 0 0), .one (.bool false), .one (.slc none 0 0)]⟩),
  (26, ⟨.fn, 1, 8, [.one (.nilFn)]⟩),
  (27, ⟨.fn, 1, 8, [.one (.nilFn)]⟩),
  (28, ⟨.fn, 1, 8, [.one (.nilFn)]⟩),
  (29, ⟨.slice 25, 1, 24, [.one (.slc none 0 0)]⟩),
  (30, ⟨.slice 3, 1, 24, [.one (.slc none 0 0)]⟩),
  (31, ⟨.int .i64, 1, 8, [.one (.int .i64 0)]⟩),
  (32, ⟨.fn, 1, 8, [.one (.nilFn)]⟩),
  (34, ⟨.fn, 1, 8, [.one (.nilFn)]⟩),
  (35, ⟨.fn, 1, 8, [.one (.nilFn)]⟩),
  (36, ⟨.fn, 1, 8, [.one (.nilFn)]⟩),
  (37, ⟨.fn, 1, 8, [.one (.nilFn)]⟩),
  (38, ⟨.int .u64, 1, 8, [.one (.w64 0)]⟩),
  (39, ⟨.struct [(38, 0), (38, 1), (38, 2), (38, 3), (38, 4), (38, 5), (38, 6), (38, 7), (38, 8), (23, 9)], 10, 96, [.one (.w64 0), .one (.w64 0), .one (.w64 0), .one (.w64 0), .one (.w64 0), .one (.w64 0), .one (.w64 0), .one (.w64 0), .one (.w64 0), .one (.slc none 0 0)]⟩),
  (40, ⟨.struct [(38, 0), (38, 1), (38, 2), (38, 3), (38, 4), (38, 5), (38, 6), (38, 7), (38, 8), (23, 9)], 10, 96, [.one (.w64 0), .one (.w64 0), .one (.w64 0), .one (.w64 0), .one (.w64 0), .one (.w64 0), .one (.w64 0), .one (.w64 0), .one (.w64 0), .one (.slc none 0 0)]⟩),
  (41, ⟨.fn, 1, 8, [.one (.nilFn)]⟩),
  (42, ⟨.slice 40, 1, 24, [.one (.slc none 0 0)]⟩),
  (43, ⟨.fn, 1, 8, [.one (.nilFn)]⟩),
  (44, ⟨.fn, 1, 8, [.one (.nilFn)]⟩),
  (46, ⟨.fn, 1, 8, [.one (.nilFn)]⟩),
  (47, ⟨.fn, 1, 8, [.one (.nilFn)]⟩),
  (48, ⟨.array 9 38, 9, 72, [.row 9 (fun _ => .w64 0)]⟩),
  (49, ⟨.fn, 1, 8, [.one (.nilFn)]⟩),
  (50, ⟨.fn, 1, 8, [.one (.nilFn)]⟩),
  (51, ⟨.fn, 1, 8, [.one (.nilFn)]⟩),
  (52, ⟨.int .u16, 1, 2, [.one (.w16 0)]⟩),
  (53, ⟨.slice 38, 1, 24, [.one (.slc none 0 0)]⟩),
  (54, ⟨.slice 59, 1, 24, [.one (.slc none 0 0)]⟩),
  (55, ⟨.ptr 38, 1, 8, [.one (.ptr none)]⟩),
  (56, ⟨.slice 55, 1, 24, [.one (.slc none 0 0)]⟩),
  (57, ⟨.fn, 1, 8, [.one (.nilFn)]⟩),
  (58, ⟨.struct [(38, 0), (23, 1)], 2, 32, [.one (.w64 0), .one (.slc none 0 0)]⟩),
  (59, ⟨.struct [(38, 0), (23, 1)], 2, 32, [.one (.w64 0), .one (.slc none 0 0)]⟩),
  (60, ⟨.fn, 1, 8, [.one (.nilFn)]⟩),
  (61, ⟨.fn, 1, 8, [.one (.nilFn)]⟩),
  (62, ⟨.slice 23, 1, 24, [.one (.slc none 0 0)]⟩),
  (63, ⟨.fn, 1, 8, [.one (.nilFn)]⟩),
  (64, ⟨.struct [(25, 0), (3, 6), (3, 7)], 8, 128, [.one (.w8 0), .one (.slc none 0 0), .one (.slc none 0 0), .one (.slc none 0 0), .one (.bool false), .one (.slc none 0 0), .one (.int .i64 0), .one (.int .i64 0)]⟩),
  (65, ⟨.struct [(25, 0), (3, 6), (3, 7)], 8, 128, [.one (.w8 0), .one (.slc none 0 0), .one (.slc none 0 0), .one (.slc none 0 0), .one (.bool false), .one (.slc none 0 0), .one (.int .i64 0), .one (.int .i64 0)]⟩),
  (67, ⟨.fn, 1, 8, [.one (.nilFn)]⟩),
  (69, ⟨.fn, 1, 8, [.one (.nilFn)]⟩),
  (70, ⟨.fn, 1, 8, [.one (.nilFn)]⟩),
  (71, ⟨.fn, 1, 8, [.one (.nilFn)]⟩),
  (72, ⟨.fn, 1, 8, [.one (.nilFn)]⟩),
  (73, ⟨.array 32 5, 32, 32, [.row 32 (fun _ => .w8 0)]⟩),
  (74, ⟨.struct [(5, 0), (73, 1), (40, 33), (73, 43)], 75, 168, [.one (.w8 0), .row 32 (fun _ => .w8 0), .one (.w64 0), .one (.w64 0), .one (.w64 0), .one (.w64 0), .one (.w64 0), .one (.w64 0), .one (.w64 0), .one (.w64 0), .one (.w64 0), .one (.slc none 0 0), .row 32 (fun _ => .w8 0)]⟩),
  (75, ⟨.struct [(5, 0), (73, 1), (40, 33), (73, 43)], 75, 168, [.one (.w8 0), .row 32 (fun _ => .w8 0), .one (.w64 0), .one (.w64 0), .one (.w64 0), .one (.w64 0), .one (.w64 0), .one (.w64 0), .one (.w64 0), .one (.w64 0), .one (.w64 0), .one (.slc none 0 0), .row 32 (fun _ => .w8 0)]⟩),
  (76, ⟨.fn, 1, 8, [.one (.nilFn)]⟩),
  (77, ⟨.fn, 1, 8, [.one (.nilFn)]⟩),
  (79, ⟨.fn, 1, 8, [.one (.nilFn)]⟩),
  (81, ⟨.fn, 1, 8, [.one (.nilFn)]⟩),
  (82, ⟨.fn, 1, 8, [.one (.nilFn)]⟩),
  (83, ⟨.fn, 1, 8, [.one (.nilFn)]⟩),
  (84, ⟨.slice 75, 1, 24, [.one (.slc none 0 0)]⟩),
  (85, ⟨.ptr 123, 1, 8, [.one (.ptr none)]⟩),
  (86, ⟨.fn, 1, 8, [.one (.nilFn)]⟩),
  (87, ⟨.ptr 141, 1, 8, [.one (.ptr none)]⟩),
  (88, ⟨.fn, 1, 8, [.one (.nilFn)]⟩),
  (89, ⟨.fn, 1, 8, [.one (.nilFn)]⟩),
  (90, ⟨.fn, 1, 8, [.one (.nilFn)]⟩),
  (91, ⟨.fn, 1, 8, [.one (.nilFn)]⟩),
  (92, ⟨.array 32 5, 32, 32, [.row 32 (fun _ => .w8 0)]⟩),
  (93, ⟨.struct [(92, 0), (92, 32), (92, 64), (92, 96)], 128, 128, [.row 32 (fun _ => .w8 0), .row 32 (fun _ => .w8 0), .row 32 (fun _ => .w8 0), .row 32 (fun _ => .w8 0)]⟩),
  (94, ⟨.struct [(92, 0), (92, 32), (92, 64), (92, 96)], 128, 128, [.row 32 (fun _ => .w8 0), .row 32 (fun _ => .w8 0), .row 32 (fun _ => .w8 0), .row 32 (fun _ => .w8 0)]⟩),
  (95, ⟨.fn, 1, 8, [.one (.nilFn)]⟩),
  (96, ⟨.array 4 9, 4, 64, [.row 4 (fun _ => .str [])]⟩),
  (97, ⟨.fn, 1, 8, [.one (.nilFn)]⟩),
  (98, ⟨.fn, 1, 8, [.one (.nilFn)]⟩),
  (99, ⟨.fn, 1, 8, [.one (.nilFn)]⟩),
  (100, ⟨.struct [(23, 0), (31, 1)], 2, 32, [.one (.slc none 0 0), .one (.int .i64 0)]⟩),
  (101, ⟨.struct [(23, 0), (31, 1)], 2, 32, [.one (.slc none 0 0), .one (.int .i64 0)]⟩),
  (102, ⟨.fn, 1, 8, [.one (.nilFn)]⟩),
  (103, ⟨.fn, 1, 8, [.one (.nilFn)]⟩),
  (104, ⟨.fn, 1, 8, [.one (.nilFn)]⟩),
  (105, ⟨.fn, 1, 8, [.one (.nilFn)]⟩),
  (106, ⟨.fn, 1, 8, [.one (.nilFn)]⟩),
  (107, ⟨.fn, 1, 8, [.one (.nilFn)]⟩),
  (108, ⟨.fn, 1, 8, [.one (.nilFn)]⟩),
  (109, ⟨.map .w64, 1, 8, [.one (.nilMap)]⟩),
  (110, ⟨.ptr 152, 1, 8, [.one (.ptr none)]⟩),
  (111, ⟨.fn, 1, 8, [.one (.nilFn)]⟩),
  (112, ⟨.fn, 1, 8, [.one (.nilFn)]⟩),
  (113, ⟨.fn, 1, 8, [.one (.nilFn)]⟩),
  (115, ⟨.fn, 1, 8, [.one (.nilFn)]⟩),
  (116, ⟨.fn, 1, 8, [.one (.nilFn)]⟩),
  (117, ⟨.fn, 1, 8, [.one (.nilFn)]⟩),
  (118, ⟨.fn, 1, 8, [.one (.nilFn)]⟩),
  (119, ⟨.fn, 1, 8, [.one (.nilFn)]⟩),
  (120, ⟨.int .u64, 1, 8, [.one (.w64 0)]⟩),
  (121, ⟨.fn, 1, 8, [.one (.nilFn)]⟩),
  (122, ⟨.struct [(87, 0), (92, 1), (23, 33)], 34, 64, [.one (.ptr none), .row 32 (fun _ => .w8 0), .one (.slc none 0 0)]⟩),
  (123, ⟨.struct [(87, 0), (92, 1), (23, 33)], 34, 64, [.one (.ptr none), .row 32 (fun _ => .w8 0), .one (.slc none 0 0)]⟩),
  (124, ⟨.struct [], 0, 0, []⟩),
  (125, ⟨.struct [], 0, 0, []⟩),
  (126, ⟨.struct [], 0, 0, []⟩),
  (127, ⟨.int .u32, 1, 4, [.one (.w32 0)]⟩),
  (128, ⟨.struct [(126, 0), (127, 0)], 1, 4, [.one (.w32 0)]⟩),
  (129, ⟨.struct [(126, 0), (127, 0)], 1, 4, [.one (.w32 0)]⟩),
  (130, ⟨.struct [(21, 0), (127, 1)], 2, 8, [.one (.int .i32 0), .one (.w32 0)]⟩),
  (131, ⟨.struct [(21, 0), (127, 1)], 2, 8, [.one (.int .i32 0), .one (.w32 0)]⟩),
  (132, ⟨.struct [(125, 0), (131, 0)], 2, 8, [.one (.int .i32 0), .one (.w32 0)]⟩),
  (133, ⟨.struct [(125, 0), (131, 0)], 2, 8, [.one (.int .i32 0), .one (.w32 0)]⟩),
  (134, ⟨.struct [(125, 0), (129, 0), (133, 1)], 3, 12, [.one (.w32 0), .one (.int .i32 0), .one (.w32 0)]⟩),
  (135, ⟨.struct [(125, 0), (129, 0), (133, 1)], 3, 12, [.one (.w32 0), .one (.int .i32 0), .one (.w32 0)]⟩),
  (136, ⟨.array 8 127, 8, 32, [.row 8 (fun _ => .w32 0)]⟩),
  (137, ⟨.array 64 127, 64, 256, [.row 64 (fun _ => .w32 0)]⟩),
  (138, ⟨.struct [(135, 0), (136, 3), (137, 11)], 75, 300, [.one (.w32 0), .one (.int .i32 0), .one (.w32 0), .row 8 (fun _ => .w32 0), .row 64 (fun _ => .w32 0)]⟩),
  (139, ⟨.struct [(135, 0), (136, 3), (137, 11)], 75, 300, [.one (.w32 0), .one (.int .i32 0), .one (.w32 0), .row 8 (fun _ => .w32 0), .row 64 (fun _ => .w32 0)]⟩),
  (140, ⟨.struct [(139, 0)], 75, 300, [.one (.w32 0), .one (.int .i32 0), .one (.w32 0), .row 8 (fun _ => .w32 0), .row 64 (fun _ => .w32 0)]⟩),
  (141, ⟨.struct [(139, 0)], 75, 300, [.one (.w32 0), .one (.int .i32 0), .one (.w32 0), .row 8 (fun _ => .w32 0), .row 64 (fun _ => .w32 0)]⟩),
  (142, ⟨.fn, 1, 8, [.one (.nilFn)]⟩),
  (143, ⟨.fn, 1, 8, [.one (.nilFn)]⟩),
  (144, ⟨.fn, 1, 8, [.one (.nilFn)]⟩),
  (145, ⟨.ptr 101, 1, 8, [.one (.ptr none)]⟩),
  (147, ⟨.fn, 1, 8, [.one (.nilFn)]⟩),
  (148, ⟨.fn, 1, 8, [.one (.nilFn)]⟩),
  (149, ⟨.fn, 1, 8, [.one (.nilFn)]⟩),
  (150, ⟨.array 8 5, 8, 8, [.row 8 (fun _ => .w8 0)]⟩),
  (151, ⟨.struct [(23, 0), (31, 1)], 2, 32, [.one (.slc none 0 0), .one (.int .i64 0)]⟩),
  (152, ⟨.struct [(23, 0), (31, 1)], 2, 32, [.one (.slc none 0 0), .one (.int .i64 0)]⟩),
  (154, ⟨.fn, 1, 8, [.one (.nilFn)]⟩),
  (155, ⟨.fn, 1, 8, [.one (.nilFn)]⟩),
  (156, ⟨.fn, 1, 8, [.one (.nilFn)]⟩),
  (157, ⟨.fn, 1, 8, [.one (.nilFn)]⟩),
  (158, ⟨.slice 127, 1, 24, [.one (.slc none 0 0)]⟩),
  (159, ⟨.fn, 1, 8, [.one (.nilFn)]⟩),
  (160, ⟨.fn, 1, 8, [.one (.nilFn)]⟩),
  (161, ⟨.ptr 139, 1, 8, [.one (.ptr none)]⟩),
  (162, ⟨.fn, 1, 8, [.one (.nilFn)]⟩),
  (163, ⟨.fn, 1, 8, [.one (.nilFn)]⟩),
  (164, ⟨.fn, 1, 8, [.one (.nilFn)]⟩),
  (165, ⟨.fn, 1, 8, [.one (.nilFn)]⟩),
  (167, ⟨.fn, 1, 8, [.one (.nilFn)]⟩),
  (168, ⟨.fn, 1, 8, [.one (.nilFn)]⟩),
  (169, ⟨.array 64 5, 64, 64, [.row 64 (fun _ => .w8 0)]⟩),
  (170, ⟨.struct [(161, 0), (136, 1), (169, 9), (3, 73), (38, 74)], 75, 120, [.one (.ptr none), .row 8 (fun _ => .w32 0), .row 64 (fun _ => .w8 0), .one (.int .i64 0), .one (.w64 0)]⟩),
  (171, ⟨.struct [(161, 0), (136, 1), (169, 9), (3, 73), (38, 74)], 75, 120, [.one (.ptr none), .row 8 (fun _ => .w32 0), .row 64 (fun _ => .w8 0), .one (.int .i64 0), .one (.w64 0)]⟩),
  (172, ⟨.fn, 1, 8, [.one (.nilFn)]⟩),
  (173, ⟨.fn, 1, 8, [.one (.nilFn)]⟩),
  (174, ⟨.fn, 1, 8, [.one (.nilFn)]⟩),
  (175, ⟨.fn, 1, 8, [.one (.nilFn)]⟩),
  (176, ⟨.ptr 171, 1, 8, [.one (.ptr none)]⟩),
  (177, ⟨.ptr 135, 1, 8, [.one (.ptr none)]⟩),
  (178, ⟨.fn, 1, 8, [.one (.nilFn)]⟩),
  (179, ⟨.fn, 1, 8, [.one (.nilFn)]⟩),
  (180, ⟨.ptr 129, 1, 8, [.one (.ptr none)]⟩),
  (181, ⟨.fn, 1, 8, [.one (.nilFn)]⟩),
  (182, ⟨.ptr 127, 1, 8, [.one (.ptr none)]⟩),
  (183, ⟨.fn, 1, 8, [.one (.nilFn)]⟩),
  (185, ⟨.fn, 1, 8, [.one (.nilFn)]⟩),
  (186, ⟨.ptr 133, 1, 8, [.one (.ptr none)]⟩),
  (187, ⟨.fn, 1, 8, [.one (.nilFn)]⟩),
  (188, ⟨.fn, 1, 8, [.one (.nilFn)]⟩),
  (189, ⟨.ptr 131, 1, 8, [.one (.ptr none)]⟩),
  (190, ⟨.fn, 1, 8, [.one (.nilFn)]⟩),
  (191, ⟨.ptr 21, 1, 8, [.one (.ptr none)]⟩),
  (192, ⟨.fn, 1, 8, [.one (.nilFn)]⟩),
  (194, ⟨.fn, 1, 8, [.one (.nilFn)]⟩),
  (195, ⟨.fn, 1, 8, [.one (.nilFn)]⟩),
  (196, ⟨.fn, 1, 8, [.one (.nilFn)]⟩),
  (197, ⟨.fn, 1, 8, [.one (.nilFn)]⟩),
  (198, ⟨.fn, 1, 8, [.one (.nilFn)]⟩),
  (199, ⟨.fn, 1, 8, [.one (.nilFn)]⟩),
  (200, ⟨.fn, 1, 8, [.one (.nilFn)]⟩),
  (201, ⟨.struct [(17, 0), (17, 1), (17, 2), (9, 3)], 4, 40, [.one (.ptr none), .one (.ptr none), .one (.ptr none), .one (.str [])]⟩),
  (202, ⟨.struct [(17, 0), (17, 1), (17, 2), (9, 3)], 4, 40, [.one (.ptr none), .one (.ptr none), .one (.ptr none), .one (.str [])]⟩),
  (203, ⟨.array 0 16, 0, 0, [.row 0 (fun _ => .ptr none)]⟩),
  (204, ⟨.struct [(203, 0)], 0, 0, [.row 0 (fun _ => .ptr none)]⟩),
  (205, ⟨.struct [(203, 0)], 0, 0, [.row 0 (fun _ => .ptr none)]⟩),
  (206, ⟨.int .u8, 1, 1, [.one (.w8 0)]⟩),
  (207, ⟨.int .u8, 1, 1, [.one (.w8 0)]⟩),
  (208, ⟨.fn, 1, 8, [.one (.nilFn)]⟩),
  (209, ⟨.ptr 5, 1, 8, [.one (.ptr none)]⟩),
  (210, ⟨.int .i32, 1, 4, [.one (.int .i32 0)]⟩),
  (211, ⟨.int .i32, 1, 4, [.one (.int .i32 0)]⟩),
  (212, ⟨.struct [(12, 0), (12, 1), (127, 2), (206, 3), (5, 4), (5, 5), (207, 6), (208, 7), (209, 8), (210, 9), (211, 10)], 11, 48, [.one (.w64 0), .one (.w64 0), .one (.w32 0), .one (.w8 0), .one (.w8 0), .one (.w8 0), .one (.w8 0), .one (.nilFn), .one (.ptr none), .one (.int .i32 0), .one (.int .i32 0)]⟩),
  (213, ⟨.struct [(12, 0), (12, 1), (127, 2), (206, 3), (5, 4), (5, 5), (207, 6), (208, 7), (209, 8), (210, 9), (211, 10)], 11, 48, [.one (.w64 0), .one (.w64 0), .one (.w32 0), .one (.w8 0), .one (.w8 0), .one (.w8 0), .one (.w8 0), .one (.nilFn), .one (.ptr none), .one (.int .i32 0), .one (.int .i32 0)]⟩)]
theorem td_1 : TdOk Try.prog 1 ⟨.fn, 1, 8, [.one (.nilFn)]⟩ := ⟨by kernel_rfl, show _ = _ by kernel_rfl, by kernel_rfl, by kernel_rfl, by kernel_rfl⟩
theorem td_2 : TdOk Try.prog 2 ⟨.int .i64, 1, 8, [.one (.int .i64 0)]⟩ := ⟨by kernel_rfl, show _ = _ by kernel_rfl, by kernel_rfl, by kernel_rfl, by kernel_rfl⟩
theorem td_3 : TdOk Try.prog 3 ⟨.int .i64, 1, 8, [.one (.int .i64 0)]⟩ := ⟨by kernel_rfl, show _ = _ by kernel_rfl, by kernel_rfl, by kernel_rfl, by kernel_rfl⟩
theorem td_4 : TdOk Try.prog 4 ⟨.bool, 1, 1, [.one (.bool false)]⟩ := ⟨by kernel_rfl, show _ = _ by kernel_rfl, by kernel_rfl, by kernel_rfl, by kernel_rfl⟩
theorem td_5 : TdOk Try.prog 5 ⟨.int .u8, 1, 1, [.one (.w8 0)]⟩ := ⟨by kernel_rfl, show _ = _ by kernel_rfl, by kernel_rfl, by kernel_rfl, by kernel_rfl⟩
theorem td_6 : TdOk Try.prog 6 ⟨.int .u8, 1, 1, [.one (.w8 0)]⟩ := ⟨by kernel_rfl, show _ = _ by kernel_rfl, by kernel_rfl, by kernel_rfl, by kernel_rfl⟩
theorem td_7 : TdOk Try.prog 7 ⟨.struct [(2, 0), (3, 1), (4, 2), (6, 3)], 4, 24, [.one (.int .i64 0), .one (.int .i64 0), .one (.bool false), .one (.w8 0)]⟩ := ⟨by kernel_rfl, show _ = _ by kernel_rfl, by kernel_rfl, by kernel_rfl, by kernel_rfl⟩
theorem td_8 : TdOk Try.prog 8 ⟨.struct [(2, 0), (3, 1), (4, 2), (6, 3)], 4, 24, [.one (.int .i64 0), .one (.int .i64 0), .one (.bool false), .one (.w8 0)]⟩ := ⟨by kernel_rfl, show _ = _ by kernel_rfl, by kernel_rfl, by kernel_rfl, by kernel_rfl⟩
theorem td_9 : TdOk Try.prog 9 ⟨.str, 1, 16, [.one (.str [])]⟩ := ⟨by kernel_rfl, show _ = _ by kernel_rfl, by kernel_rfl, by kernel_rfl, by kernel_rfl⟩
theorem td_10 : TdOk Try.prog 10 ⟨.str, 1, 16, [.one (.str [])]⟩ := ⟨by kernel_rfl, show _ = _ by kernel_rfl, by kernel_rfl, by kernel_rfl, by kernel_rfl⟩
theorem td_11 : TdOk Try.prog 11 ⟨.str, 1, 16, [.one (.str [])]⟩ := ⟨by kernel_rfl, show _ = _ by kernel_rfl, by kernel_rfl, by kernel_rfl, by kernel_rfl⟩
theorem td_12 : TdOk Try.prog 12 ⟨.int .u64, 1, 8, [.one (.w64 0)]⟩ := ⟨by kernel_rfl, show _ = _ by kernel_rfl, by kernel_rfl, by kernel_rfl, by kernel_rfl⟩
theorem td_13 : TdOk Try.prog 13 ⟨.struct [(9, 0), (12, 1)], 2, 24, [.one (.str []), .one (.w64 0)]⟩ := ⟨by kernel_rfl, show _ = _ by kernel_rfl, by kernel_rfl, by kernel_rfl, by kernel_rfl⟩
theorem td_14 : TdOk Try.prog 14 ⟨.struct [(9, 0), (12, 1)], 2, 24, [.one (.str []), .one (.w64 0)]⟩ := ⟨by kernel_rfl, show _ = _ by kernel_rfl, by kernel_rfl, by kernel_rfl, by kernel_rfl⟩
theorem td_15 : TdOk Try.prog 15 ⟨.ptr 202, 1, 8, [.one (.ptr none)]⟩ := ⟨by kernel_rfl, show _ = _ by kernel_rfl, by kernel_rfl, by kernel_rfl, by kernel_rfl⟩
theorem td_16 : TdOk Try.prog 16 ⟨.ptr 205, 1, 8, [.one (.ptr none)]⟩ := ⟨by kernel_rfl, show _ = _ by kernel_rfl, by kernel_rfl, by kernel_rfl, by kernel_rfl⟩
theorem td_17 : TdOk Try.prog 17 ⟨.ptr 213, 1, 8, [.one (.ptr none)]⟩ := ⟨by kernel_rfl, show _ = _ by kernel_rfl, by kernel_rfl, by kernel_rfl, by kernel_rfl⟩
theorem td_18 : TdOk Try.prog 18 ⟨.struct [(17, 0)], 1, 8, [.one (.ptr none)]⟩ := ⟨by kernel_rfl, show _ = _ by kernel_rfl, by kernel_rfl, by kernel_rfl, by kernel_rfl⟩
theorem td_19 : TdOk Try.prog 19 ⟨.struct [(17, 0)], 1, 8, [.one (.ptr none)]⟩ := ⟨by kernel_rfl, show _ = _ by kernel_rfl, by kernel_rfl, by kernel_rfl, by kernel_rfl⟩
theorem td_20 : TdOk Try.prog 20 ⟨.ifc, 1, 16, [.one (.nilIfc)]⟩ := ⟨by kernel_rfl, show _ = _ by kernel_rfl, by kernel_rfl, by kernel_rfl, by kernel_rfl⟩
theorem td_21 : TdOk Try.prog 21 ⟨.int .i32, 1, 4, [.one (.int .i32 0)]⟩ := ⟨by kernel_rfl, show _ = _ by kernel_rfl, by kernel_rfl, by kernel_rfl, by kernel_rfl⟩
theorem td_22 : TdOk Try.prog 22 ⟨.int .u8, 1, 1, [.one (.w8 0)]⟩ := ⟨by kernel_rfl, show _ = _ by kernel_rfl, by kernel_rfl, by kernel_rfl, by kernel_rfl⟩
theorem td_23 : TdOk Try.prog 23 ⟨.slice 5, 1, 24, [.one (.slc none 0 0)]⟩ := ⟨by kernel_rfl, show _ = _ by kernel_rfl, by kernel_rfl, by kernel_rfl, by kernel_rfl⟩
theorem td_24 : TdOk Try.prog 24 ⟨.struct [(22, 0), (23, 1), (23, 2), (23, 3), (4, 4), (23, 5)], 6, 112, [.one (.w8 0), .one (.slc none 0 0), .one (.slc none 0 0), .one (.slc none 0 0), .one (.bool false), .one (.slc none 0 0)]⟩ := ⟨by kernel_rfl, show _ = _ by kernel_rfl, by kernel_rfl, by kernel_rfl, by kernel_rfl⟩
theorem td_25 : TdOk Try.prog 25 ⟨.struct [(22, 0), (23, 1), (23, 2), (23, 3), (4, 4), (23, 5)], 6, 112, [.one (.w8 0), .one (.slc none 0 0), .one (.slc none 0 0), .one (.slc none 0 0), .one (.bool false), .one (.slc none 0 0)]⟩ := ⟨by kernel_rfl, show _ = _ by kernel_rfl, by kernel_rfl, by kernel_rfl, by kernel_rfl⟩
theorem td_26 : TdOk Try.prog 26 ⟨.fn, 1, 8, [.one (.nilFn)]⟩ := ⟨by kernel_rfl, show _ = _ by kernel_rfl, by kernel_rfl, by kernel_rfl, by kernel_rfl⟩
theorem td_27 : TdOk Try.prog 27 ⟨.fn, 1, 8, [.one (.nilFn)]⟩ := ⟨by kernel_rfl, show _ = _ by kernel_rfl, by kernel_rfl, by kernel_rfl, by kernel_rfl⟩
theorem td_28 : TdOk Try.prog 28 ⟨.fn, 1, 8, [.one (.nilFn)]⟩ := ⟨by kernel_rfl, show _ = _ by kernel_rfl, by kernel_rfl, by kernel_rfl, by kernel_rfl⟩
theorem td_29 : TdOk Try.prog 29 ⟨.slice 25, 1, 24, [.one (.slc none 0 0)]⟩ := ⟨by kernel_rfl, show _ = _ by kernel_rfl, by kernel_rfl, by kernel_rfl, by kernel_rfl⟩
theorem td_30 : TdOk Try.prog 30 ⟨.slice 3, 1, 24, [.one (.slc none 0 0)]⟩ := ⟨by kernel_rfl, show _ = _ by kernel_rfl, by kernel_rfl, by kernel_rfl, by kernel_rfl⟩
theorem td_31 : TdOk Try.prog 31 ⟨.int .i64, 1, 8, [.one (.int .i64 0)]⟩ := ⟨by kernel_rfl, show _ = _ by kernel_rfl, by kernel_rfl, by kernel_rfl, by kernel_rfl⟩
theorem td_32 : TdOk Try.prog 32 ⟨.fn, 1, 8, [.one (.nilFn)]⟩ := ⟨by kernel_rfl, show _ = _ by kernel_rfl, by kernel_rfl, by kernel_rfl, by kernel_rfl⟩
theorem td_34 : TdOk Try.prog 34 ⟨.fn, 1, 8, [.one (.nilFn)]⟩ := ⟨by kernel_rfl, show _ = _ by kernel_rfl, by kernel_rfl, by kernel_rfl, by kernel_rfl⟩
theorem td_35 : TdOk Try.prog 35 ⟨.fn, 1, 8, [.one (.nilFn)]⟩ := ⟨by kernel_rfl, show _ = _ by kernel_rfl, by kernel_rfl, by kernel_rfl, by kernel_rfl⟩
theorem td_36 : TdOk Try.prog 36 ⟨.fn, 1, 8, [.one (.nilFn)]⟩ := ⟨by kernel_rfl, show _ = _ by kernel_rfl, by kernel_rfl, by kernel_rfl, by kernel_rfl⟩
theorem td_37 : TdOk Try.prog 37 ⟨.fn, 1, 8, [.one (.nilFn)]⟩ := ⟨by kernel_rfl, show _ = _ by kernel_rfl, by kernel_rfl, by kernel_rfl, by kernel_rfl⟩
theorem td_38 : TdOk Try.prog 38 ⟨.int .u64, 1, 8, [.one (.w64 0)]⟩ := ⟨by kernel_rfl, show _ = _ by kernel_rfl, by kernel_rfl, by kernel_rfl, by kernel_rfl⟩
theorem td_39 : TdOk Try.prog 39 ⟨.struct [(38, 0), (38, 1), (38, 2), (38, 3), (38, 4), (38, 5), (38, 6), (38, 7), (38, 8), (23, 9)], 10, 96, [.one (.w64 0), .one (.w64 0), .one (.w64 0), .one (.w64 0), .one (.w64 0), .one (.w64 0), .one (.w64 0), .one (.w64 0), .one (.w64 0), .one (.slc none 0 0)]⟩ := ⟨by kernel_rfl, show _ = _ by kernel_rfl, by kernel_rfl, by kernel_rfl, by kernel_rfl⟩
theorem td_40 : TdOk Try.prog 40 ⟨.struct [(38, 0), (38, 1), (38, 2), (38, 3), (38, 4), (38, 5), (38, 6), (38, 7), (38, 8), (23, 9)], 10, 96, [.one (.w64 0), .one (.w64 0), .one (.w64 0), .one (.w64 0), .one (.w64 0), .one (.w64 0), .one (.w64 0), .one (.w64 0), .one (.w64 0), .one (.slc none 0 0)]⟩ := ⟨by kernel_rfl, show _ = _ by kernel_rfl, by kernel_rfl, by kernel_rfl, by kernel_rfl⟩
theorem td_41 : TdOk Try.prog 41 ⟨.fn, 1, 8, [.one (.nilFn)]⟩ := ⟨by kernel_rfl, show _ = _ by kernel_rfl, by kernel_rfl, by kernel_rfl, by kernel_rfl⟩
theorem td_42 : TdOk Try.prog 42 ⟨.slice 40, 1, 24, [.one (.slc none 0 0)]⟩ := ⟨by kernel_rfl, show _ = _ by kernel_rfl, by kernel_rfl, by kernel_rfl, by kernel_rfl⟩
theorem td_43 : TdOk Try.prog 43 ⟨.fn, 1, 8, [.one (.nilFn)]⟩ := ⟨by kernel_rfl, show _ = _ by kernel_rfl, by kernel_rfl, by kernel_rfl, by kernel_rfl⟩
theorem td_44 : TdOk Try.prog 44 ⟨.fn, 1, 8, [.one (.nilFn)]⟩ := ⟨by kernel_rfl, show _ = _ by kernel_rfl, by kernel_rfl, by kernel_rfl, by kernel_rfl⟩
theorem td_46 : TdOk Try.prog 46 ⟨.fn, 1, 8, [.one (.nilFn)]⟩ := ⟨by kernel_rfl, show _ = _ by kernel_rfl, by kernel_rfl, by kernel_rfl, by kernel_rfl⟩
theorem td_47 : TdOk Try.prog 47 ⟨.fn, 1, 8, [.one (.nilFn)]⟩ := ⟨by kernel_rfl, show _ = _ by kernel_rfl, by kernel_rfl, by kernel_rfl, by kernel_rfl⟩
theorem td_48 : TdOk Try.prog 48 ⟨.array 9 38, 9, 72, [.row 9 (fun _ => .w64 0)]⟩ := ⟨by kernel_rfl, show _ = _ by kernel_rfl, by kernel_rfl, by kernel_rfl, by kernel_rfl⟩
theorem td_49 : TdOk Try.prog 49 ⟨.fn, 1, 8, [.one (.nilFn)]⟩ := ⟨by kernel_rfl, show _ = _ by kernel_rfl, by kernel_rfl, by kernel_rfl, by kernel_rfl⟩
theorem td_50 : TdOk Try.prog 50 ⟨.fn, 1, 8, [.one (.nilFn)]⟩ := ⟨by kernel_rfl, show _ = _ by kernel_rfl, by kernel_rfl, by kernel_rfl, by kernel_rfl⟩
theorem td_51 : TdOk Try.prog 51 ⟨.fn, 1, 8, [.one (.nilFn)]⟩ := ⟨by kernel_rfl, show _ = _ by kernel_rfl, by kernel_rfl, by kernel_rfl, by kernel_rfl⟩
theorem td_52 : TdOk Try.prog 52 ⟨.int .u16, 1, 2, [.one (.w16 0)]⟩ := ⟨by kernel_rfl, show _ = _ by kernel_rfl, by kernel_rfl, by kernel_rfl, by kernel_rfl⟩
theorem td_53 : TdOk Try.prog 53 ⟨.slice 38, 1, 24, [.one (.slc none 0 0)]⟩ := ⟨by kernel_rfl, show _ = _ by kernel_rfl, by kernel_rfl, by kernel_rfl, by kernel_rfl⟩
theorem td_54 : TdOk Try.prog 54 ⟨.slice 59, 1, 24, [.one (.slc none 0 0)]⟩ := ⟨by kernel_rfl, show _ = _ by kernel_rfl, by kernel_rfl, by kernel_rfl, by kernel_rfl⟩
theorem td_55 : TdOk Try.prog 55 ⟨.ptr 38, 1, 8, [.one (.ptr none)]⟩ := ⟨by kernel_rfl, show _ = _ by kernel_rfl, by kernel_rfl, by kernel_rfl, by kernel_rfl⟩
theorem td_56 : TdOk Try.prog 56 ⟨.slice 55, 1, 24, [.one (.slc none 0 0)]⟩ := ⟨by kernel_rfl, show _ = _ by kernel_rfl, by kernel_rfl, by kernel_rfl, by kernel_rfl⟩
theorem td_57 : TdOk Try.prog 57 ⟨.fn, 1, 8, [.one (.nilFn)]⟩ := ⟨by kernel_rfl, show _ = _ by kernel_rfl, by kernel_rfl, by kernel_rfl, by kernel_rfl⟩
theorem td_58 : TdOk Try.prog 58 ⟨.struct [(38, 0), (23, 1)], 2, 32, [.one (.w64 0), .one (.slc none 0 0)]⟩ := ⟨by kernel_rfl, show _ = _ by kernel_rfl, by kernel_rfl, by kernel_rfl, by kernel_rfl⟩
theorem td_59 : TdOk Try.prog 59 ⟨.struct [(38, 0), (23, 1)], 2, 32, [.one (.w64 0), .one (.slc none 0 0)]⟩ := ⟨by kernel_rfl, show _ = _ by kernel_rfl, by kernel_rfl, by kernel_rfl, by kernel_rfl⟩
theorem td_60 : TdOk Try.prog 60 ⟨.fn, 1, 8, [.one (.nilFn)]⟩ := ⟨by kernel_rfl, show _ = _ by kernel_rfl, by kernel_rfl, by kernel_rfl, by kernel_rfl⟩
theorem td_61 : TdOk Try.prog 61 ⟨.fn, 1, 8, [.one (.nilFn)]⟩ := ⟨by kernel_rfl, show _ = _ by kernel_rfl, by kernel_rfl, by kernel_rfl, by kernel_rfl⟩
theorem td_62 : TdOk Try.prog 62 ⟨.slice 23, 1, 24, [.one (.slc none 0 0)]⟩ := ⟨by kernel_rfl, show _ = _ by kernel_rfl, by kernel_rfl, by kernel_rfl, by kernel_rfl⟩
theorem td_63 : TdOk Try.prog 63 ⟨.fn, 1, 8, [.one (.nilFn)]⟩ := ⟨by kernel_rfl, show _ = _ by kernel_rfl, by kernel_rfl, by kernel_rfl, by kernel_rfl⟩
theorem td_64 : TdOk Try.prog 64 ⟨.struct [(25, 0), (3, 6), (3, 7)], 8, 128, [.one (.w8 0), .one (.slc none 0 0), .one (.slc none 0 0), .one (.slc none 0 0), .one (.bool false), .one (.slc none 0 0), .one (.int .i64 0), .one (.int .i64 0)]⟩ := ⟨by kernel_rfl, show _ = _ by kernel_rfl, by kernel_rfl, by kernel_rfl, by kernel_rfl⟩
theorem td_65 : TdOk Try.prog 65 ⟨.struct [(25, 0), (3, 6), (3, 7)], 8, 128, [.one (.w8 0), .one (.slc none 0 0), .one (.slc none 0 0), .one (.slc none 0 0), .one (.bool false), .one (.slc none 0 0), .one (.int .i64 0), .one (.int .i64 0)]⟩ := ⟨by kernel_rfl, show _ = _ by kernel_rfl, by kernel_rfl, by kernel_rfl, by kernel_rfl⟩
theorem td_67 : TdOk Try.prog 67 ⟨.fn, 1, 8, [.one (.nilFn)]⟩ := ⟨by kernel_rfl, show _ = _ by kernel_rfl, by kernel_rfl, by kernel_rfl, by kernel_rfl⟩
theorem td_69 : TdOk Try.prog 69 ⟨.fn, 1, 8, [.one (.nilFn)]⟩ := ⟨by kernel_rfl, show _ = _ by kernel_rfl, by kernel_rfl, by kernel_rfl, by kernel_rfl⟩
theorem td_70 : TdOk Try.prog 70 ⟨.fn, 1, 8, [.one (.nilFn)]⟩ := ⟨by kernel_rfl, show _ = _ by kernel_rfl, by kernel_rfl, by kernel_rfl, by kernel_rfl⟩
theorem td_71 : TdOk Try.prog 71 ⟨.fn, 1, 8, [.one (.nilFn)]⟩ := ⟨by kernel_rfl, show _ = _ by kernel_rfl, by kernel_rfl, by kernel_rfl, by kernel_rfl⟩
theorem td_72 : TdOk Try.prog 72 ⟨.fn, 1, 8, [.one (.nilFn)]⟩ := ⟨by kernel_rfl, show _ = _ by kernel_rfl, by kernel_rfl, by kernel_rfl, by kernel_rfl⟩
theorem td_73 : TdOk Try.prog 73 ⟨.array 32 5, 32, 32, [.row 32 (fun _ => .w8 0)]⟩ := ⟨by kernel_rfl, show _ = _ by kernel_rfl, by kernel_rfl, by kernel_rfl, by kernel_rfl⟩
theorem td_74 : TdOk Try.prog 74 ⟨.struct [(5, 0), (73, 1), (40, 33), (73, 43)], 75, 168, [.one (.w8 0), .row 32 (fun _ => .w8 0), .one (.w64 0), .one (.w64 0), .one (.w64 0), .one (.w64 0), .one (.w64 0), .one (.w64 0), .one (.w64 0), .one (.w64 0), .one (.w64 0), .one (.slc none 0 0), .row 32 (fun _ => .w8 0)]⟩ := ⟨by kernel_rfl, show _ = _ by kernel_rfl, by kernel_rfl, by kernel_rfl, by kernel_rfl⟩
theorem td_75 : TdOk Try.prog 75 ⟨.struct [(5, 0), (73, 1), (40, 33), (73, 43)], 75, 168, [.one (.w8 0), .row 32 (fun _ => .w8 0), .one (.w64 0), .one (.w64 0), .one (.w64 0), .one (.w64 0), .one (.w64 0), .one (.w64 0), .one (.w64 0), .one (.w64 0), .one (.w64 0), .one (.slc none 0 0), .row 32 (fun _ => .w8 0)]⟩ := ⟨by kernel_rfl, show _ = _ by kernel_rfl, by kernel_rfl, by kernel_rfl, by kernel_rfl⟩
theorem td_76 : TdOk Try.prog 76 ⟨.fn, 1, 8, [.one (.nilFn)]⟩ := ⟨by kernel_rfl, show _ = _ by kernel_rfl, by kernel_rfl, by kernel_rfl, by kernel_rfl⟩
theorem td_77 : TdOk Try.prog 77 ⟨.fn, 1, 8, [.one (.nilFn)]⟩ := ⟨by kernel_rfl, show _ = _ by kernel_rfl, by kernel_rfl, by kernel_rfl, by kernel_rfl⟩
theorem td_79 : TdOk Try.prog 79 ⟨.fn, 1, 8, [.one (.nilFn)]⟩ := ⟨by kernel_rfl, show _ = _ by kernel_rfl, by kernel_rfl, by kernel_rfl, by kernel_rfl⟩
theorem td_81 : TdOk Try.prog 81 ⟨.fn, 1, 8, [.one (.nilFn)]⟩ := ⟨by kernel_rfl, show _ = _ by kernel_rfl, by kernel_rfl, by kernel_rfl, by kernel_rfl⟩
theorem td_82 : TdOk Try.prog 82 ⟨.fn, 1, 8, [.one (.nilFn)]⟩ := ⟨by kernel_rfl, show _ = _ by kernel_rfl, by kernel_rfl, by kernel_rfl, by kernel_rfl⟩
theorem td_83 : TdOk Try.prog 83 ⟨.fn, 1, 8, [.one (.nilFn)]⟩ := ⟨by kernel_rfl, show _ = _ by kernel_rfl, by kernel_rfl, by kernel_rfl, by kernel_rfl⟩
theorem td_84 : TdOk Try.prog 84 ⟨.slice 75, 1, 24, [.one (.slc none 0 0)]⟩ := ⟨by kernel_rfl, show _ = _ by kernel_rfl, by kernel_rfl, by kernel_rfl, by kernel_rfl⟩
theorem td_85 : TdOk Try.prog 85 ⟨.ptr 123, 1, 8, [.one (.ptr none)]⟩ := ⟨by kernel_rfl, show _ = _ by kernel_rfl, by kernel_rfl, by kernel_rfl, by kernel_rfl⟩
theorem td_86 : TdOk Try.prog 86 ⟨.fn, 1, 8, [.one (.nilFn)]⟩ := ⟨by kernel_rfl, show _ = _ by kernel_rfl, by kernel_rfl, by kernel_rfl, by kernel_rfl⟩
theorem td_87 : TdOk Try.prog 87 ⟨.ptr 141, 1, 8, [.one (.ptr none)]⟩ := ⟨by kernel_rfl, show _ = _ by kernel_rfl, by kernel_rfl, by kernel_rfl, by kernel_rfl⟩
theorem td_88 : TdOk Try.prog 88 ⟨.fn, 1, 8, [.one (.nilFn)]⟩ := ⟨by kernel_rfl, show _ = _ by kernel_rfl, by kernel_rfl, by kernel_rfl, by kernel_rfl⟩
theorem td_89 : TdOk Try.prog 89 ⟨.fn, 1, 8, [.one (.nilFn)]⟩ := ⟨by kernel_rfl, show _ = _ by kernel_rfl, by kernel_rfl, by kernel_rfl, by kernel_rfl⟩
theorem td_90 : TdOk Try.prog 90 ⟨.fn, 1, 8, [.one (.nilFn)]⟩ := ⟨by kernel_rfl, show _ = _ by kernel_rfl, by kernel_rfl, by kernel_rfl, by kernel_rfl⟩
theorem td_91 : TdOk Try.prog 91 ⟨.fn, 1, 8, [.one (.nilFn)]⟩ := ⟨by kernel_rfl, show _ = _ by kernel_rfl, by kernel_rfl, by kernel_rfl, by kernel_rfl⟩
theorem td_92 : TdOk Try.prog 92 ⟨.array 32 5, 32, 32, [.row 32 (fun _ => .w8 0)]⟩ := ⟨by kernel_rfl, show _ = _ by kernel_rfl, by kernel_rfl, by kernel_rfl, by kernel_rfl⟩
theorem td_93 : TdOk Try.prog 93 ⟨.struct [(92, 0), (92, 32), (92, 64), (92, 96)], 128, 128, [.row 32 (fun _ => .w8 0), .row 32 (fun _ => .w8 0), .row 32 (fun _ => .w8 0), .row 32 (fun _ => .w8 0)]⟩ := ⟨by kernel_rfl, show _ = _ by kernel_rfl, by kernel_rfl, by kernel_rfl, by kernel_rfl⟩
theorem td_94 : TdOk Try.prog 94 ⟨.struct [(92, 0), (92, 32), (92, 64), (92, 96)], 128, 128, [.row 32 (fun _ => .w8 0), .row 32 (fun _ => .w8 0), .row 32 (fun _ => .w8 0), .row 32 (fun _ => .w8 0)]⟩ := ⟨by kernel_rfl, show _ = _ by kernel_rfl, by kernel_rfl, by kernel_rfl, by kernel_rfl⟩
theorem td_95 : TdOk Try.prog 95 ⟨.fn, 1, 8, [.one (.nilFn)]⟩ := ⟨by kernel_rfl, show _ = _ by kernel_rfl, by kernel_rfl, by kernel_rfl, by kernel_rfl⟩
theorem td_96 : TdOk Try.prog 96 ⟨.array 4 9, 4, 64, [.row 4 (fun _ => .str [])]⟩ := ⟨by kernel_rfl, show _ = _ by kernel_rfl, by kernel_rfl, by kernel_rfl, by kernel_rfl⟩
theorem td_97 : TdOk Try.prog 97 ⟨.fn, 1, 8, [.one (.nilFn)]⟩ := ⟨by kernel_rfl, show _ = _ by kernel_rfl, by kernel_rfl, by kernel_rfl, by kernel_rfl⟩
theorem td_98 : TdOk Try.prog 98 ⟨.fn, 1, 8, [.one (.nilFn)]⟩ := ⟨by kernel_rfl, show _ = _ by kernel_rfl, by kernel_rfl, by kernel_rfl, by kernel_rfl⟩
theorem td_99 : TdOk Try.prog 99 ⟨.fn, 1, 8, [.one (.nilFn)]⟩ := ⟨by kernel_rfl, show _ = _ by kernel_rfl, by kernel_rfl, by kernel_rfl, by kernel_rfl⟩
theorem td_100 : TdOk Try.prog 100 ⟨.struct [(23, 0), (31, 1)], 2, 32, [.one (.slc none 0 0), .one (.int .i64 0)]⟩ := ⟨by kernel_rfl, show _ = _ by kernel_rfl, by kernel_rfl, by kernel_rfl, by kernel_rfl⟩
theorem td_101 : TdOk Try.prog 101 ⟨.struct [(23, 0), (31, 1)], 2, 32, [.one (.slc none 0 0), .one (.int .i64 0)]⟩ := ⟨by kernel_rfl, show _ = _ by kernel_rfl, by kernel_rfl, by kernel_rfl, by kernel_rfl⟩
theorem td_102 : TdOk Try.prog 102 ⟨.fn, 1, 8, [.one (.nilFn)]⟩ := ⟨by kernel_rfl, show _ = _ by kernel_rfl, by kernel_rfl, by kernel_rfl, by kernel_rfl⟩
theorem td_103 : TdOk Try.prog 103 ⟨.fn, 1, 8, [.one (.nilFn)]⟩ := ⟨by kernel_rfl, show _ = _ by kernel_rfl, by kernel_rfl, by kernel_rfl, by kernel_rfl⟩
theorem td_104 : TdOk Try.prog 104 ⟨.fn, 1, 8, [.one (.nilFn)]⟩ := ⟨by kernel_rfl, show _ = _ by kernel_rfl, by kernel_rfl, by kernel_rfl, by kernel_rfl⟩
theorem td_105 : TdOk Try.prog 105 ⟨.fn, 1, 8, [.one (.nilFn)]⟩ := ⟨by kernel_rfl, show _ = _ by kernel_rfl, by kernel_rfl, by kernel_rfl, by kernel_rfl⟩
theorem td_106 : TdOk Try.prog 106 ⟨.fn, 1, 8, [.one (.nilFn)]⟩ := ⟨by kernel_rfl, show _ = _ by kernel_rfl, by kernel_rfl, by kernel_rfl, by kernel_rfl⟩
theorem td_107 : TdOk Try.prog 107 ⟨.fn, 1, 8, [.one (.nilFn)]⟩ := ⟨by kernel_rfl, show _ = _ by kernel_rfl, by kernel_rfl, by kernel_rfl, by kernel_rfl⟩
theorem td_108 : TdOk Try.prog 108 ⟨.fn, 1, 8, [.one (.nilFn)]⟩ := ⟨by kernel_rfl, show _ = _ by kernel_rfl, by kernel_rfl, by kernel_rfl, by kernel_rfl⟩
theorem td_109 : TdOk Try.prog 109 ⟨.map .w64, 1, 8, [.one (.nilMap)]⟩ := ⟨by kernel_rfl, ⟨38, 38, by kernel_rfl, by kernel_rfl, by kernel_rfl⟩, by kernel_rfl, by kernel_rfl, by kernel_rfl⟩
theorem td_110 : TdOk Try.prog 110 ⟨.ptr 152, 1, 8, [.one (.ptr none)]⟩ := ⟨by kernel_rfl, show _ = _ by kernel_rfl, by kernel_rfl, by kernel_rfl, by kernel_rfl⟩
theorem td_111 : TdOk Try.prog 111 ⟨.fn, 1, 8, [.one (.nilFn)]⟩ := ⟨by kernel_rfl, show _ = _ by kernel_rfl, by kernel_rfl, by kernel_rfl, by kernel_rfl⟩
theorem td_112 : TdOk Try.prog 112 ⟨.fn, 1, 8, [.one (.nilFn)]⟩ := ⟨by kernel_rfl, show _ = _ by kernel_rfl, by kernel_rfl, by kernel_rfl, by kernel_rfl⟩
theorem td_113 : TdOk Try.prog 113 ⟨.fn, 1, 8, [.one (.nilFn)]⟩ := ⟨by kernel_rfl, show _ = _ by kernel_rfl, by kernel_rfl, by kernel_rfl, by kernel_rfl⟩
theorem td_115 : TdOk Try.prog 115 ⟨.fn, 1, 8, [.one (.nilFn)]⟩ := ⟨by kernel_rfl, show _ = _ by kernel_rfl, by kernel_rfl, by kernel_rfl, by kernel_rfl⟩
theorem td_116 : TdOk Try.prog 116 ⟨.fn, 1, 8, [.one (.nilFn)]⟩ := ⟨by kernel_rfl, show _ = _ by kernel_rfl, by kernel_rfl, by kernel_rfl, by kernel_rfl⟩
theorem td_117 : TdOk Try.prog 117 ⟨.fn, 1, 8, [.one (.nilFn)]⟩ := ⟨by kernel_rfl, show _ = _ by kernel_rfl, by kernel_rfl, by kernel_rfl, by kernel_rfl⟩
theorem td_118 : TdOk Try.prog 118 ⟨.fn, 1, 8, [.one (.nilFn)]⟩ := ⟨by kernel_rfl, show _ = _ by kernel_rfl, by kernel_rfl, by kernel_rfl, by kernel_rfl⟩
theorem td_119 : TdOk Try.prog 119 ⟨.fn, 1, 8, [.one (.nilFn)]⟩ := ⟨by kernel_rfl, show _ = _ by kernel_rfl, by kernel_rfl, by kernel_rfl, by kernel_rfl⟩
theorem td_120 : TdOk Try.prog 120 ⟨.int .u64, 1, 8, [.one (.w64 0)]⟩ := ⟨by kernel_rfl, show _ = _ by kernel_rfl, by kernel_rfl, by kernel_rfl, by kernel_rfl⟩
theorem td_121 : TdOk Try.prog 121 ⟨.fn, 1, 8, [.one (.nilFn)]⟩ := ⟨by kernel_rfl, show _ = _ by kernel_rfl, by kernel_rfl, by kernel_rfl, by kernel_rfl⟩
theorem td_122 : TdOk Try.prog 122 ⟨.struct [(87, 0), (92, 1), (23, 33)], 34, 64, [.one (.ptr none), .row 32 (fun _ => .w8 0), .one (.slc none 0 0)]⟩ := ⟨by kernel_rfl, show _ = _ by kernel_rfl, by kernel_rfl, by kernel_rfl, by kernel_rfl⟩
theorem td_123 : TdOk Try.prog 123 ⟨.struct [(87, 0), (92, 1), (23, 33)], 34, 64, [.one (.ptr none), .row 32 (fun _ => .w8 0), .one (.slc none 0 0)]⟩ := ⟨by kernel_rfl, show _ = _ by kernel_rfl, by kernel_rfl, by kernel_rfl, by kernel_rfl⟩
theorem td_124 : TdOk Try.prog 124 ⟨.struct [], 0, 0, []⟩ := ⟨by kernel_rfl, show _ = _ by kernel_rfl, by kernel_rfl, by kernel_rfl, by kernel_rfl⟩
theorem td_125 : TdOk Try.prog 125 ⟨.struct [], 0, 0, []⟩ := ⟨by kernel_rfl, show _ = _ by kernel_rfl, by kernel_rfl, by kernel_rfl, by kernel_rfl⟩
theorem td_126 : TdOk Try.prog 126 ⟨.struct [], 0, 0, []⟩ := ⟨by kernel_rfl, show _ = _ by kernel_rfl, by kernel_rfl, by kernel_rfl, by kernel_rfl⟩
theorem td_127 : TdOk Try.prog 127 ⟨.int .u32, 1, 4, [.one (.w32 0)]⟩ := ⟨by kernel_rfl, show _ = _ by kernel_rfl, by kernel_rfl, by kernel_rfl, by kernel_rfl⟩
theorem td_128 : TdOk Try.prog 128 ⟨.struct [(126, 0), (127, 0)], 1, 4, [.one (.w32 0)]⟩ := ⟨by kernel_rfl, show _ = _ by kernel_rfl, by kernel_rfl, by kernel_rfl, by kernel_rfl⟩
theorem td_129 : TdOk Try.prog 129 ⟨.struct [(126, 0), (127, 0)], 1, 4, [.one (.w32 0)]⟩ := ⟨by kernel_rfl, show _ = _ by kernel_rfl, by kernel_rfl, by kernel_rfl, by kernel_rfl⟩
theorem td_130 : TdOk Try.prog 130 ⟨.struct [(21, 0), (127, 1)], 2, 8, [.one (.int .i32 0), .one (.w32 0)]⟩ := ⟨by kernel_rfl, show _ = _ by kernel_rfl, by kernel_rfl, by kernel_rfl, by kernel_rfl⟩
theorem td_131 : TdOk Try.prog 131 ⟨.struct [(21, 0), (127, 1)], 2, 8, [.one (.int .i32 0), .one (.w32 0)]⟩ := ⟨by kernel_rfl, show _ = _ by kernel_rfl, by kernel_rfl, by kernel_rfl, by kernel_rfl⟩
theorem td_132 : TdOk Try.prog 132 ⟨.struct [(125, 0), (131, 0)], 2, 8, [.one (.int .i32 0), .one (.w32 0)]⟩ := ⟨by kernel_rfl, show _ = _ by kernel_rfl, by kernel_rfl, by kernel_rfl, by kernel_rfl⟩
theorem td_133 : TdOk Try.prog 133 ⟨.struct [(125, 0), (131, 0)], 2, 8, [.one (.int .i32 0), .one (.w32 0)]⟩ := ⟨by kernel_rfl, show _ = _ by kernel_rfl, by kernel_rfl, by kernel_rfl, by kernel_rfl⟩
theorem td_134 : TdOk Try.prog 134 ⟨.struct [(125, 0), (129, 0), (133, 1)], 3, 12, [.one (.w32 0), .one (.int .i32 0), .one (.w32 0)]⟩ := ⟨by kernel_rfl, show _ = _ by kernel_rfl, by kernel_rfl, by kernel_rfl, by kernel_rfl⟩
theorem td_135 : TdOk Try.prog 135 ⟨.struct [(125, 0), (129, 0), (133, 1)], 3, 12, [.one (.w32 0), .one (.int .i32 0), .one (.w32 0)]⟩ := ⟨by kernel_rfl, show _ = _ by kernel_rfl, by kernel_rfl, by kernel_rfl, by kernel_rfl⟩
theorem td_136 : TdOk Try.prog 136 ⟨.array 8 127, 8, 32, [.row 8 (fun _ => .w32 0)]⟩ := ⟨by kernel_rfl, show _ = _ by kernel_rfl, by kernel_rfl, by kernel_rfl, by kernel_rfl⟩
theorem td_137 : TdOk Try.prog 137 ⟨.array 64 127, 64, 256, [.row 64 (fun _ => .w32 0)]⟩ := ⟨by kernel_rfl, show _ = _ by kernel_rfl, by kernel_rfl, by kernel_rfl, by kernel_rfl⟩
theorem td_138 : TdOk Try.prog 138 ⟨.struct [(135, 0), (136, 3), (137, 11)], 75, 300, [.one (.w32 0), .one (.int .i32 0), .one (.w32 0), .row 8 (fun _ => .w32 0), .row 64 (fun _ => .w32 0)]⟩ := ⟨by kernel_rfl, show _ = _ by kernel_rfl, by kernel_rfl, by kernel_rfl, by kernel_rfl⟩
theorem td_139 : TdOk Try.prog 139 ⟨.struct [(135, 0), (136, 3), (137, 11)], 75, 300, [.one (.w32 0), .one (.int .i32 0), .one (.w32 0), .row 8 (fun _ => .w32 0), .row 64 (fun _ => .w32 0)]⟩ := ⟨by kernel_rfl, show _ = _ by kernel_rfl, by kernel_rfl, by kernel_rfl, by kernel_rfl⟩
theorem td_140 : TdOk Try.prog 140 ⟨.struct [(139, 0)], 75, 300, [.one (.w32 0), .one (.int .i32 0), .one (.w32 0), .row 8 (fun _ => .w32 0), .row 64 (fun _ => .w32 0)]⟩ := ⟨by kernel_rfl, show _ = _ by kernel_rfl, by kernel_rfl, by kernel_rfl, by kernel_rfl⟩
theorem td_141 : TdOk Try.prog 141 ⟨.struct [(139, 0)], 75, 300, [.one (.w32 0), .one (.int .i32 0), .one (.w32 0), .row 8 (fun _ => .w32 0), .row 64 (fun _ => .w32 0)]⟩ := ⟨by kernel_rfl, show _ = _ by kernel_rfl, by kernel_rfl, by kernel_rfl, by kernel_rfl⟩
theorem td_142 : TdOk Try.prog 142 ⟨.fn, 1, 8, [.one (.nilFn)]⟩ := ⟨by kernel_rfl, show _ = _ by kernel_rfl, by kernel_rfl, by kernel_rfl, by kernel_rfl⟩
theorem td_143 : TdOk Try.prog 143 ⟨.fn, 1, 8, [.one (.nilFn)]⟩ := ⟨by kernel_rfl, show _ = _ by kernel_rfl, by kernel_rfl, by kernel_rfl, by kernel_rfl⟩
theorem td_144 : TdOk Try.prog 144 ⟨.fn, 1, 8, [.one (.nilFn)]⟩ := ⟨by kernel_rfl, show _ = _ by kernel_rfl, by kernel_rfl, by kernel_rfl, by kernel_rfl⟩
theorem td_145 : TdOk Try.prog 145 ⟨.ptr 101, 1, 8, [.one (.ptr none)]⟩ := ⟨by kernel_rfl, show _ = _ by kernel_rfl, by kernel_rfl, by kernel_rfl, by kernel_rfl⟩
theorem td_147 : TdOk Try.prog 147 ⟨.fn, 1, 8, [.one (.nilFn)]⟩ := ⟨by kernel_rfl, show _ = _ by kernel_rfl, by kernel_rfl, by kernel_rfl, by kernel_rfl⟩
theorem td_148 : TdOk Try.prog 148 ⟨.fn, 1, 8, [.one (.nilFn)]⟩ := ⟨by kernel_rfl, show _ = _ by kernel_rfl, by kernel_rfl, by kernel_rfl, by kernel_rfl⟩
theorem td_149 : TdOk Try.prog 149 ⟨.fn, 1, 8, [.one (.nilFn)]⟩ := ⟨by kernel_rfl, show _ = _ by kernel_rfl, by kernel_rfl, by kernel_rfl, by kernel_rfl⟩
theorem td_150 : TdOk Try.prog 150 ⟨.array 8 5, 8, 8, [.row 8 (fun _ => .w8 0)]⟩ := ⟨by kernel_rfl, show _ = _ by kernel_rfl, by kernel_rfl, by kernel_rfl, by kernel_rfl⟩
theorem td_151 : TdOk Try.prog 151 ⟨.struct [(23, 0), (31, 1)], 2, 32, [.one (.slc none 0 0), .one (.int .i64 0)]⟩ := ⟨by kernel_rfl, show _ = _ by kernel_rfl, by kernel_rfl, by kernel_rfl, by kernel_rfl⟩
theorem td_152 : TdOk Try.prog 152 ⟨.struct [(23, 0), (31, 1)], 2, 32, [.one (.slc none 0 0), .one (.int .i64 0)]⟩ := ⟨by kernel_rfl, show _ = _ by kernel_rfl, by kernel_rfl, by kernel_rfl, by kernel_rfl⟩
theorem td_154 : TdOk Try.prog 154 ⟨.fn, 1, 8, [.one (.nilFn)]⟩ := ⟨by kernel_rfl, show _ = _ by kernel_rfl, by kernel_rfl, by kernel_rfl, by kernel_rfl⟩
theorem td_155 : TdOk Try.prog 155 ⟨.fn, 1, 8, [.one (.nilFn)]⟩ := ⟨by kernel_rfl, show _ = _ by kernel_rfl, by kernel_rfl, by kernel_rfl, by kernel_rfl⟩
theorem td_156 : TdOk Try.prog 156 ⟨.fn, 1, 8, [.one (.nilFn)]⟩ := ⟨by kernel_rfl, show _ = _ by kernel_rfl, by kernel_rfl, by kernel_rfl, by kernel_rfl⟩
theorem td_157 : TdOk Try.prog 157 ⟨.fn, 1, 8, [.one (.nilFn)]⟩ := ⟨by kernel_rfl, show _ = _ by kernel_rfl, by kernel_rfl, by kernel_rfl, by kernel_rfl⟩
theorem td_158 : TdOk Try.prog 158 ⟨.slice 127, 1, 24, [.one (.slc none 0 0)]⟩ := ⟨by kernel_rfl, show _ = _ by kernel_rfl, by kernel_rfl, by kernel_rfl, by kernel_rfl⟩
theorem td_159 : TdOk Try.prog 159 ⟨.fn, 1, 8, [.one (.nilFn)]⟩ := ⟨by kernel_rfl, show _ = _ by kernel_rfl, by kernel_rfl, by kernel_rfl, by kernel_rfl⟩
theorem td_160 : TdOk Try.prog 160 ⟨.fn, 1, 8, [.one (.nilFn)]⟩ := ⟨by kernel_rfl, show _ = _ by kernel_rfl, by kernel_rfl, by kernel_rfl, by kernel_rfl⟩
theorem td_161 : TdOk Try.prog 161 ⟨.ptr 139, 1, 8, [.one (.ptr none)]⟩ := ⟨by kernel_rfl, show _ = _ by kernel_rfl, by kernel_rfl, by kernel_rfl, by kernel_rfl⟩
theorem td_162 : TdOk Try.prog 162 ⟨.fn, 1, 8, [.one (.nilFn)]⟩ := ⟨by kernel_rfl, show _ = _ by kernel_rfl, by kernel_rfl, by kernel_rfl, by kernel_rfl⟩
theorem td_163 : TdOk Try.prog 163 ⟨.fn, 1, 8, [.one (.nilFn)]⟩ := ⟨by kernel_rfl, show _ = _ by kernel_rfl, by kernel_rfl, by kernel_rfl, by kernel_rfl⟩
theorem td_164 : TdOk Try.prog 164 ⟨.fn, 1, 8, [.one (.nilFn)]⟩ := ⟨by kernel_rfl, show _ = _ by kernel_rfl, by kernel_rfl, by kernel_rfl, by kernel_rfl⟩
theorem td_165 : TdOk Try.prog 165 ⟨.fn, 1, 8, [.one (.nilFn)]⟩ := ⟨by kernel_rfl, show _ = _ by kernel_rfl, by kernel_rfl, by kernel_rfl, by kernel_rfl⟩
theorem td_167 : TdOk Try.prog 167 ⟨.fn, 1, 8, [.one (.nilFn)]⟩ := ⟨by kernel_rfl, show _ = _ by kernel_rfl, by kernel_rfl, by kernel_rfl, by kernel_rfl⟩
theorem td_168 : TdOk Try.prog 168 ⟨.fn, 1, 8, [.one (.nilFn)]⟩ := ⟨by kernel_rfl, show _ = _ by kernel_rfl, by kernel_rfl, by kernel_rfl, by kernel_rfl⟩
theorem td_169 : TdOk Try.prog 169 ⟨.array 64 5, 64, 64, [.row 64 (fun _ => .w8 0)]⟩ := ⟨by kernel_rfl, show _ = _ by kernel_rfl, by kernel_rfl, by kernel_rfl, by kernel_rfl⟩
theorem td_170 : TdOk Try.prog 170 ⟨.struct [(161, 0), (136, 1), (169, 9), (3, 73), (38, 74)], 75, 120, [.one (.ptr none), .row 8 (fun _ => .w32 0), .row 64 (fun _ => .w8 0), .one (.int .i64 0), .one (.w64 0)]⟩ := ⟨by kernel_rfl, show _ = _ by kernel_rfl, by kernel_rfl, by kernel_rfl, by kernel_rfl⟩
theorem td_171 : TdOk Try.prog 171 ⟨.struct [(161, 0), (136, 1), (169, 9), (3, 73), (38, 74)], 75, 120, [.one (.ptr none), .row 8 (fun _ => .w32 0), .row 64 (fun _ => .w8 0), .one (.int .i64 0), .one (.w64 0)]⟩ := ⟨by kernel_rfl, show _ = _ by kernel_rfl, by kernel_rfl, by kernel_rfl, by kernel_rfl⟩
theorem td_172 : TdOk Try.prog 172 ⟨.fn, 1, 8, [.one (.nilFn)]⟩ := ⟨by kernel_rfl, show _ = _ by kernel_rfl, by kernel_rfl, by kernel_rfl, by kernel_rfl⟩
theorem td_173 : TdOk Try.prog 173 ⟨.fn, 1, 8, [.one (.nilFn)]⟩ := ⟨by kernel_rfl, show _ = _ by kernel_rfl, by kernel_rfl, by kernel_rfl, by kernel_rfl⟩
theorem td_174 : TdOk Try.prog 174 ⟨.fn, 1, 8, [.one (.nilFn)]⟩ := ⟨by kernel_rfl, show _ = _ by kernel_rfl, by kernel_rfl, by kernel_rfl, by kernel_rfl⟩
theorem td_175 : TdOk Try.prog 175 ⟨.fn, 1, 8, [.one (.nilFn)]⟩ := ⟨by kernel_rfl, show _ = _ by kernel_rfl, by kernel_rfl, by kernel_rfl, by kernel_rfl⟩
theorem td_176 : TdOk Try.prog 176 ⟨.ptr 171, 1, 8, [.one (.ptr none)]⟩ := ⟨by kernel_rfl, show _ = _ by kernel_rfl, by kernel_rfl, by kernel_rfl, by kernel_rfl⟩
theorem td_177 : TdOk Try.prog 177 ⟨.ptr 135, 1, 8, [.one (.ptr none)]⟩ := ⟨by kernel_rfl, show _ = _ by kernel_rfl, by kernel_rfl, by kernel_rfl, by kernel_rfl⟩
theorem td_178 : TdOk Try.prog 178 ⟨.fn, 1, 8, [.one (.nilFn)]⟩ := ⟨by kernel_rfl, show _ = _ by kernel_rfl, by kernel_rfl, by kernel_rfl, by kernel_rfl⟩
theorem td_179 : TdOk Try.prog 179 ⟨.fn, 1, 8, [.one (.nilFn)]⟩ := ⟨by kernel_rfl, show _ = _ by kernel_rfl, by kernel_rfl, by kernel_rfl, by kernel_rfl⟩
theorem td_180 : TdOk Try.prog 180 ⟨.ptr 129, 1, 8, [.one (.ptr none)]⟩ := ⟨by kernel_rfl, show _ = _ by kernel_rfl, by kernel_rfl, by kernel_rfl, by kernel_rfl⟩
theorem td_181 : TdOk Try.prog 181 ⟨.fn, 1, 8, [.one (.nilFn)]⟩ := ⟨by kernel_rfl, show _ = _ by kernel_rfl, by kernel_rfl, by kernel_rfl, by kernel_rfl⟩
theorem td_182 : TdOk Try.prog 182 ⟨.ptr 127, 1, 8, [.one (.ptr none)]⟩ := ⟨by kernel_rfl, show _ = _ by kernel_rfl, by kernel_rfl, by kernel_rfl, by kernel_rfl⟩
theorem td_183 : TdOk Try.prog 183 ⟨.fn, 1, 8, [.one (.nilFn)]⟩ := ⟨by kernel_rfl, show _ = _ by kernel_rfl, by kernel_rfl, by kernel_rfl, by kernel_rfl⟩
theorem td_185 : TdOk Try.prog 185 ⟨.fn, 1, 8, [.one (.nilFn)]⟩ := ⟨by kernel_rfl, show _ = _ by kernel_rfl, by kernel_rfl, by kernel_rfl, by kernel_rfl⟩
theorem td_186 : TdOk Try.prog 186 ⟨.ptr 133, 1, 8, [.one (.ptr none)]⟩ := ⟨by kernel_rfl, show _ = _ by kernel_rfl, by kernel_rfl, by kernel_rfl, by kernel_rfl⟩
theorem td_187 : TdOk Try.prog 187 ⟨.fn, 1, 8, [.one (.nilFn)]⟩ := ⟨by kernel_rfl, show _ = _ by kernel_rfl, by kernel_rfl, by kernel_rfl, by kernel_rfl⟩
theorem td_188 : TdOk Try.prog 188 ⟨.fn, 1, 8, [.one (.nilFn)]⟩ := ⟨by kernel_rfl, show _ = _ by kernel_rfl, by kernel_rfl, by kernel_rfl, by kernel_rfl⟩
theorem td_189 : TdOk Try.prog 189 ⟨.ptr 131, 1, 8, [.one (.ptr none)]⟩ := ⟨by kernel_rfl, show _ = _ by kernel_rfl, by kernel_rfl, by kernel_rfl, by kernel_rfl⟩
theorem td_190 : TdOk Try.prog 190 ⟨.fn, 1, 8, [.one (.nilFn)]⟩ := ⟨by kernel_rfl, show _ = _ by kernel_rfl, by kernel_rfl, by kernel_rfl, by kernel_rfl⟩
theorem td_191 : TdOk Try.prog 191 ⟨.ptr 21, 1, 8, [.one (.ptr none)]⟩ := ⟨by kernel_rfl, show _ = _ by kernel_rfl, by kernel_rfl, by kernel_rfl, by kernel_rfl⟩
theorem td_192 : TdOk Try.prog 192 ⟨.fn, 1, 8, [.one (.nilFn)]⟩ := ⟨by kernel_rfl, show _ = _ by kernel_rfl, by kernel_rfl, by kernel_rfl, by kernel_rfl⟩
theorem td_194 : TdOk Try.prog 194 ⟨.fn, 1, 8, [.one (.nilFn)]⟩ := ⟨by kernel_rfl, show _ = _ by kernel_rfl, by kernel_rfl, by kernel_rfl, by kernel_rfl⟩
theorem td_195 : TdOk Try.prog 195 ⟨.fn, 1, 8, [.one (.nilFn)]⟩ := ⟨by kernel_rfl, show _ = _ by kernel_rfl, by kernel_rfl, by kernel_rfl, by kernel_rfl⟩
theorem td_196 : TdOk Try.prog 196 ⟨.fn, 1, 8, [.one (.nilFn)]⟩ := ⟨by kernel_rfl, show _ = _ by kernel_rfl, by kernel_rfl, by kernel_rfl, by kernel_rfl⟩
theorem td_197 : TdOk Try.prog 197 ⟨.fn, 1, 8, [.one (.nilFn)]⟩ := ⟨by kernel_rfl, show _ = _ by kernel_rfl, by kernel_rfl, by kernel_rfl, by kernel_rfl⟩
theorem td_198 : TdOk Try.prog 198 ⟨.fn, 1, 8, [.one (.nilFn)]⟩ := ⟨by kernel_rfl, show _ = _ by kernel_rfl, by kernel_rfl, by kernel_rfl, by kernel_rfl⟩
theorem td_199 : TdOk Try.prog 199 ⟨.fn, 1, 8, [.one (.nilFn)]⟩ := ⟨by kernel_rfl, show _ = _ by kernel_rfl, by kernel_rfl, by kernel_rfl, by kernel_rfl⟩
theorem td_200 : TdOk Try.prog 200 ⟨.fn, 1, 8, [.one (.nilFn)]⟩ := ⟨by kernel_rfl, show _ = _ by kernel_rfl, by kernel_rfl, by kernel_rfl, by kernel_rfl⟩
theorem td_201 : TdOk Try.prog 201 ⟨.struct [(17, 0), (17, 1), (17, 2), (9, 3)], 4, 40, [.one (.ptr none), .one (.ptr none), .one (.ptr none), .one (.str [])]⟩ := ⟨by kernel_rfl, show _ = _ by kernel_rfl, by kernel_rfl, by kernel_rfl, by kernel_rfl⟩
theorem td_202 : TdOk Try.prog 202 ⟨.struct [(17, 0), (17, 1), (17, 2), (9, 3)], 4, 40, [.one (.ptr none), .one (.ptr none), .one (.ptr none), .one (.str [])]⟩ := ⟨by kernel_rfl, show _ = _ by kernel_rfl, by kernel_rfl, by kernel_rfl, by kernel_rfl⟩
theorem td_203 : TdOk Try.prog 203 ⟨.array 0 16, 0, 0, [.row 0 (fun _ => .ptr none)]⟩ := ⟨by kernel_rfl, show _ = _ by kernel_rfl, by kernel_rfl, by kernel_rfl, by kernel_rfl⟩
theorem td_204 : TdOk Try.prog 204 ⟨.struct [(203, 0)], 0, 0, [.row 0 (fun _ => .ptr none)]⟩ := ⟨by kernel_rfl, show _ = _ by kernel_rfl, by kernel_rfl, by kernel_rfl, by kernel_rfl⟩
theorem td_205 : TdOk Try.prog 205 ⟨.struct [(203, 0)], 0, 0, [.row 0 (fun _ => .ptr none)]⟩ := ⟨by kernel_rfl, show _ = _ by kernel_rfl, by kernel_rfl, by kernel_rfl, by kernel_rfl⟩
theorem td_206 : TdOk Try.prog 206 ⟨.int .u8, 1, 1, [.one (.w8 0)]⟩ := ⟨by kernel_rfl, show _ = _ by kernel_rfl, by kernel_rfl, by kernel_rfl, by kernel_rfl⟩
theorem td_207 : TdOk Try.prog 207 ⟨.int .u8, 1, 1, [.one (.w8 0)]⟩ := ⟨by kernel_rfl, show _ = _ by kernel_rfl, by kernel_rfl, by kernel_rfl, by kernel_rfl⟩
theorem td_208 : TdOk Try.prog 208 ⟨.fn, 1, 8, [.one (.nilFn)]⟩ := ⟨by kernel_rfl, show _ = _ by kernel_rfl, by kernel_rfl, by kernel_rfl, by kernel_rfl⟩
theorem td_209 : TdOk Try.prog 209 ⟨.ptr 5, 1, 8, [.one (.ptr none)]⟩ := ⟨by kernel_rfl, show _ = _ by kernel_rfl, by kernel_rfl, by kernel_rfl, by kernel_rfl⟩
theorem td_210 : TdOk Try.prog 210 ⟨.int .i32, 1, 4, [.one (.int .i32 0)]⟩ := ⟨by kernel_rfl, show _ = _ by kernel_rfl, by kernel_rfl, by kernel_rfl, by kernel_rfl⟩
theorem td_211 : TdOk Try.prog 211 ⟨.int .i32, 1, 4, [.one (.int .i32 0)]⟩ := ⟨by kernel_rfl, show _ = _ by kernel_rfl, by kernel_rfl, by kernel_rfl, by kernel_rfl⟩
theorem td_212 : TdOk Try.prog 212 ⟨.struct [(12, 0), (12, 1), (127, 2), (206, 3), (5, 4), (5, 5), (207, 6), (208, 7), (209, 8), (210, 9), (211, 10)], 11, 48, [.one (.w64 0), .one (.w64 0), .one (.w32 0), .one (.w8 0), .one (.w8 0), .one (.w8 0), .one (.w8 0), .one (.nilFn), .one (.ptr none), .one (.int .i32 0), .one (.int .i32 0)]⟩ := ⟨by kernel_rfl, show _ = _ by kernel_rfl, by kernel_rfl, by kernel_rfl, by kernel_rfl⟩
theorem td_213 : TdOk Try.prog 213 ⟨.struct [(12, 0), (12, 1), (127, 2), (206, 3), (5, 4), (5, 5), (207, 6), (208, 7), (209, 8), (210, 9), (211, 10)], 11, 48, [.one (.w64 0), .one (.w64 0), .one (.w32 0), .one (.w8 0), .one (.w8 0), .one (.w8 0), .one (.w8 0), .one (.nilFn), .one (.ptr none), .one (.int .i32 0), .one (.int .i32 0)]⟩ := ⟨by kernel_rfl, show _ = _ by kernel_rfl, by kernel_rfl, by kernel_rfl, by kernel_rfl⟩
theorem tds_ok : AllT Try.prog tds := ⟨td_1, td_2, td_3, td_4, td_5, td_6, td_7, td_8, td_9, td_10, td_11, td_12, td_13, td_14, td_15, td_16, td_17, td_18, td_19, td_20, td_21, td_22, td_23, td_24, td_25, td_26, td_27, td_28, td_29, td_30, td_31, td_32, td_34, td_35, td_36, td_37, td_38, td_39, td_40, td_41, td_42, td_43, td_44, td_46, td_47, td_48, td_49, td_50, td_51, td_52, td_53, td_54, td_55, td_56, td_57, td_58, td_59, td_60, td_61, td_62, td_63, td_64, td_65, td_67, td_69, td_70, td_71, td_72, td_73, td_74, td_75, td_76, td_77, td_79, td_81, td_82, td_83, td_84, td_85, td_86, td_87, td_88, td_89, td_90, td_91, td_92, td_93, td_94, td_95, td_96, td_97, td_98, td_99, td_100, td_101, td_102, td_103, td_104, td_105, td_106, td_107, td_108, td_109, td_110, td_111, td_112, td_113, td_115, td_116, td_117, td_118, td_119, td_120, td_121, td_122, td_123, td_124, td_125, td_126, td_127, td_128, td_129, td_130, td_131, td_132, td_133, td_134, td_135, td_136, td_137, td_138, td_139, td_140, td_141, td_142, td_143, td_144, td_145, td_147, td_148, td_149, td_150, td_151, td_152, td_154, td_155, td_156, td_157, td_158, td_159, td_160, td_161, td_162, td_163, td_164, td_165, td_167, td_168, td_169, td_170, td_171, td_172, td_173, td_174, td_175, td_176, td_177, td_178, td_179, td_180, td_181, td_182, td_183, td_185, td_186, td_187, td_188, td_189, td_190, td_191, td_192, td_194, td_195, td_196, td_197, td_198, td_199, td_200, td_201, td_202, td_203, td_204, td_205, td_206, td_207, td_208, td_209, td_210, td_211, td_212, td_213, trivial⟩
end Sx
end Go.Proofs.Ytkjdkeolkigibaa
end

section
/-
  Forms laid bare by an equation. Over any program. No condition of its own.
-/
namespace Go.Proofs.Ytkjdkeolkigibaa
set_option linter.unusedVariables false
namespace Sx

theorem frcN_of {n m : Nat} {k : Nat → Prop} (h : n = m) (hk : k m) : frcN n k := by subst h; exact hk
end Sx
end Go.Proofs.Ytkjdkeolkigibaa
end

section
/-
  Bytes as lists, and as rows of cells. No condition.
-/
namespace Go.Proofs.Ytkjdkeolkigibaa
set_option linter.unusedVariables false
namespace Sha
abbrev Bs := List (BitVec 8)
def L (l : Bs) (i : Nat) : BitVec 8 := l.getD i 0#8
theorem L_lt {l : Bs} {i : Nat} (h : i < l.length) : L l i = l[i] := by
  unfold L; rw [List.getD_eq_getElem?_getD, List.getElem?_eq_getElem h]; rfl
theorem L_app1 {l m : Bs} {i : Nat} (h : i < l.length) : L (l ++ m) i = L l i := by
  unfold L; rw [List.getD_eq_getElem?_getD, List.getD_eq_getElem?_getD, List.getElem?_append_left h]
theorem L_app2 {l m : Bs} {i : Nat} : L (l ++ m) (l.length + i) = L m i := by
  unfold L; rw [List.getD_eq_getElem?_getD, List.getD_eq_getElem?_getD, List.getElem?_append_right (by omega), Nat.add_sub_cancel_left]
theorem L_app {l m : Bs} {i : Nat} : L (l ++ m) i = if i < l.length then L l i else L m (i - l.length) := by
  split
  · rename_i h; exact L_app1 h
  · rename_i h
    have := @L_app2 l m (i - l.length)
    rwa [show l.length + (i - l.length) = i by omega] at this
theorem L_drop (l : Bs) (o i : Nat) : L (l.drop o) i = L l (o + i) := by
  unfold L; rw [List.getD_eq_getElem?_getD, List.getD_eq_getElem?_getD, List.getElem?_drop]
theorem L_take (l : Bs) (n i : Nat) (h : i < n) : L (l.take n) i = L l i := by
  unfold L; rw [List.getD_eq_getElem?_getD, List.getD_eq_getElem?_getD, List.getElem?_take, if_pos h]
/-- The list of some bytes. -/
def tab (n : Nat) (b : Nat → BitVec 8) : Bs := (List.range n).map b
@[simp] theorem tab_len (n : Nat) (b : Nat → BitVec 8) : (tab n b).length = n := by simp [tab]
theorem L_tab {n : Nat} {b : Nat → BitVec 8} {i : Nat} (h : i < n) : L (tab n b) i = b i := by
  unfold L tab; rw [List.getD_eq_getElem?_getD]; simp [h]
/-- Bytes as the model's strings have them. -/
def U8 (l : Bs) : List UInt8 := l.map UInt8.ofBitVec
@[simp] theorem U8_len (l : Bs) : (U8 l).length = l.length := by simp [U8]
theorem U8_get (l : Bs) (q : Nat) (h : q < l.length) : ((U8 l).getD q 0).toBitVec = L l q := by
  rw [L_lt h, List.getD_eq_getElem?_getD, U8, List.getElem?_map, List.getElem?_eq_getElem h]
  rfl
theorem U8_inj {l m : Bs} (h : U8 l = U8 m) : l = m := by
  have : (U8 l).map UInt8.toBitVec = (U8 m).map UInt8.toBitVec := congrArg _ h
  simpa [U8, Function.comp_def] using this
def BS (l : List UInt8) : Bs := l.map UInt8.toBitVec
@[simp] theorem BS_len (l : List UInt8) : (BS l).length = l.length := by simp [BS]
theorem L_BS (l : List UInt8) (i : Nat) (hi : i < l.length) : L (BS l) i = (l.getD i 0).toBitVec := by
  rw [L_lt (by simpa using hi), List.getD_eq_getElem?_getD, List.getElem?_eq_getElem hi]
  simp [BS]
end Sha
namespace Sx
open Sha

theorem follows_ : Try.prog.follows .mixedOrders = true := by kernel_rfl
theorem eqC_w8 {q : List Nat} {x : SC} {b : BitVec 8} (h : x = .w8 b) : eqC q x (.w8 b) True := by subst h; exact ⟨rfl, trivial⟩
/-- Loads out of rows, by cases on the place. -/
theorem upd_w8 {f g : Nat → SC} {k : Nat} {v : SC} (hv : v = g k) (hf : ∀ j, j ≠ k → f j = g j) (j : Nat) : upd f k v j = g j := by
  unfold upd
  split
  · rename_i h; rw [h, hv]
  · rename_i h; exact hf j h
/-- n bytes, and room behind them. -/
def bytesF (n : Nat) (b : Nat → BitVec 8) : Nat → SC := fun j => if j < n then .w8 (b j) else .any
theorem bytesF_lt {n : Nat} {b : Nat → BitVec 8} {j : Nat} (h : j < n) : bytesF n b j = .w8 (b j) := if_pos h
theorem eqC_bytes {q : List Nat} {n : Nat} {f : Nat → SC} {b : Nat → BitVec 8} (h : ∀ j, j < n → f j = .w8 (b j)) (j : Nat) : eqC q (f j) (bytesF n b j) True := by
  unfold bytesF
  split
  · rename_i hj; exact eqC_w8 (h j hj)
  · trivial
theorem len3 {α : Type} : ∀ {l : List α}, l.length = 3 → ∃ a b c, l = [a, b, c]
  | [a, b, c], _ => ⟨a, b, c, rfl⟩
theorem upd_bytes {n k : Nat} {f g : Nat → BitVec 8} {v : SC} (hk : k < n) (hv : v = .w8 (g k)) (hf : ∀ j, j ≠ k → f j = g j) (j : Nat) (hj : j < n) : upd (bytesF n f) k v j = .w8 (g j) := by
  unfold upd
  split
  · rename_i h; rw [h, hv]
  · rename_i h; rw [bytesF_lt hj, hf j h]
theorem len2' {α : Type} : ∀ {l : List α}, l.length = 2 → ∃ a b, l = [a, b]
  | [a, b], _ => ⟨a, b, rfl⟩
theorem len3' {α : Type} : ∀ {l : List α}, l.length = 3 → ∃ a b c, l = [a, b, c]
  | [a, b, c], _ => ⟨a, b, c, rfl⟩
/-- n bytes from place o on. -/
def winF (o n : Nat) (b : Nat → BitVec 8) : Nat → SC := fun j => if o ≤ j ∧ j < o + n then .w8 (b (j - o)) else .any
theorem winF_at (o n : Nat) (b : Nat → BitVec 8) {i : Nat} (h : i < n) : winF o n b (o + i) = .w8 (b i) := by
  unfold winF
  rw [if_pos ⟨by omega, by omega⟩, show o + i - o = i by omega]
theorem eqC_win {q : List Nat} {o n : Nat} {f : Nat → SC} {b : Nat → BitVec 8} (h : ∀ i, i < n → f (o + i) = .w8 (b i)) (j : Nat) : eqC q (f j) (winF o n b j) True := by
  unfold winF
  split
  · rename_i hj
    have := h (j - o) (by omega)
    rw [show o + (j - o) = j by omega] at this
    exact eqC_w8 this
  · trivial
theorem eqC_winS {q : List Nat} {o n : Nat} {b : Nat → BitVec 8} {j : Nat} : eqC q (winF o n b j) (winF o n b j) True := eqC_win (fun _ h => winF_at _ _ _ h) j
theorem eqC_winM {q : List Nat} {g : Nat → Nat} {o n : Nat} {b : Nat → BitVec 8} {j : Nat} : eqC q (SC.mp g (winF o n b j)) (winF o n b j) True :=
  eqC_win (f := fun j => SC.mp g (winF o n b j)) (fun _ h => by rw [winF_at _ _ _ h]; rfl) j
theorem eqC_selfB {q : List Nat} {n : Nat} {b : Nat → BitVec 8} {j : Nat} : eqC q (bytesF n b j) (bytesF n b j) True := eqC_bytes (fun _ h => bytesF_lt h) j
theorem eqC_mpB {q : List Nat} {g : Nat → Nat} {n : Nat} {b : Nat → BitVec 8} {j : Nat} : eqC q (SC.mp g (bytesF n b j)) (bytesF n b j) True :=
  eqC_bytes (f := fun j => SC.mp g (bytesF n b j)) (fun j h => by rw [bytesF_lt h]; rfl) j
theorem eqC_winB {q : List Nat} {n : Nat} {b : Nat → BitVec 8} {j : Nat} : eqC q (bytesF n b j) (winF 0 n b j) True :=
  eqC_win (fun i h => by rw [Nat.zero_add]; exact bytesF_lt h) j
/-- Bytes of a slice that may be nil. -/
def bts : Bool → Nat → Nat → Nat → (Nat → BitVec 8) → List Seg
  | true, _, _, _, _ => []
  | false, N, o, n, b => [.row N (winF o n b)]
/-- Bytes of a slice that may be nil, taken as they are. -/
theorem sn_bts {h : List (List Seg)} {z : Bool} {j N o n : Nat} {b : Nat → BitVec 8} {k : (Nat → SC) → Prop} (hj : getH h j = bts z N o n b) (hN : o + n ≤ N) (hz : z = true → n = 0)
    (hk : ∀ g : Nat → SC, (∀ i, i < n → g i = .w8 (b i)) → k g) : ∃ f : Nat → SC, ((z = true → n = 0) ∧ (z = false → SnAt h j 0 o n 1 f)) ∧ k f := by
  refine ⟨fun i => .w8 (b i), ⟨hz, ?_⟩, hk _ fun _ _ => rfl⟩
  rintro rfl
  exact ⟨N, winF o n b, [], by rw [hj]; rfl, hN, fun q hq => by rw [Nat.add_comm]; exact (winF_at _ _ _ hq).symm⟩
/-- Things of which only the first m are known. -/
def partsF (m : Nat) (g : Nat → SC) : Nat → SC := fun i => if i < m then g i else .any
theorem frc_parts {m : Nat} {g : Nat → SC} {i : Nat} {k : SC → Prop} (h : i < m) (hk : frcSC (g i) k) : frcSC (partsF m g i) k := by
  unfold partsF; rw [if_pos h]; exact hk
/-- A part of some bytes. -/
def sub (l : Bs) (o n : Nat) : Bs := (l.drop o).take n
theorem eqC_bts {q : List Nat} {z : Bool} {N o n : Nat} {b : Nat → BitVec 8} {k : Prop} (hk : k) : eqSegs q (bts z N o n b) (bts z N o n b) k := by
  cases z
  · exact ⟨rfl, fun j hj => eqC_winS, hk⟩
  · exact hk
theorem eqC_btsM {q : List Nat} {g : Nat → Nat} {z : Bool} {N o n : Nat} {b : Nat → BitVec 8} {k : Prop} (hk : k) : eqSegs q (mpL g (bts z N o n b)) (bts z N o n b) k := by
  cases z
  · exact ⟨rfl, fun j hj => eqC_winM, hk⟩
  · exact hk
theorem frc_bytesL {n : Nat} {b : Nat → BitVec 8} {j : Nat} {k : SC → Prop} (h : j < n) (hk : k (.w8 (b j))) : frcSC (bytesF n b j) k := by
  rw [bytesF_lt h]; exact hk
theorem eqC_win0 {q : List Nat} {n : Nat} {f : Nat → SC} {b : Nat → BitVec 8} (h : ∀ i, i < n → f i = .w8 (b i)) (j : Nat) : eqC q (f j) (winF 0 n b j) True :=
  eqC_win (fun i hi => by rw [Nat.zero_add]; exact h i hi) j
theorem frc_win {o n i : Nat} {b : Nat → BitVec 8} {k : SC → Prop} (h : i < n) (hk : k (.w8 (b i))) : frcSC (winF o n b (i + o)) k := by
  rw [Nat.add_comm, winF_at _ _ _ h]; exact hk
theorem eqSegs_nil {q : List Nat} {x : List Seg} {k : Prop} (h : k) : eqSegs q x [] k := by
  cases x with
  | nil => exact h
  | cons a r => cases a <;> exact h
/-- Bytes of a string. -/
theorem str_of {g : Nat → SC} {n : Nat} {M : Bs} (hn : M.length = n) (h : ∀ q, q < n → g q = .w8 (L M q)) : (U8 M).length = n ∧ ∀ q, q < n → g q = .w8 ((U8 M).getD q 0).toBitVec :=
  ⟨by rw [U8_len, hn], fun q hq => by rw [h q hq, U8_get M q (by omega)]⟩
theorem nthC_w8 : ∀ (l : Bs) (j : Nat), j < l.length → nthC (l.map SC.w8) j = .w8 (L l j)
  | [], _, h => absurd h (by simp)
  | x :: l, 0, _ => rfl
  | x :: l, j + 1, h => nthC_w8 l j (by simpa using h)
theorem app_row {f g : Nat → SC} {l m : Bs} {n k : Nat} (hn : l.length = n) (hk : m.length = k) (hf : ∀ i, i < n → f i = .w8 (L l i)) (hg : ∀ i, i < k → g i = .w8 (L m i)) (i : Nat) (hi : i < n + k) :
    appF f 0 (scale n (0 + 1)) (scale k (0 + 1)) g i = .w8 (L (l ++ m) i) := by
  have e1 : scale n (0 + 1) = n := by rw [scale_eq, Nat.zero_add, Nat.mul_one]
  have e2 : scale k (0 + 1) = k := by rw [scale_eq, Nat.zero_add, Nat.mul_one]
  unfold appF
  rw [e1, e2, L_app, hn]
  by_cases h : i < n
  · rw [if_pos h, if_pos h]; exact hf i h
  · rw [if_neg h, if_pos hi, if_neg h]; exact hg _ (by omega)
theorem new_row {g : Nat → SC} {m : Bs} {k : Nat} (hg : ∀ i, i < k → g i = .w8 (L m i)) (i : Nat) (hi : i < k) : newF (scale k (0 + 1)) g i = .w8 (L m i) := by
  have e2 : scale k (0 + 1) = k := by rw [scale_eq, Nat.zero_add, Nat.mul_one]
  unfold newF
  rw [e2, if_pos hi]; exact hg i hi
theorem one_row {x y : BitVec 8} (h : x = y) (i : Nat) (hi : i < 1) : nthC [.w8 x] i = .w8 (L [y] i) := by
  obtain rfl : i = 0 := by omega
  subst h; rfl
theorem eqC_winBM {q : List Nat} {g : Nat → Nat} {n m : Nat} {b : Nat → BitVec 8} {j : Nat} (h : m ≤ n) : eqC q (SC.mp g (bytesF n b j)) (winF 0 m b j) True :=
  eqC_win0 (f := fun j => SC.mp g (bytesF n b j)) (fun i hi => by rw [bytesF_lt (by omega)]; rfl) j
theorem frc_bytesM {n : Nat} {g : Nat → Nat} {b : Nat → BitVec 8} {j : Nat} {k : SC → Prop} (h : j < n) (hk : k (.w8 (b j))) : frcSC (SC.mp g (bytesF n b j)) k := by
  rw [bytesF_lt h]; exact hk
theorem frc_winA {o n x : Nat} {b : Nat → BitVec 8} {k : SC → Prop} (i : Nat) (hx : x = i + o) (h : i < n) (hk : k (.w8 (b i))) : frcSC (winF o n b x) k := by
  rw [hx]; exact frc_win h hk
/-- A plain part of an entailment, found by itself. -/
theorem ent1 {a b : Prop} (k : b) (h : a := by first | exact rfl | exact fun _ _ => ⟨rfl, trivial⟩ | exact fun _ _ => trivial | exact ⟨rfl, rfl⟩ | omega | exact fun _ _ => eqC_winS | exact fun _ _ => eqC_winM | exact fun _ _ => eqC_winB | exact fun _ _ => eqC_selfB | exact fun _ _ => eqC_mpB) : a ∧ b := ⟨h, k⟩
end Sx
end Go.Proofs.Ytkjdkeolkigibaa
end

section
/-
  Numbers of one, two, four or eight bytes, as lists of bytes: put and taken. Plain. No condition.
-/
namespace Go.Proofs.Ytkjdkeolkigibaa
set_option linter.unusedVariables false
namespace Vi
open Sha

def lenN (n : BitVec 64) : Nat := if n < 64#64 then 1 else if n < 16384#64 then 2 else if n < 1073741824#64 then 4 else if n < 4611686018427387904#64 then 8 else 0
def okSz (k : Nat) : Prop := k = 1 ∨ k = 2 ∨ k = 4 ∨ k = 8
def markB (k : Nat) : BitVec 8 := if k = 2 then 64#8 else if k = 4 then 128#8 else if k = 8 then 192#8 else 0#8
def byteN (n : BitVec 64) (j : Nat) : BitVec 8 := (n >>> (8 * j)).setWidth 8
/-- A number's bytes, so many. -/
def wideL (n : BitVec 64) (k : Nat) : Bs := tab k fun i => if i = 0 then byteN n (k - 1) ||| markB k else byteN n (k - 1 - i)
/-- With the fewest. -/
def putL (n : BitVec 64) : Bs := wideL n (lenN n)
@[simp] theorem wideL_len (n : BitVec 64) (k : Nat) : (wideL n k).length = k := tab_len _ _
def sizeT (c : BitVec 8) : Nat := 2 ^ (c >>> 6).toNat
/-- What is taken: the first byte and i more. -/
def numT (l : Bs) : Nat → BitVec 64
  | 0 => (L l 0 &&& 63#8).setWidth 64
  | i + 1 => numT l i <<< 8 ||| (L l (i + 1)).setWidth 64
theorem lenN_spec (n : BitVec 64) : (n.toNat < 64 ∧ lenN n = 1) ∨ (64 ≤ n.toNat ∧ n.toNat < 16384 ∧ lenN n = 2) ∨ (16384 ≤ n.toNat ∧ n.toNat < 1073741824 ∧ lenN n = 4) ∨
    (1073741824 ≤ n.toNat ∧ n.toNat < 4611686018427387904 ∧ lenN n = 8) ∨ (4611686018427387904 ≤ n.toNat ∧ lenN n = 0) := by
  unfold lenN
  simp only [BitVec.lt_def, BitVec.toNat_ofNat]
  split <;> (try split) <;> (try split) <;> (try split) <;> omega
theorem lenN_ok {n : BitVec 64} (h : lenN n ≠ 0) : okSz (lenN n) := by
  have := lenN_spec n
  unfold okSz
  omega
theorem byteN_toNat (n : BitVec 64) (j : Nat) : (byteN n j).toNat = n.toNat / 256 ^ j % 256 := by
  unfold byteN
  rw [BitVec.toNat_setWidth, BitVec.toNat_ushiftRight, Nat.shiftRight_eq_div_pow, Nat.pow_mul]
theorem step_toNat (a : BitVec 64) (c : BitVec 8) (h : a.toNat < 2 ^ 56) : (a <<< 8 ||| c.setWidth 64).toNat = a.toNat * 256 + c.toNat := by
  have hc := c.isLt
  rw [BitVec.toNat_or, BitVec.toNat_shiftLeft, BitVec.toNat_setWidth, Nat.shiftLeft_eq, Nat.mod_eq_of_lt (by omega), Nat.mod_eq_of_lt (by omega : c.toNat < 2 ^ 64), Nat.mul_comm]
  exact (Nat.two_pow_add_eq_or_of_lt (by omega) _).symm
theorem mark_and : ∀ c : BitVec 8, c < 64#8 → (c ||| 0#8) &&& 63#8 = c ∧ (c ||| 64#8) &&& 63#8 = c ∧ (c ||| 128#8) &&& 63#8 = c ∧ (c ||| 192#8) &&& 63#8 = c := by decide +kernel
theorem mark_shr : ∀ c : BitVec 8, c < 64#8 → ((c ||| 0#8) >>> 6) = 0#8 ∧ ((c ||| 64#8) >>> 6) = 1#8 ∧ ((c ||| 128#8) >>> 6) = 2#8 ∧ ((c ||| 192#8) >>> 6) = 3#8 := by decide +kernel
theorem mark_add : ∀ c : BitVec 8, c < 64#8 → (c ||| 0#8) = c + 0#8 ∧ (c ||| 64#8) = c + 64#8 ∧ (c ||| 128#8) = c + 128#8 ∧ (c ||| 192#8) = c + 192#8 := by decide +kernel
theorem head_lt {n : BitVec 64} {k : Nat} (hk : okSz k) (h0 : lenN n ≠ 0) (h1 : lenN n ≤ k) : byteN n (k - 1) < 64#8 ∧ n.toNat < 64 * 256 ^ (k - 1) := by
  have hs := lenN_spec n
  rw [BitVec.lt_def, byteN_toNat]
  rcases hk with rfl | rfl | rfl | rfl <;> simp <;> omega
theorem take_wide {n : BitVec 64} {k : Nat} (hk : okSz k) (h0 : lenN n ≠ 0) (h1 : lenN n ≤ k) (r : Bs) : sizeT (L (wideL n k ++ r) 0) = k ∧ numT (wideL n k ++ r) (k - 1) = n := by
  obtain ⟨hb, hn⟩ := head_lt hk h0 h1
  have e0 : ∀ i, i < k → L (wideL n k ++ r) i = if i = 0 then byteN n (k - 1) ||| markB k else byteN n (k - 1 - i) := fun i hi => by
    rw [L_app1 (by simpa using hi)]
    exact L_tab hi
  have a0 := mark_and _ hb
  have a1 := mark_shr _ hb
  have z : (L (wideL n k ++ r) 0 &&& 63#8) = byteN n (k - 1) ∧ sizeT (L (wideL n k ++ r) 0) = k := by
    rw [e0 0 (by rcases hk with rfl | rfl | rfl | rfl <;> omega), if_pos rfl]
    unfold sizeT
    rcases hk with rfl | rfl | rfl | rfl
    · exact ⟨a0.1, by show 2 ^ ((byteN n 0 ||| 0#8) >>> 6).toNat = 1; rw [a1.1]; rfl⟩
    · exact ⟨a0.2.1, by show 2 ^ ((byteN n 1 ||| 64#8) >>> 6).toNat = 2; rw [a1.2.1]; rfl⟩
    · exact ⟨a0.2.2.1, by show 2 ^ ((byteN n 3 ||| 128#8) >>> 6).toNat = 4; rw [a1.2.2.1]; rfl⟩
    · exact ⟨a0.2.2.2, by show 2 ^ ((byteN n 7 ||| 192#8) >>> 6).toNat = 8; rw [a1.2.2.2]; rfl⟩
  refine ⟨z.2, ?_⟩
  have key : ∀ i, i < k → (numT (wideL n k ++ r) i).toNat = n.toNat / 256 ^ (k - 1 - i) := by
    intro i hi
    induction i with
    | zero =>
      simp only [numT]
      rw [z.1, BitVec.toNat_setWidth, byteN_toNat, Nat.sub_zero]
      have hq : n.toNat / 256 ^ (k - 1) < 64 := Nat.div_lt_of_lt_mul (by rw [Nat.mul_comm]; exact hn)
      rw [Nat.mod_eq_of_lt (by omega : n.toNat / 256 ^ (k - 1) < 256), Nat.mod_eq_of_lt (by omega)]
    | succ i ih =>
      have ih := ih (by omega)
      have hlt : n.toNat / 256 ^ (k - 1 - i) < 2 ^ 56 := by
        have hn2 := n.isLt
        have hs : 256 ≤ 256 ^ (k - 1 - i) := by
          have : 256 ^ 1 ≤ 256 ^ (k - 1 - i) := Nat.pow_le_pow_right (by omega) (by omega)
          simpa using this
        have := Nat.div_le_div_left hs (by omega : 0 < 256) (a := n.toNat)
        omega
      simp only [numT]
      rw [step_toNat _ _ (by rw [ih]; exact hlt), ih, e0 (i + 1) hi, if_neg (by omega), byteN_toNat]
      have e : k - 1 - i = (k - 1 - (i + 1)) + 1 := by omega
      rw [e, Nat.pow_succ, ← Nat.div_div_eq_div_mul]
      omega
  apply BitVec.eq_of_toNat_eq
  have := key (k - 1) (by rcases hk with rfl | rfl | rfl | rfl <;> omega)
  simpa using this
end Vi
end Go.Proofs.Ytkjdkeolkigibaa
end

section
/-
  Numbers of one, two, four or eight bytes, taken: the program's Take, Len, mark. No condition.
-/
namespace Go.Proofs.Ytkjdkeolkigibaa
set_option linter.unusedVariables false
namespace Vi
open Sha
/-- What Take answers. -/
def takeM (l : Bs) : BitVec 64 × Nat × Int := if l.length = 0 ∨ l.length < sizeT (L l 0) then (0#64, 0, 3) else (numT l (sizeT (L l 0) - 1), sizeT (L l 0), 0)
theorem shr6 : ∀ c : BitVec 8, (c >>> 6).toNat < 4 := by decide +kernel
theorem sizeT_le (c : BitVec 8) : 1 ≤ sizeT c ∧ sizeT c ≤ 8 := by
  unfold sizeT
  have := shr6 c
  have : (c >>> 6).toNat = 0 ∨ (c >>> 6).toNat = 1 ∨ (c >>> 6).toNat = 2 ∨ (c >>> 6).toNat = 3 := by omega
  rcases this with h | h | h | h <;> rw [h] <;> decide
end Vi
namespace Sx
open Sha Vi

/-- A slice of bytes that may be nil: where it lies in its block, how far that goes, its bytes. -/
structure Sl where
  z : Bool
  N : Nat
  o : Nat
  c : Nat
  l : Bs
structure Sl.Ok (s : Sl) : Prop where
  fit : s.o + s.l.length ≤ s.N
  cap : s.l.length ≤ s.c
  nil : s.z = true → s.l = []
  small : s.l.length ≤ 1000000
abbrev svC (i : Nat) (s : Sl) : SC := .sn s.z i 0 s.o s.l.length s.c
abbrev svB (s : Sl) : List Seg := bts s.z s.N s.o s.l.length (L s.l)
theorem svB_row {s : Sl} (h : s.z = false) : svB s = [.row s.N (winF s.o s.l.length (L s.l))] := by unfold svB; rw [h]; rfl
theorem frc_eq {x y : SC} {k : SC → Prop} (h : x = y) (hk : frcSC y k) : frcSC x k := by rw [h]; exact hk
/-- A slice within another one. -/
structure Sub (s s' : Sl) : Prop where
  z : s'.z = false → s.z = false
  N : s'.z = false → s.N = s'.N
  lo : s'.l ≠ [] → s.o ≤ s'.o ∧ s'.o + s'.l.length ≤ s.o + s.l.length
  at_ : ∀ i, i < s'.l.length → L s.l (s'.o - s.o + i) = L s'.l i
theorem Sub.ent {s s' : Sl} (h : Sub s s') {q : List Nat} {k : Prop} (hk : k) : eqSegs q (svB s) (svB s') k := by
  cases hz : s'.z with
  | true => unfold svB; rw [hz]; exact eqSegs_nil hk
  | false =>
    rw [svB_row (h.z hz), svB_row hz]
    refine ⟨h.N hz, fun j hj => eqC_win (fun i hi => ?_) j, hk⟩
    have hne : s'.l ≠ [] := fun e => by rw [e] at hi; simp at hi
    have h1 := h.lo hne
    rw [show s'.o + i = s.o + (s'.o - s.o + i) by omega, winF_at _ _ _ (by omega), h.at_ i hi]
theorem Sub.refl (s : Sl) : Sub s s := ⟨id, fun _ => rfl, fun _ => ⟨Nat.le_refl _, Nat.le_refl _⟩, fun i _ => by rw [Nat.sub_self, Nat.zero_add]⟩
theorem Sub.nil (s : Sl) {n o c : Nat} : Sub s ⟨true, n, o, c, []⟩ := ⟨fun h => Bool.noConfusion h, fun h => Bool.noConfusion h, fun h => absurd rfl h, fun i hi => by simp at hi⟩
theorem eqSegs_sub {q : List Nat} {z0 z : Bool} {N n0 o n : Nat} {B b : Nat → BitVec 8} {k : Prop} (h : z = false → z0 = false ∧ ∀ i, i < n → o + i < n0 ∧ B (o + i) = b i) (hk : k) : eqSegs q (bts z0 N 0 n0 B) (bts z N o n b) k := by
  cases z with
  | true => exact eqSegs_nil hk
  | false =>
    obtain ⟨rfl, h1⟩ := h rfl
    refine ⟨rfl, fun j hj => eqC_win (fun i hi => ?_) j, hk⟩
    have := winF_at 0 n0 B (h1 i hi).1
    rw [Nat.zero_add] at this
    rw [this, (h1 i hi).2]
theorem fn_vlen (n : BitVec 64) : Fn Try.prog tds 57 [] [.c (.w64 n)] (fun _ => True) (fun x hs => x = .a (.c (.int .i64 (lenN n : Nat))) ∧ hs = []) := by
  refine fn_of_body tds_ok follows_ Try.func57 rfl (t := .a (.c (.w64 n)) :: anys (Try.f57.ntmps - 1)) rfl (fun w r0 hr _ => ?_)
  obtain rfl : r0 = [] := List.eq_nil_of_length_eq_zero hr
  unfold lenN
  refine ⟨fun h => ?_, fun h => ?_⟩
  · rw [if_pos (of_decide_eq_true h)]
    exact ⟨.a (.c (.int .i64 1)), [], ⟨[], ⟨rfl, rfl, rfl⟩, rfl, trivial⟩, rfl, rfl⟩
  rw [if_neg (of_decide_eq_false h)]
  refine ⟨fun h => ?_, fun h => ?_⟩
  · rw [if_pos (of_decide_eq_true h)]
    exact ⟨.a (.c (.int .i64 2)), [], ⟨[], ⟨rfl, rfl, rfl⟩, rfl, trivial⟩, rfl, rfl⟩
  rw [if_neg (of_decide_eq_false h)]
  refine ⟨fun h => ?_, fun h => ?_⟩
  · rw [if_pos (of_decide_eq_true h)]
    exact ⟨.a (.c (.int .i64 4)), [], ⟨[], ⟨rfl, rfl, rfl⟩, rfl, trivial⟩, rfl, rfl⟩
  rw [if_neg (of_decide_eq_false h)]
  refine ⟨fun h => ?_, fun h => ?_⟩
  · rw [if_pos (of_decide_eq_true h)]
    exact ⟨.a (.c (.int .i64 8)), [], ⟨[], ⟨rfl, rfl, rfl⟩, rfl, trivial⟩, rfl, rfl⟩
  rw [if_neg (of_decide_eq_false h)]
  exact ⟨.a (.c (.int .i64 0)), [], ⟨[], ⟨rfl, rfl, rfl⟩, rfl, trivial⟩, rfl, rfl⟩
set_option maxRecDepth 20000 in
theorem fn_vtake (s : Sl) (hs : s.Ok) : FnR Try.prog tds 91 1 [svB s] [.c (svC 0 s)] (fun _ => True)
    (fun x hs => ∃ n k e, takeM s.l = (n, k, e) ∧ x = .tup [.c (.w64 n), .c (.int .i64 (k : Nat)), .c (.int .i64 e)] ∧ hs = [svB s]) := by
  obtain ⟨z, N, o, c, l⟩ := s
  obtain ⟨hN, hc, hz, _⟩ := hs
  dsimp only at hN hc hz
  show FnR _ _ _ 1 [bts z N o l.length (L l)] [.c (.sn z 0 0 o l.length c)] _ (fun x hs => ∃ n k e, takeM l = (n, k, e) ∧ x = .tup [.c (.w64 n), .c (.int .i64 (k : Nat)), .c (.int .i64 e)] ∧ hs = [bts z N o l.length (L l)])
  refine fn_of_body tds_ok follows_ Try.func91 rfl (t := .a (.c (.sn z 0 0 o l.length c)) :: anys (Try.f91.ntmps - 1)) rfl (fun w r0 hr _ => ?_)
  obtain ⟨x0, rfl⟩ := List.length_eq_one_iff.1 hr
  by_cases h0 : l.length = 0
  · have e0 : decide ((l.length : Int) = 0) = true := decide_eq_true (by omega)
    (repeat first | refine And.intro (by omega) ?_ | refine And.intro (by decide) ?_ | refine And.intro rfl ?_ | refine And.intro (fun _ => ?_) (fun h => Bool.noConfusion h) | refine And.intro (fun h => Bool.noConfusion h) (fun _ => ?_) | refine And.intro (fun _ => ?_) (fun h => absurd h (by rw [e0]; decide)) | refine And.intro (fun h => absurd h (by rw [e0]; decide)) (fun _ => ?_))
    refine ⟨_, _, ⟨[0], ⟨rfl, rfl, rfl⟩, ?_⟩, 0#64, 0, 3, by unfold takeM; rw [if_pos (.inl h0)], rfl, rfl⟩
    (repeat first | exact trivial | refine ent1 ?_)
    refine eqC_bts ?_
    (repeat first | exact trivial | refine ent1 ?_)
  have e0 : decide ((l.length : Int) = 0) = false := decide_eq_false (by omega)
  cases z with
  | true => exact absurd (by rw [hz rfl]; rfl) h0
  | false =>
  (repeat first | refine And.intro (by omega) ?_ | refine And.intro (by decide) ?_ | refine And.intro rfl ?_ | refine And.intro (fun _ => ?_) (fun h => Bool.noConfusion h) | refine And.intro (fun h => Bool.noConfusion h) (fun _ => ?_) | refine And.intro (fun _ => ?_) (fun h => absurd h (by rw [e0]; decide)) | refine And.intro (fun h => absurd h (by rw [e0]; decide)) (fun _ => ?_))
  have hp : 0 < l.length := by omega
  with_reducible refine frc_winA 0 rfl hp ?_
  obtain ⟨k, hk⟩ : ∃ k, sizeT (L l 0) = k := ⟨_, rfl⟩
  have hk1 := sizeT_le (L l 0)
  rw [hk] at hk1
  have ek : (1 : Int) * (2 : Int) ^ (L l 0 >>> 6).toNat = (k : Int) := by rw [← hk]; simp [sizeT]
  have h6 := shr6 (L l 0)
  have hb : (L l 0 >>> 6).toNat < 64 ∧ (-9223372036854775808 : Int) ≤ (1 : Int) * (2 : Int) ^ (L l 0 >>> 6).toNat ∧ (1 : Int) * (2 : Int) ^ (L l 0 >>> 6).toNat ≤ 9223372036854775807 := by rw [ek]; omega
  refine And.intro hb ?_
  rw [ek]
  by_cases h1 : l.length < k
  · have e1 : decide ((l.length : Int) < (k : Nat)) = true := decide_eq_true (by omega)
    (repeat first | refine And.intro (by omega) ?_ | refine And.intro (by decide) ?_ | refine And.intro rfl ?_ | refine And.intro (fun _ => ?_) (fun h => Bool.noConfusion h) | refine And.intro (fun h => Bool.noConfusion h) (fun _ => ?_) | refine And.intro (fun _ => ?_) (fun h => absurd h (by rw [e1]; decide)) | refine And.intro (fun h => absurd h (by rw [e1]; decide)) (fun _ => ?_))
    refine ⟨_, _, ⟨[0], ⟨rfl, rfl, rfl⟩, ?_⟩, 0#64, 0, 3, by unfold takeM; rw [hk, if_pos (.inr h1)], rfl, rfl⟩
    (repeat first | exact trivial | refine ent1 ?_)
  have e1 : decide ((l.length : Int) < (k : Nat)) = false := decide_eq_false (by omega)
  (repeat first | refine And.intro (by omega) ?_ | refine And.intro (by decide) ?_ | refine And.intro rfl ?_ | refine And.intro (fun _ => ?_) (fun h => Bool.noConfusion h) | refine And.intro (fun h => Bool.noConfusion h) (fun _ => ?_) | refine And.intro (fun _ => ?_) (fun h => absurd h (by rw [e1]; decide)) | refine And.intro (fun h => absurd h (by rw [e1]; decide)) (fun _ => ?_))
  with_reducible refine frc_winA 0 rfl hp ?_
  (repeat first | refine And.intro (by omega) ?_ | refine And.intro (by decide) ?_ | (with_reducible refine frc_parts (by first | omega | decide) ?_) | (with_reducible refine frc_bytesL (by first | omega | decide) ?_) | refine And.intro rfl ?_)
  obtain ⟨oo, hoo⟩ : ∃ oo, (if c = 1 then o else o + 1) = oo := ⟨_, rfl⟩
  refine frcN_of (m := 1) rfl ?_
  refine frcN_of (m := k) (by omega) ?_
  refine frcN_of (m := oo) hoo ?_
  refine frcN_of (m := k - 1) (by omega) ?_
  refine frcN_of (m := c - 1) (by omega) ?_
  refine .inl ⟨Nat, fun i => ⟨[.a (.c (.sn false 0 0 o l.length c)), .any, .a (.c (.w64 ((numT l i)))), .any, .any, .a (.c (.int .i64 ((k : Int)))), .any, .any, .any, .any, .any, .any, .any, .any, .any, .any, .any, .any, .any, .any, .any, .any, .any, .any, .any, .any, .any, .a (.c (.sn false 0 0 oo (k - 1) (c - 1))), .a (.c (.int .i64 (((k - 1 : Nat) : Int)))), .a (.c (.int .i64 (↑i))), .any, .any, .any, .any, .any, .any, .any, .any, .any, .any, .any], [bts false N o l.length (L l)]⟩, fun i => i ≤ k - 1, fun i => k - i, ⟨0, [0], ⟨⟨rfl, rfl, rfl⟩, ?_⟩, by omega⟩, fun i hi => ⟨fun h => ?_, fun h => ?_⟩⟩
  · (repeat first | exact trivial | refine ent1 ?_)
  · have hlt : (i : Int) < ((k - 1 : Nat) : Int) := of_decide_eq_true h
    have ho2 : oo = o + 1 := by rw [← hoo, if_neg (by omega)]
    (repeat first | refine And.intro (by omega) ?_ | refine And.intro (by decide) ?_ | (with_reducible refine frc_parts (by first | omega | decide) ?_) | (with_reducible refine frc_bytesL (by first | omega | decide) ?_) | refine And.intro rfl ?_)
    with_reducible refine frc_winA (i + 1) (by rw [ho2]; show ((i : Nat) : Int).toNat + (o + 1) = _; omega) (by omega) ?_
    refine ⟨⟨by omega, by omega⟩, i + 1, [0], ⟨⟨rfl, rfl, rfl⟩, ?_⟩, by omega, by dsimp only; omega⟩
    (repeat first | exact trivial | refine ent1 ?_)
  · have hi2 : i ≤ k - 1 := hi
    obtain rfl : i = k - 1 := by have : ¬ (i : Int) < ((k - 1 : Nat) : Int) := of_decide_eq_false h; omega
    (repeat first | refine And.intro (by omega) ?_ | refine And.intro (by decide) ?_ | (with_reducible refine frc_parts (by first | omega | decide) ?_) | (with_reducible refine frc_bytesL (by first | omega | decide) ?_) | refine And.intro rfl ?_)
    refine ⟨_, _, ⟨[0], ⟨rfl, rfl, rfl⟩, ?_⟩, numT l (k - 1), k, 0, by unfold takeM; rw [hk, if_neg (by omega)], rfl, rfl⟩
    (repeat first | exact trivial | refine ent1 ?_)
end Sx
end Go.Proofs.Ytkjdkeolkigibaa
end

section
/-
  Calls of functions that may hand back fewer blocks than is said: what is not there is dead. Over any program. No condition of its own.
-/
namespace Go.Proofs.Ytkjdkeolkigibaa
set_option linter.unusedVariables false
namespace Sx
open Go.RowKit

/-- hs' is hs with dead blocks behind it. -/
def PadTo (hs hs' : List (List Seg)) : Prop := ∃ p, hs' = hs ++ List.replicate p []
theorem PadTo.refl (hs : List (List Seg)) : PadTo hs hs := ⟨0, by simp⟩
section
variable {C : Cx}
end
end Sx
end Go.Proofs.Ytkjdkeolkigibaa
end

section
/-
  The library's slices.Clone, bytes.Equal, bytes.Clone. No condition.
-/
namespace Go.Proofs.Ytkjdkeolkigibaa
set_option linter.unusedVariables false
namespace Sx
open Sha Vi

theorem Sl.Ok.pos {s : Sl} (h : s.Ok) (h0 : 0 < s.l.length) : s.z = false := by
  cases e : s.z with
  | false => rfl
  | true => rw [h.nil e] at h0; simp at h0
theorem nil_ok : Sl.Ok ⟨true, 0, 0, 0, []⟩ := ⟨Nat.le_refl _, Nat.le_refl _, fun _ => rfl, Nat.zero_le _⟩
theorem own_ok {l : Bs} {c : Nat} (h : l.length ≤ c) (hs : l.length ≤ 1000000) : Sl.Ok ⟨false, c, 0, c, l⟩ := ⟨by simpa using h, h, fun h => Bool.noConfusion h, hs⟩
theorem U8_dec (a b : Bs) : decide (U8 a = U8 b) = decide (a = b) := by
  by_cases h : a = b
  · rw [h]; simp
  · rw [decide_eq_false h, decide_eq_false fun e => h (U8_inj e)]
set_option maxRecDepth 20000 in
theorem fn_equal (s t : Sl) (hs : s.Ok) (ht : t.Ok) : FnR Try.prog tds 65 2 [svB s, svB t] [.c (svC 0 s), .c (svC 1 t)] (fun _ => True)
    (fun y hs => y = .a (.c (.bool (decide (s.l = t.l)))) ∧ hs = [svB s, svB t]) := by
  refine fn_of_body tds_ok follows_ Try.func65 rfl (t := .a (.c (svC 0 s)) :: .a (.c (svC 1 t)) :: anys (Try.f65.ntmps - 2)) rfl (fun w r0 hr _ => ?_)
  obtain ⟨x0, x1, rfl⟩ := len2' hr
  refine sn_bts rfl hs.fit (fun h => by rw [hs.nil h]; rfl) (fun g hg => ?_)
  refine ⟨U8 s.l, str_of rfl hg, ?_⟩
  refine sn_bts rfl ht.fit (fun h => by rw [ht.nil h]; rfl) (fun g2 hg2 => ?_)
  refine ⟨U8 t.l, str_of rfl hg2, ?_⟩
  refine ⟨.a (.c (.bool (decide (s.l = t.l)))), _, ⟨[0, 1], ⟨rfl, rfl, rfl⟩, ?_⟩, rfl, rfl⟩
  refine ⟨U8_dec _ _, ?_⟩
  refine eqC_bts (eqC_bts ?_)
  (repeat first | exact trivial | refine ent1 ?_)
end Sx
end Go.Proofs.Ytkjdkeolkigibaa
end

section
/-
  What an endpoint says: what it can't be. No condition.
-/
namespace Go.Proofs.Ytkjdkeolkigibaa
set_option linter.unusedVariables false
namespace Sx
open Sha Vi

/-- What is said: nine numbers, the source. -/
structure Pm where
  a0 : BitVec 64
  a1 : BitVec 64
  a2 : BitVec 64
  a3 : BitVec 64
  a4 : BitVec 64
  a5 : BitVec 64
  a6 : BitVec 64
  a7 : BitVec 64
  a8 : BitVec 64
  s : Sl
abbrev pmC (i : Nat) (p : Pm) : List Seg := [.one (.w64 p.a0), .one (.w64 p.a1), .one (.w64 p.a2), .one (.w64 p.a3), .one (.w64 p.a4), .one (.w64 p.a5), .one (.w64 p.a6), .one (.w64 p.a7), .one (.w64 p.a8), .one (svC i p.s)]
abbrev m2 (a b : BitVec 64) : BitVec 64 := if a < b then b else a
abbrev m4 (a b c d : BitVec 64) : BitVec 64 := m2 (m2 (m2 a b) c) d
/-- What it can't be. -/
def checkP (p : Pm) : Int :=
  if 65536#64 < m4 p.a1 p.a2 p.a3 p.a4 then 2 else if 1073741824#64 < p.a0 then 2 else if 16384#64 ≤ p.a7 then 2 else if 8#64 < p.a5 then 15 else if 8#64 < p.a6 then 15 else
  if p.a8 < 2#64 then 7 else if 4#64 < p.a8 then 7 else if 20 < p.s.l.length then 6 else 0
set_option maxRecDepth 20000 in
set_option maxHeartbeats 4000000 in
theorem fn_pmcheck (p : Pm) : FnR Try.prog tds 24 1 [svB p.s] [.agg (pmC 0 p)] (fun _ => True)
    (fun y hs => y = .a (.c (.int .i64 (checkP p))) ∧ hs = [svB p.s]) := by
  refine fn_of_body tds_ok follows_ Try.func24 rfl (t := .a (.agg (pmC 0 p)) :: anys (Try.f24.ntmps - 1)) rfl (fun w r0 hr _ => ?_)
  obtain ⟨x0, rfl⟩ := List.length_eq_one_iff.1 hr
  unfold checkP
  by_cases h1 : 65536#64 < m4 p.a1 p.a2 p.a3 p.a4
  · have e1 : decide (65536#64 < m4 p.a1 p.a2 p.a3 p.a4) = true := decide_eq_true h1
    rw [if_pos h1]
    (repeat first | (refine And.intro ?_ ?_; first | exact rfl | ((exact fun h => absurd h (by first | decide | (rw [e1]; decide))); intro yy; clear yy) | (rotate_left; (exact fun h => absurd h (by first | decide | (rw [e1]; decide))); intro yy; clear yy) | decide | omega) | (with_reducible refine frc_bytesL (by first | omega | decide) ?_) | (with_reducible refine frc_bytesM (by first | omega | decide) ?_))
    refine ⟨.a (.c (.int .i64 2)), _, ⟨[0], ⟨rfl, rfl, rfl⟩, ?_⟩, rfl, rfl⟩
    (repeat first | exact trivial | refine ent1 ?_)
    refine eqC_bts ?_
    (repeat first | exact trivial | refine ent1 ?_)
  rw [if_neg h1]
  have e1 : decide (65536#64 < m4 p.a1 p.a2 p.a3 p.a4) = false := decide_eq_false h1
  by_cases h2 : 1073741824#64 < p.a0
  · have e2 : decide (1073741824#64 < p.a0) = true := decide_eq_true h2
    rw [if_pos h2]
    (repeat first | (refine And.intro ?_ ?_; first | exact rfl | ((exact fun h => absurd h (by first | decide | (rw [e1]; decide) | (rw [e2]; decide))); intro yy; clear yy) | (rotate_left; (exact fun h => absurd h (by first | decide | (rw [e1]; decide) | (rw [e2]; decide))); intro yy; clear yy) | decide | omega) | (with_reducible refine frc_bytesL (by first | omega | decide) ?_) | (with_reducible refine frc_bytesM (by first | omega | decide) ?_))
    refine ⟨.a (.c (.int .i64 2)), _, ⟨[0], ⟨rfl, rfl, rfl⟩, ?_⟩, rfl, rfl⟩
    (repeat first | exact trivial | refine ent1 ?_)
    refine eqC_bts ?_
    (repeat first | exact trivial | refine ent1 ?_)
  rw [if_neg h2]
  have e2 : decide (1073741824#64 < p.a0) = false := decide_eq_false h2
  by_cases h3 : 16384#64 ≤ p.a7
  · have e3 : decide (16384#64 ≤ p.a7) = true := decide_eq_true h3
    rw [if_pos h3]
    (repeat first | (refine And.intro ?_ ?_; first | exact rfl | ((exact fun h => absurd h (by first | decide | (rw [e1]; decide) | (rw [e2]; decide) | (rw [e3]; decide))); intro yy; clear yy) | (rotate_left; (exact fun h => absurd h (by first | decide | (rw [e1]; decide) | (rw [e2]; decide) | (rw [e3]; decide))); intro yy; clear yy) | decide | omega) | (with_reducible refine frc_bytesL (by first | omega | decide) ?_) | (with_reducible refine frc_bytesM (by first | omega | decide) ?_))
    refine ⟨.a (.c (.int .i64 2)), _, ⟨[0], ⟨rfl, rfl, rfl⟩, ?_⟩, rfl, rfl⟩
    (repeat first | exact trivial | refine ent1 ?_)
    refine eqC_bts ?_
    (repeat first | exact trivial | refine ent1 ?_)
  rw [if_neg h3]
  have e3 : decide (16384#64 ≤ p.a7) = false := decide_eq_false h3
  by_cases h4 : 8#64 < p.a5
  · have e4 : decide (8#64 < p.a5) = true := decide_eq_true h4
    rw [if_pos h4]
    (repeat first | (refine And.intro ?_ ?_; first | exact rfl | ((exact fun h => absurd h (by first | decide | (rw [e1]; decide) | (rw [e2]; decide) | (rw [e3]; decide) | (rw [e4]; decide))); intro yy; clear yy) | (rotate_left; (exact fun h => absurd h (by first | decide | (rw [e1]; decide) | (rw [e2]; decide) | (rw [e3]; decide) | (rw [e4]; decide))); intro yy; clear yy) | decide | omega) | (with_reducible refine frc_bytesL (by first | omega | decide) ?_) | (with_reducible refine frc_bytesM (by first | omega | decide) ?_))
    refine ⟨.a (.c (.int .i64 15)), _, ⟨[0], ⟨rfl, rfl, rfl⟩, ?_⟩, rfl, rfl⟩
    (repeat first | exact trivial | refine ent1 ?_)
    refine eqC_bts ?_
    (repeat first | exact trivial | refine ent1 ?_)
  rw [if_neg h4]
  have e4 : decide (8#64 < p.a5) = false := decide_eq_false h4
  by_cases h5 : 8#64 < p.a6
  · have e5 : decide (8#64 < p.a6) = true := decide_eq_true h5
    rw [if_pos h5]
    (repeat first | (refine And.intro ?_ ?_; first | exact rfl | ((exact fun h => absurd h (by first | decide | (rw [e1]; decide) | (rw [e2]; decide) | (rw [e3]; decide) | (rw [e4]; decide) | (rw [e5]; decide))); intro yy; clear yy) | (rotate_left; (exact fun h => absurd h (by first | decide | (rw [e1]; decide) | (rw [e2]; decide) | (rw [e3]; decide) | (rw [e4]; decide) | (rw [e5]; decide))); intro yy; clear yy) | decide | omega) | (with_reducible refine frc_bytesL (by first | omega | decide) ?_) | (with_reducible refine frc_bytesM (by first | omega | decide) ?_))
    refine ⟨.a (.c (.int .i64 15)), _, ⟨[0], ⟨rfl, rfl, rfl⟩, ?_⟩, rfl, rfl⟩
    (repeat first | exact trivial | refine ent1 ?_)
    refine eqC_bts ?_
    (repeat first | exact trivial | refine ent1 ?_)
  rw [if_neg h5]
  have e5 : decide (8#64 < p.a6) = false := decide_eq_false h5
  by_cases h6 : p.a8 < 2#64
  · have e6 : decide (p.a8 < 2#64) = true := decide_eq_true h6
    rw [if_pos h6]
    (repeat first | (refine And.intro ?_ ?_; first | exact rfl | ((exact fun h => absurd h (by first | decide | (rw [e1]; decide) | (rw [e2]; decide) | (rw [e3]; decide) | (rw [e4]; decide) | (rw [e5]; decide) | (rw [e6]; decide))); intro yy; clear yy) | (rotate_left; (exact fun h => absurd h (by first | decide | (rw [e1]; decide) | (rw [e2]; decide) | (rw [e3]; decide) | (rw [e4]; decide) | (rw [e5]; decide) | (rw [e6]; decide))); intro yy; clear yy) | decide | omega) | (with_reducible refine frc_bytesL (by first | omega | decide) ?_) | (with_reducible refine frc_bytesM (by first | omega | decide) ?_))
    refine ⟨.a (.c (.int .i64 7)), _, ⟨[0], ⟨rfl, rfl, rfl⟩, ?_⟩, rfl, rfl⟩
    (repeat first | exact trivial | refine ent1 ?_)
    refine eqC_bts ?_
    (repeat first | exact trivial | refine ent1 ?_)
  rw [if_neg h6]
  have e6 : decide (p.a8 < 2#64) = false := decide_eq_false h6
  by_cases h7 : 4#64 < p.a8
  · have e7 : decide (4#64 < p.a8) = true := decide_eq_true h7
    rw [if_pos h7]
    (repeat first | (refine And.intro ?_ ?_; first | exact rfl | ((exact fun h => absurd h (by first | decide | (rw [e1]; decide) | (rw [e2]; decide) | (rw [e3]; decide) | (rw [e4]; decide) | (rw [e5]; decide) | (rw [e6]; decide) | (rw [e7]; decide))); intro yy; clear yy) | (rotate_left; (exact fun h => absurd h (by first | decide | (rw [e1]; decide) | (rw [e2]; decide) | (rw [e3]; decide) | (rw [e4]; decide) | (rw [e5]; decide) | (rw [e6]; decide) | (rw [e7]; decide))); intro yy; clear yy) | decide | omega) | (with_reducible refine frc_bytesL (by first | omega | decide) ?_) | (with_reducible refine frc_bytesM (by first | omega | decide) ?_))
    refine ⟨.a (.c (.int .i64 7)), _, ⟨[0], ⟨rfl, rfl, rfl⟩, ?_⟩, rfl, rfl⟩
    (repeat first | exact trivial | refine ent1 ?_)
    refine eqC_bts ?_
    (repeat first | exact trivial | refine ent1 ?_)
  rw [if_neg h7]
  have e7 : decide (4#64 < p.a8) = false := decide_eq_false h7
  by_cases h8 : 20 < p.s.l.length
  · have e8 : decide ((20 : Int) < (p.s.l.length : Int)) = true := decide_eq_true (by omega)
    rw [if_pos h8]
    (repeat first | (refine And.intro ?_ ?_; first | exact rfl | ((exact fun h => absurd h (by first | decide | (rw [e1]; decide) | (rw [e2]; decide) | (rw [e3]; decide) | (rw [e4]; decide) | (rw [e5]; decide) | (rw [e6]; decide) | (rw [e7]; decide) | (rw [e8]; decide))); intro yy; clear yy) | (rotate_left; (exact fun h => absurd h (by first | decide | (rw [e1]; decide) | (rw [e2]; decide) | (rw [e3]; decide) | (rw [e4]; decide) | (rw [e5]; decide) | (rw [e6]; decide) | (rw [e7]; decide) | (rw [e8]; decide))); intro yy; clear yy) | decide | omega) | (with_reducible refine frc_bytesL (by first | omega | decide) ?_) | (with_reducible refine frc_bytesM (by first | omega | decide) ?_))
    refine ⟨.a (.c (.int .i64 6)), _, ⟨[0], ⟨rfl, rfl, rfl⟩, ?_⟩, rfl, rfl⟩
    (repeat first | exact trivial | refine ent1 ?_)
    refine eqC_bts ?_
    (repeat first | exact trivial | refine ent1 ?_)
  rw [if_neg h8]
  have e8 : decide ((20 : Int) < (p.s.l.length : Int)) = false := decide_eq_false (by omega)
  (repeat first | (refine And.intro ?_ ?_; first | exact rfl | ((exact fun h => absurd h (by first | decide | (rw [e1]; decide) | (rw [e2]; decide) | (rw [e3]; decide) | (rw [e4]; decide) | (rw [e5]; decide) | (rw [e6]; decide) | (rw [e7]; decide) | (rw [e8]; decide))); intro yy; clear yy) | (rotate_left; (exact fun h => absurd h (by first | decide | (rw [e1]; decide) | (rw [e2]; decide) | (rw [e3]; decide) | (rw [e4]; decide) | (rw [e5]; decide) | (rw [e6]; decide) | (rw [e7]; decide) | (rw [e8]; decide))); intro yy; clear yy) | decide | omega) | (with_reducible refine frc_bytesL (by first | omega | decide) ?_) | (with_reducible refine frc_bytesM (by first | omega | decide) ?_))
  refine ⟨.a (.c (.int .i64 0)), _, ⟨[0], ⟨rfl, rfl, rfl⟩, ?_⟩, rfl, rfl⟩
  (repeat first | exact trivial | refine ent1 ?_)
  refine eqC_bts ?_
  (repeat first | exact trivial | refine ent1 ?_)
end Sx
end Go.Proofs.Ytkjdkeolkigibaa
end

section
/-
  The program's reader of numbers and bytes. No condition.
-/
namespace Go.Proofs.Ytkjdkeolkigibaa
set_option linter.unusedVariables false
namespace Vi
open Sha
def failM (l : Bs) (e x : Int) : Bs × Int := if x = 0 ∨ e ≠ 0 then (l, e) else ([], x)
/-- The next number; what is left. -/
def nextM (l : Bs) (e : Int) : (BitVec 64 × Nat × Bool) × Bs × Int :=
  if e ≠ 0 then ((0#64, 0, false), l, e) else
  if (takeM l).2.2 ≠ 0 then ((0#64, 0, false), [], (takeM l).2.2) else (((takeM l).1, (takeM l).2.1, true), l.drop (takeM l).2.1, 0)
def bytesM (l : Bs) (e many : Int) : Bs × Bs × Int :=
  if e ≠ 0 then ([], l, e) else if many < 0 ∨ (l.length : Int) < many then ([], [], 3) else (l.take many.toNat, l.drop many.toNat, 0)
theorem takeM_le {l : Bs} {n : BitVec 64} {k : Nat} {e : Int} (h : takeM l = (n, k, e)) : k ≤ l.length ∧ (e = 0 → 1 ≤ k) := by
  have := sizeT_le (L l 0)
  unfold takeM at h
  split at h
  · simp only [Prod.mk.injEq] at h
    obtain ⟨_, rfl, rfl⟩ := h
    exact ⟨Nat.zero_le _, fun h => by omega⟩
  · simp only [Prod.mk.injEq] at h
    obtain ⟨_, rfl, rfl⟩ := h
    exact ⟨by omega, fun _ => by omega⟩
end Vi
namespace Sx
open Sha Vi

/-- A reader: what is left of its bytes, how it ended. -/
structure RS where
  z : Bool
  o : Nat
  n : Nat
  c : Nat
  e : Int
abbrev rdCi (i : Nat) (s : RS) : List Seg := [.one (.sn s.z i 0 s.o s.n s.c), .one (.int .i64 s.e)]
abbrev rdC (s : RS) : List Seg := rdCi 0 s
/-- A reader of the bytes A of which l are left, ended by e. -/
structure RdI (A : Sl) (s : RS) (l : Bs) (e : Int) : Prop where
  ok : A.Ok
  o0 : A.o = 0
  len : s.n = l.length
  at_ : ∀ i, i < l.length → s.o + i < A.l.length ∧ L A.l (s.o + i) = L l i
  fit : s.o + l.length ≤ A.l.length
  cap : s.n ≤ s.c
  nil : s.z = true → l = []
  z0 : s.z = false → A.z = false
  err : s.e = e
  ended : e ≠ 0 → l = []
theorem RdI.drop {A : Sl} {s : RS} {l : Bs} {e : Int} (h : RdI A s l e) {k : Nat} (hk : k ≤ l.length) : RdI A ⟨s.z, if s.c = k then s.o else s.o + k, s.n - k, s.c - k, s.e⟩ (l.drop k) e := by
  have hl := h.len
  have hc := h.cap
  have hf := h.fit
  refine ⟨h.ok, h.o0, ?_, fun i hi => ?_, ?_, ?_, fun hz => ?_, h.z0, h.err, fun he => ?_⟩
  · simp [hl]
  · simp at hi
    have h1 := h.at_ (k + i) (by omega)
    have e1 : (if s.c = k then s.o else s.o + k) = s.o + k := if_neg (by omega)
    show (if s.c = k then s.o else s.o + k) + i < _ ∧ L A.l ((if s.c = k then s.o else s.o + k) + i) = _
    rw [e1, L_drop, Nat.add_assoc]
    exact h1
  · show (if s.c = k then s.o else s.o + k) + _ ≤ _
    simp
    split <;> omega
  · show s.n - k ≤ s.c - k
    omega
  · rw [h.nil hz, List.drop_nil]
  · rw [h.ended he, List.drop_nil]
theorem RdI.gone {A : Sl} {s : RS} {l : Bs} {e : Int} (h : RdI A s l e) (x : Int) : RdI A ⟨true, 0, 0, 0, x⟩ [] x :=
  ⟨h.ok, h.o0, rfl, fun i hi => by simp at hi, by simp, Nat.le_refl _, fun _ => rfl, fun h => Bool.noConfusion h, rfl, fun _ => rfl⟩
/-- The bytes that are left, as a slice of their own. -/
theorem RdI.sl {A : Sl} {s : RS} {l : Bs} {e : Int} (h : RdI A s l e) : Sl.Ok ⟨s.z, A.N, s.o, s.c, l⟩ :=
  ⟨by have h1 := h.ok.fit; have h2 := h.fit; have h3 := h.o0; show s.o + l.length ≤ A.N; omega, by have h1 := h.len; have h2 := h.cap; show l.length ≤ s.c; omega, h.nil, by have h1 := h.ok.small; have h2 := h.fit; show l.length ≤ _; omega⟩
theorem RdI.ent {A : Sl} {s : RS} {l : Bs} {e : Int} (h : RdI A s l e) {q : List Nat} {k : Prop} (hk : k) : eqSegs q (svB A) (svB ⟨s.z, A.N, s.o, s.c, l⟩) k := by
  have h0 := h.o0
  show eqSegs q (bts A.z A.N A.o A.l.length (L A.l)) _ k
  rw [h0]
  exact eqSegs_sub (fun hz => ⟨h.z0 hz, h.at_⟩) hk
theorem RdI.sn {A : Sl} {s : RS} {l : Bs} {e : Int} (h : RdI A s l e) {hp : List (List Seg)} {j m : Nat} {k : (Nat → SC) → Prop} (hj : getH hp j = svB A) (hm : m ≤ l.length)
    (hk : ∀ g : Nat → SC, (∀ i, i < m → g i = .w8 (L l i)) → k g) : ∃ f : Nat → SC, ((s.z = true → m = 0) ∧ (s.z = false → SnAt hp j 0 s.o m 1 f)) ∧ k f := by
  refine ⟨fun i => .w8 (L l i), ⟨fun hz => ?_, fun hz => ?_⟩, hk _ fun _ _ => rfl⟩
  · have := h.nil hz; subst this; simpa using hm
  · have hz' := h.z0 hz
    have hf := h.fit
    have hN := h.ok.fit
    have ho := h.o0
    refine ⟨A.N, winF A.o A.l.length (L A.l), [], by rw [hj]; unfold svB; rw [hz']; rfl, by show s.o + m ≤ A.N; omega, fun q hq => ?_⟩
    have hq : q < m := hq
    have h1 := h.at_ q (by omega)
    show SC.w8 (L l q) = _
    rw [ho, ← h1.2, Nat.add_comm q s.o]
    have := winF_at 0 A.l.length (L A.l) h1.1
    rw [Nat.zero_add] at this
    exact this.symm
set_option maxRecDepth 20000 in
theorem fn_rfail (A : Sl) (s : RS) (x : Int) {l : Bs} {e : Int} (hr : RdI A s l e) : FnR Try.prog tds 82 1 [svB A, rdC s] [.c (.p 1 0 0), .c (.int .i64 x)] (fun _ => True)
    (fun y hs => ∃ s' l' e', failM l e x = (l', e') ∧ RdI A s' l' e' ∧ y = .tup [] ∧ hs = [svB A, rdC s']) := by
  refine fn_of_body tds_ok follows_ Try.func82 rfl (t := .a (.c (.p 1 0 0)) :: .a (.c (.int .i64 x)) :: anys (Try.f82.ntmps - 2)) rfl (fun w r0 hr0 _ => ?_)
  obtain ⟨x0, x1, rfl⟩ := len2' hr0
  have he := hr.err
  by_cases h1 : x = 0
  · have e1 : decide (x = 0) = true := decide_eq_true h1
    (repeat first | refine And.intro (by omega) ?_ | refine And.intro (by decide) ?_ | refine And.intro rfl ?_ | refine And.intro (fun _ => ?_) (fun h => Bool.noConfusion h) | refine And.intro (fun h => Bool.noConfusion h) (fun _ => ?_) | refine And.intro (fun _ => ?_) (fun h => absurd h (by rw [e1]; decide)) | refine And.intro (fun h => absurd h (by rw [e1]; decide)) (fun _ => ?_))
    refine ⟨.tup [], _, ⟨[0, 1], ⟨rfl, rfl, rfl⟩, ?_⟩, s, l, e, by unfold failM; rw [if_pos (.inl h1)], hr, rfl, rfl⟩
    refine eqC_bts ?_
    (repeat first | exact trivial | refine ent1 ?_)
  have e1 : decide (x = 0) = false := decide_eq_false h1
  by_cases h2 : s.e = 0
  · have e2 : decide (s.e ≠ 0) = false := decide_eq_false (by omega)
    (repeat first | refine And.intro (by omega) ?_ | refine And.intro (by decide) ?_ | refine And.intro rfl ?_ | refine And.intro (fun _ => ?_) (fun h => Bool.noConfusion h) | refine And.intro (fun h => Bool.noConfusion h) (fun _ => ?_) | refine And.intro (fun _ => ?_) (fun h => absurd h (by rw [e1]; decide)) | refine And.intro (fun h => absurd h (by rw [e1]; decide)) (fun _ => ?_) | refine And.intro (fun _ => ?_) (fun h => absurd h (by rw [e2]; decide)) | refine And.intro (fun h => absurd h (by rw [e2]; decide)) (fun _ => ?_))
    refine ⟨.tup [], _, ⟨[0, 1], ⟨rfl, rfl, rfl⟩, ?_⟩, _, [], x, by unfold failM; rw [if_neg (by omega)], hr.gone x, rfl, rfl⟩
    refine eqC_bts ?_
    (repeat first | exact trivial | refine ent1 ?_)
  · have e2 : decide (s.e ≠ 0) = true := decide_eq_true h2
    (repeat first | refine And.intro (by omega) ?_ | refine And.intro (by decide) ?_ | refine And.intro rfl ?_ | refine And.intro (fun _ => ?_) (fun h => Bool.noConfusion h) | refine And.intro (fun h => Bool.noConfusion h) (fun _ => ?_) | refine And.intro (fun _ => ?_) (fun h => absurd h (by rw [e1]; decide)) | refine And.intro (fun h => absurd h (by rw [e1]; decide)) (fun _ => ?_) | refine And.intro (fun _ => ?_) (fun h => absurd h (by rw [e2]; decide)) | refine And.intro (fun h => absurd h (by rw [e2]; decide)) (fun _ => ?_))
    refine ⟨.tup [], _, ⟨[0, 1], ⟨rfl, rfl, rfl⟩, ?_⟩, s, l, e, by unfold failM; rw [if_pos (.inr (by omega))], hr, rfl, rfl⟩
    refine eqC_bts ?_
    (repeat first | exact trivial | refine ent1 ?_)
theorem fn_rerr (A : Sl) (s : RS) {l : Bs} {e : Int} (hr : RdI A s l e) : FnR Try.prog tds 62 1 [svB A, rdC s] [.c (.p 1 0 0)] (fun _ => True)
    (fun y hs => y = .a (.c (.int .i64 e)) ∧ hs = [svB A, rdC s]) := by
  refine fn_of_body tds_ok follows_ Try.func62 rfl (t := .a (.c (.p 1 0 0)) :: anys (Try.f62.ntmps - 1)) rfl (fun w r0 hr0 _ => ?_)
  obtain ⟨x0, x1, rfl⟩ := len2' hr0
  (repeat first | refine And.intro (by omega) ?_ | refine And.intro (by decide) ?_ | refine And.intro rfl ?_ | refine And.intro (fun _ => ?_) (fun h => Bool.noConfusion h) | refine And.intro (fun h => Bool.noConfusion h) (fun _ => ?_))
  refine ⟨.a (.c (.int .i64 e)), _, ⟨[0, 1], ⟨rfl, rfl, rfl⟩, ?_⟩, rfl, rfl⟩
  refine ⟨hr.err, ?_⟩
  refine eqC_bts ?_
  (repeat first | exact trivial | refine ent1 ?_)
theorem fn_rleft (A : Sl) (s : RS) {l : Bs} {e : Int} (hr : RdI A s l e) : FnR Try.prog tds 59 1 [svB A, rdC s] [.c (.p 1 0 0)] (fun _ => True)
    (fun y hs => y = .a (.c (.int .i64 (l.length : Nat))) ∧ hs = [svB A, rdC s]) := by
  refine fn_of_body tds_ok follows_ Try.func59 rfl (t := .a (.c (.p 1 0 0)) :: anys (Try.f59.ntmps - 1)) rfl (fun w r0 hr0 _ => ?_)
  obtain ⟨x0, x1, rfl⟩ := len2' hr0
  (repeat first | refine And.intro (by omega) ?_ | refine And.intro (by decide) ?_ | refine And.intro rfl ?_ | refine And.intro (fun _ => ?_) (fun h => Bool.noConfusion h) | refine And.intro (fun h => Bool.noConfusion h) (fun _ => ?_))
  refine ⟨.a (.c (.int .i64 (l.length : Nat))), _, ⟨[0, 1], ⟨rfl, rfl, rfl⟩, ?_⟩, rfl, rfl⟩
  refine ⟨congrArg (fun n : Nat => (n : Int)) hr.len, ?_⟩
  refine eqC_bts ?_
  (repeat first | exact trivial | refine ent1 ?_)
set_option maxRecDepth 20000 in
theorem fn_rnext (A : Sl) (s : RS) {l : Bs} {e : Int} (hr : RdI A s l e) : FnR Try.prog tds 80 1 [svB A, rdC s] [.c (.p 1 0 0)] (fun _ => True)
    (fun y hs => ∃ n k b s' l' e', nextM l e = ((n, k, b), l', e') ∧ RdI A s' l' e' ∧ y = .tup [.c (.w64 n), .c (.int .i64 (k : Nat)), .c (.bool b)] ∧ hs = [svB A, rdC s']) := by
  refine fn_of_body tds_ok follows_ Try.func80 rfl (t := .a (.c (.p 1 0 0)) :: anys (Try.f80.ntmps - 1)) rfl (fun w r0 hr0 _ => ?_)
  obtain ⟨x0, x1, rfl⟩ := len2' hr0
  have he := hr.err
  by_cases h2 : s.e = 0
  · have e2 : decide (s.e ≠ 0) = false := decide_eq_false (by omega)
    (repeat first | refine And.intro (by omega) ?_ | refine And.intro (by decide) ?_ | refine And.intro rfl ?_ | refine And.intro (fun _ => ?_) (fun h => Bool.noConfusion h) | refine And.intro (fun h => Bool.noConfusion h) (fun _ => ?_) | refine And.intro (fun _ => ?_) (fun h => absurd h (by rw [e2]; decide)) | refine And.intro (fun h => absurd h (by rw [e2]; decide)) (fun _ => ?_))
    have hlen := hr.len
    have hcap := hr.cap
    refine call_same (fn_vtake _ hr.sl) [0] rfl ⟨rfl, rfl, hlen, rfl, trivial⟩ (hr.ent trivial) (fun _ _ => trivial) ?_
    rintro x hs ⟨n, k, f, ht, rfl, rfl⟩
    have ht : takeM l = (n, k, f) := ht
    have hk := takeM_le ht
    by_cases h3 : f = 0
    · have e3 : decide (f ≠ 0) = false := decide_eq_false (by omega)
      (repeat first | refine And.intro (by omega) ?_ | refine And.intro (by decide) ?_ | refine And.intro rfl ?_ | refine And.intro (fun _ => ?_) (fun h => Bool.noConfusion h) | refine And.intro (fun h => Bool.noConfusion h) (fun _ => ?_) | refine And.intro (fun _ => ?_) (fun h => absurd h (by rw [e3]; decide)) | refine And.intro (fun h => absurd h (by rw [e3]; decide)) (fun _ => ?_))
      refine ⟨.tup [.c (.w64 n), .c (.int .i64 (k : Nat)), .c (.bool true)], _, ⟨[0, 1], ⟨rfl, rfl, rfl⟩, ?_⟩, n, k, true, _, l.drop k, e, ?_, hr.drop hk.1, rfl, rfl⟩
      · (repeat first | exact trivial | refine ent1 ?_)
        refine eqC_bts ?_
        refine ⟨rfl, ?_, ?_⟩
        rotate_left
        · (repeat first | exact trivial | refine ent1 ?_)
        show (if s.c = k then s.o else s.o + k * 1) = (if s.c = k then s.o else s.o + k)
        rw [Nat.mul_one]
      · unfold nextM
        rw [if_neg (by omega), ht, if_neg (by simpa using h3)]
        simp; omega
    have e3 : decide (f ≠ 0) = true := decide_eq_true h3
    (repeat first | refine And.intro (by omega) ?_ | refine And.intro (by decide) ?_ | refine And.intro rfl ?_ | refine And.intro (fun _ => ?_) (fun h => Bool.noConfusion h) | refine And.intro (fun h => Bool.noConfusion h) (fun _ => ?_) | refine And.intro (fun _ => ?_) (fun h => absurd h (by rw [e3]; decide)) | refine And.intro (fun h => absurd h (by rw [e3]; decide)) (fun _ => ?_))
    refine call_same (fn_rfail A s f hr) [0, 1] rfl (by (repeat first | exact trivial | refine ent1 ?_)) ?_ (fun _ _ => trivial) ?_
    · refine eqC_bts ?_
      (repeat first | exact trivial | refine ent1 ?_)
    rintro x hs ⟨s', l', e', hf, hr', rfl, rfl⟩
    refine ⟨.tup [.c (.w64 0#64), .c (.int .i64 0), .c (.bool false)], _, ⟨[0, 1], ⟨rfl, rfl, rfl⟩, ?_⟩, 0#64, 0, false, s', l', e', ?_, hr', rfl, rfl⟩
    · (repeat first | exact trivial | refine ent1 ?_)
      refine eqC_bts ?_
      (repeat first | exact trivial | refine ent1 ?_)
    · unfold failM at hf
      rw [if_neg (by omega)] at hf
      unfold nextM
      rw [if_neg (by omega), ht, if_pos h3]
      simp only [Prod.mk.injEq] at hf
      obtain ⟨rfl, rfl⟩ := hf
      rfl
  · have e2 : decide (s.e ≠ 0) = true := decide_eq_true h2
    (repeat first | refine And.intro (by omega) ?_ | refine And.intro (by decide) ?_ | refine And.intro rfl ?_ | refine And.intro (fun _ => ?_) (fun h => Bool.noConfusion h) | refine And.intro (fun h => Bool.noConfusion h) (fun _ => ?_) | refine And.intro (fun _ => ?_) (fun h => absurd h (by rw [e2]; decide)) | refine And.intro (fun h => absurd h (by rw [e2]; decide)) (fun _ => ?_))
    refine ⟨.tup [.c (.w64 0#64), .c (.int .i64 0), .c (.bool false)], _, ⟨[0, 1], ⟨rfl, rfl, rfl⟩, ?_⟩, 0#64, 0, false, s, l, e, by unfold nextM; rw [if_pos (by omega)], hr, rfl, rfl⟩
    (repeat first | exact trivial | refine ent1 ?_)
    refine eqC_bts ?_
    (repeat first | exact trivial | refine ent1 ?_)
set_option maxRecDepth 20000 in
theorem fn_rint (A : Sl) (s : RS) {l : Bs} {e : Int} (hr : RdI A s l e) : FnR Try.prog tds 60 1 [svB A, rdC s] [.c (.p 1 0 0)] (fun _ => True)
    (fun y hs => ∃ n k b s' l' e', nextM l e = ((n, k, b), l', e') ∧ RdI A s' l' e' ∧ y = .a (.c (.w64 n)) ∧ hs = [svB A, rdC s']) := by
  refine fn_of_body tds_ok follows_ Try.func60 rfl (t := .a (.c (.p 1 0 0)) :: anys (Try.f60.ntmps - 1)) rfl (fun w r0 hr0 _ => ?_)
  obtain ⟨x0, x1, rfl⟩ := len2' hr0
  (repeat first | refine And.intro (by omega) ?_ | refine And.intro (by decide) ?_ | (with_reducible refine frc_parts (by first | omega | decide) ?_) | (with_reducible refine frc_bytesL (by first | omega | decide) ?_) | refine And.intro rfl ?_)
  refine call_same (fn_rnext A s hr) [0, 1] rfl (by (repeat first | exact trivial | refine ent1 ?_)) ?_ (fun _ _ => trivial) ?_
  · refine eqC_bts ?_
    (repeat first | exact trivial | refine ent1 ?_)
  rintro x hs ⟨n, k, b, s', l', e', hm, hr', rfl, rfl⟩
  refine ⟨.a (.c (.w64 n)), _, ⟨[0, 1], ⟨rfl, rfl, rfl⟩, ?_⟩, n, k, b, s', l', e', hm, hr', rfl, rfl⟩
  (repeat first | exact trivial | refine ent1 ?_)
  refine eqC_bts ?_
  (repeat first | exact trivial | refine ent1 ?_)
set_option maxRecDepth 20000 in
theorem fn_rbytes (A : Sl) (s : RS) (many : Int) {l : Bs} {e : Int} (hr : RdI A s l e) : FnR Try.prog tds 71 1 [svB A, rdC s] [.c (.p 1 0 0), .c (.int .i64 many)] (fun _ => True)
    (fun y hs => ∃ t s' l' e', bytesM l e many = (t.l, l', e') ∧ RdI A s' l' e' ∧ t.Ok ∧ y = .a (.c (svC 2 t)) ∧ hs = [svB A, rdC s', svB t]) := by
  refine fn_of_body tds_ok follows_ Try.func71 rfl (t := .a (.c (.p 1 0 0)) :: .a (.c (.int .i64 many)) :: anys (Try.f71.ntmps - 2)) rfl (fun w r0 hr0 _ => ?_)
  obtain ⟨x0, x1, rfl⟩ := len2' hr0
  have he := hr.err
  by_cases h2 : s.e = 0
  · have e2 : decide (s.e ≠ 0) = false := decide_eq_false (by omega)
    have hlen := hr.len
    have hcap := hr.cap
    by_cases h3 : many < 0
    · have e3 : decide (many < 0) = true := decide_eq_true h3
      (repeat first | refine And.intro (by omega) ?_ | refine And.intro (by decide) ?_ | refine And.intro rfl ?_ | refine And.intro (fun _ => ?_) (fun h => Bool.noConfusion h) | refine And.intro (fun h => Bool.noConfusion h) (fun _ => ?_) | refine And.intro (fun _ => ?_) (fun h => absurd h (by rw [e2]; decide)) | refine And.intro (fun h => absurd h (by rw [e2]; decide)) (fun _ => ?_) | refine And.intro (fun _ => ?_) (fun h => absurd h (by rw [e3]; decide)) | refine And.intro (fun h => absurd h (by rw [e3]; decide)) (fun _ => ?_))
      refine call_same (fn_rfail A s 3 hr) [0, 1] rfl (by (repeat first | exact trivial | refine ent1 ?_)) ?_ (fun _ _ => trivial) ?_
      · refine eqC_bts ?_
        (repeat first | exact trivial | refine ent1 ?_)
      rintro x hs ⟨s', l', e', hf, hr', rfl, rfl⟩
      refine ⟨.a (.c (svC 2 ⟨true, 0, 0, 0, []⟩)), _, ⟨[0, 1, 1], ⟨rfl, rfl, rfl⟩, ?_⟩, ⟨true, 0, 0, 0, []⟩, s', l', e', ?_, hr', ⟨Nat.le_refl _, Nat.le_refl _, fun _ => rfl, Nat.zero_le _⟩, rfl, rfl⟩
      · (repeat first | exact trivial | refine ent1 ?_)
        refine eqC_bts ?_
        (repeat first | exact trivial | refine ent1 ?_)
      · unfold failM at hf
        rw [if_neg (by omega)] at hf
        simp only [Prod.mk.injEq] at hf
        obtain ⟨rfl, rfl⟩ := hf
        unfold bytesM
        rw [if_neg (by omega), if_pos (by omega)]
    have e3 : decide (many < 0) = false := decide_eq_false h3
    by_cases h4 : (s.n : Int) < many
    · have e4 : decide ((s.n : Int) < many) = true := decide_eq_true h4
      (repeat first | refine And.intro (by omega) ?_ | refine And.intro (by decide) ?_ | refine And.intro rfl ?_ | refine And.intro (fun _ => ?_) (fun h => Bool.noConfusion h) | refine And.intro (fun h => Bool.noConfusion h) (fun _ => ?_) | refine And.intro (fun _ => ?_) (fun h => absurd h (by rw [e2]; decide)) | refine And.intro (fun h => absurd h (by rw [e2]; decide)) (fun _ => ?_) | refine And.intro (fun _ => ?_) (fun h => absurd h (by rw [e3]; decide)) | refine And.intro (fun h => absurd h (by rw [e3]; decide)) (fun _ => ?_) | refine And.intro (fun _ => ?_) (fun h => absurd h (by rw [e4]; decide)) | refine And.intro (fun h => absurd h (by rw [e4]; decide)) (fun _ => ?_))
      refine call_same (fn_rfail A s 3 hr) [0, 1] rfl (by (repeat first | exact trivial | refine ent1 ?_)) ?_ (fun _ _ => trivial) ?_
      · refine eqC_bts ?_
        (repeat first | exact trivial | refine ent1 ?_)
      rintro x hs ⟨s', l', e', hf, hr', rfl, rfl⟩
      refine ⟨.a (.c (svC 2 ⟨true, 0, 0, 0, []⟩)), _, ⟨[0, 1, 1], ⟨rfl, rfl, rfl⟩, ?_⟩, ⟨true, 0, 0, 0, []⟩, s', l', e', ?_, hr', ⟨Nat.le_refl _, Nat.le_refl _, fun _ => rfl, Nat.zero_le _⟩, rfl, rfl⟩
      · (repeat first | exact trivial | refine ent1 ?_)
        refine eqC_bts ?_
        (repeat first | exact trivial | refine ent1 ?_)
      · unfold failM at hf
        rw [if_neg (by omega)] at hf
        simp only [Prod.mk.injEq] at hf
        obtain ⟨rfl, rfl⟩ := hf
        unfold bytesM
        rw [if_neg (by omega), if_pos (by omega)]
    have e4 : decide ((s.n : Int) < many) = false := decide_eq_false h4
    obtain ⟨m, rfl⟩ : ∃ m : Nat, many = m := ⟨many.toNat, by omega⟩
    (repeat first | refine And.intro (by omega) ?_ | refine And.intro (by decide) ?_ | refine And.intro rfl ?_ | refine And.intro (fun _ => ?_) (fun h => Bool.noConfusion h) | refine And.intro (fun h => Bool.noConfusion h) (fun _ => ?_) | refine And.intro (fun _ => ?_) (fun h => absurd h (by rw [e2]; decide)) | refine And.intro (fun h => absurd h (by rw [e2]; decide)) (fun _ => ?_) | refine And.intro (fun _ => ?_) (fun h => absurd h (by rw [e3]; decide)) | refine And.intro (fun h => absurd h (by rw [e3]; decide)) (fun _ => ?_) | refine And.intro (fun _ => ?_) (fun h => absurd h (by rw [e4]; decide)) | refine And.intro (fun h => absurd h (by rw [e4]; decide)) (fun _ => ?_))
    refine frcN_of (m := 0) rfl ?_
    refine frcN_of (m := m) rfl ?_
    refine frcN_of (m := s.o) (by split <;> simp) ?_
    refine frcN_of (m := m) rfl ?_
    refine frcN_of (m := s.c) rfl ?_
    refine hr.sn rfl (by omega) (fun g hg => ?_)
    have hsm := hr.ok.small
    have hft := hr.fit
    refine ⟨⟨rfl, rfl⟩, by show m * 1 ≤ 140737488355328; omega, fun hm0 => ?_, fun hm0 c' hc' => ?_⟩
    · subst hm0
      (repeat first | refine And.intro (by omega) ?_ | refine And.intro (by decide) ?_ | refine And.intro rfl ?_ | refine And.intro (fun _ => ?_) (fun h => Bool.noConfusion h) | refine And.intro (fun h => Bool.noConfusion h) (fun _ => ?_))
      refine ⟨.a (.c (svC 2 ⟨true, 0, 0, 0, []⟩)), _, ⟨[0, 1, 1], ⟨rfl, rfl, rfl⟩, ?_⟩, ⟨true, 0, 0, 0, []⟩, _, l.drop 0, e, ?_, hr.drop (Nat.zero_le _), ⟨Nat.le_refl _, Nat.le_refl _, fun _ => rfl, Nat.zero_le _⟩, rfl, rfl⟩
      · (repeat first | exact trivial | refine ent1 ?_)
        refine eqC_bts ?_
        (repeat first | exact trivial | refine ent1 ?_)
      · unfold bytesM
        rw [if_neg (by omega), if_neg (by omega)]
        simp; omega
    · (repeat first | refine And.intro (by omega) ?_ | refine And.intro (by decide) ?_ | refine And.intro rfl ?_ | refine And.intro (fun _ => ?_) (fun h => Bool.noConfusion h) | refine And.intro (fun h => Bool.noConfusion h) (fun _ => ?_))
      refine ⟨.a (.c (svC 2 ⟨false, c', 0, c', l.take m⟩)), _, ⟨[0, 1, 2], ⟨rfl, rfl, rfl⟩, ?_⟩, ⟨false, c', 0, c', l.take m⟩, _, l.drop m, e, ?_, hr.drop (by omega), ⟨by simp; omega, by simp; omega, fun h => Bool.noConfusion h, by simp; omega⟩, rfl, rfl⟩
      · (repeat first | exact trivial | refine ent1 ?_)
        refine ⟨by simp; omega, rfl, ?_⟩
        refine eqC_bts ?_
        refine ⟨rfl, ?_, ?_⟩
        · show (if s.c = m then s.o else s.o + m * 1) = (if s.c = m then s.o else s.o + m)
          rw [Nat.mul_one]
        (repeat first | exact trivial | refine ent1 ?_)
        refine ⟨fun j hj => eqC_win0 (fun i hi => ?_) j, trivial⟩
        have hi : i < m := by have : i < (l.take m).length := hi; simp at this; omega
        exact new_row (fun i hi => by rw [hg i hi, L_take _ _ _ hi]) i hi
      · unfold bytesM
        rw [if_neg (by omega), if_neg (by omega)]
        simp; omega
  · have e2 : decide (s.e ≠ 0) = true := decide_eq_true h2
    (repeat first | refine And.intro (by omega) ?_ | refine And.intro (by decide) ?_ | refine And.intro rfl ?_ | refine And.intro (fun _ => ?_) (fun h => Bool.noConfusion h) | refine And.intro (fun h => Bool.noConfusion h) (fun _ => ?_) | refine And.intro (fun _ => ?_) (fun h => absurd h (by rw [e2]; decide)) | refine And.intro (fun h => absurd h (by rw [e2]; decide)) (fun _ => ?_))
    refine ⟨.a (.c (svC 2 ⟨true, 0, 0, 0, []⟩)), _, ⟨[0, 1, 1], ⟨rfl, rfl, rfl⟩, ?_⟩, ⟨true, 0, 0, 0, []⟩, s, l, e, by unfold bytesM; rw [if_pos (by omega)], hr, ⟨Nat.le_refl _, Nat.le_refl _, fun _ => rfl, Nat.zero_le _⟩, rfl, rfl⟩
    (repeat first | exact trivial | refine ent1 ?_)
    refine eqC_bts ?_
    (repeat first | exact trivial | refine ent1 ?_)
end Sx
end Go.Proofs.Ytkjdkeolkigibaa
end

section
/-
  The program's reader of numbers and bytes: made; counts, single bytes, its end. No condition.
-/
namespace Go.Proofs.Ytkjdkeolkigibaa
set_option linter.unusedVariables false
namespace Vi
open Sha
def countM (l : Bs) (e : Int) (most : Nat) : Nat × Bs × Int := match nextM l e with
  | ((n, _, b), l', e') => if b = false then (0, l', e') else if most < n.toNat then (0, [], 2) else (n.toNat, l', e')
def longM (l : Bs) (e : Int) (most : Nat) : Bs × Bs × Int := match countM l e most with
  | (n, l', e') => bytesM l' e' (n : Int)
def endM (l : Bs) (e : Int) : Bs × Int := if 0 < l.length then failM l e 24 else (l, e)
theorem nextM_e {l l' : Bs} {e e' : Int} {n : BitVec 64} {k : Nat} {b : Bool} (h : nextM l e = ((n, k, b), l', e')) : (b = true → e' = 0) ∧ (b = false → e' ≠ 0 ∧ n = 0#64) := by
  unfold nextM at h
  split at h
  · simp only [Prod.mk.injEq] at h
    obtain ⟨⟨rfl, rfl, rfl⟩, rfl, rfl⟩ := h
    exact ⟨fun h => Bool.noConfusion h, fun _ => ⟨by assumption, rfl⟩⟩
  · split at h
    · simp only [Prod.mk.injEq] at h
      obtain ⟨⟨rfl, rfl, rfl⟩, rfl, rfl⟩ := h
      exact ⟨fun h => Bool.noConfusion h, fun _ => ⟨by assumption, rfl⟩⟩
    · simp only [Prod.mk.injEq] at h
      obtain ⟨⟨rfl, rfl, rfl⟩, rfl, rfl⟩ := h
      exact ⟨fun _ => rfl, fun h => Bool.noConfusion h⟩
end Vi
namespace Sx
open Sha Vi

set_option maxRecDepth 20000 in
theorem fn_vread (s : Sl) (hs : s.Ok) : FnR Try.prog tds 58 1 [svB s] [.c (svC 0 s)] (fun _ => True)
    (fun y hs => ∃ A r, A.l = s.l ∧ RdI A r s.l 0 ∧ y = .a (.c (.p 1 0 0)) ∧ hs = [svB s, rdCi 2 r, svB A]) := by
  obtain ⟨z, N, o, c, l⟩ := s
  obtain ⟨hN, hc, hz, hsm⟩ := hs
  dsimp only at hN hc hz hsm
  show FnR _ _ _ 1 [bts z N o l.length (L l)] [.c (.sn z 0 0 o l.length c)] _ (fun y hs => ∃ A r, A.l = l ∧ RdI A r l 0 ∧ y = .a (.c (.p 1 0 0)) ∧ hs = [bts z N o l.length (L l), rdCi 2 r, svB A])
  refine fn_of_body tds_ok follows_ Try.func58 rfl (t := .a (.c (.sn z 0 0 o l.length c)) :: anys (Try.f58.ntmps - 1)) rfl (fun w r0 hr _ => ?_)
  obtain ⟨x0, rfl⟩ := List.length_eq_one_iff.1 hr
  refine sn_bts rfl hN (fun h => by rw [hz h]; rfl) (fun g hg => ?_)
  refine ⟨⟨rfl, rfl⟩, by show l.length * 1 ≤ 140737488355328; omega, fun hm0 => ?_, fun hm0 c' hc' => ?_⟩
  · obtain rfl : l = [] := List.eq_nil_of_length_eq_zero hm0
    (repeat first | refine And.intro (by omega) ?_ | refine And.intro (by decide) ?_ | refine And.intro rfl ?_ | refine And.intro (fun _ => ?_) (fun h => Bool.noConfusion h) | refine And.intro (fun h => Bool.noConfusion h) (fun _ => ?_))
    refine ⟨.a (.c (.p 1 0 0)), _, ⟨[0, 1, 1], ⟨rfl, rfl, rfl⟩, ?_⟩, ⟨true, 0, 0, 0, []⟩, ⟨true, 0, 0, 0, 0⟩, rfl, ⟨⟨Nat.le_refl _, Nat.le_refl _, fun _ => rfl, Nat.zero_le _⟩, rfl, rfl, fun i hi => by simp at hi, Nat.le_refl _, Nat.le_refl _, fun _ => rfl, fun h => Bool.noConfusion h, rfl, fun _ => rfl⟩, rfl, rfl⟩
    (repeat first | exact trivial | refine ent1 ?_)
    refine eqC_bts ?_
    (repeat first | exact trivial | refine ent1 ?_)
  · (repeat first | refine And.intro (by omega) ?_ | refine And.intro (by decide) ?_ | refine And.intro rfl ?_ | refine And.intro (fun _ => ?_) (fun h => Bool.noConfusion h) | refine And.intro (fun h => Bool.noConfusion h) (fun _ => ?_))
    refine ⟨.a (.c (.p 1 0 0)), _, ⟨[0, 2, 1], ⟨rfl, rfl, rfl⟩, ?_⟩, ⟨false, c', 0, c', l⟩, ⟨false, 0, l.length, c', 0⟩, rfl, ⟨⟨by dsimp only; omega, hc', fun h => Bool.noConfusion h, hsm⟩, rfl, rfl, fun i hi => by simp; omega, by simp, hc', fun h => Bool.noConfusion h, fun _ => rfl, rfl, fun h => absurd rfl h⟩, rfl, rfl⟩
    (repeat first | exact trivial | refine ent1 ?_)
    refine eqC_bts ?_
    (repeat first | exact trivial | refine ent1 ?_)
    exact ⟨fun j hj => eqC_win0 (fun i hi => new_row hg i hi) j, trivial⟩
set_option maxRecDepth 20000 in
theorem fn_rcount (A : Sl) (s : RS) (most : Nat) {l : Bs} {e : Int} (hr : RdI A s l e) (hm : most ≤ 1000000) : FnR Try.prog tds 81 1 [svB A, rdC s] [.c (.p 1 0 0), .c (.int .i64 (most : Nat))] (fun _ => True)
    (fun y hs => ∃ n s' l' e', countM l e most = (n, l', e') ∧ RdI A s' l' e' ∧ y = .a (.c (.int .i64 (n : Nat))) ∧ hs = [svB A, rdC s']) := by
  refine fn_of_body tds_ok follows_ Try.func81 rfl (t := .a (.c (.p 1 0 0)) :: .a (.c (.int .i64 (most : Nat))) :: anys (Try.f81.ntmps - 2)) rfl (fun w r0 hr0 _ => ?_)
  obtain ⟨x0, x1, rfl⟩ := len2' hr0
  (repeat first | refine And.intro (by omega) ?_ | refine And.intro (by decide) ?_ | (with_reducible refine frc_parts (by first | omega | decide) ?_) | (with_reducible refine frc_bytesL (by first | omega | decide) ?_) | refine And.intro rfl ?_)
  refine call_same (fn_rnext A s hr) [0, 1] rfl (by (repeat first | exact trivial | refine ent1 ?_)) ?_ (fun _ _ => trivial) ?_
  · refine eqC_bts ?_
    (repeat first | exact trivial | refine ent1 ?_)
  rintro x hs ⟨n, k, b, s', l', e', hx, hr', rfl, rfl⟩
  have he := nextM_e hx
  cases b with
  | false =>
    (repeat first | refine And.intro (by omega) ?_ | refine And.intro (by decide) ?_ | refine And.intro rfl ?_ | refine And.intro (fun _ => ?_) (fun h => Bool.noConfusion h) | refine And.intro (fun h => Bool.noConfusion h) (fun _ => ?_))
    refine ⟨.a (.c (.int .i64 (0 : Nat))), _, ⟨[0, 1], ⟨rfl, rfl, rfl⟩, ?_⟩, 0, s', l', e', by unfold countM; rw [hx]; rfl, hr', rfl, rfl⟩
    (repeat first | exact trivial | refine ent1 ?_)
    refine eqC_bts ?_
    (repeat first | exact trivial | refine ent1 ?_)
  | true =>
  have ew : (BitVec.ofInt 64 (if (most : Int) < 0 then 0 else (most : Int))).toNat = most := by
    rw [if_neg (by omega), BitVec.ofInt_natCast, BitVec.toNat_ofNat, Nat.mod_eq_of_lt (by omega)]
  by_cases h1 : most < n.toNat
  · have e1 : decide (BitVec.ofInt 64 (if (most : Int) < 0 then 0 else (most : Int)) < n) = true := decide_eq_true (by rw [BitVec.lt_def, ew]; exact h1)
    (repeat first | refine And.intro (by omega) ?_ | refine And.intro (by decide) ?_ | refine And.intro rfl ?_ | refine And.intro (fun _ => ?_) (fun h => Bool.noConfusion h) | refine And.intro (fun h => Bool.noConfusion h) (fun _ => ?_) | refine And.intro (fun _ => ?_) (fun h => absurd h (by rw [e1]; decide)) | refine And.intro (fun h => absurd h (by rw [e1]; decide)) (fun _ => ?_))
    refine call_same (fn_rfail A s' 2 hr') [0, 1] rfl (by (repeat first | exact trivial | refine ent1 ?_)) ?_ (fun _ _ => trivial) ?_
    · refine eqC_bts ?_
      (repeat first | exact trivial | refine ent1 ?_)
    rintro x hs ⟨s2, l2, e2, hf, hr2, rfl, rfl⟩
    refine ⟨.a (.c (.int .i64 (0 : Nat))), _, ⟨[0, 1], ⟨rfl, rfl, rfl⟩, ?_⟩, 0, s2, l2, e2, ?_, hr2, rfl, rfl⟩
    · (repeat first | exact trivial | refine ent1 ?_)
      refine eqC_bts ?_
      (repeat first | exact trivial | refine ent1 ?_)
    · unfold failM at hf
      rw [if_neg (by have := he.1 rfl; omega)] at hf
      simp only [Prod.mk.injEq] at hf
      obtain ⟨rfl, rfl⟩ := hf
      unfold countM
      rw [hx]
      show (if true = false then _ else if most < n.toNat then _ else _) = _
      rw [if_neg (by decide), if_pos h1]
  · have e1 : decide (BitVec.ofInt 64 (if (most : Int) < 0 then 0 else (most : Int)) < n) = false := decide_eq_false (by rw [BitVec.lt_def, ew]; exact h1)
    (repeat first | refine And.intro (by omega) ?_ | refine And.intro (by decide) ?_ | refine And.intro rfl ?_ | refine And.intro (fun _ => ?_) (fun h => Bool.noConfusion h) | refine And.intro (fun h => Bool.noConfusion h) (fun _ => ?_) | refine And.intro (fun _ => ?_) (fun h => absurd h (by rw [e1]; decide)) | refine And.intro (fun h => absurd h (by rw [e1]; decide)) (fun _ => ?_))
    refine ⟨.a (.c (.int .i64 (n.toNat : Nat))), _, ⟨[0, 1], ⟨rfl, rfl, rfl⟩, ?_⟩, n.toNat, s', l', e', ?_, hr', rfl, rfl⟩
    · (repeat first | exact trivial | refine ent1 ?_)
      refine eqC_bts ?_
      (repeat first | exact trivial | refine ent1 ?_)
    · unfold countM
      rw [hx]
      show (if true = false then _ else if most < n.toNat then _ else _) = _
      rw [if_neg (by decide), if_neg h1]
set_option maxRecDepth 20000 in
theorem fn_rlong (A : Sl) (s : RS) (most : Nat) {l : Bs} {e : Int} (hr : RdI A s l e) (hm : most ≤ 1000000) : FnR Try.prog tds 61 1 [svB A, rdC s] [.c (.p 1 0 0), .c (.int .i64 (most : Nat))] (fun _ => True)
    (fun y hs => ∃ t s' l' e', longM l e most = (t.l, l', e') ∧ RdI A s' l' e' ∧ t.Ok ∧ y = .a (.c (svC 2 t)) ∧ hs = [svB A, rdC s', svB t]) := by
  refine fn_of_body tds_ok follows_ Try.func61 rfl (t := .a (.c (.p 1 0 0)) :: .a (.c (.int .i64 (most : Nat))) :: anys (Try.f61.ntmps - 2)) rfl (fun w r0 hr0 _ => ?_)
  obtain ⟨x0, x1, rfl⟩ := len2' hr0
  (repeat first | refine And.intro (by omega) ?_ | refine And.intro (by decide) ?_ | (with_reducible refine frc_parts (by first | omega | decide) ?_) | (with_reducible refine frc_bytesL (by first | omega | decide) ?_) | refine And.intro rfl ?_)
  refine call_same (fn_rcount A s most hr hm) [0, 1] rfl (by (repeat first | exact trivial | refine ent1 ?_)) ?_ (fun _ _ => trivial) ?_
  · refine eqC_bts ?_
    (repeat first | exact trivial | refine ent1 ?_)
  rintro x hs ⟨n, s', l', e', hx, hr', rfl, rfl⟩
  (repeat first | refine And.intro (by omega) ?_ | refine And.intro (by decide) ?_ | (with_reducible refine frc_parts (by first | omega | decide) ?_) | (with_reducible refine frc_bytesL (by first | omega | decide) ?_) | refine And.intro rfl ?_)
  refine call_same (fn_rbytes A s' (n : Nat) hr') [0, 1] rfl (by (repeat first | exact trivial | refine ent1 ?_)) ?_ (fun _ _ => trivial) ?_
  · refine eqC_bts ?_
    (repeat first | exact trivial | refine ent1 ?_)
  rintro x hs ⟨t, s2, l2, e2, hy, hr2, ht, rfl, rfl⟩
  refine ⟨.a (.c (svC 2 t)), _, ⟨[0, 1, 2], ⟨rfl, rfl, rfl⟩, ?_⟩, t, s2, l2, e2, by unfold longM; rw [hx]; exact hy, hr2, ht, rfl, rfl⟩
  (repeat first | exact trivial | refine ent1 ?_)
  refine eqC_bts ?_
  (repeat first | exact trivial | refine ent1 ?_)
  refine eqC_btsM ?_
  (repeat first | exact trivial | refine ent1 ?_)
set_option maxRecDepth 20000 in
theorem fn_rend (A : Sl) (s : RS) {l : Bs} {e : Int} (hr : RdI A s l e) : FnR Try.prog tds 64 1 [svB A, rdC s] [.c (.p 1 0 0)] (fun _ => True)
    (fun y hs => ∃ s' l' e', endM l e = (l', e') ∧ RdI A s' l' e' ∧ y = .a (.c (.int .i64 e')) ∧ hs = [svB A, rdC s']) := by
  refine fn_of_body tds_ok follows_ Try.func64 rfl (t := .a (.c (.p 1 0 0)) :: anys (Try.f64.ntmps - 1)) rfl (fun w r0 hr0 _ => ?_)
  obtain ⟨x0, x1, rfl⟩ := len2' hr0
  (repeat first | refine And.intro (by omega) ?_ | refine And.intro (by decide) ?_ | (with_reducible refine frc_parts (by first | omega | decide) ?_) | (with_reducible refine frc_bytesL (by first | omega | decide) ?_) | refine And.intro rfl ?_)
  refine call_same (fn_rleft A s hr) [0, 1] rfl (by (repeat first | exact trivial | refine ent1 ?_)) ?_ (fun _ _ => trivial) ?_
  · refine eqC_bts ?_
    (repeat first | exact trivial | refine ent1 ?_)
  rintro x hs ⟨rfl, rfl⟩
  by_cases h1 : 0 < l.length
  · have e1 : decide ((0 : Int) < (l.length : Int)) = true := decide_eq_true (by omega)
    (repeat first | refine And.intro (by omega) ?_ | refine And.intro (by decide) ?_ | refine And.intro rfl ?_ | refine And.intro (fun _ => ?_) (fun h => Bool.noConfusion h) | refine And.intro (fun h => Bool.noConfusion h) (fun _ => ?_) | refine And.intro (fun _ => ?_) (fun h => absurd h (by rw [e1]; decide)) | refine And.intro (fun h => absurd h (by rw [e1]; decide)) (fun _ => ?_))
    refine call_same (fn_rfail A s 24 hr) [0, 1] rfl (by (repeat first | exact trivial | refine ent1 ?_)) ?_ (fun _ _ => trivial) ?_
    · refine eqC_bts ?_
      (repeat first | exact trivial | refine ent1 ?_)
    rintro x hs ⟨s', l', e', hx, hr', rfl, rfl⟩
    (repeat first | refine And.intro (by omega) ?_ | refine And.intro (by decide) ?_ | (with_reducible refine frc_parts (by first | omega | decide) ?_) | (with_reducible refine frc_bytesL (by first | omega | decide) ?_) | refine And.intro rfl ?_)
    refine call_same (fn_rerr A s' hr') [0, 1] rfl (by (repeat first | exact trivial | refine ent1 ?_)) ?_ (fun _ _ => trivial) ?_
    · refine eqC_bts ?_
      (repeat first | exact trivial | refine ent1 ?_)
    rintro x hs ⟨rfl, rfl⟩
    refine ⟨.a (.c (.int .i64 e')), _, ⟨[0, 1], ⟨rfl, rfl, rfl⟩, ?_⟩, s', l', e', by unfold endM; rw [if_pos h1]; exact hx, hr', rfl, rfl⟩
    (repeat first | exact trivial | refine ent1 ?_)
    refine eqC_bts ?_
    (repeat first | exact trivial | refine ent1 ?_)
  · have e1 : decide ((0 : Int) < (l.length : Int)) = false := decide_eq_false (by omega)
    (repeat first | refine And.intro (by omega) ?_ | refine And.intro (by decide) ?_ | refine And.intro rfl ?_ | refine And.intro (fun _ => ?_) (fun h => Bool.noConfusion h) | refine And.intro (fun h => Bool.noConfusion h) (fun _ => ?_) | refine And.intro (fun _ => ?_) (fun h => absurd h (by rw [e1]; decide)) | refine And.intro (fun h => absurd h (by rw [e1]; decide)) (fun _ => ?_))
    refine call_same (fn_rerr A s hr) [0, 1] rfl (by (repeat first | exact trivial | refine ent1 ?_)) ?_ (fun _ _ => trivial) ?_
    · refine eqC_bts ?_
      (repeat first | exact trivial | refine ent1 ?_)
    rintro x hs ⟨rfl, rfl⟩
    refine ⟨.a (.c (.int .i64 e)), _, ⟨[0, 1], ⟨rfl, rfl, rfl⟩, ?_⟩, s, l, e, by unfold endM; rw [if_neg h1], hr, rfl, rfl⟩
    (repeat first | exact trivial | refine ent1 ?_)
    refine eqC_bts ?_
    (repeat first | exact trivial | refine ent1 ?_)
end Sx
end Go.Proofs.Ytkjdkeolkigibaa
end

section
/-
  What an endpoint says, out of bytes: as a plain function; which things are numbers. No condition.
-/
namespace Go.Proofs.Ytkjdkeolkigibaa
set_option linter.unusedVariables false
namespace Vi
open Sha Sx
def numId (i : BitVec 64) : Bool := decide (i = 1#64) || decide (i = 4#64) || decide (i = 5#64) || decide (i = 6#64) || decide (i = 7#64) || decide (i = 8#64) || decide (i = 9#64) || decide (i = 11#64) || decide (i = 14#64)
abbrev Said := List (BitVec 64 × BitVec 64)
/-- One thing that is said, by its number. -/
def ownM (id : BitVec 64) (v : Bs) (D : Said) : Int × Said := match numId id with
  | true => match nextM v 0 with
    | ((n, _, _), r, f) => ((endM r f).2, putK id n (putK id 0#64 D))
  | false => (0, putK id 0#64 D)
def oneP (m : Nat) (l : Bs) (D : Said) (src : Bs) : Int × Bs × Said × Bs := match nextM l 0 with
  | ((id, _, _), l1, e1) => match longM l1 e1 m with
    | (v, l2, e2) => if e2 ≠ 0 then (e2, [], D, src) else if hasK id D = true then (18, [], D, src) else match ownM id v D with
      | (g, D2) => if g ≠ 0 then (g, [], D, src) else (0, l2, D2, if id = 15#64 then v else src)
def allP (m : Nat) : Nat → Bs → Said → Bs → Int × Said × Bs
  | 0, _, D, src => (0, D, src)
  | f + 1, l, D, src => if l.length = 0 then (0, D, src) else match oneP m l D src with
    | (e, l', D', src') => if e ≠ 0 then (e, D, src) else allP m f l' D' src'
theorem allP_end {m f : Nat} {D : Said} {src : Bs} : allP m f [] D src = (0, D, src) := by
  cases f <;> simp [allP]
theorem allP_step {m f : Nat} {l l' : Bs} {D D' : Said} {src src' : Bs} (hl : l.length ≠ 0) (h : oneP m l D src = (0, l', D', src')) : allP m (f + 1) l D src = allP m f l' D' src' := by
  rw [allP, if_neg hl, h]
  simp
theorem allP_bad {m f : Nat} {l l' : Bs} {D D' : Said} {src src' : Bs} {e : Int} (hl : l.length ≠ 0) (h : oneP m l D src = (e, l', D', src')) (he : e ≠ 0) : allP m (f + 1) l D src = (e, D, src) := by
  rw [allP, if_neg hl, h]
  simp [he]
/-- What is said at last: the ids are two if they aren't. -/
def idsP (D : Said) : Said := if hasK 14#64 D = true then D else putK 14#64 2#64 D
end Vi
namespace Sx
open Sha Vi

set_option maxRecDepth 20000 in
theorem fn_isnum (i : BitVec 64) : Fn Try.prog tds 63 [] [.c (.w64 i)] (fun _ => True) (fun x hs => x = .a (.c (.bool (numId i))) ∧ hs = []) := by
  refine fn_of_body tds_ok follows_ Try.func63 rfl (t := .a (.c (.w64 i)) :: anys (Try.f63.ntmps - 1)) rfl (fun w r0 hr _ => ?_)
  obtain rfl := List.eq_nil_of_length_eq_zero hr
  by_cases h1 : i = 1#64
  · have e1 : decide (i = 1#64) = true := decide_eq_true h1
    (repeat first | (refine And.intro ?_ ?_; first | exact rfl | ((exact fun h => absurd h (by first | decide | (rw [e1]; decide))); intro yy; clear yy) | (rotate_left; (exact fun h => absurd h (by first | decide | (rw [e1]; decide))); intro yy; clear yy) | decide | omega) | (with_reducible refine frc_bytesL (by first | omega | decide) ?_) | (with_reducible refine frc_bytesM (by first | omega | decide) ?_))
    refine ⟨.a (.c (.bool true)), _, ⟨[], ⟨rfl, rfl, rfl⟩, ?_⟩, by rw [h1]; rfl, rfl⟩
    (repeat first | exact trivial | refine ent1 ?_)
  have e1 : decide (i = 1#64) = false := decide_eq_false h1
  by_cases h4 : i = 4#64
  · have e4 : decide (i = 4#64) = true := decide_eq_true h4
    (repeat first | (refine And.intro ?_ ?_; first | exact rfl | ((exact fun h => absurd h (by first | decide | (rw [e1]; decide) | (rw [e4]; decide))); intro yy; clear yy) | (rotate_left; (exact fun h => absurd h (by first | decide | (rw [e1]; decide) | (rw [e4]; decide))); intro yy; clear yy) | decide | omega) | (with_reducible refine frc_bytesL (by first | omega | decide) ?_) | (with_reducible refine frc_bytesM (by first | omega | decide) ?_))
    refine ⟨.a (.c (.bool true)), _, ⟨[], ⟨rfl, rfl, rfl⟩, ?_⟩, by rw [h4]; rfl, rfl⟩
    (repeat first | exact trivial | refine ent1 ?_)
  have e4 : decide (i = 4#64) = false := decide_eq_false h4
  by_cases h5 : i = 5#64
  · have e5 : decide (i = 5#64) = true := decide_eq_true h5
    (repeat first | (refine And.intro ?_ ?_; first | exact rfl | ((exact fun h => absurd h (by first | decide | (rw [e1]; decide) | (rw [e4]; decide) | (rw [e5]; decide))); intro yy; clear yy) | (rotate_left; (exact fun h => absurd h (by first | decide | (rw [e1]; decide) | (rw [e4]; decide) | (rw [e5]; decide))); intro yy; clear yy) | decide | omega) | (with_reducible refine frc_bytesL (by first | omega | decide) ?_) | (with_reducible refine frc_bytesM (by first | omega | decide) ?_))
    refine ⟨.a (.c (.bool true)), _, ⟨[], ⟨rfl, rfl, rfl⟩, ?_⟩, by rw [h5]; rfl, rfl⟩
    (repeat first | exact trivial | refine ent1 ?_)
  have e5 : decide (i = 5#64) = false := decide_eq_false h5
  by_cases h6 : i = 6#64
  · have e6 : decide (i = 6#64) = true := decide_eq_true h6
    (repeat first | (refine And.intro ?_ ?_; first | exact rfl | ((exact fun h => absurd h (by first | decide | (rw [e1]; decide) | (rw [e4]; decide) | (rw [e5]; decide) | (rw [e6]; decide))); intro yy; clear yy) | (rotate_left; (exact fun h => absurd h (by first | decide | (rw [e1]; decide) | (rw [e4]; decide) | (rw [e5]; decide) | (rw [e6]; decide))); intro yy; clear yy) | decide | omega) | (with_reducible refine frc_bytesL (by first | omega | decide) ?_) | (with_reducible refine frc_bytesM (by first | omega | decide) ?_))
    refine ⟨.a (.c (.bool true)), _, ⟨[], ⟨rfl, rfl, rfl⟩, ?_⟩, by rw [h6]; rfl, rfl⟩
    (repeat first | exact trivial | refine ent1 ?_)
  have e6 : decide (i = 6#64) = false := decide_eq_false h6
  by_cases h7 : i = 7#64
  · have e7 : decide (i = 7#64) = true := decide_eq_true h7
    (repeat first | (refine And.intro ?_ ?_; first | exact rfl | ((exact fun h => absurd h (by first | decide | (rw [e1]; decide) | (rw [e4]; decide) | (rw [e5]; decide) | (rw [e6]; decide) | (rw [e7]; decide))); intro yy; clear yy) | (rotate_left; (exact fun h => absurd h (by first | decide | (rw [e1]; decide) | (rw [e4]; decide) | (rw [e5]; decide) | (rw [e6]; decide) | (rw [e7]; decide))); intro yy; clear yy) | decide | omega) | (with_reducible refine frc_bytesL (by first | omega | decide) ?_) | (with_reducible refine frc_bytesM (by first | omega | decide) ?_))
    refine ⟨.a (.c (.bool true)), _, ⟨[], ⟨rfl, rfl, rfl⟩, ?_⟩, by rw [h7]; rfl, rfl⟩
    (repeat first | exact trivial | refine ent1 ?_)
  have e7 : decide (i = 7#64) = false := decide_eq_false h7
  by_cases h8 : i = 8#64
  · have e8 : decide (i = 8#64) = true := decide_eq_true h8
    (repeat first | (refine And.intro ?_ ?_; first | exact rfl | ((exact fun h => absurd h (by first | decide | (rw [e1]; decide) | (rw [e4]; decide) | (rw [e5]; decide) | (rw [e6]; decide) | (rw [e7]; decide) | (rw [e8]; decide))); intro yy; clear yy) | (rotate_left; (exact fun h => absurd h (by first | decide | (rw [e1]; decide) | (rw [e4]; decide) | (rw [e5]; decide) | (rw [e6]; decide) | (rw [e7]; decide) | (rw [e8]; decide))); intro yy; clear yy) | decide | omega) | (with_reducible refine frc_bytesL (by first | omega | decide) ?_) | (with_reducible refine frc_bytesM (by first | omega | decide) ?_))
    refine ⟨.a (.c (.bool true)), _, ⟨[], ⟨rfl, rfl, rfl⟩, ?_⟩, by rw [h8]; rfl, rfl⟩
    (repeat first | exact trivial | refine ent1 ?_)
  have e8 : decide (i = 8#64) = false := decide_eq_false h8
  by_cases h9 : i = 9#64
  · have e9 : decide (i = 9#64) = true := decide_eq_true h9
    (repeat first | (refine And.intro ?_ ?_; first | exact rfl | ((exact fun h => absurd h (by first | decide | (rw [e1]; decide) | (rw [e4]; decide) | (rw [e5]; decide) | (rw [e6]; decide) | (rw [e7]; decide) | (rw [e8]; decide) | (rw [e9]; decide))); intro yy; clear yy) | (rotate_left; (exact fun h => absurd h (by first | decide | (rw [e1]; decide) | (rw [e4]; decide) | (rw [e5]; decide) | (rw [e6]; decide) | (rw [e7]; decide) | (rw [e8]; decide) | (rw [e9]; decide))); intro yy; clear yy) | decide | omega) | (with_reducible refine frc_bytesL (by first | omega | decide) ?_) | (with_reducible refine frc_bytesM (by first | omega | decide) ?_))
    refine ⟨.a (.c (.bool true)), _, ⟨[], ⟨rfl, rfl, rfl⟩, ?_⟩, by rw [h9]; rfl, rfl⟩
    (repeat first | exact trivial | refine ent1 ?_)
  have e9 : decide (i = 9#64) = false := decide_eq_false h9
  by_cases h11 : i = 11#64
  · have e11 : decide (i = 11#64) = true := decide_eq_true h11
    (repeat first | (refine And.intro ?_ ?_; first | exact rfl | ((exact fun h => absurd h (by first | decide | (rw [e1]; decide) | (rw [e4]; decide) | (rw [e5]; decide) | (rw [e6]; decide) | (rw [e7]; decide) | (rw [e8]; decide) | (rw [e9]; decide) | (rw [e11]; decide))); intro yy; clear yy) | (rotate_left; (exact fun h => absurd h (by first | decide | (rw [e1]; decide) | (rw [e4]; decide) | (rw [e5]; decide) | (rw [e6]; decide) | (rw [e7]; decide) | (rw [e8]; decide) | (rw [e9]; decide) | (rw [e11]; decide))); intro yy; clear yy) | decide | omega) | (with_reducible refine frc_bytesL (by first | omega | decide) ?_) | (with_reducible refine frc_bytesM (by first | omega | decide) ?_))
    refine ⟨.a (.c (.bool true)), _, ⟨[], ⟨rfl, rfl, rfl⟩, ?_⟩, by rw [h11]; rfl, rfl⟩
    (repeat first | exact trivial | refine ent1 ?_)
  have e11 : decide (i = 11#64) = false := decide_eq_false h11
  by_cases h14 : i = 14#64
  · have e14 : decide (i = 14#64) = true := decide_eq_true h14
    (repeat first | (refine And.intro ?_ ?_; first | exact rfl | ((exact fun h => absurd h (by first | decide | (rw [e1]; decide) | (rw [e4]; decide) | (rw [e5]; decide) | (rw [e6]; decide) | (rw [e7]; decide) | (rw [e8]; decide) | (rw [e9]; decide) | (rw [e11]; decide) | (rw [e14]; decide))); intro yy; clear yy) | (rotate_left; (exact fun h => absurd h (by first | decide | (rw [e1]; decide) | (rw [e4]; decide) | (rw [e5]; decide) | (rw [e6]; decide) | (rw [e7]; decide) | (rw [e8]; decide) | (rw [e9]; decide) | (rw [e11]; decide) | (rw [e14]; decide))); intro yy; clear yy) | decide | omega) | (with_reducible refine frc_bytesL (by first | omega | decide) ?_) | (with_reducible refine frc_bytesM (by first | omega | decide) ?_))
    refine ⟨.a (.c (.bool true)), _, ⟨[], ⟨rfl, rfl, rfl⟩, ?_⟩, by rw [h14]; rfl, rfl⟩
    (repeat first | exact trivial | refine ent1 ?_)
  have e14 : decide (i = 14#64) = false := decide_eq_false h14
  (repeat first | (refine And.intro ?_ ?_; first | exact rfl | ((exact fun h => absurd h (by first | decide | (rw [e1]; decide) | (rw [e4]; decide) | (rw [e5]; decide) | (rw [e6]; decide) | (rw [e7]; decide) | (rw [e8]; decide) | (rw [e9]; decide) | (rw [e11]; decide) | (rw [e14]; decide))); intro yy; clear yy) | (rotate_left; (exact fun h => absurd h (by first | decide | (rw [e1]; decide) | (rw [e4]; decide) | (rw [e5]; decide) | (rw [e6]; decide) | (rw [e7]; decide) | (rw [e8]; decide) | (rw [e9]; decide) | (rw [e11]; decide) | (rw [e14]; decide))); intro yy; clear yy) | decide | omega) | (with_reducible refine frc_bytesL (by first | omega | decide) ?_) | (with_reducible refine frc_bytesM (by first | omega | decide) ?_))
  refine ⟨.a (.c (.bool false)), _, ⟨[], ⟨rfl, rfl, rfl⟩, ?_⟩, by unfold numId; rw [e1, e4, e5, e6, e7, e8, e9, e11, e14]; rfl, rfl⟩
  (repeat first | exact trivial | refine ent1 ?_)
end Sx
end Go.Proofs.Ytkjdkeolkigibaa
end
