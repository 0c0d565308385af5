/-
  Texts of this claim, part 5: Sxq, Sxy, Sxz, Sxzn, Tds, Frc, Bts, ViM, VsA, Rw. No condition of its own.
-/
import Derived.Test.YtdakmieapdpidaaG4
section
/-
  Functions by their bodies; calls by what the callee keeps to. Over any program. No condition of its own.
-/
namespace Go.Proofs.Ytdakmieapdpidaa
set_option linter.unusedVariables false
namespace Sx
open Go.RowKit

section
variable {C : Cx}
/-- A value and the blocks behind it, said in other words. -/
def Fin (C : Cx) (v : SV) (h : List (List Seg)) (x : SV) (hs : List (List Seg)) : Prop := ∃ q, Ent C q ⟨[v], h⟩ ⟨[x], hs⟩
theorem Fin.ok {v x : SV} {h hs : List (List Seg)} (f : Fin C v h x hs) {r : Rho} {w : World} {u : Value} (hu : v.Is r u) (ok : HeapOk C h r w) : ∃ r', x.Is r' u ∧ HeapOk C hs r' w := by
  obtain ⟨q, e⟩ := f
  have ok1 : Ok C ⟨[v], h⟩ r { tmps := #[u], defers := [] } w := ⟨ok, rfl, fun d y e => by
    cases d with
    | zero => simp at e; subst e; exact hu
    | succ d => simp at e, rfl⟩
  obtain ⟨r', ok2⟩ := e.ok ok1
  exact ⟨r', ok2.slots 0 x rfl, ok2.heap⟩
end
/-- What stands fast for a function that is handed the blocks h0, of which it may not turn the first n. -/
abbrev cx0 (P : Program) (T : List (Nat × TD)) (w : World) (r0 : Rho) (n : Nat) (h0 : List (List Seg)) : Cx := ⟨P, T, w, (r0.drop n).map (·.1), r0, n, fun i => flat (getH h0 i) ≠ [], fun B => ∃ (i : Nat) (W : World) (ms : List Nat), h0[i]? = some [.past W ms] ∧ B < W.heap.size ∧ B ∉ ms⟩
/-- What a function keeps to: the blocks h0 that it is handed (the first n are only read), its arguments, what the world must bear; what it returns and leaves. -/
def FnR (P : Program) (T : List (Nat × TD)) (f : FuncId) (n : Nat) (h0 : List (List Seg)) (args : List SA) (raw : World → Prop) (Res : SV → List (List Seg) → Prop) : Prop :=
  ∀ (w : World) (r0 : Rho) (vs : List Value), HeapOk (cx0 P T w r0 n h0) h0 r0 w → IsAs r0 args vs → raw w → Calls P f vs.toArray w fun e w' =>
    ∃ v x hs r', e = .returned v ∧ SV.Is r' x v ∧ HeapOk (cx0 P T w r0 n h0) hs r' w' ∧ Res x hs
abbrev Fn (P : Program) (T : List (Nat × TD)) (f : FuncId) (h0 : List (List Seg)) (args : List SA) (raw : World → Prop) (Res : SV → List (List Seg) → Prop) : Prop := FnR P T f 0 h0 args raw Res
def anys : Nat → List SV
  | 0 => []
  | n + 1 => .any :: anys n
theorem anys_len : ∀ n, (anys n).length = n
  | 0 => rfl
  | n + 1 => by simp [anys, anys_len n]
theorem anys_get : ∀ (n d : Nat) (x : SV), (anys n)[d]? = some x → x = .any
  | 0, _, _, e => by simp [anys] at e
  | n + 1, 0, _, e => by simp [anys] at e; exact e.symm
  | n + 1, d + 1, x, e => anys_get n d x (by simpa [anys] using e)
theorem fn_of_body {P : Program} {T : List (Nat × TD)} (hT : AllT P T) (hm : P.follows .mixedOrders = true) {f : FuncId} {fn : Func} {c : Code} (hf : P.funcs[f]? = some fn) (hb : fn.body = some c) {n : Nat} {h0 : List (List Seg)} {args : List SA} {raw : World → Prop} {Res : SV → List (List Seg) → Prop}
    {t : List SV} (ht : t = args.map SV.a ++ anys (fn.ntmps - args.length))
    (h : ∀ (w : World) (r0 : Rho), r0.length = h0.length → raw w → Body (cx0 P T w r0 n h0) fn c ⟨t, h0⟩ fun v h' => ∃ x hs, Fin (cx0 P T w r0 n h0) v h' x hs ∧ Res x hs) : FnR P T f n h0 args raw Res := by
  intro w r0 vs ok ha hraw
  subst ht
  have hlen : vs.toArray.size = args.length := by rw [ha.1]; simp
  refine calls_of_body (C := cx0 P T w r0 n h0) hT hm hf hb (s := ⟨args.map SV.a ++ anys (fn.ntmps - args.length), h0⟩) (r := r0) ⟨ok, ?_, fun d x e => ?_, rfl⟩ (h w r0 ok.len hraw) ?_
  · simp [anys_len, ha.1]
  · by_cases hd : d < args.length
    · rw [List.getElem?_append_left (by simpa using hd), List.getElem?_map] at e
      obtain ⟨y, hy, rfl⟩ := Option.map_eq_some_iff.1 e
      obtain ⟨u, hu, hi⟩ := ha.2 d y hy
      have : (vs.toArray ++ Array.replicate (fn.ntmps - vs.toArray.size) undef).getD d undef = u := by
        rw [Array.getD_eq_getD_getElem?, Array.getElem?_append_left (by rw [hlen]; exact hd)]
        simp [hu]
      rw [this]
      exact hi
    · rw [List.getElem?_append_right (by simpa using Nat.le_of_not_lt hd)] at e
      rw [anys_get _ _ _ e]
      trivial
  · rintro v y h' r' w' ⟨x, hs, hf, hr⟩ hy hok
    obtain ⟨r'', hx, hok'⟩ := hf.ok hy hok
    exact ⟨v, x, hs, r'', rfl, hx, hok', hr⟩

/-! Back at the caller's. -/
def bk (N : Nat) : List Nat → Nat → Nat
  | [], j => N + j
  | x :: _, 0 => x
  | _ :: q, j + 1 => bk N q j
def SC.mp (g : Nat → Nat) : SC → SC
  | .p i b o => .p (g i) b o
  | .sl i b o n c => .sl (g i) b o n c
  | .clo f i b o => .clo f (g i) b o
  | .cap f i b o => .cap f (g i) b o
  | .cap2 f i b o j c d => .cap2 f (g i) b o (g j) c d
  | .sn z i b o n c => .sn z (g i) b o n c
  | .mh i => .mh (g i)
  | x => x
def Seg.mp (g : Nat → Nat) : Seg → Seg
  | .one x => .one (x.mp g)
  | .row n f => .row n (fun j => (f j).mp g)
  | .obj m => .obj m
  | .past w ms => .past w ms
def mpL (g : Nat → Nat) : List Seg → List Seg
  | [] => []
  | x :: r => x.mp g :: mpL g r
def SA.mp (g : Nat → Nat) : SA → SA
  | .c x => .c (x.mp g)
  | .agg l => .agg (mpL g l)
def SV.mp (g : Nat → Nat) : SV → SV
  | .any => .any
  | .a x => .a (x.mp g)
  | .tup l => .tup (l.map (SA.mp g))
theorem flat_mp (g : Nat → Nat) : ∀ l : List Seg, flat (mpL g l) = (flat l).map (SC.mp g)
  | [] => rfl
  | .one x :: r => by simp [mpL, Seg.mp, flat, flat_mp g r]
  | .row n f :: r => by simp [mpL, Seg.mp, flat, flat_mp g r, Function.comp_def]
  | .obj _ :: r => by simp [mpL, Seg.mp, flat, flat_mp g r]
  | .past _ _ :: r => by simp [mpL, Seg.mp, flat, flat_mp g r]
theorem mpL_obj {g : Nat → Nat} {l : List Seg} {m : MapD} (h : [.obj m] = mpL g l) : l = [.obj m] := by
  cases l with
  | nil => cases h
  | cons x r =>
    simp only [mpL, List.cons.injEq] at h
    have hr : r = [] := by cases r <;> first | rfl | cases h.2
    subst hr
    cases x <;> simp [Seg.mp] at h
    obtain ⟨rfl, _⟩ := h; rfl
theorem mpL_past {g : Nat → Nat} {l : List Seg} {W : World} {ms : List Nat} (h : [.past W ms] = mpL g l) : l = [.past W ms] := by
  cases l with
  | nil => cases h
  | cons x r =>
    simp only [mpL, List.cons.injEq] at h
    have hr : r = [] := by cases r <;> first | rfl | cases h.2
    subst hr
    cases x <;> simp [Seg.mp] at h
    obtain ⟨⟨rfl, rfl⟩, _⟩ := h; rfl
section
variable {g : Nat → Nat} {r' R : Rho}
theorem SC.Is.mp (hg : ∀ (i : Nat) (x : Nat × Nat), r'[i]? = some x → R[g i]? = some x) {x : SC} {v : Value} (h : x.Is r' v) : (x.mp g).Is R v := by
  cases x <;> first
    | exact h
    | (obtain ⟨B, f, e, rfl⟩ := h; exact ⟨B, f, hg _ _ e, rfl⟩)
    | (obtain ⟨B, f, e, B', f', e', rfl⟩ := h; exact ⟨B, f, hg _ _ e, B', f', hg _ _ e', rfl⟩)
    | (rcases h with ⟨h1, h2⟩ | ⟨h1, B, f, e, h2⟩ | h; exact .inl ⟨h1, h2⟩; exact .inr (.inl ⟨h1, B, f, hg _ _ e, h2⟩); exact .inr (.inr h))
theorem SA.Is.mp (hg : ∀ (i : Nat) (x : Nat × Nat), r'[i]? = some x → R[g i]? = some x) {x : SA} {v : Value} (h : x.Is r' v) : (x.mp g).Is R v := by
  cases x with
  | c x => exact SC.Is.mp hg (x := x) h
  | agg l =>
    obtain ⟨vs, e, h1, h2⟩ := h
    refine ⟨vs, e, by rw [flat_mp]; simpa using h1, fun j y e' => ?_⟩
    rw [flat_mp, List.getElem?_map, Option.map_eq_some_iff] at e'
    obtain ⟨z, hz, rfl⟩ := e'
    obtain ⟨u, e1, e2⟩ := h2 j z hz
    exact ⟨u, e1, e2.mp hg⟩
theorem SV.Is.mp (hg : ∀ (i : Nat) (x : Nat × Nat), r'[i]? = some x → R[g i]? = some x) {x : SV} {v : Value} (h : x.Is r' v) : (x.mp g).Is R v := by
  cases x with
  | any => trivial
  | a x => exact SA.Is.mp hg (x := x) h
  | tup l =>
    obtain ⟨vs, e, h1, h2⟩ := h
    refine ⟨vs, e, by simpa using h1, fun j y e' => ?_⟩
    rw [List.getElem?_map, Option.map_eq_some_iff] at e'
    obtain ⟨z, hz, rfl⟩ := e'
    obtain ⟨u, e1, e2⟩ := h2 j z hz
    exact ⟨u, e1, e2.mp hg⟩
theorem At.mp (hg : ∀ (i : Nat) (x : Nat × Nat), r'[i]? = some x → R[g i]? = some x) {w : World} {B off : Nat} {l : List Seg} {z : Bool} (h : At z r' w B off (flat l)) : At z R w B off (flat (mpL g l)) := by
  intro j y e
  rw [flat_mp, List.getElem?_map, Option.map_eq_some_iff] at e
  obtain ⟨z, hz, rfl⟩ := e
  obtain ⟨v, e1, e2, e3⟩ := h j z hz
  exact ⟨v, e1, e2.mp hg, e3⟩
end
/-- The caller's blocks behind the call. -/
def back (g : Nat → Nat) : List Nat → List (List Seg) → List (List Seg) → List (List Seg)
  | [], hs, h => h ++ hs.map (mpL g)
  | i :: q, c :: hs, h => back g q hs (h.set i (mpL g c))
  | _ :: _, [], h => h
theorem back_get (g : Nat → Nat) : ∀ (q : List Nat) (hs h : List (List Seg)), q.Nodup → (∀ i ∈ q, i < h.length) → q.length ≤ hs.length →
    (back g q hs h).length = h.length + (hs.length - q.length) ∧
    (∀ (k i : Nat), q[k]? = some i → (back g q hs h)[i]? = (hs[k]?).map (mpL g)) ∧
    (∀ (j : Nat), j < h.length → j ∉ q → (back g q hs h)[j]? = h[j]?) ∧
    (∀ (j : Nat), (back g q hs h)[h.length + j]? = (hs[q.length + j]?).map (mpL g))
  | [], hs, h, _, _, _ => ⟨by simp [back], fun k i e => by simp at e, fun j hj _ => by simp [back, List.getElem?_append_left hj], fun j => by simp only [back]; rw [List.getElem?_append_right (by omega), List.getElem?_map]; simp⟩
  | i :: q, c :: hs, h, hn, hq, hl => by
    obtain ⟨h1, h2⟩ := List.nodup_cons.1 hn
    obtain ⟨b1, b2, b3, b4⟩ := back_get g q hs (h.set i (mpL g c)) h2 (fun j hj => by simpa using hq j (by simp [hj])) (by simpa using hl)
    simp only [List.length_set] at b1 b3 b4
    refine ⟨by simp only [back, b1, List.length_cons]; omega, fun k j e => ?_, fun j hj hnj => ?_, fun j => ?_⟩
    · cases k with
      | zero =>
        simp at e
        subst e
        simp only [back, List.getElem?_cons_zero, Option.map_some]
        rw [b3 i (hq i (by simp)) h1]
        simp [hq i (by simp)]
      | succ k => simpa [back] using b2 k j (by simpa using e)
    · simp only [List.mem_cons, not_or] at hnj
      simp only [back]
      rw [b3 j hj hnj.2, List.getElem?_set_ne (Ne.symm hnj.1)]
    · simp only [back, b4, List.length_cons]
      congr 1
      rw [show q.length + 1 + j = (q.length + j) + 1 by omega]; rfl
  | _ :: _, [], _, _, _, hl => by simp at hl
theorem bk_get (N : Nat) : ∀ (q : List Nat) (k : Nat), (∀ i, q[k]? = some i → bk N q k = i) ∧ (q.length ≤ k → bk N q k = N + (k - q.length))
  | [], k => ⟨fun i e => by simp at e, fun _ => by simp [bk]⟩
  | x :: q, 0 => ⟨fun i e => by simp at e; simp [bk, e], fun h => by simp at h⟩
  | x :: q, k + 1 => ⟨fun i e => by simpa [bk] using (bk_get N q k).1 i (by simpa using e), fun h => by simp only [bk]; rw [(bk_get N q k).2 (by simpa using h)]; simp⟩
theorem HeapOk.back {C : Cx} {h hs : List (List Seg)} {r r' : Rho} {w w' : World} (ok : HeapOk C h r w) {q : List Nat} {n : Nat} (hnq : n ≤ q.length) (hn : (q.drop n).Nodup) (hq : ∀ i ∈ q, i < h.length) (hne : ∀ i ∈ q.drop n, getH h i ≠ []) (hwr : ∀ i ∈ q.drop n, C.ro ≤ i) {lv sf : Nat → Prop} (hsf : ∀ B, sf B → ∃ (i : Nat) (W : World) (ms : List Nat), h[i]? = some [.past W ms] ∧ B < W.heap.size ∧ B ∉ ms)
    (ok' : HeapOk ⟨C.P, C.T, w, ((rn q r).drop n).map (·.1), rn q r, n, lv, sf⟩ hs r' w') :
    let R := r ++ r'.drop q.length
    let g := bk h.length q
    HeapOk C (Sx.back g (q.drop n) (hs.drop n) h) R w' ∧ RLe r R ∧ (∀ (i : Nat) (x : Nat × Nat), r'[i]? = some x → R[g i]? = some x) ∧ (q.drop n = [] → Ext [] w w') ∧
    (∀ (k : Nat) (w1 : World) (ms : List Nat), hs[k]? = some [.past w1 ms] → Ext ms w1 w' ∧ (∀ B, B < w.heap.size → B < w1.heap.size → B ∉ ms → ∃ (i : Nat) (W : World) (ms : List Nat), h[i]? = some [.past W ms] ∧ B < W.heap.size ∧ B ∉ ms) ∧
      ∀ (j B f : Nat), C.ro ≤ j → R[j]? = some (B, f) → B < w1.heap.size → B ∈ ms) ∧
    (∀ (i : Nat) (W : World) (ms : List Nat), i ∉ q.drop n → h[i]? = some [.past W ms] → (Sx.back g (q.drop n) (hs.drop n) h)[i]? = some [.past W ms]) ∧
    (∀ (i : Nat) (W : World) (ms : List Nat), (Sx.back g (q.drop n) (hs.drop n) h)[i]? = some [.past W ms] → (h[i]? = some [.past W ms]) ∨ ∃ k : Nat, hs[k]? = some [.past W ms]) := by
  intro R g
  have hlen : r.length = h.length := ok.len
  have hlen' : r'.length = hs.length := ok'.len
  have hqr : ∀ i ∈ q, i < r.length := fun i hi => by rw [hlen]; exact hq i hi
  have hqs : ∀ i ∈ q.drop n, i ∈ q := fun i hi => List.mem_of_mem_drop hi
  have hpre : ∀ (k j : Nat), q[k]? = some j → r'[k]? = r[j]? := fun k j e => by
    have hj := hqr j (List.mem_of_getElem? e)
    have e1 := rn_get hqr e
    rw [List.getElem?_eq_getElem hj] at e1 ⊢
    exact ok'.agree k _ e1
  have hql : q.length ≤ r'.length := by
    rcases Nat.lt_or_ge r'.length q.length with hlt | h
    · have e1 := hpre r'.length q[r'.length] (List.getElem?_eq_getElem hlt)
      rw [List.getElem?_eq_none (Nat.le_refl _), List.getElem?_eq_getElem (hqr _ (List.getElem_mem _))] at e1
      cases e1
    · exact h
  obtain ⟨b1, b2, b3, b4⟩ := back_get g (q.drop n) (hs.drop n) h hn (fun i hi => hq i (hqs i hi)) (by simp only [List.length_drop]; omega)
  have hR1 : ∀ j, j < r.length → R[j]? = r[j]? := fun j hj => List.getElem?_append_left hj
  have hR2 : ∀ j, R[r.length + j]? = r'[q.length + j]? := fun j => by
    rw [List.getElem?_append_right (by omega), List.getElem?_drop]; congr 1; omega
  have hg : ∀ (i : Nat) (x : Nat × Nat), r'[i]? = some x → R[g i]? = some x := by
    intro i x e
    by_cases hi : i < q.length
    · have e1 := List.getElem?_eq_getElem hi
      rw [show g i = q[i] from (bk_get h.length q i).1 _ e1, hR1 _ (hqr _ (List.getElem_mem _)), ← hpre i _ e1]
      exact e
    · rw [show g i = h.length + (i - q.length) from (bk_get h.length q i).2 (by omega), ← hlen, hR2, show q.length + (i - q.length) = i by omega]
      exact e
  -- the callee's blocks that it may turn
  have hm' : ∀ B, B ∈ ((rn q r).drop n).map (·.1) → ∃ i, i ∈ q.drop n ∧ ∃ f, r[i]? = some (B, f) := by
    intro B hB
    obtain ⟨k, f, hk, e⟩ := mem_drop.1 hB
    cases hqk : q[k]? with
    | none => simp [rn, hqk] at e
    | some j =>
      rw [rn_get hqr hqk] at e
      exact ⟨j, List.mem_of_getElem? (i := k - n) (by rw [List.getElem?_drop, show n + (k - n) = k by omega]; exact hqk), f, e⟩
  have hext : Ext C.m C.w0 w' := ok.ext.trans2 ok'.ext (fun B hB => by
    obtain ⟨i, hi, f, e⟩ := hm' B hB
    exact ok.own i B f (hwr i hi) e)
  -- a block of the new list: an old one that was not handed over, or one of the callee's
  have cases_ : ∀ (j B f : Nat) (c : List Seg), (Sx.back g (q.drop n) (hs.drop n) h)[j]? = some c → R[j]? = some (B, f) → (j < h.length ∧ j ∉ q.drop n ∧ h[j]? = some c ∧ r[j]? = some (B, f)) ∨ (∃ k c', n ≤ k ∧ g k = j ∧ hs[k]? = some c' ∧ c = mpL g c' ∧ r'[k]? = some (B, f)) := by
    intro j B f c hc hr
    by_cases hj : j < h.length
    · by_cases hjq : j ∈ q.drop n
      · obtain ⟨k, hk, rfl⟩ := List.mem_iff_getElem.1 hjq
        have e1 := List.getElem?_eq_getElem hk
        rw [b2 k _ e1, Option.map_eq_some_iff] at hc
        obtain ⟨c', hc', rfl⟩ := hc
        rw [List.getElem?_drop] at hc' e1
        rw [hR1 _ (hqr _ (hqs _ hjq)), ← hpre (n + k) _ e1] at hr
        exact .inr ⟨n + k, c', by omega, (bk_get h.length q (n + k)).1 _ e1, hc', rfl, hr⟩
      · rw [b3 j hj hjq] at hc
        rw [hR1 j (by omega)] at hr
        exact .inl ⟨hj, hjq, hc, hr⟩
    · obtain ⟨d, rfl⟩ : ∃ d, j = h.length + d := ⟨j - h.length, by omega⟩
      rw [b4, Option.map_eq_some_iff] at hc
      obtain ⟨c', hc', rfl⟩ := hc
      rw [List.getElem?_drop, List.length_drop, show n + (q.length - n + d) = q.length + d by omega] at hc'
      rw [← hlen, hR2] at hr
      exact .inr ⟨q.length + d, c', by omega, by rw [show g (q.length + d) = h.length + (q.length + d - q.length) from (bk_get h.length q _).2 (by omega)]; omega, hc', rfl, hr⟩
  -- where the callee's blocks lie
  have where_ : ∀ (k B f : Nat), n ≤ k → r'[k]? = some (B, f) → (∃ i, i ∈ q.drop n ∧ ∃ f', r[i]? = some (B, f')) ∨ w.heap.size ≤ B := by
    intro k B f hk e
    rcases ok'.own k B f hk e with hm | hm
    · exact .inl (hm' B hm)
    · exact .inr hm
  have hhi : ∀ i ∈ q.drop n, h[i]? = some (getH h i) := fun i hi => by rw [getH_eq, List.getElem?_eq_getElem (hq i (hqs i hi))]; rfl
  -- an old block that was not handed over has nothing of the callee's
  have old : ∀ (j B f : Nat) (c : List Seg), j ∉ q.drop n → h[j]? = some c → r[j]? = some (B, f) → flat c ≠ [] → B ∉ ((rn q r).drop n).map (·.1) := by
    intro j B f c hjq hc hr hf hm
    obtain ⟨i, hi, f', e⟩ := hm' B hm
    exact hf (ok.sep (fun e => hjq (by rw [e]; exact hi)) (hwr i hi) hc (hhi i hi) hr e (hne i hi))
  have old2 : ∀ (j B f : Nat) (c : List Seg), C.ro ≤ j → j ∉ q.drop n → h[j]? = some c → r[j]? = some (B, f) → c = [] ∨ ((∀ i ∈ q.drop n, ∀ f', r[i]? ≠ some (B, f')) ∧ B < w.heap.size) := by
    intro j B f c ho hjq hc hr
    by_cases hex : ∃ i, i ∈ q.drop n ∧ ∃ f', r[i]? = some (B, f')
    · obtain ⟨i, hi, f', hf'⟩ := hex
      rcases ok.apart j i B f f' c _ (fun e => hjq (by rw [e]; exact hi)) ho (hwr i hi) hc (hhi i hi) hr hf' with h1 | h1
      · exact .inl h1
      · exact absurd h1 (hne i hi)
    · exact .inr ⟨fun i hi f' e => hex ⟨i, hi, f', e⟩, ok.lt j B f ho hr⟩
  have hrl := ok.rlen
  have hrl2 := ok.rol
  have two : ∀ j : Nat, j < r.length ∨ ∃ d, j = r.length + d := fun j => by
    rcases Nat.lt_or_ge j r.length with h | h
    · exact .inl h
    · exact .inr ⟨j - r.length, by omega⟩
  have pold : ∀ (i : Nat) (w1 : World) (ms : List Nat), h[i]? = some [.past w1 ms] → Ext ms w1 w' ∧ (∀ B, B < C.w0.heap.size → B < w1.heap.size → B ∉ ms → C.safe B) ∧ ∀ (j B f : Nat), C.ro ≤ j → R[j]? = some (B, f) → B < w1.heap.size → B ∈ ms := by
    intro i w1 ms hi
    obtain ⟨p1, p2, p3⟩ := ok.past i w1 ms hi
    refine ⟨p1.trans2 ok'.ext fun B hB => ?_, p2, fun j B f ho e hlt => ?_⟩
    · obtain ⟨i2, hi2, f, e⟩ := hm' B hB
      rcases Nat.lt_or_ge B w1.heap.size with hlt | hge
      · exact .inl (p3 i2 B f (hwr i2 hi2) e hlt)
      · exact .inr hge
    · rcases two j with hj | ⟨d, rfl⟩
      · rw [hR1 j hj] at e
        exact p3 j B f ho e hlt
      · rw [hR2] at e
        rcases where_ _ B f (by omega) e with ⟨i2, hi2, f', e2⟩ | hge
        · exact p3 i2 B f' (hwr i2 hi2) e2 hlt
        · have := p1.size
          omega
  have pnew : ∀ (k : Nat) (w1 : World) (ms : List Nat), hs[k]? = some [.past w1 ms] → Ext ms w1 w' ∧ (∀ B, B < w.heap.size → B < w1.heap.size → B ∉ ms → ∃ (i : Nat) (W : World) (ms : List Nat), h[i]? = some [.past W ms] ∧ B < W.heap.size ∧ B ∉ ms) ∧
      ∀ (j B f : Nat), C.ro ≤ j → R[j]? = some (B, f) → B < w1.heap.size → B ∈ ms := by
    intro k w1 ms hk
    obtain ⟨p1, p2, p3⟩ := ok'.past k w1 ms hk
    refine ⟨p1, fun B h1 h2 h3 => hsf B (p2 B h1 h2 h3), fun j B f ho e hlt => ?_⟩
    rcases two j with hj | ⟨d, rfl⟩
    · rw [hR1 j hj] at e
      apply Classical.byContradiction
      intro hn
      obtain ⟨i2, W, ms2, g1, g2, g3⟩ := hsf B (p2 B (ok.lt j B f ho e) hlt hn)
      exact g3 ((ok.past i2 W ms2 g1).2.2 j B f ho e g2)
    · rw [hR2] at e
      exact p3 _ B f (show n ≤ q.length + d by omega) e hlt
  have rows : ∀ (j : Nat) (c : List Seg), (Sx.back g (q.drop n) (hs.drop n) h)[j]? = some c → ∃ B f, R[j]? = some (B, f) := by
    intro j c e
    have hj : j < R.length := by
      have : j < (Sx.back g (q.drop n) (hs.drop n) h).length := by
        rcases Nat.lt_or_ge j (Sx.back g (q.drop n) (hs.drop n) h).length with h | h
        · exact h
        · rw [List.getElem?_eq_none h] at e; cases e
      rw [b1] at this
      simp only [R, List.length_append, List.length_drop, hlen, hlen'] at this ⊢
      omega
    exact ⟨R[j].1, R[j].2, List.getElem?_eq_getElem hj⟩
  have which : ∀ (i : Nat) (W : World) (ms : List Nat), (Sx.back g (q.drop n) (hs.drop n) h)[i]? = some [.past W ms] → (h[i]? = some [.past W ms]) ∨ ∃ k : Nat, hs[k]? = some [.past W ms] := by
    intro i W ms hi
    obtain ⟨B, f, hr⟩ := rows i _ hi
    rcases cases_ i B f _ hi hr with ⟨_, _, h3, _⟩ | ⟨k, c', _, _, h3, h4, _⟩
    · exact .inl h3
    · exact .inr ⟨k, by rw [h3, mpL_past h4]⟩
  refine ⟨⟨hext, fun i x e => ?_, ok.rol, ?_, fun j c B f hc hr => ?_, fun j B f ho hr => ?_, fun j B f ho hr => ?_, fun j B f ho hl hr => ?_, fun j c ho hl hc => ?_, fun i j B f f' c c' hij o1 o2 hi hj hri hrj => ?_, fun j m B f ho hc hr => ?_, fun i w1 ms hi => ?_⟩, fun i x e => ?_, hg, fun e => ?_, pnew, fun i W ms hn' hi => ?_, which⟩
  · have e1 := ok.agree i x e
    have hi : i < r.length := by
      rcases Nat.lt_or_ge i r.length with h | h
      · exact h
      · rw [List.getElem?_eq_none h] at e1; cases e1
    rw [hR1 i hi]; exact e1
  · rw [b1]; simp [R, hlen]; omega
  · rcases cases_ j B f c hc hr with ⟨h1, h2, h3, h4⟩ | ⟨k, c', hkn, hk, h3, rfl, h4⟩
    · refine ((ok.chunks j c B f h3 h4).mono ?_).extm ok'.ext (fun hl => old j B f c h2 h3 h4 hl)
      intro i x e
      have hi : i < r.length := by
        rcases Nat.lt_or_ge i r.length with h | h
        · exact h
        · rw [List.getElem?_eq_none h] at e; cases e
      rw [hR1 i hi]; exact e
    · intro d x e
      obtain ⟨v, e1, e2, e3⟩ := (ok'.chunks k c' B f h3 h4).mp hg d x e
      exact ⟨v, e1, e2, fun _ => e3 (le_ble hkn)⟩
  · have hj : j < r.length ∨ ∃ d, j = r.length + d := by
      rcases Nat.lt_or_ge j r.length with h | h
      · exact .inl h
      · exact .inr ⟨j - r.length, by omega⟩
    rcases hj with hj | ⟨d, rfl⟩
    · rw [hR1 j hj] at hr; exact Nat.lt_of_lt_of_le (ok.lt j B f ho hr) ok'.ext.size
    · rw [hR2] at hr; exact ok'.lt _ B f (show n ≤ q.length + d by omega) hr
  · have hj : j < r.length ∨ ∃ d, j = r.length + d := by
      rcases Nat.lt_or_ge j r.length with h | h
      · exact .inl h
      · exact .inr ⟨j - r.length, by omega⟩
    rcases hj with hj | ⟨d, rfl⟩
    · rw [hR1 j hj] at hr; exact ok.own j B f ho hr
    · rw [hR2] at hr
      rcases where_ _ B f (by omega) hr with ⟨i, hi, f', e⟩ | h
      · exact ok.own i B f' (hwr i hi) e
      · exact .inr (Nat.le_trans ok.ext.size h)
  · rw [hR1 j (by omega)] at hr
    exact ok.ros j B f ho hl hr
  · have hjq : j ∉ q.drop n := fun hc' => by have := hwr j hc'; omega
    rw [b3 j (by omega) hjq] at hc
    exact ok.dead j c ho hl hc
  · rcases cases_ i B f c hi hri with ⟨h1, h2, h3, h4⟩ | ⟨k, d, hkn, hk, h3, rfl, h4⟩ <;> rcases cases_ j B f' c' hj hrj with ⟨g1, g2, g3, g4⟩ | ⟨l, d', hln, hl, g3, rfl, g4⟩
    · exact ok.apart i j B f f' c c' hij o1 o2 h3 g3 h4 g4
    · rcases old2 i B f c o1 h2 h3 h4 with h5 | ⟨h5, h6⟩
      · exact .inl h5
      · rcases where_ _ B f' hln g4 with ⟨i', hi', f'', e⟩ | h
        · exact absurd e (h5 i' hi' f'')
        · omega
    · rcases old2 j B f' c' o2 g2 g3 g4 with h5 | ⟨h5, h6⟩
      · exact .inr h5
      · rcases where_ _ B f hkn h4 with ⟨i', hi', f'', e⟩ | h
        · exact absurd e (h5 i' hi' f'')
        · omega
    · rcases ok'.apart k l B f f' d d' (fun e => hij (by rw [← hk, ← hl, e])) hkn hln h3 g3 h4 g4 with h | h
      · left; rw [h]; rfl
      · right; rw [h]; rfl
  · rcases cases_ j B f _ hc hr with ⟨h1, h2, h3, h4⟩ | ⟨k, c', hkn, hk, h3, h4, h5⟩
    · refine (ok.maps j m B f ho h3 h4).block (ok'.ext.block B (ok.lt j B f ho h4) fun hB => ?_)
      rcases old2 j B f _ ho h2 h3 h4 with h5 | ⟨h5, _⟩
      · cases h5
      · obtain ⟨i2, hi2, f2, e2⟩ := hm' B hB
        exact h5 i2 hi2 f2 e2
    · exact ok'.maps k m B f hkn (by rw [h3, mpL_obj h4]) h5
  · rcases which i w1 ms hi with h1 | ⟨k, h1⟩
    · exact pold i w1 ms h1
    · obtain ⟨p1, p2, p3⟩ := pnew k w1 ms h1
      refine ⟨p1, fun B h2 h3 h4 => ?_, p3⟩
      obtain ⟨i2, W, ms2, g1, g2, g3⟩ := p2 B (Nat.lt_of_lt_of_le h2 ok.ext.size) h3 h4
      exact (ok.past i2 W ms2 g1).2.1 B h2 g2 g3
  · have hi : i < r.length := by
      rcases Nat.lt_or_ge i r.length with h | h
      · exact h
      · rw [List.getElem?_eq_none h] at e; cases e
    rw [hR1 i hi]; exact e
  · refine ok'.ext.mono fun B hB => ?_
    obtain ⟨i, hi, _⟩ := hm' B hB
    rw [e] at hi
    cases hi
  · have hil : i < h.length := by
      rcases Nat.lt_or_ge i h.length with h1 | h1
      · exact h1
      · rw [List.getElem?_eq_none h1] at hi; cases hi
    rw [b3 i hil hn']; exact hi

/-! Calls. -/
/-- The blocks l, where they are, aren't among q. -/
def apartB (h : List (List Seg)) (q : List Nat) : List Nat → Bool
  | [] => true
  | i :: l => (match Nat.blt i h.length with
    | true => !(memB i q) && (match getH h i with
      | [] => false
      | _ => true)
    | false => true) && apartB h q l
def keepB (k : Keep) (q : List Nat) (h : List (List Seg)) : Bool := match k with
  | .free => true
  | .all => q.isEmpty
  | .only l => apartB h q l
def allNe (h : List (List Seg)) : List Nat → Bool
  | [] => true
  | i :: q => match stirs (getH h i) with
    | false => false
    | true => allNe h q
theorem allNe_spec {h : List (List Seg)} : ∀ {q : List Nat}, allNe h q = true → ∀ i ∈ q, stirs (getH h i) = true
  | [], _, i, hi => by cases hi
  | x :: q, hh, i, hi => by
    simp only [allNe] at hh
    split at hh
    · cases hh
    · rename_i hne
      cases hi with
      | head => exact hne
      | tail _ hi => exact allNe_spec hh i hi
theorem stirs_ne {l : List Seg} (h : stirs l = true) : l ≠ [] := fun e => by subst e; cases h
/-- How long a list is, as a number written out. -/
def lenK {α : Type} : List α → Nat → (Nat → Prop) → Prop
  | [], n, k => frcN n k
  | _ :: r, n, k => lenK r (n + 1) k
theorem lenK_eq {α : Type} : ∀ (l : List α) (n : Nat) (k : Nat → Prop), lenK l n k = k (n + l.length)
  | [], n, k => frcN_eq n k
  | _ :: r, n, k => by rw [lenK, lenK_eq r]; simp only [List.length_cons]; congr 1; omega
/-- The caller's blocks behind the call, laid bare. -/
def mapK (g : Nat → Nat) : List (List Seg) → (List (List Seg) → Prop) → Prop
  | [], k => k []
  | x :: r, k => mapK g r fun l => k (mpL g x :: l)
theorem mapK_eq (g : Nat → Nat) : ∀ (l : List (List Seg)) (k : List (List Seg) → Prop), mapK g l k = k (l.map (mpL g))
  | [], _ => rfl
  | x :: r, k => by rw [mapK, mapK_eq g r]; rfl
def appK (g : Nat → Nat) (ys : List (List Seg)) : List (List Seg) → (List (List Seg) → Prop) → Prop
  | [], k => mapK g ys k
  | x :: r, k => appK g ys r fun l => k (x :: l)
theorem appK_eq (g : Nat → Nat) (ys : List (List Seg)) : ∀ (l : List (List Seg)) (k : List (List Seg) → Prop), appK g ys l k = k (l ++ ys.map (mpL g))
  | [], k => mapK_eq g ys k
  | x :: r, k => by rw [appK, appK_eq g ys r]; rfl
def backK (g : Nat → Nat) : List Nat → List (List Seg) → List (List Seg) → (List (List Seg) → Prop) → Prop
  | [], hs, h, k => appK g hs h k
  | i :: q, c :: hs, h, k => setH h i (mpL g c) fun h => backK g q hs h k
  | _ :: _, [], h, k => k h
theorem backK_eq (g : Nat → Nat) : ∀ (q : List Nat) (hs h : List (List Seg)) (k : List (List Seg) → Prop), backK g q hs h k = k (back g q hs h)
  | [], hs, h, k => appK_eq g hs h k
  | i :: q, c :: hs, h, k => by rw [backK, setH_eq, backK_eq g q]; rfl
  | _ :: _, [], _, _ => rfl
section
variable {C : Cx}
theorem apartB_spec {h : List (List Seg)} {q : List Nat} : ∀ {l : List Nat}, apartB h q l = true → ∀ i ∈ l, i < h.length → i ∉ q ∧ getH h i ≠ []
  | [], _, i, hi, _ => by cases hi
  | x :: l, hh, i, hi, hl => by
    simp only [apartB, Bool.and_eq_true] at hh
    cases hi with
    | tail _ hi => exact apartB_spec hh.2 i hi hl
    | head =>
      have h1 := hh.1
      split at h1
      · simp only [Bool.and_eq_true, Bool.not_eq_true'] at h1
        refine ⟨fun hc => ?_, fun e => ?_⟩
        · rw [memB_iff.2 hc] at h1
          exact absurd h1.1 (by simp)
        · rw [e] at h1
          exact absurd h1.2 (by simp)
      · rename_i hb
        have : Nat.blt x h.length = true := Nat.ble_eq_true_of_le hl
        rw [this] at hb
        cases hb
theorem frm_back {k : Keep} {h hs : List (List Seg)} {q : List Nat} {n : Nat} {r r' : Rho} {w w' : World} {lv sf : Nat → Prop} {h' : List (List Seg)} (hqr : ∀ i ∈ q, i < r.length) (hl : ∀ i ∈ q, i < h.length) (hst : ∀ i ∈ q.drop n, stirs (getH h i) = true) (hwr : ∀ i ∈ q.drop n, C.ro ≤ i) (h4 : keepB k (q.drop n) h = true) (ok : HeapOk C h r w)
    (hok : HeapOk ⟨C.P, C.T, w, ((rn q r).drop n).map (·.1), rn q r, n, lv, sf⟩ hs r' w') (hnq : n ≤ q.length) (o4 : q.drop n = [] → Ext [] w w') (ok2 : HeapOk C h' (r ++ r'.drop q.length) w')
    (o5 : ∀ (k : Nat) (w1 : World) (ms : List Nat), hs[k]? = some [.past w1 ms] → Ext ms w1 w' ∧ (∀ B, B < w.heap.size → B < w1.heap.size → B ∉ ms → ∃ (i : Nat) (W : World) (ms : List Nat), h[i]? = some [.past W ms] ∧ B < W.heap.size ∧ B ∉ ms) ∧
      ∀ (j B f : Nat), C.ro ≤ j → (r ++ r'.drop q.length)[j]? = some (B, f) → B < w1.heap.size → B ∈ ms)
    (hkp : k.binds = true → Keeps h h')
    (o7 : ∀ (i : Nat) (W : World) (ms : List Nat), h'[i]? = some [.past W ms] → (h[i]? = some [.past W ms]) ∨ ∃ k : Nat, hs[k]? = some [.past W ms]) : Frm C k h r w h' (r ++ r'.drop q.length) w' := by
  have hne : ∀ i ∈ q.drop n, getH h i ≠ [] := fun i hi => stirs_ne (hst i hi)
  have hqs : ∀ i ∈ q.drop n, i ∈ q := fun i hi => List.mem_of_mem_drop hi
  have hsub : ∀ B, B ∈ ((rn q r).drop n).map (·.1) → ∃ i, i ∈ q.drop n ∧ ∃ f, r[i]? = some (B, f) := by
    intro B hB
    obtain ⟨k, f, hk, e⟩ := mem_drop.1 hB
    cases hqk : q[k]? with
    | none => simp [rn, hqk] at e
    | some j =>
      rw [rn_get hqr hqk] at e
      exact ⟨j, List.mem_of_getElem? (i := k - n) (by rw [List.getElem?_drop, show n + (k - n) = k by omega]; exact hqk), f, e⟩
  have hmem : ∀ B, B ∈ ((rn q r).drop n).map (·.1) → B ∈ (r.drop C.ro).map (·.1) := fun B hB => by
    obtain ⟨i, hi, f, e⟩ := hsub B hB
    exact mem_drop.2 ⟨i, f, hwr i hi, e⟩
  refine ⟨hok.ext.mono fun i hi => .inl (hmem i hi), fun i B f ho e => ?_, ?_, hkp, fun i W ms hi B h1 h2 h3 => ?_⟩
  · rw [List.getElem?_append] at e
    split at e
    · exact .inl (mem_drop.2 ⟨i, f, ho, e⟩)
    · rw [List.getElem?_drop] at e
      rcases hok.own _ B f (show n ≤ q.length + (i - r.length) by omega) e with h | h
      · exact .inl (hmem B h)
      · exact .inr h
  · cases k with
    | free => trivial
    | all => exact o4 (by simpa [keepB] using h4)
    | only l =>
      refine ⟨?_, fun i hi ho B f hr hB => hok.ext.block B hB fun hc => ?_, fun i W ms hi => let ⟨_, _, e2, hl⟩ := hkp rfl i W ms hi; hl.ext (ok2.past i _ _ e2).1⟩
      · exact ok.ext.trans2 hok.ext fun B hB => by
          obtain ⟨i, hi, f, e⟩ := hsub B hB
          exact ok.own i B f (hwr i hi) e
      · obtain ⟨j, hjq, f', e2⟩ := hsub B hc
        have hil : i < h.length := by
          rw [← ok.len]
          rcases Nat.lt_or_ge i r.length with h | h
          · exact h
          · rw [List.getElem?_eq_none h] at hr; cases hr
        obtain ⟨a1, a2⟩ := apartB_spec h4 i hi hil
        have hij : i ≠ j := fun e => by subst e; exact a1 hjq
        have ch : ∀ z, z < h.length → h[z]? = some (getH h z) := fun z hz => by rw [getH_eq, List.getElem?_eq_getElem hz]; rfl
        rcases ok.apart i j B f f' _ _ hij ho (hwr j hjq) (ch i hil) (ch j (hl j (hqs j hjq))) hr e2 with h | h
        · exact a2 h
        · exact hne j hjq h
  · rcases o7 i W ms hi with h5 | ⟨d, h5⟩
    · exact ⟨i, W, ms, h5, h2, h3⟩
    · exact (o5 d W ms h5).2.1 B h1 h2 h3
def allGe (n : Nat) : List Nat → Bool
  | [] => true
  | x :: r => match Nat.ble n x with
    | true => allGe n r
    | false => false
theorem allGe_spec {n : Nat} : ∀ {l : List Nat}, allGe n l = true → ∀ i ∈ l, n ≤ i
  | [], _, i, hi => by cases hi
  | x :: l, h, i, hi => by
    simp only [allGe] at h
    split at h
    · rename_i hb
      cases hi with
      | head => exact ble_le hb
      | tail _ hi => exact allGe_spec h i hi
    · cases h
def disj (a : List Nat) : List Nat → Bool
  | [] => true
  | x :: r => match memB x a with
    | true => false
    | false => disj a r
theorem disj_spec {a : List Nat} : ∀ {l : List Nat}, disj a l = true → ∀ i ∈ l, i ∉ a
  | [], _, i, hi => by cases hi
  | x :: l, h, i, hi => by
    simp only [disj] at h
    split at h
    · cases h
    · rename_i hb
      cases hi with
      | head => exact fun hc => by rw [memB_iff.2 hc] at hb; cases hb
      | tail _ hi => exact disj_spec h i hi
/-- Whether blocks may be handed over: the first n to be read, the others to be turned. -/
def qOk (ro n : Nat) (qt : Keep) (q : List Nat) (h : List (List Seg)) : Bool :=
  Nat.ble n q.length && nodup (q.drop n) && allLt q h.length && allNe h (q.drop n) && allGe ro (q.drop n) && disj (q.take n) (q.drop n) && keepB qt (q.drop n) h
/-- What the callee finds. -/
theorem call_ok0 {qt : Keep} {h : List (List Seg)} {n : Nat} {h0 : List (List Seg)} {q : List Nat} (hq : qOk C.ro n qt q h = true) (hE : entH q h q h0 True) {r : Rho} {w : World} (ok : HeapOk C h r w) :
    HeapOk (cx0 C.P C.T w (rn q r) n h0) h0 (rn q r) w ∧ ∀ (i : Nat) (W : World) (ms : List Nat), h0[i]? = some [.past W ms] → ∃ j, q[i]? = some j ∧ h[j]? = some [.past W ms] := by
  simp only [qOk, Bool.and_eq_true] at hq
  obtain ⟨⟨⟨⟨⟨⟨h0', h1⟩, h2⟩, h3⟩, h5⟩, h6⟩, h4⟩ := hq
  have hnq := ble_le h0'
  have hn := nodup_spec h1
  have hl := allLt_spec h2
  have hst := allNe_spec h3
  have hne : ∀ i ∈ q.drop n, getH h i ≠ [] := fun i hi => stirs_ne (hst i hi)
  have hwr := allGe_spec h5
  have hdj := disj_spec h6
  have hlen := ok.len
  have hqs : ∀ i ∈ q.drop n, i ∈ q := fun i hi => List.mem_of_mem_drop hi
  have hqr : ∀ i ∈ q, i < r.length := fun i hi => by rw [hlen]; exact hl i hi
  obtain ⟨_, e7, e8⟩ := entH_spec hqr h hE
  have look : ∀ (i B f : Nat), (rn q r)[i]? = some (B, f) → ∃ j, q[i]? = some j ∧ r[j]? = some (B, f) := by
    intro i B f e
    cases hi : q[i]? with
    | none => simp [rn, hi] at e
    | some j => exact ⟨j, rfl, by rw [← rn_get hqr hi]; exact e⟩
  have hdrop : ∀ (i j : Nat), n ≤ i → q[i]? = some j → j ∈ q.drop n := fun i j hi e =>
    List.mem_of_getElem? (i := i - n) (by rw [List.getElem?_drop, show n + (i - n) = i by omega]; exact e)
  have chunk : ∀ j, j < h.length → h[j]? = some (getH h j) := fun j hj => by rw [getH_eq, List.getElem?_eq_getElem hj]; rfl
  have cells : ∀ (i B f : Nat) (ch : List Seg), h0[i]? = some ch → (rn q r)[i]? = some (B, f) → At (Nat.ble n i) (rn q r) w B f (flat ch) := by
    intro i B f ch hi hr j y e
    obtain ⟨j', hq', hr'⟩ := look i B f hr
    obtain ⟨_, h9⟩ := e8 i ch j' hi hq'
    obtain ⟨x, hx, hv⟩ := h9 j y e
    obtain ⟨v, e1, e2, e3⟩ := ok.chunk hr' j x hx
    exact ⟨v, e1, hv v e2, fun hb => e3 (le_ble (hwr j' (hdrop i j' (ble_le hb) hq')))⟩
  have pastUp : ∀ (i : Nat) (W : World) (ms : List Nat), h0[i]? = some [.past W ms] → ∃ j, q[i]? = some j ∧ h[j]? = some [.past W ms] := by
    intro i W ms hi
    have hil : i < q.length := by
      rw [e7]
      rcases Nat.lt_or_ge i h0.length with h1 | h1
      · exact h1
      · rw [List.getElem?_eq_none h1] at hi; cases hi
    have hqi := List.getElem?_eq_getElem hil
    refine ⟨_, hqi, ?_⟩
    have hk := (e8 i _ _ hi hqi).1.2.2 W ms rfl
    rw [chunk _ (hl _ (List.getElem_mem _)), hk]
  refine ⟨?_, pastUp⟩
  · refine ⟨Ext.refl _ _, RLe.refl _, by simpa [rn] using hnq, by simp [rn, e7], fun i ch B f hi hr => cells i B f ch hi hr, fun i B f ho hr => ?_, fun i B f ho hr => .inl (mem_drop.2 ⟨i, f, ho, hr⟩), fun i B f ho hlv hr => ?_, fun i ch ho hlv hi => ?_, fun i j B f f' ch ch' hij o1 o2 hi hj hri hrj => ?_, fun i m B f ho hi hr => ?_, fun i W ms hi => ?_⟩
    · obtain ⟨j', hq', hr'⟩ := look i B f hr
      exact ok.lt j' B f (hwr j' (hdrop i j' ho hq')) hr'
    · have hi0 : i < h0.length := by
        rw [← e7]
        obtain ⟨j', hq', _⟩ := look i B f hr
        rcases Nat.lt_or_ge i q.length with h | h
        · exact h
        · rw [List.getElem?_eq_none h] at hq'; cases hq'
      have hch : h0[i]? = some (getH h0 i) := by rw [getH_eq, List.getElem?_eq_getElem hi0]; rfl
      have hAt := cells i B f _ hch hr
      refine ⟨fun hc => ?_, hAt.lt hlv⟩
      obtain ⟨j', hq', hr'⟩ := look i B f hr
      obtain ⟨i2, f2, hi2, e2⟩ := mem_drop.1 hc
      obtain ⟨j2, hq2, hr2⟩ := look i2 B f2 e2
      have hj2 := hdrop i2 j2 hi2 hq2
      have hjt : j' ∈ q.take n := List.mem_of_getElem? (i := i) (by rw [List.getElem?_take, if_pos ho]; exact hq')
      have hne2 : j' ≠ j2 := fun e => hdj j2 hj2 (e ▸ hjt)
      have hfl := ok.sep hne2 (hwr j2 hj2) (chunk j' (hl j' (List.mem_of_getElem? hq'))) (chunk j2 (hl j2 (hqs j2 hj2))) hr' hr2 (hne j2 hj2)
      obtain ⟨_, h9⟩ := e8 i _ j' hch hq'
      cases e : flat (getH h0 i) with
      | nil => exact hlv e
      | cons y l =>
        obtain ⟨x, hx, _⟩ := h9 0 y (by rw [e]; rfl)
        rw [hfl] at hx
        cases hx
    · have : getH h0 i = ch := by rw [getH_eq, hi]; rfl
      rw [← this]
      exact Classical.byContradiction hlv
    · have o1 : n ≤ i := o1
      have o2 : n ≤ j := o2
      obtain ⟨i', hqi, hri'⟩ := look i B f hri
      obtain ⟨j', hqj, hrj'⟩ := look j B f' hrj
      have m1 := hdrop i i' o1 hqi
      have m2 := hdrop j j' o2 hqj
      have hne' : i' ≠ j' := by
        intro e
        subst e
        have g1 : (q.drop n)[i - n]? = some i' := by rw [List.getElem?_drop, show n + (i - n) = i by omega]; exact hqi
        have g2 : (q.drop n)[j - n]? = some i' := by rw [List.getElem?_drop, show n + (j - n) = j by omega]; exact hqj
        have hi1 : i - n < (q.drop n).length := by
          rcases Nat.lt_or_ge (i - n) (q.drop n).length with h | h
          · exact h
          · rw [List.getElem?_eq_none h] at g1; cases g1
        have := (List.getElem?_inj hi1 hn).1 (g1.trans g2.symm)
        omega
      have l1 := hl i' (hqs i' m1)
      have l2 := hl j' (hqs j' m2)
      rcases ok.apart i' j' B f f' _ _ hne' (hwr i' m1) (hwr j' m2) (chunk i' l1) (chunk j' l2) hri' hrj' with h | h
      · exact .inl ((e8 i ch i' hi hqi).1.1 h)
      · exact .inr ((e8 j ch' j' hj hqj).1.1 h)
    · obtain ⟨j', hq', hr'⟩ := look i B f hr
      have m1 := hdrop i j' ho hq'
      refine ok.maps j' m B f (hwr j' m1) ?_ hr'
      have hk := (e8 i _ _ hi hq').1.2.1 m rfl
      rw [← hk]
      exact chunk _ (hl _ (hqs j' m1))
    · obtain ⟨j', hq', hj'⟩ := pastUp i W ms hi
      obtain ⟨p1, _, p3⟩ := ok.past j' W ms hj'
      refine ⟨p1, fun B _ h2 h3 => ⟨i, W, ms, hi, h2, h3⟩, fun j B f ho hr hlt => ?_⟩
      obtain ⟨j2, hq2, hr2⟩ := look j B f hr
      exact p3 j2 B f (hwr j2 (hdrop j j2 ho hq2)) hr2 hlt
/-- A call by what the callee keeps to; q: what the callee's blocks are called here. -/
theorem call_fn {qt : Keep} {f : FuncId} {args args0 : List SA} {t : List SV} {h : List (List Seg)} {k : SV → List (List Seg) → Prop} {n : Nat} {h0 : List (List Seg)} {raw : World → Prop} {Res : SV → List (List Seg) → Prop}
    (hfn : FnR C.P C.T f n h0 args0 raw Res) (q : List Nat) (hq : qOk C.ro n qt q h = true)
    (hE : entH q h q h0 True) (hA : ∀ r w vs, HeapOk C h r w → IsAs r args vs → IsAs (rn q r) args0 vs) (hraw : ∀ r w, HeapOk C h r w → raw w)
    (hk : ∀ x hs, Res x hs → lenK h 0 fun N => backK (bk N q) (q.drop n) (hs.drop n) h fun h' => k (x.mp (bk N q)) h') : CallVC C qt f #[] args #[] t h k := by
  intro r a w vs ok ha
  obtain ⟨ok0, pastUp⟩ := call_ok0 hq hE ok.heap
  simp only [qOk, Bool.and_eq_true] at hq
  obtain ⟨⟨⟨⟨⟨⟨h0', h1⟩, h2⟩, h3⟩, h5⟩, h6⟩, h4⟩ := hq
  have hnq := ble_le h0'
  have hn := nodup_spec h1
  have hl := allLt_spec h2
  have hst := allNe_spec h3
  have hne : ∀ i ∈ q.drop n, getH h i ≠ [] := fun i hi => stirs_ne (hst i hi)
  have hwr := allGe_spec h5
  have hlen := ok.heap.len
  have hqr : ∀ i ∈ q, i < r.length := fun i hi => by rw [hlen]; exact hl i hi
  have hcall := hfn w (rn q r) vs ok0 (hA r w vs ok.heap ha) (hraw r w ok.heap)
  have hargs : (#[] : Array Value) ++ vs.toArray ++ #[] = vs.toArray := by simp
  rw [hargs]
  refine hcall.mono ?_
  rintro e w' ⟨v, x, hs, r', rfl, hx, hok, hres⟩
  obtain ⟨o1, o2, o3, o4, o5, o6, o7⟩ := ok.heap.back hnq hn hl hne hwr (fun B ⟨i, W, ms, h1, h2, h3⟩ => by
    obtain ⟨j', _, hj'⟩ := pastUp i W ms h1
    exact ⟨j', W, ms, hj', h2, h3⟩) hok
  have hk' := hk x hs hres
  rw [lenK_eq, Nat.zero_add, backK_eq] at hk'
  exact ⟨v, _, _, _, rfl, hx.mp o3, o2, o1, frm_back hqr hl hst hwr h4 ok.heap hok hnq o4 o1 o5 (fun _ => .of fun i W ms hi => o6 i W ms (fun hc => by
    have := hst i hc
    rw [getH_eq, hi] at this
    cases this) hi) o7, hk'⟩
/-- Arguments that are the same there. -/
def eqAs (q : List Nat) : List SA → List SA → Prop
  | [], [] => True
  | x :: r, y :: r' => eqA q x y (eqAs q r r')
  | _, _ => False
theorem eqAs_spec {q : List Nat} {r : Rho} (hq : ∀ i ∈ q, i < r.length) : ∀ {l l' : List SA} {vs : List Value}, eqAs q l l' → IsAs r l vs → IsAs (rn q r) l' vs
  | [], [], vs, _, h => ⟨h.1, fun j x e => by simp at e⟩
  | x :: l, y :: l', vs, h, hv => by
    obtain ⟨h, h1⟩ := eqA_spec hq (show eqA q x y (eqAs q l l') from h)
    cases vs with
    | nil => have := hv.1; simp at this
    | cons v vs =>
      have ht := eqAs_spec (vs := vs) hq h ⟨by simpa using hv.1, fun j z e => hv.2 (j + 1) z e⟩
      refine ⟨by simpa using ht.1, fun j z e => ?_⟩
      cases j with
      | zero =>
        simp at e
        subst e
        obtain ⟨u, e1, e2⟩ := hv.2 0 x rfl
        exact ⟨u, e1, h1 u e2⟩
      | succ j => exact ht.2 j z e
  | [], _ :: _, _, h, _ => h.elim
  | _ :: _, [], _, h, _ => h.elim
theorem call_same {qt : Keep} {f : FuncId} {args args0 : List SA} {t : List SV} {h : List (List Seg)} {k : SV → List (List Seg) → Prop} {n : Nat} {h0 : List (List Seg)} {raw : World → Prop} {Res : SV → List (List Seg) → Prop}
    (hfn : FnR C.P C.T f n h0 args0 raw Res) (q : List Nat) (hq : qOk C.ro n qt q h = true)
    (hA : eqAs q args args0) (hE : entH q h q h0 True) (hraw : ∀ w, Ext C.m C.w0 w → raw w)
    (hk : ∀ x hs, Res x hs → lenK h 0 fun N => backK (bk N q) (q.drop n) (hs.drop n) h fun h' => k (x.mp (bk N q)) h') : CallVC C qt f #[] args #[] t h k := by
  refine call_fn hfn q hq hE (fun r w vs ok hv => eqAs_spec (fun i hi => ?_) hA hv) (fun r w ok => hraw w ok.ext) hk
  simp only [qOk, Bool.and_eq_true] at hq
  rw [ok.len]
  exact allLt_spec hq.1.1.1.1.2 i hi
/-- What is returned where a function is called from outside. -/
theorem Fn.calls {P : Program} {T : List (Nat × TD)} {f : FuncId} {args : List SA} {raw : World → Prop} {Res : SV → List (List Seg) → Prop} (h : FnR P T f 0 [] args raw Res) {w : World} {vs : List Value} (ha : IsAs [] args vs) (hr : raw w) :
    Calls P f vs.toArray w fun e w' => ∃ v x hs r', e = .returned v ∧ SV.Is r' x v ∧ HeapOk (cx0 P T w [] 0 []) hs r' w' ∧ Res x hs :=
  h w [] vs ⟨Ext.refl _ _, RLe.refl _, Nat.le_refl _, rfl, fun i ch B f hi => by simp at hi, fun i B f _ hr => by simp at hr, fun i B f _ hr => by simp at hr, fun i B f _ _ hr => by simp at hr, fun i ch _ _ hi => by simp at hi, fun i j B f f' ch ch' _ _ _ hi => by simp at hi, fun i m B f _ hi => by simp at hi, fun i W ms hi => by simp at hi⟩ ha hr
end
end Sx
end Go.Proofs.Ytdakmieapdpidaa
end

section
/-
  Calls of functions that may hand back fewer blocks than is said: what is not there is dead. Over any program. No condition of its own.
-/
namespace Go.Proofs.Ytdakmieapdpidaa
set_option linter.unusedVariables false
namespace Sx
open Go.RowKit

/-- hs' is hs with dead blocks behind it. -/
def PadTo (hs hs' : List (List Seg)) : Prop := ∃ p, hs' = hs ++ List.replicate p []
theorem PadTo.refl (hs : List (List Seg)) : PadTo hs hs := ⟨0, by simp⟩
section
variable {C : Cx}
end
end Sx
end Go.Proofs.Ytdakmieapdpidaa
end

section
/-
  Data that nobody turns any more: calls that leave a later past, results that are given up, named blocks that are lent. Over any program. No condition of its own.
-/
namespace Go.Proofs.Ytdakmieapdpidaa
set_option linter.unusedVariables false
namespace Sx
open Go.RowKit

/-! Names given up: what they stand for. -/
def SC.rz (F : Nat → Bool) (α : Nat → Addr) : SC → SC
  | .p i b o => match F i with | true => .ptr (some ((α i).add (b + o))) | false => .p i b o
  | .sl i b o n c => match F i with | true => .slc (some ((α i).add (b + o))) n c | false => .sl i b o n c
  | .sn z i b o n c => match F i with | true => .any | false => .sn z i b o n c
  | .clo f i b o => match F i with | true => .any | false => .clo f i b o
  | .cap f i b o => match F i with | true => .any | false => .cap f i b o
  | .cap2 f i b o j c d => match F i with | true => .any | false => match F j with | true => .any | false => .cap2 f i b o j c d
  | .mh i => match F i with | true => .any | false => .mh i
  | x => x
def SC.raw : SC → SC
  | .p .. => .any
  | .sl .. => .any
  | .sn .. => .any
  | .clo .. => .any
  | .cap .. => .any
  | .cap2 .. => .any
  | .mh _ => .any
  | x => x
def Seg.rz (F : Nat → Bool) (α : Nat → Addr) : Seg → Seg
  | .one x => .one (x.rz F α)
  | .row n f => .row n (fun j => (f j).rz F α)
  | .obj m => .obj m
  | .past w ms => .past w ms
def rzL (F : Nat → Bool) (α : Nat → Addr) : List Seg → List Seg
  | [] => []
  | x :: r => x.rz F α :: rzL F α r
def SA.rz (F : Nat → Bool) (α : Nat → Addr) : SA → SA
  | .c x => .c (x.rz F α)
  | .agg l => .agg (rzL F α l)
def rzA (F : Nat → Bool) (α : Nat → Addr) : List SA → List SA
  | [] => []
  | x :: r => x.rz F α :: rzA F α r
def SV.rz (F : Nat → Bool) (α : Nat → Addr) : SV → SV
  | .any => .any
  | .a x => .a (x.rz F α)
  | .tup l => .tup (rzA F α l)
def rzH (F : Nat → Bool) (α : Nat → Addr) : List (List Seg) → List (List Seg)
  | [] => []
  | x :: r => rzL F α x :: rzH F α r
theorem flat_rz (F : Nat → Bool) (α : Nat → Addr) : ∀ l : List Seg, flat (rzL F α l) = (flat l).map (SC.rz F α)
  | [] => rfl
  | .one x :: r => by simp [rzL, Seg.rz, flat, flat_rz F α r]
  | .row n f :: r => by simp [rzL, Seg.rz, flat, flat_rz F α r, Function.comp_def]
  | .obj _ :: r => by simp [rzL, Seg.rz, flat, flat_rz F α r]
  | .past _ _ :: r => by simp [rzL, Seg.rz, flat, flat_rz F α r]
theorem rzH_eq (F : Nat → Bool) (α : Nat → Addr) : ∀ h : List (List Seg), rzH F α h = h.map (rzL F α)
  | [] => rfl
  | x :: r => by rw [rzH, rzH_eq F α r]; rfl
theorem rzA_eq (F : Nat → Bool) (α : Nat → Addr) : ∀ h : List SA, rzA F α h = h.map (SA.rz F α)
  | [] => rfl
  | x :: r => by rw [rzA, rzA_eq F α r]; rfl
theorem rzL_nil {F : Nat → Bool} {α : Nat → Addr} {l : List Seg} : rzL F α l = [] ↔ l = [] := by cases l <;> simp [rzL]
theorem rzL_obj {F : Nat → Bool} {α : Nat → Addr} {l : List Seg} {m : MapD} (h : rzL F α l = [.obj m]) : l = [.obj m] := by
  cases l with
  | nil => cases h
  | cons x r =>
    simp only [rzL, List.cons.injEq] at h
    have hr : r = [] := rzL_nil.1 h.2
    subst hr
    cases x <;> simp [Seg.rz] at h
    obtain ⟨rfl, _⟩ := h; rfl
theorem rzL_past {F : Nat → Bool} {α : Nat → Addr} {l : List Seg} {W : World} {ms : List Nat} (h : rzL F α l = [.past W ms]) : l = [.past W ms] := by
  cases l with
  | nil => cases h
  | cons x r =>
    simp only [rzL, List.cons.injEq] at h
    have hr : r = [] := rzL_nil.1 h.2
    subst hr
    cases x <;> simp [Seg.rz] at h
    obtain ⟨⟨rfl, rfl⟩, _⟩ := h; rfl
/-- Where the names of F lie. -/
def Lies (F : Nat → Bool) (α : Nat → Addr) (r : Rho) : Prop := ∀ (i B f : Nat), F i = true → r[i]? = some (B, f) → α i = ⟨B, f, none⟩
section
variable {F : Nat → Bool} {α : Nat → Addr} {r : Rho}
theorem SC.Is.rz (hα : Lies F α r) {x : SC} {v : Value} (h : x.Is r v) : (x.rz F α).Is r v := by
  cases x <;> simp only [SC.rz]
  case p i b o =>
    cases e : F i
    · exact h
    · obtain ⟨B, f, e2, rfl⟩ := h
      show _ = Value.pointer (some ((α i).add (b + o)))
      rw [hα i B f e e2, add_none]
  case sl i b o n c =>
    cases e : F i
    · exact h
    · obtain ⟨B, f, e2, rfl⟩ := h
      show _ = Value.slice (some ((α i).add (b + o))) n c
      rw [hα i B f e e2, add_none]
  case sn z i b o n c => cases e : F i; exact h; exact SC.Is.one h
  case clo z i b o => cases e : F i; exact h; exact SC.Is.one h
  case cap z i b o => cases e : F i; exact h; exact SC.Is.one h
  case cap2 z i b o j c p => cases e : F i; (cases e' : F j; exact h; exact SC.Is.one h); exact SC.Is.one h
  case mh i => cases e : F i; exact h; exact SC.Is.one h
  all_goals exact h
theorem SC.Is.raw {x : SC} {v : Value} (h : x.Is r v) : (x.raw).Is [] v := by
  cases x <;> simp only [SC.raw] <;> first | exact SC.Is.one h | exact h
theorem IsL.rz (hα : Lies F α r) {l : List SC} {vs : List Value} (h : IsL r l vs) : IsL r (l.map (SC.rz F α)) vs :=
  ⟨by simpa using h.1, fun j x e => by
    rw [List.getElem?_map, Option.map_eq_some_iff] at e
    obtain ⟨y, hy, rfl⟩ := e
    obtain ⟨v, e1, e2⟩ := h.2 j y hy
    exact ⟨v, e1, e2.rz hα⟩⟩
theorem SA.Is.rz (hα : Lies F α r) {x : SA} {v : Value} (h : x.Is r v) : (x.rz F α).Is r v := by
  cases x with
  | c x => exact SC.Is.rz hα (x := x) h
  | agg l =>
    obtain ⟨vs, e, h⟩ := h
    exact ⟨vs, e, by rw [flat_rz]; exact h.rz hα⟩
theorem SV.Is.rz (hα : Lies F α r) {x : SV} {v : Value} (h : x.Is r v) : (x.rz F α).Is r v := by
  cases x with
  | any => trivial
  | a x => exact SA.Is.rz hα (x := x) h
  | tup l =>
    obtain ⟨vs, e, hl, h⟩ := h
    refine ⟨vs, e, by rw [rzA_eq]; simpa using hl, fun j x ex => ?_⟩
    rw [rzA_eq, List.getElem?_map, Option.map_eq_some_iff] at ex
    obtain ⟨y, hy, rfl⟩ := ex
    obtain ⟨u, e1, e2⟩ := h j y hy
    exact ⟨u, e1, e2.rz hα⟩
theorem IsAs.rz (hα : Lies F α r) {l : List SA} {vs : List Value} (h : IsAs r l vs) : IsAs r (rzA F α l) vs := by
  refine ⟨by rw [rzA_eq]; simpa using h.1, fun j x ex => ?_⟩
  rw [rzA_eq, List.getElem?_map, Option.map_eq_some_iff] at ex
  obtain ⟨y, hy, rfl⟩ := ex
  obtain ⟨u, e1, e2⟩ := h.2 j y hy
  exact ⟨u, e1, e2.rz hα⟩
theorem At.rz (hα : Lies F α r) {z : Bool} {w : World} {B off : Nat} {l : List SC} (h : At z r w B off l) : At z r w B off (l.map (SC.rz F α)) := by
  intro j x e
  rw [List.getElem?_map, Option.map_eq_some_iff] at e
  obtain ⟨y, hy, rfl⟩ := e
  obtain ⟨v, e1, e2, e3⟩ := h j y hy
  exact ⟨v, e1, e2.rz hα, e3⟩
/-- What lies there, whatever its names. -/
theorem At.im {z : Bool} {w : World} {B off : Nat} {l : List SC} (h : At z r w B off l) {ms : List Nat} (hB : B < w.heap.size) (hm : B ∉ ms) : ImAt w ms ⟨B, off, none⟩ (l.map SC.raw) :=
  ⟨rfl, hB, hm, fun j x e => by
    rw [List.getElem?_map, Option.map_eq_some_iff] at e
    obtain ⟨y, hy, rfl⟩ := e
    obtain ⟨v, e1, e2, _⟩ := h j y hy
    exact ⟨v, e1, e2.raw⟩⟩
end
section
variable {C : Cx}
theorem HeapOk.rz {F : Nat → Bool} {α : Nat → Addr} {h : List (List Seg)} {r : Rho} {w : World} (ok : HeapOk C h r w) (hα : Lies F α r) : HeapOk C (rzH F α h) r w := by
  have get : ∀ (i : Nat) (ch : List Seg), (rzH F α h)[i]? = some ch → ∃ c, h[i]? = some c ∧ ch = rzL F α c := fun i ch e => by
    rw [rzH_eq, List.getElem?_map, Option.map_eq_some_iff] at e
    obtain ⟨c, h1, h2⟩ := e
    exact ⟨c, h1, h2.symm⟩
  refine ⟨ok.ext, ok.agree, ok.rol, by rw [rzH_eq, List.length_map]; exact ok.len, fun i ch B f hi hr => ?_, ok.lt, ok.own, ok.ros, fun i ch ho hl hi => ?_, fun i j B f f' ch ch' hij o1 o2 hi hj hri hrj => ?_, fun i m B f ho hi hr => ?_, fun i W ms hi => ?_⟩
  · obtain ⟨c, h1, rfl⟩ := get i ch hi
    rw [flat_rz]
    exact (ok.chunks i c B f h1 hr).rz hα
  · obtain ⟨c, h1, rfl⟩ := get i ch hi
    rw [flat_rz, ok.dead i c ho hl h1]; rfl
  · obtain ⟨c, h1, rfl⟩ := get i ch hi
    obtain ⟨c', h1', rfl⟩ := get j ch' hj
    rcases ok.apart i j B f f' c c' hij o1 o2 h1 h1' hri hrj with h | h
    · left; rw [h]; rfl
    · right; rw [h]; rfl
  · obtain ⟨c, h1, h2⟩ := get i _ hi
    exact ok.maps i m B f ho (by rw [h1, rzL_obj h2.symm]) hr
  · obtain ⟨c, h1, h2⟩ := get i _ hi
    exact ok.past i W ms (by rw [h1, rzL_past h2.symm])
/-- Another past in a past's place. -/
theorem HeapOk.setPast {h : List (List Seg)} {r : Rho} {w : World} (ok : HeapOk C h r w) {i0 : Nat} (hi0 : i0 < C.ro) {W : World} {ms : List Nat} (hp : h[i0]? = some [.past W ms]) {W' : World} {ms' : List Nat} (p1 : Ext ms' W' w)
    (p2 : ∀ B, B < C.w0.heap.size → B < W'.heap.size → B ∉ ms' → C.safe B) (p3 : ∀ (j B f : Nat), C.ro ≤ j → r[j]? = some (B, f) → B < W'.heap.size → B ∈ ms') : HeapOk C (h.set i0 [.past W' ms']) r w := by
  have hil : i0 < h.length := (List.getElem?_eq_some_iff.1 hp).1
  have get : ∀ (i : Nat) (ch : List Seg), (h.set i0 [.past W' ms'])[i]? = some ch → (i = i0 ∧ ch = [.past W' ms']) ∨ (i ≠ i0 ∧ h[i]? = some ch) := fun i ch e => by
    by_cases hi : i0 = i
    · subst hi
      rw [List.getElem?_set_self hil] at e
      injection e with e
      exact .inl ⟨rfl, e.symm⟩
    · rw [List.getElem?_set_ne hi] at e
      exact .inr ⟨fun e => hi e.symm, e⟩
  refine ⟨ok.ext, ok.agree, ok.rol, by rw [List.length_set]; exact ok.len, fun i ch B f hi hr => ?_, ok.lt, ok.own, ok.ros, fun i ch ho hl hi => ?_, fun i j B f f' ch ch' hij o1 o2 hi hj hri hrj => ?_, fun i m B f ho hi hr => ?_, fun i W2 ms2 hi => ?_⟩
  · rcases get i ch hi with ⟨_, rfl⟩ | ⟨_, e⟩
    · intro j x e; simp [flat] at e
    · exact ok.chunks i ch B f e hr
  · rcases get i ch hi with ⟨_, rfl⟩ | ⟨_, e⟩
    · rfl
    · exact ok.dead i ch ho hl e
  · rcases get i ch hi with ⟨rfl, _⟩ | ⟨_, e⟩
    · omega
    rcases get j ch' hj with ⟨rfl, _⟩ | ⟨_, e'⟩
    · omega
    exact ok.apart i j B f f' ch ch' hij o1 o2 e e' hri hrj
  · rcases get i _ hi with ⟨rfl, _⟩ | ⟨_, e⟩
    · omega
    · exact ok.maps i m B f ho e hr
  · rcases get i _ hi with ⟨_, e⟩ | ⟨_, e⟩
    · injection e with e _
      injection e with e1 e2
      subst e1; subst e2
      exact ⟨p1, p2, p3⟩
    · exact ok.past i W2 ms2 e
theorem back_set (g : Nat → Nat) : ∀ (q : List Nat) (hs h : List (List Seg)) (i0 : Nat) (c : List Seg), i0 ∉ q → i0 < h.length → back g q hs (h.set i0 c) = (back g q hs h).set i0 c
  | [], hs, h, i0, c, _, hi => by
    simp only [back]
    rw [List.set_append_left _ _ hi]
  | i :: q, c' :: hs, h, i0, c, hn, hi => by
    simp only [List.mem_cons, not_or] at hn
    simp only [back]
    rw [List.set_comm _ _ hn.1, back_set g q hs _ i0 c hn.2 (by simpa using hi)]
  | _ :: _, [], h, i0, c, _, _ => rfl
theorem getH_ne {h : List (List Seg)} {i : Nat} {W : World} {ms : List Nat} (e : getH h i = [.past W ms]) : h[i]? = some [.past W ms] := by
  rw [getH_eq] at e
  cases e2 : h[i]? with
  | none => rw [e2] at e; cases e
  | some c => rw [e2] at e; exact congrArg some e
/-- A call that leaves a later past in the past's place (the past is the first block that the callee is handed). -/
theorem call_past {qt : Keep} {f : FuncId} {args args0 : List SA} {t : List SV} {h : List (List Seg)} {k : SV → List (List Seg) → Prop} {n : Nat} {h0 : List (List Seg)} {raw : World → Prop} {Res : SV → List (List Seg) → Prop}
    (hfn : FnR C.P C.T f n h0 args0 raw Res) (i0 : Nat) (q : List Nat) (hq : (qOk C.ro n qt (i0 :: q) h && Nat.blt i0 C.ro && Nat.blt 0 n) = true) {W : World} {ms : List Nat} (hp : getH h i0 = [.past W ms])
    (hA : eqAs (i0 :: q) args args0) (hE : entH (i0 :: q) h (i0 :: q) h0 True) (hraw : ∀ w, Ext C.m C.w0 w → raw w)
    (hl : ∀ x hs, Res x hs → ∃ W' ms', getH hs 0 = [.past W' ms'] ∧ Later W ms W' ms')
    (hk : ∀ x hs, Res x hs → setH h i0 (getH hs 0) fun h => lenK h 0 fun N => backK (bk N (i0 :: q)) ((i0 :: q).drop n) (hs.drop n) h fun h' => k (x.mp (bk N (i0 :: q))) h') : CallVC C qt f #[] args #[] t h k := by
  intro r a w vs ok ha
  simp only [Bool.and_eq_true] at hq
  obtain ⟨⟨hq, hi0⟩, hn0⟩ := hq
  have hi0 : i0 < C.ro := by simpa using (Nat.blt_eq ▸ hi0)
  have hn0 : 0 < n := by simpa using (Nat.blt_eq ▸ hn0)
  obtain ⟨ok0, pastUp⟩ := call_ok0 hq hE ok.heap
  have hq2 := hq
  simp only [qOk, Bool.and_eq_true] at hq
  obtain ⟨⟨⟨⟨⟨⟨h0', h1⟩, h2⟩, h3⟩, h5⟩, h6⟩, h4⟩ := hq
  have hnq := ble_le h0'
  have hn := nodup_spec h1
  have hll := allLt_spec h2
  have hst := allNe_spec h3
  have hne : ∀ i ∈ (i0 :: q).drop n, getH h i ≠ [] := fun i hi => stirs_ne (hst i hi)
  have hwr := allGe_spec h5
  have hlen := ok.heap.len
  have hqr : ∀ i ∈ (i0 :: q), i < r.length := fun i hi => by rw [hlen]; exact hll i hi
  have hnot : i0 ∉ (i0 :: q).drop n := fun hc => by have := hwr i0 hc; omega
  have hp' := getH_ne hp
  have hcall := hfn w (rn (i0 :: q) r) vs ok0 (eqAs_spec hqr hA ha) (hraw w ok.heap.ext)
  have hargs : (#[] : Array Value) ++ vs.toArray ++ #[] = vs.toArray := by simp
  rw [hargs]
  refine hcall.mono ?_
  rintro e w' ⟨v, x, hs, r', rfl, hx, hok, hres⟩
  obtain ⟨o1, o2, o3, o4, o5, o6, o7⟩ := ok.heap.back hnq hn hll hne hwr (fun B ⟨i, W, ms, h1, h2, h3⟩ => by
    obtain ⟨j', _, hj'⟩ := pastUp i W ms h1
    exact ⟨j', W, ms, hj', h2, h3⟩) hok
  have hk' := hk x hs hres
  obtain ⟨W', ms', hW, hL⟩ := hl x hs hres
  have hW' := getH_ne hW
  rw [setH_eq, lenK_eq, Nat.zero_add, backK_eq, List.length_set, back_set _ _ _ _ _ _ hnot (by rw [← hlen]; exact hqr i0 (List.mem_cons_self ..))] at hk'
  obtain ⟨p1, p2, p3⟩ := o5 0 W' ms' hW'
  have hb0 := o6 i0 W ms hnot hp'
  have hset := o1.setPast hi0 hb0 p1 (fun B g1 g2 g3 => by
    obtain ⟨i2, W2, ms2, e1, e2, e3⟩ := p2 B (Nat.lt_of_lt_of_le g1 ok.heap.ext.size) g2 g3
    exact (ok.heap.past i2 W2 ms2 e1).2.1 B g1 e2 e3) p3
  rw [← hW] at hset
  have hil : i0 < (back (bk h.length (i0 :: q)) ((i0 :: q).drop n) (hs.drop n) h).length := (List.getElem?_eq_some_iff.1 hb0).1
  refine ⟨v, _, _, _, rfl, hx.mp o3, o2, hset, frm_back hqr hll hst hwr h4 ok.heap hok hnq o4 hset o5 (fun _ => fun i W2 ms2 hi => ?_) (fun i W2 ms2 hi => ?_), hk'⟩
  · by_cases hii : i0 = i
    · subst hii
      rw [hp'] at hi
      injection hi with hi
      injection hi with hi _
      injection hi with e1 e2
      subst e1; subst e2
      exact ⟨W', ms', by rw [List.getElem?_set_self hil, hW], hL⟩
    · refine ⟨W2, ms2, ?_, Later.refl _ _⟩
      rw [List.getElem?_set_ne hii]
      refine o6 i W2 ms2 (fun hc => ?_) hi
      have := hst i hc
      rw [getH_eq, hi] at this
      cases this
  · by_cases hii : i0 = i
    · subst hii
      rw [List.getElem?_set_self hil, hW] at hi
      exact .inr ⟨0, by rw [hW']; exact hi⟩
    · rw [List.getElem?_set_ne hii] at hi
      exact o7 i W2 ms2 hi
/-- No past among these. -/
def NoP (hs : List (List Seg)) : Prop := ∀ (i : Nat) (W : World) (ms : List Nat), hs[i]? ≠ some [.past W ms]
theorem NoP.nil : NoP [] := fun i W ms e => by simp at e
theorem NoP.cons {c : List Seg} {hs : List (List Seg)} (hc : ∀ W ms, c ≠ [.past W ms]) (h : NoP hs) : NoP (c :: hs) := fun i W ms e => by
  cases i with
  | zero => simp at e; exact hc W ms e
  | succ i => exact h i W ms (by simpa using e)
theorem FnR.mono {P : Program} {T : List (Nat × TD)} {f : FuncId} {n : Nat} {h0 : List (List Seg)} {args : List SA} {raw : World → Prop} {Res Res' : SV → List (List Seg) → Prop} (h : FnR P T f n h0 args raw Res) (k : ∀ x hs, Res x hs → Res' x hs) : FnR P T f n h0 args raw Res' :=
  fun w r0 vs ok ha hr => (h w r0 vs ok ha hr).mono fun _ _ ⟨v, x, hs, r', e, h1, h2, h3⟩ => ⟨v, x, hs, r', e, h1, h2, k x hs h3⟩
/-- A call for which named blocks (Z) are lent as data that nobody turns: what comes back tells nothing of a past. -/
theorem call_lend {qt : Keep} {f : FuncId} {args : List SA} {t : List SV} {h : List (List Seg)} {k : SV → List (List Seg) → Prop} {n : Nat} {h0 : List (List Seg)} {raw : World → Prop} {Res : SV → List (List Seg) → Prop}
    (Z : List Nat) (i0 : Nat) (q : List Nat) {W : World} {ms : List Nat} (hq : (qOk C.ro n qt (i0 :: q) h && Nat.blt i0 C.ro && Nat.blt 0 n && allLt Z h.length && disj ((i0 :: q).drop n) Z) = true) (hp : getH h i0 = [.past W ms])
    (hE : entH (i0 :: q) h (i0 :: q) ([.past W ms] :: h0) True) (h0np : NoP h0) (hraw : ∀ w, Ext C.m C.w0 w → raw w)
    (hfn : ∀ (W' : World) (ms' : List Nat) (α : Nat → Addr), Later W ms W' ms' → (∀ i, memB i Z = true → flat (getH h i) ≠ [] → ImAt W' ms' (α i) (((flat (getH h i)).map (SC.rz (fun j => memB j Z) α)).map SC.raw)) →
      ∃ args0, eqAs (i0 :: q) (rzA (fun j => memB j Z) α args) args0 ∧ FnR C.P C.T f n ([.past W' ms'] :: h0) args0 raw Res)
    (hl : ∀ x hs, Res x hs → NoP (hs.drop 1))
    (hk : ∀ x hs, Res x hs → lenK h 0 fun N => backK (bk N (i0 :: q)) ((i0 :: q).drop n) (hs.drop n) h fun h' => k (x.mp (bk N (i0 :: q))) h') : CallVC C qt f #[] args #[] t h k := by
  intro r a w vs ok ha
  simp only [Bool.and_eq_true] at hq
  obtain ⟨⟨⟨⟨hq, hi0⟩, hn0⟩, hZ⟩, hdz⟩ := hq
  have hi0 : i0 < C.ro := by simpa using (Nat.blt_eq ▸ hi0)
  have hn0 : 0 < n := by simpa using (Nat.blt_eq ▸ hn0)
  have hZ := allLt_spec hZ
  have hdz := disj_spec hdz
  obtain ⟨ok0, pastUp⟩ := call_ok0 hq hE ok.heap
  simp only [qOk, Bool.and_eq_true] at hq
  obtain ⟨⟨⟨⟨⟨⟨h0', h1⟩, h2⟩, h3⟩, h5⟩, h6⟩, h4⟩ := hq
  have hnq := ble_le h0'
  have hn := nodup_spec h1
  have hll := allLt_spec h2
  have hst := allNe_spec h3
  have hne : ∀ i ∈ (i0 :: q).drop n, getH h i ≠ [] := fun i hi => stirs_ne (hst i hi)
  have hwr := allGe_spec h5
  have hlen := ok.heap.len
  have hqr : ∀ i ∈ (i0 :: q), i < r.length := fun i hi => by rw [hlen]; exact hll i hi
  have hp' := getH_ne hp
  have hqs : ∀ i ∈ (i0 :: q).drop n, i ∈ (i0 :: q) := fun i hi => List.mem_of_mem_drop hi
  have hm' : ∀ B, B ∈ ((rn (i0 :: q) r).drop n).map (·.1) → ∃ i, i ∈ (i0 :: q).drop n ∧ ∃ f, r[i]? = some (B, f) := by
    intro B hB
    obtain ⟨k, f, hk, e⟩ := mem_drop.1 hB
    cases hqk : (i0 :: q)[k]? with
    | none => rw [rn, List.getElem?_map, hqk] at e; cases e
    | some j =>
      rw [rn_get hqr hqk] at e
      exact ⟨j, List.mem_of_getElem? (i := k - n) (by rw [List.getElem?_drop, show n + (k - n) = k by omega]; exact hqk), f, e⟩
  have hhi : ∀ i, i < h.length → h[i]? = some (getH h i) := fun i hi => by rw [getH_eq, List.getElem?_eq_getElem hi]; rfl
  obtain ⟨ms', hms'⟩ : ∃ l, ((rn (i0 :: q) r).drop n).map (·.1) = l := ⟨_, rfl⟩
  have hL : Later W ms w ms' := ⟨(ok.heap.past i0 W ms hp').1, fun B h1 h2 hc => by
    rw [← hms'] at hc
    obtain ⟨i, hi, f, e⟩ := hm' B hc
    exact h2 ((ok.heap.past i0 W ms hp').2.2 i B f (hwr i hi) e h1)⟩
  let α : Nat → Addr := fun i => match r[i]? with
    | some (B, f) => ⟨B, f, none⟩
    | none => ⟨0, 0, none⟩
  have hα : Lies (fun j => memB j Z) α r := fun i B f _ e => by simp only [α, e]
  obtain ⟨args0, hA, hf⟩ := hfn w ms' α hL (fun i hi hfl => by
    have hi := memB_iff.1 hi
    have hil := hZ i hi
    obtain ⟨⟨B, f⟩, hr⟩ : ∃ x, r[i]? = some x := ⟨_, List.getElem?_eq_getElem (by rw [hlen]; exact hil)⟩
    have hAt := (ok.heap.chunk hr).rz hα
    have e : α i = ⟨B, f, none⟩ := by simp only [α, hr]
    rw [e]
    refine hAt.im ((ok.heap.chunk hr).lt hfl) fun hc => ?_
    rw [← hms'] at hc
    obtain ⟨j, hj, f', hr'⟩ := hm' B hc
    have hij : i ≠ j := fun e => hdz i hi (e ▸ hj)
    exact hfl (ok.heap.sep hij (hwr j hj) (hhi i hil) (hhi j (hll j (hqs j hj))) hr hr' (hne j hj)))
  -- the callee's past is the world as it is
  have ok1 : HeapOk (cx0 C.P C.T w (rn (i0 :: q) r) n ([.past w ms'] :: h0)) ([.past w ms'] :: h0) (rn (i0 :: q) r) w := by
    refine ⟨ok0.ext, ok0.agree, ok0.rol, ok0.len, fun i ch B f hi hr => ?_, ok0.lt, ok0.own, fun i B f ho hlv hr => ?_, fun i ch ho hlv hi => ?_, fun i j B f f' ch ch' hij o1 o2 hi hj hri hrj => ?_, fun i m B f ho hi hr => ?_, fun i W2 ms2 hi => ?_⟩
    · cases i with
      | zero => simp at hi; subst hi; intro j x e; simp [flat] at e
      | succ i => exact ok0.chunks (i + 1) ch B f (by simpa using hi) hr
    · refine ok0.ros i B f ho ?_ hr
      cases i with
      | zero => exact absurd rfl hlv
      | succ i => exact hlv
    · refine (?_ : flat ch = [])
      cases i with
      | zero => simp at hi; subst hi; rfl
      | succ i => exact ok0.dead (i + 1) ch ho (fun hc => hlv hc) (by simpa using hi)
    · have o1 : n ≤ i := o1
      have o2 : n ≤ j := o2
      refine ok0.apart i j B f f' ch ch' hij o1 o2 ?_ ?_ hri hrj
      · cases i with
        | zero => omega
        | succ i => simpa using hi
      · cases j with
        | zero => omega
        | succ j => simpa using hj
    · have o1 : n ≤ i := ho
      refine ok0.maps i m B f ho ?_ hr
      cases i with
      | zero => omega
      | succ i => simpa using hi
    · cases i with
      | zero =>
        simp at hi
        obtain ⟨rfl, rfl⟩ := hi
        refine ⟨Ext.refl _ _, fun B _ h2 h3 => ⟨0, _, _, rfl, h2, h3⟩, fun j B f ho hr _ => ?_⟩
        rw [← hms']
        exact mem_drop.2 ⟨j, f, ho, hr⟩
      | succ i => exact absurd (by simpa using hi) (h0np i W2 ms2)
  have hcall := hf w (rn (i0 :: q) r) vs ok1 (eqAs_spec hqr hA (ha.rz hα)) (hraw w ok.heap.ext)
  have hargs : (#[] : Array Value) ++ vs.toArray ++ #[] = vs.toArray := by simp
  rw [hargs]
  refine hcall.mono ?_
  rintro e w' ⟨v, x, hs, r', rfl, hx, hok, hres⟩
  have hlen' : r'.length = hs.length := hok.len
  have hql : (rn (i0 :: q) r).length ≤ r'.length := hok.rlen
  have hqlen : (rn (i0 :: q) r).length = q.length + 1 := by simp [rn]
  obtain ⟨c, hs', rfl⟩ : ∃ c hs', hs = c :: hs' := by
    cases hs with
    | nil => rw [List.length_nil] at hlen'; omega
    | cons c hs' => exact ⟨c, hs', rfl⟩
  have hnp : NoP hs' := hl x _ hres
  -- what the callee's past says is dropped
  have hok2 : HeapOk ⟨C.P, C.T, w, ((rn (i0 :: q) r).drop n).map (·.1), rn (i0 :: q) r, n, fun i => flat (getH ([.past w ms'] :: h0) i) ≠ [], fun _ => False⟩ ([] :: hs') r' w' := by
    refine ⟨hok.ext, hok.agree, hok.rol, hok.len, fun i ch B f hi hr => ?_, hok.lt, hok.own, hok.ros, fun i ch ho hlv hi => ?_, fun i j B f f' ch ch' hij o1 o2 hi hj hri hrj => ?_, fun i m B f ho hi hr => ?_, fun i W2 ms2 hi => ?_⟩
    · cases i with
      | zero => simp at hi; subst hi; intro j x e; simp [flat] at e
      | succ i => exact hok.chunks (i + 1) ch B f (by simpa using hi) hr
    · cases i with
      | zero => simp at hi; subst hi; rfl
      | succ i => exact hok.dead (i + 1) ch ho hlv (by simpa using hi)
    · have o1 : n ≤ i := o1
      have o2 : n ≤ j := o2
      refine hok.apart i j B f f' ch ch' hij o1 o2 ?_ ?_ hri hrj
      · cases i with
        | zero => omega
        | succ i => simpa using hi
      · cases j with
        | zero => omega
        | succ j => simpa using hj
    · have o1 : n ≤ i := ho
      refine hok.maps i m B f ho ?_ hr
      cases i with
      | zero => omega
      | succ i => simpa using hi
    · cases i with
      | zero => simp at hi
      | succ i => exact absurd (by simpa using hi) (hnp i W2 ms2)
  obtain ⟨o1, o2, o3, o4, o5, o6, o7⟩ := ok.heap.back hnq hn hll hne hwr (fun B hB => hB.elim) hok2
  have hk' := hk x _ hres
  obtain ⟨n', rfl⟩ : ∃ n', n = n' + 1 := ⟨n - 1, by omega⟩
  rw [lenK_eq, Nat.zero_add, backK_eq] at hk'
  exact ⟨v, _, _, _, rfl, hx.mp o3, o2, o1, frm_back hqr hll hst hwr h4 ok.heap hok2 hnq o4 o1 o5 (fun _ => .of fun i W ms hi => o6 i W ms (fun hc => by
    have := hst i hc
    rw [getH_eq, hi] at this
    cases this) hi) o7, hk'⟩
/-! Functions that give up what they made. -/
def FinW (C : Cx) (v : SV) (h : List (List Seg)) (Res : SV → List (List Seg) → Prop) : Prop := ∀ (r : Rho) (w : World) (u : Value), HeapOk C h r w → v.Is r u → ∃ x hs r', SV.Is r' x u ∧ HeapOk C hs r' w ∧ Res x hs
theorem FinW.of {v : SV} {h : List (List Seg)} {Res : SV → List (List Seg) → Prop} (k : ∃ x hs, Fin C v h x hs ∧ Res x hs) : FinW C v h Res := fun r w u ok hu => by
  obtain ⟨x, hs, hf, hr⟩ := k
  obtain ⟨r', h1, h2⟩ := hf.ok hu ok
  exact ⟨x, hs, r', h1, h2, hr⟩
theorem fn_of_bodyW {P : Program} {T : List (Nat × TD)} (hT : AllT P T) (hm : P.follows .mixedOrders = true) {f : FuncId} {fn : Func} {c : Code} (hf : P.funcs[f]? = some fn) (hb : fn.body = some c) {n : Nat} {h0 : List (List Seg)} {args : List SA} {raw : World → Prop} {Res : SV → List (List Seg) → Prop}
    {t : List SV} (ht : t = args.map SV.a ++ anys (fn.ntmps - args.length))
    (h : ∀ (w : World) (r0 : Rho), r0.length = h0.length → raw w → Body (cx0 P T w r0 n h0) fn c ⟨t, h0⟩ fun v h' => FinW (cx0 P T w r0 n h0) v h' Res) : FnR P T f n h0 args raw Res := by
  intro w r0 vs ok ha hraw
  subst ht
  have hlen : vs.toArray.size = args.length := by rw [ha.1]; simp
  refine calls_of_body (C := cx0 P T w r0 n h0) hT hm hf hb (s := ⟨args.map SV.a ++ anys (fn.ntmps - args.length), h0⟩) (r := r0) ⟨ok, ?_, fun d x e => ?_, rfl⟩ (h w r0 ok.len hraw) ?_
  · simp [anys_len, ha.1]
  · by_cases hd : d < args.length
    · rw [List.getElem?_append_left (by simpa using hd), List.getElem?_map] at e
      obtain ⟨y, hy, rfl⟩ := Option.map_eq_some_iff.1 e
      obtain ⟨u, hu, hi⟩ := ha.2 d y hy
      have : (vs.toArray ++ Array.replicate (fn.ntmps - vs.toArray.size) undef).getD d undef = u := by
        rw [Array.getD_eq_getD_getElem?, Array.getElem?_append_left (by rw [hlen]; exact hd)]
        simp [hu]
      rw [this]
      exact hi
    · rw [List.getElem?_append_right (by simpa using Nat.le_of_not_lt hd)] at e
      rw [anys_get _ _ _ e]
      trivial
  · rintro v y h' r' w' hfin hy hok
    obtain ⟨x, hs, r'', hx, hok', hr⟩ := hfin r' w' v hok hy
    exact ⟨v, x, hs, r'', rfl, hx, hok', hr⟩
/-- What is not in q is given up: from now on it is data that nobody turns. The past (the first block) becomes a later one. -/
theorem finW_frz {v : SV} {h : List (List Seg)} {Res : SV → List (List Seg) → Prop} (q : List Nat) {W : World} {ms : List Nat} (hp : getH h 0 = [.past W ms]) (hro : 0 < C.ro) (hm : ∀ B ∈ C.m, ∃ (j f : Nat), C.ro ≤ j ∧ C.r0[j]? = some (B, f))
    (hq : (pref C.r0.length 0 q && allLt q h.length && allNe h (q.drop C.ro) && allGe C.ro (q.drop C.ro)) = true)
    (hk : ∀ (W' : World) (ms' : List Nat) (α : Nat → Addr), Later W ms W' ms' → (∀ i, (Nat.blt i h.length && Nat.ble C.ro i && !memB i q) = true → flat (getH h i) ≠ [] → ImAt W' ms' (α i) (((flat (getH h i)).map (SC.rz (fun j => !memB j q) α)).map SC.raw)) →
      ∃ x hs, Ent C q ⟨[v.rz (fun j => !memB j q) α], rzH (fun j => !memB j q) α h⟩ ⟨[x], [.past W ms] :: hs⟩ ∧ Res x ([.past W' ms'] :: hs)) : FinW C v h Res := by
  intro r w u ok hu
  simp only [Bool.and_eq_true] at hq
  obtain ⟨⟨⟨hpf, hq1⟩, hq2⟩, hq3⟩ := hq
  have hll := allLt_spec hq1
  have hst := allNe_spec hq2
  have hge := allGe_spec hq3
  have hlen := ok.len
  have hp' := getH_ne hp
  have hqr : ∀ i ∈ q, i < r.length := fun i hi => by rw [hlen]; exact hll i hi
  let α : Nat → Addr := fun i => match r[i]? with
    | some (B, f) => ⟨B, f, none⟩
    | none => ⟨0, 0, none⟩
  have hα : Lies (fun j => !memB j q) α r := fun i B f _ e => by simp only [α, e]
  classical
  obtain ⟨ms', hms'⟩ : ∃ l, ((rn q r).drop C.ro).map (·.1) ++ (List.range C.w0.heap.size).filter (fun B => decide (¬ C.safe B)) = l := ⟨_, rfl⟩
  have look : ∀ (i B f : Nat), C.ro ≤ i → (rn q r)[i]? = some (B, f) → ∃ j, j ∈ q.drop C.ro ∧ r[j]? = some (B, f) := by
    intro i B f hi e
    cases hqi : q[i]? with
    | none => rw [rn, List.getElem?_map, hqi] at e; cases e
    | some j => exact ⟨j, List.mem_of_getElem? (i := i - C.ro) (by rw [List.getElem?_drop, show C.ro + (i - C.ro) = i by omega]; exact hqi), by rw [← rn_get hqr hqi]; exact e⟩
  have inms : ∀ B, B ∈ ms' → (∃ j, j ∈ q.drop C.ro ∧ ∃ f, r[j]? = some (B, f)) ∨ (B < C.w0.heap.size ∧ ¬ C.safe B) := by
    intro B hB
    rw [← hms'] at hB
    rcases List.mem_append.1 hB with hB | hB
    · obtain ⟨i, f, hi, e⟩ := mem_drop.1 hB
      obtain ⟨j, hj, e2⟩ := look i B f hi e
      exact .inl ⟨j, hj, f, e2⟩
    · simp only [List.mem_filter, List.mem_range, decide_eq_true_eq] at hB
      exact .inr hB
  have hhi : ∀ i, i < h.length → h[i]? = some (getH h i) := fun i hi => by rw [getH_eq, List.getElem?_eq_getElem hi]; rfl
  have hqs : ∀ i ∈ q.drop C.ro, i ∈ q := fun i hi => List.mem_of_mem_drop hi
  obtain ⟨p1, p2, p3⟩ := ok.past 0 W ms hp'
  have hL : Later W ms w ms' := ⟨p1, fun B h1 h2 hc => by
    rcases inms B hc with ⟨j, hj, f, e⟩ | ⟨h3, h4⟩
    · exact h2 (p3 j B f (hge j hj) e h1)
    · exact h4 (p2 B h3 h1 h2)⟩
  have facts : ∀ i, i < h.length → C.ro ≤ i → memB i q = false → flat (getH h i) ≠ [] → ImAt w ms' (α i) (((flat (getH h i)).map (SC.rz (fun j => !memB j q) α)).map SC.raw) := by
    intro i hil hio hiq hfl
    have hnq : i ∉ q := fun hc => by rw [memB_iff.2 hc] at hiq; cases hiq
    obtain ⟨⟨B, f⟩, hr⟩ : ∃ x, r[i]? = some x := ⟨_, List.getElem?_eq_getElem (by rw [hlen]; exact hil)⟩
    have hAt := (ok.chunk hr).rz hα
    have e : α i = ⟨B, f, none⟩ := by simp only [α, hr]
    rw [e]
    have clash : ∀ j, j ∈ q.drop C.ro → ∀ f', r[j]? ≠ some (B, f') := by
      intro j hj f' hr'
      have hij : i ≠ j := fun e => hnq (e ▸ hqs j hj)
      rcases ok.apart i j B f f' _ _ hij hio (hge j hj) (hhi i hil) (hhi j (hll j (hqs j hj))) hr hr' with h | h
      · rw [h] at hfl; exact hfl rfl
      · exact stirs_ne (hst j hj) h
    refine hAt.im ((ok.chunk hr).lt hfl) fun hc => ?_
    rcases inms B hc with ⟨j, hj, f', hr'⟩ | ⟨h3, h4⟩
    · exact clash j hj f' hr'
    · rcases ok.own i B f hio hr with hB | hB
      · obtain ⟨j, f', hj, e0⟩ := hm B hB
        have hjl : j < C.r0.length := by
          rcases Nat.lt_or_ge j C.r0.length with h | h
          · exact h
          · rw [List.getElem?_eq_none h] at e0; cases e0
        have hqj := pref_spec hpf j hjl
        rw [Nat.zero_add] at hqj
        exact clash j (List.mem_of_getElem? (i := j - C.ro) (by rw [List.getElem?_drop, show C.ro + (j - C.ro) = j by omega]; exact hqj)) f' (ok.agree j _ e0)
      · omega
  obtain ⟨x, hs, hent, hres⟩ := hk w ms' α hL (fun i hi hf => by
    simp only [Bool.and_eq_true, Bool.not_eq_true'] at hi
    exact facts i (by simpa using (Nat.blt_eq ▸ hi.1.1)) (ble_le hi.1.2) hi.2 hf)
  have ok1 : Ok C ⟨[v.rz (fun j => !memB j q) α], rzH (fun j => !memB j q) α h⟩ r { tmps := #[u], defers := [] } w := ⟨ok.rz hα, rfl, fun d y e => by
    cases d with
    | zero => simp at e; subst e; exact hu.rz hα
    | succ d => simp at e, rfl⟩
  have ok2 := hent.okN ok1
  have ok3 := ok2.heap.setPast (i0 := 0) hro rfl (W' := w) (ms' := ms') (Ext.refl _ _) (fun B h1 h2 h3 => Classical.byContradiction fun hc => h3 (by
    rw [← hms']
    exact List.mem_append.2 (.inr (by simp only [List.mem_filter, List.mem_range, decide_eq_true_eq]; exact ⟨h1, hc⟩)))) (fun j B f ho e _ => by
    rw [← hms']
    exact List.mem_append.2 (.inl (mem_drop.2 ⟨j, f, ho, e⟩)))
  exact ⟨x, _, _, ok2.slots 0 x rfl, ok3, hres⟩
theorem cx0_m {P : Program} {T : List (Nat × TD)} {w : World} {r0 : Rho} {n : Nat} {h0 : List (List Seg)} : ∀ B ∈ (cx0 P T w r0 n h0).m, ∃ (j f : Nat), (cx0 P T w r0 n h0).ro ≤ j ∧ (cx0 P T w r0 n h0).r0[j]? = some (B, f) := fun B hB => by
  obtain ⟨j, f, h1, h2⟩ := mem_drop.1 hB
  exact ⟨j, f, h1, h2⟩
end
end Sx
end Go.Proofs.Ytdakmieapdpidaa
end

section
/-
  A contract over a block that is only read holds for data that nobody turns: its name is struck. Over any program. No condition of its own.
-/
namespace Go.Proofs.Ytdakmieapdpidaa
set_option linter.unusedVariables false
namespace Sx
open Go.RowKit

theorem SC.Is.off {x : SC} {j : Nat} {α : Nat → Addr} {r r' : Rho} (hr : ∀ i, i ≠ j → r'[i]? = r[i]?) {v : Value} (h : (x.rz (fun i => Nat.beq i j) α).Is r v) : (x.rz (fun i => Nat.beq i j) α).Is r' v := by
  cases x <;> simp only [SC.rz] at h ⊢
  case p i b o =>
    cases e : Nat.beq i j
    · rw [e] at h
      obtain ⟨B, f, e2, rfl⟩ := h
      exact ⟨B, f, (hr i (fun hc => by subst hc; rw [Nat.beq_refl] at e; cases e)).trans e2, rfl⟩
    · rw [e] at h; exact h
  case sl i b o n c =>
    cases e : Nat.beq i j
    · rw [e] at h
      obtain ⟨B, f, e2, rfl⟩ := h
      exact ⟨B, f, (hr i (fun hc => by subst hc; rw [Nat.beq_refl] at e; cases e)).trans e2, rfl⟩
    · rw [e] at h; exact h
  case sn z i b o n c =>
    cases e : Nat.beq i j
    · rw [e] at h
      rcases h with ⟨h1, h2⟩ | ⟨h1, B, f, e2, h2⟩ | h
      · exact .inl ⟨h1, h2⟩
      · exact .inr (.inl ⟨h1, B, f, (hr i (fun hc => by subst hc; rw [Nat.beq_refl] at e; cases e)).trans e2, h2⟩)
      · exact .inr (.inr h)
    · rw [e] at h; exact h
  case clo g i b o =>
    cases e : Nat.beq i j
    · rw [e] at h
      obtain ⟨B, f, e2, rfl⟩ := h
      exact ⟨B, f, (hr i (fun hc => by subst hc; rw [Nat.beq_refl] at e; cases e)).trans e2, rfl⟩
    · rw [e] at h; exact h
  case cap g i b o =>
    cases e : Nat.beq i j
    · rw [e] at h
      obtain ⟨B, f, e2, rfl⟩ := h
      exact ⟨B, f, (hr i (fun hc => by subst hc; rw [Nat.beq_refl] at e; cases e)).trans e2, rfl⟩
    · rw [e] at h; exact h
  case cap2 g i b o i2 c p =>
    cases e : Nat.beq i j
    · rw [e] at h
      cases e' : Nat.beq i2 j
      · rw [e'] at h
        obtain ⟨B, f, e2, B', f', e3, rfl⟩ := h
        exact ⟨B, f, (hr i (fun hc => by subst hc; rw [Nat.beq_refl] at e; cases e)).trans e2, B', f', (hr i2 (fun hc => by subst hc; rw [Nat.beq_refl] at e'; cases e')).trans e3, rfl⟩
      · rw [e'] at h; exact h
    · rw [e] at h; exact h
  case mh i =>
    cases e : Nat.beq i j
    · rw [e] at h
      obtain ⟨B, f, e2, rfl⟩ := h
      exact ⟨B, f, (hr i (fun hc => by subst hc; rw [Nat.beq_refl] at e; cases e)).trans e2, rfl⟩
    · rw [e] at h; exact h
  all_goals exact h
/-- Nothing there is called j. -/
def Free (j : Nat) (α : Nat → Addr) (l : List SC) : Prop := ∀ x ∈ l, x.rz (fun i => Nat.beq i j) α = x
/-- One thing in a name's place. -/
def unC (j : Nat) (a : Addr) : SC → SC → Prop
  | .slc (some b) n c, .sl i b' o n' c' => i = j ∧ b' = 0 ∧ o = 0 ∧ n = n' ∧ c = c' ∧ b = a
  | .slc (some b) n c, .sn z i b' o n' c' => z = false ∧ i = j ∧ b' = 0 ∧ o = 0 ∧ n = n' ∧ c = c' ∧ b = a
  | .ptr (some b), .p i b' o => i = j ∧ b' = 0 ∧ o = 0 ∧ b = a
  | x, y => x = y ∧ y.rz (fun i => Nat.beq i j) (fun _ => a) = y
def unL (j : Nat) (a : Addr) : List Seg → List Seg → Prop
  | [], [] => True
  | .one x :: r, .one y :: r' => unC j a x y ∧ unL j a r r'
  | .row n f :: r, .row m g :: r' => n = m ∧ (∀ i, i < n → unC j a (f i) (g i)) ∧ unL j a r r'
  | _, _ => False
def unA (j : Nat) (a : Addr) : SA → SA → Prop
  | .c x, .c y => unC j a x y
  | .agg l, .agg l' => unL j a l l'
  | _, _ => False
theorem unL_spec {j : Nat} {a : Addr} : ∀ {l l' : List Seg}, unL j a l l' → (flat l).length = (flat l').length ∧ ∀ (d : Nat) (x y : SC), (flat l)[d]? = some x → (flat l')[d]? = some y → unC j a x y
  | [], [], _ => ⟨rfl, fun d x y e => by simp [flat] at e⟩
  | .one x :: r, .one y :: r', h => by
    obtain ⟨h1, h2⟩ := unL_spec h.2
    refine ⟨by simp [flat, h1], fun d u v e1 e2 => ?_⟩
    cases d with
    | zero => simp [flat] at e1 e2; subst e1; subst e2; exact h.1
    | succ d => exact h2 d u v (by simpa [flat] using e1) (by simpa [flat] using e2)
  | .row n f :: r, .row m g :: r', h => by
    obtain ⟨rfl, h3, h4⟩ := h
    obtain ⟨h1, h2⟩ := unL_spec h4
    refine ⟨by simp [flat, h1], fun d u v e1 e2 => ?_⟩
    simp only [flat] at e1 e2
    by_cases hd : d < n
    · rw [List.getElem?_append_left (by simpa using hd)] at e1 e2
      simp [hd] at e1 e2
      subst e1; subst e2
      exact h3 d hd
    · rw [List.getElem?_append_right (by simpa using Nat.le_of_not_lt hd)] at e1 e2
      simp at e1 e2
      exact h2 _ u v e1 e2
  | [], .one _ :: _, h => h.elim
  | [], .row _ _ :: _, h => h.elim
  | [], .obj _ :: _, h => h.elim
  | [], .past _ _ :: _, h => h.elim
  | .one _ :: _, [], h => h.elim
  | .one _ :: _, .row _ _ :: _, h => h.elim
  | .one _ :: _, .obj _ :: _, h => h.elim
  | .one _ :: _, .past _ _ :: _, h => h.elim
  | .row _ _ :: _, [], h => h.elim
  | .row _ _ :: _, .one _ :: _, h => h.elim
  | .row _ _ :: _, .obj _ :: _, h => h.elim
  | .row _ _ :: _, .past _ _ :: _, h => h.elim
  | .obj _ :: _, _, h => by cases ‹List Seg› with
    | nil => exact h.elim
    | cons x r => cases x <;> exact h.elim
  | .past _ _ :: _, _, h => by cases ‹List Seg› with
    | nil => exact h.elim
    | cons x r => cases x <;> exact h.elim
def unAs (j : Nat) (a : Addr) : List SA → List SA → Prop
  | [], [] => True
  | x :: r, y :: r' => unA j a x y ∧ unAs j a r r'
  | _, _ => False
section
variable {j : Nat} {a : Addr} {r r' : Rho}
theorem SC.Is.fix {x : SC} (hx : x.rz (fun i => Nat.beq i j) (fun _ => a) = x) (hr : ∀ i, i ≠ j → r'[i]? = r[i]?) {v : Value} (h : x.Is r v) : x.Is r' v := by
  rw [← hx] at h ⊢
  exact h.off hr
theorem unC_spec {x y : SC} (h : unC j a x y) (hs : a.spot = none) (hj : r'[j]? = some (a.block, a.off)) (hr : ∀ i, i ≠ j → r'[i]? = r[i]?) {v : Value} (hv : x.Is r v) : y.Is r' v := by
  unfold unC at h
  split at h
  · obtain ⟨rfl, rfl, rfl, rfl, rfl, h6⟩ := h
    rw [h6] at hv
    refine ⟨a.block, a.off, hj, ?_⟩
    rw [show v = _ from hv]
    cases a; simp at hs; subst hs; rfl
  · obtain ⟨rfl, rfl, rfl, rfl, rfl, rfl, h6⟩ := h
    rw [h6] at hv
    refine .inr (.inl ⟨rfl, a.block, a.off, hj, ?_⟩)
    rw [show v = _ from hv]
    cases a; simp at hs; subst hs; rfl
  · obtain ⟨rfl, rfl, rfl, h6⟩ := h
    rw [h6] at hv
    refine ⟨a.block, a.off, hj, ?_⟩
    rw [show v = _ from hv]
    cases a; simp at hs; subst hs; rfl
  · obtain ⟨rfl, h2⟩ := h
    exact hv.fix h2 hr
theorem unA_spec {x y : SA} (h : unA j a x y) (hs : a.spot = none) (hj : r'[j]? = some (a.block, a.off)) (hr : ∀ i, i ≠ j → r'[i]? = r[i]?) {v : Value} (hv : x.Is r v) : y.Is r' v := by
  cases x with
  | c x =>
    cases y with
    | c y => exact unC_spec h hs hj hr hv
    | agg l => exact h.elim
  | agg l =>
    cases y with
    | c y => exact h.elim
    | agg l' =>
      obtain ⟨k1, k2⟩ := unL_spec h
      obtain ⟨vs, e, h1, h2⟩ := hv
      refine ⟨vs, e, by rw [← k1]; exact h1, fun d y e => ?_⟩
      have hd : d < (flat l).length := by
        rw [k1]
        exact (List.getElem?_eq_some_iff.1 e).1
      obtain ⟨u, e1, e2⟩ := h2 d _ (List.getElem?_eq_getElem hd)
      exact ⟨u, e1, unC_spec (k2 d _ y (List.getElem?_eq_getElem hd) e) hs hj hr e2⟩
theorem unAs_spec (hs : a.spot = none) (hj : r'[j]? = some (a.block, a.off)) (hr : ∀ i, i ≠ j → r'[i]? = r[i]?) : ∀ {l l' : List SA} {vs : List Value}, unAs j a l l' → IsAs r l vs → IsAs r' l' vs
  | [], [], vs, _, h => ⟨h.1, fun d x e => by simp at e⟩
  | x :: l, y :: l', vs, h, hv => by
    cases vs with
    | nil => have := hv.1; simp at this
    | cons v vs =>
      have ht := unAs_spec hs hj hr (vs := vs) h.2 ⟨by simpa using hv.1, fun d z e => hv.2 (d + 1) z e⟩
      refine ⟨by simpa using ht.1, fun d z e => ?_⟩
      cases d with
      | zero =>
        simp at e; subst e
        obtain ⟨u, e1, e2⟩ := hv.2 0 x rfl
        exact ⟨u, e1, unA_spec h.1 hs hj hr e2⟩
      | succ d => exact ht.2 d z e
  | [], _ :: _, _, h, _ => h.elim
  | _ :: _, [], _, h, _ => h.elim
end
theorem Rho.set_ne {r : Rho} {j : Nat} (x : Nat × Nat) (i : Nat) (h : i ≠ j) : (r.set j x)[i]? = r[i]? := List.getElem?_set_ne (Ne.symm h)
/-- The block of a name that is struck: what is read there is data that nobody turns. -/
theorem FnR.unname {P : Program} {T : List (Nat × TD)} {f : FuncId} {n : Nat} {h0 : List (List Seg)} {args args' : List SA} {raw : World → Prop} {Res : SV → List (List Seg) → Prop} (h : FnR P T f n h0 args raw Res) (j : Nat) (hj : j < n) {W : World} {ms : List Nat} {a : Addr} {ch : List Seg}
    (hch : h0[j]? = some ch) (hnp : ∀ W ms, ch ≠ [.past W ms]) (him : ImAt W ms a (flat ch)) (hfix : ∀ x ∈ flat ch, x.raw = x) (hfree : ∀ i c, i ≠ j → h0[i]? = some c → Free j (fun _ => a) (flat c)) (hargs : unAs j a args' args) :
    FnR P T f n (h0.set j [.past W ms]) args' raw (fun x hs => ∃ x' hs', Res x' hs' ∧ x = x'.rz (fun i => Nat.beq i j) (fun _ => a) ∧ hs = (rzH (fun i => Nat.beq i j) (fun _ => a) hs').set j [.past W ms]) := by
  intro w r0 vs ok ha hraw
  obtain ⟨i1, i2, i3, i4⟩ := him
  have hjl : j < h0.length := (List.getElem?_eq_some_iff.1 hch).1
  have hlen0 : r0.length = h0.length := by have := ok.len; simpa using this
  have hjr : j < r0.length := by omega
  have hpast : (h0.set j [.past W ms])[j]? = some [.past W ms] := by rw [List.getElem?_set_self hjl]
  obtain ⟨p1, _, p3⟩ := ok.past j W ms hpast
  obtain ⟨xj, hxj⟩ : ∃ x, r0[j]? = some x := ⟨_, List.getElem?_eq_getElem hjr⟩
  have s1 : (r0.set j (a.block, a.off))[j]? = some (a.block, a.off) := by rw [List.getElem?_set_self hjr]
  have s2 : ∀ i, i ≠ j → (r0.set j (a.block, a.off))[i]? = r0[i]? := fun i hi => Rho.set_ne _ i hi
  have hh : ∀ (i : Nat) (c : List Seg), i ≠ j → ((h0.set j [.past W ms])[i]? = some c ↔ h0[i]? = some c) := fun i c hi => by rw [List.getElem?_set_ne (Ne.symm hi)]
  have hd : (r0.set j (a.block, a.off)).drop n = r0.drop n := by
    rw [List.drop_set_of_lt hj]
  have hgl : ∀ i, i ≠ j → getH (h0.set j [.past W ms]) i = getH h0 i := fun i hi => by rw [getH_eq, getH_eq, List.getElem?_set_ne (Ne.symm hi)]
  have mem_ms : ∀ B, B ∈ (r0.drop n).map (·.1) → B < W.heap.size → B ∈ ms := fun B hB hlt => by
    obtain ⟨i, f, hi, e⟩ := mem_drop.1 hB
    exact p3 i B f hi e hlt
  -- what the contract's own caller has
  have ok1 : HeapOk (cx0 P T w (r0.set j (a.block, a.off)) n h0) h0 (r0.set j (a.block, a.off)) w := by
    refine ⟨Ext.refl _ _, RLe.refl _, ?_, by rw [List.length_set]; exact hlen0, fun i c B f hi hr => ?_, fun i B f ho hr => ?_, fun i B f ho hr => ?_, fun i B f ho hlv hr => ?_, fun i c ho hlv hi => ?_, fun i k B f f' c c' hik o1 o2 hi hk hri hrk => ?_, fun i m B f ho hi hr => ?_, fun i W2 ms2 hi => ?_⟩
    · show n ≤ (r0.set j (a.block, a.off)).length
      rw [List.length_set]; exact ok.rol
    · by_cases hij : i = j
      · subst hij
        rw [s1] at hr
        injection hr with hr
        injection hr with hr1 hr2
        subst hr1; subst hr2
        rw [hch] at hi
        injection hi with hi
        subst hi
        have hb : Nat.ble n i = false := by
          cases e : Nat.ble n i
          · rfl
          · have := ble_le e; omega
        show At (Nat.ble n i) _ _ _ _ _
        rw [hb]
        intro d x e
        obtain ⟨v, e1, e2⟩ := i4 d x e
        refine ⟨v, p1.cell (p := ⟨a.block, a.off + d, none⟩) i3 e1, ?_, fun h => Bool.noConfusion h⟩
        have hx := hfix x (List.mem_of_getElem? e)
        rw [← hx] at e2 ⊢
        cases x <;> first | exact e2 | exact SC.Is.one e2
      · rw [s2 i hij] at hr
        have hAt := ok.chunks i c B f ((hh i c hij).2 hi) hr
        intro d x e
        obtain ⟨v, e1, e2, e3⟩ := hAt d x e
        exact ⟨v, e1, e2.fix (hfree i c hij hi x (List.mem_of_getElem? e)) s2, e3⟩
    · have ho : n ≤ i := ho
      rw [s2 i (by omega)] at hr
      exact ok.lt i B f ho hr
    · exact .inl (mem_drop.2 ⟨i, f, ho, hr⟩)
    · have ho : i < n := ho
      by_cases hij : i = j
      · subst hij
        rw [s1] at hr
        injection hr with hr
        injection hr with hr1 hr2
        subst hr1; subst hr2
        refine ⟨fun hc => ?_, Nat.lt_of_lt_of_le i2 p1.size⟩
        have hc : a.block ∈ ((r0.set i (a.block, a.off)).drop n).map (·.1) := hc
        rw [hd] at hc
        exact i3 (mem_ms _ hc i2)
      · rw [s2 i hij] at hr
        have hlv' : flat (getH (h0.set j [.past W ms]) i) ≠ [] := by rw [hgl i hij]; exact hlv
        obtain ⟨g1, g2⟩ := ok.ros i B f ho hlv' hr
        refine ⟨fun hc => g1 ?_, g2⟩
        have hc : B ∈ ((r0.set j (a.block, a.off)).drop n).map (·.1) := hc
        rw [hd] at hc
        exact hc
    · have : getH h0 i = c := by rw [getH_eq, hi]; rfl
      rw [← this]
      exact Classical.byContradiction hlv
    · have o1 : n ≤ i := o1
      have o2 : n ≤ k := o2
      rw [s2 i (by omega)] at hri
      rw [s2 k (by omega)] at hrk
      exact ok.apart i k B f f' c c' hik o1 o2 ((hh i c (by omega)).2 hi) ((hh k c' (by omega)).2 hk) hri hrk
    · have o1 : n ≤ i := ho
      rw [s2 i (by omega)] at hr
      exact ok.maps i m B f o1 ((hh i _ (by omega)).2 hi) hr
    · by_cases hij : i = j
      · subst hij
        rw [hch] at hi
        injection hi with hi
        exact absurd hi (hnp W2 ms2)
      · obtain ⟨q1, _, q3⟩ := ok.past i W2 ms2 ((hh i _ hij).2 hi)
        refine ⟨q1, fun B _ g2 g3 => ⟨i, W2, ms2, hi, g2, g3⟩, fun k B f ho hr hlt => ?_⟩
        have ho : n ≤ k := ho
        rw [s2 k (by omega)] at hr
        exact q3 k B f ho hr hlt
  refine (h w _ vs ok1 (unAs_spec i1 s1 s2 hargs ha) hraw).mono ?_
  rintro e w' ⟨v, x, hs, r', rfl, hx, hok, hres⟩
  have hlen' : r'.length = hs.length := hok.len
  have hrl : (r0.set j (a.block, a.off)).length ≤ r'.length := hok.rlen
  rw [List.length_set] at hrl
  have hjr' : j < r'.length := by omega
  have hjv : r'[j]? = some (a.block, a.off) := hok.agree j _ s1
  have hα : Lies (fun i => Nat.beq i j) (fun _ => a) r' := fun i B f e1 e2 => by
    obtain rfl := Nat.eq_of_beq_eq_true e1
    rw [hjv] at e2
    injection e2 with e2
    injection e2 with e3 e4
    cases a; simp at i1 e3 e4; subst i1; subst e3; subst e4; rfl
  have t1 : (r'.set j xj)[j]? = some xj := by rw [List.getElem?_set_self hjr']
  have t2 : ∀ i, i ≠ j → (r'.set j xj)[i]? = r'[i]? := fun i hi => Rho.set_ne _ i hi
  have okz := hok.rz hα
  have hzl : (rzH (fun i => Nat.beq i j) (fun _ => a) hs).length = hs.length := by rw [rzH_eq, List.length_map]
  have hjz : j < (rzH (fun i => Nat.beq i j) (fun _ => a) hs).length := by omega
  have hm : ∀ B, B ∈ (cx0 P T w (r0.set j (a.block, a.off)) n h0).m ↔ B ∈ (r0.drop n).map (·.1) := fun B => by
    show B ∈ ((r0.set j (a.block, a.off)).drop n).map (·.1) ↔ _
    rw [hd]
  have get : ∀ (i : Nat) (c : List Seg), ((rzH (fun i => Nat.beq i j) (fun _ => a) hs).set j [.past W ms])[i]? = some c → (i = j ∧ c = [.past W ms]) ∨ (i ≠ j ∧ (rzH (fun i => Nat.beq i j) (fun _ => a) hs)[i]? = some c) := fun i c e => by
    by_cases hij : j = i
    · subst hij
      rw [List.getElem?_set_self hjz] at e
      injection e with e
      exact .inl ⟨rfl, e.symm⟩
    · rw [List.getElem?_set_ne hij] at e
      exact .inr ⟨fun e => hij e.symm, e⟩
  refine ⟨v, _, _, r'.set j xj, rfl, ?_, ?_, x, hs, hres, rfl, rfl⟩
  · have := hx.rz hα
    cases x with
    | any => trivial
    | a x =>
      cases x with
      | c x => exact SC.Is.off t2 (x := x) this
      | agg l =>
        obtain ⟨vs, e, h1, h2⟩ := this
        refine ⟨vs, e, h1, fun d y e => ?_⟩
        obtain ⟨u, e1, e2⟩ := h2 d y e
        refine ⟨u, e1, ?_⟩
        rw [flat_rz, List.getElem?_map, Option.map_eq_some_iff] at e
        obtain ⟨z, _, rfl⟩ := e
        exact e2.off t2
    | tup l =>
      obtain ⟨vs, e, hl, h2⟩ := this
      refine ⟨vs, e, hl, fun d y e => ?_⟩
      obtain ⟨u, e1, e2⟩ := h2 d y e
      refine ⟨u, e1, ?_⟩
      rw [rzA_eq, List.getElem?_map, Option.map_eq_some_iff] at e
      obtain ⟨z, _, rfl⟩ := e
      cases z with
      | c z => exact SC.Is.off t2 (x := z) e2
      | agg l =>
        obtain ⟨vs, e, h1, h3⟩ := e2
        refine ⟨vs, e, h1, fun d y e => ?_⟩
        obtain ⟨u, e1, e2⟩ := h3 d y e
        refine ⟨u, e1, ?_⟩
        rw [flat_rz, List.getElem?_map, Option.map_eq_some_iff] at e
        obtain ⟨z, _, rfl⟩ := e
        exact e2.off t2
  · have own' : ∀ (i B f : Nat), n ≤ i → r'[i]? = some (B, f) → B ∈ (r0.drop n).map (·.1) ∨ w.heap.size ≤ B := fun i B f ho hr => by
      rcases hok.own i B f ho hr with h1 | h1
      · exact .inl ((hm B).1 h1)
      · exact .inr h1
    have hext : Ext ((r0.drop n).map (·.1)) w w' := hok.ext.mono fun B hB => .inl ((hm B).1 hB)
    refine ⟨hext, fun i x e => ?_, ?_, by rw [List.length_set, List.length_set, hzl]; exact hlen', fun i c B f hi hr => ?_, fun i B f ho hr => ?_, fun i B f ho hr => ?_, fun i B f ho hlv hr => ?_, fun i c ho hlv hi => ?_, fun i k B f f' c c' hik o1 o2 hi hk hri hrk => ?_, fun i m B f ho hi hr => ?_, fun i W2 ms2 hi => ?_⟩
    · by_cases hij : i = j
      · subst hij
        have : some xj = some x := hxj.symm.trans e
        rw [t1, this]
      · rw [t2 i hij]
        exact hok.agree i x (by rw [s2 i hij]; exact e)
    · exact ok.rol
    · rcases get i c hi with ⟨rfl, rfl⟩ | ⟨hij, hi⟩
      · intro d y e; simp [flat] at e
      · rw [t2 i hij] at hr
        have hAt := okz.chunks i c B f hi hr
        intro d y e
        obtain ⟨v, e1, e2, e3⟩ := hAt d y e
        refine ⟨v, e1, ?_, e3⟩
        rw [rzH_eq, List.getElem?_map, Option.map_eq_some_iff] at hi
        obtain ⟨c', _, rfl⟩ := hi
        rw [flat_rz, List.getElem?_map, Option.map_eq_some_iff] at e
        obtain ⟨z, _, rfl⟩ := e
        exact e2.off t2
    · have ho : n ≤ i := ho
      rw [t2 i (by omega)] at hr
      exact hok.lt i B f ho hr
    · have ho : n ≤ i := ho
      rw [t2 i (by omega)] at hr
      exact own' i B f ho hr
    · have ho : i < n := ho
      have hij : i ≠ j := fun e => by subst e; exact hlv (by show flat (getH (h0.set i [.past W ms]) i) = []; rw [getH_eq, List.getElem?_set_self hjl]; rfl)
      rw [t2 i hij] at hr
      have hlv' : flat (getH h0 i) ≠ [] := by rw [← hgl i hij]; exact hlv
      obtain ⟨g1, g2⟩ := hok.ros i B f ho hlv' hr
      exact ⟨fun hc => g1 ((hm B).2 hc), g2⟩
    · have ho : i < n := ho
      rcases get i c hi with ⟨rfl, rfl⟩ | ⟨hij, hi⟩
      · rfl
      · rw [rzH_eq, List.getElem?_map, Option.map_eq_some_iff] at hi
        obtain ⟨c', h1, rfl⟩ := hi
        rw [flat_rz, hok.dead i c' ho (fun hc => hlv (by
          show flat (getH (h0.set j [.past W ms]) i) ≠ []
          rw [hgl i hij]; exact hc)) h1]
        rfl
    · have o1 : n ≤ i := o1
      have o2 : n ≤ k := o2
      rw [t2 i (by omega)] at hri
      rw [t2 k (by omega)] at hrk
      rcases get i c hi with ⟨rfl, _⟩ | ⟨_, hi⟩
      · omega
      rcases get k c' hk with ⟨rfl, _⟩ | ⟨_, hk⟩
      · omega
      exact okz.apart i k B f f' c c' hik o1 o2 hi hk hri hrk
    · have o1 : n ≤ i := ho
      rw [t2 i (by omega)] at hr
      rcases get i _ hi with ⟨rfl, _⟩ | ⟨_, hi⟩
      · omega
      exact okz.maps i m B f o1 hi hr
    · rcases get i _ hi with ⟨rfl, e⟩ | ⟨hij, hi⟩
      · injection e with e _
        injection e with e1 e2
        subst e1; subst e2
        refine ⟨p1.trans2 hext fun B hB => ?_, fun B _ g2 g3 => ⟨i, _, _, hpast, g2, g3⟩, fun k B f ho hr hlt => ?_⟩
        · rcases Nat.lt_or_ge B W2.heap.size with hlt | hge
          · exact .inl (mem_ms B hB hlt)
          · exact .inr hge
        · have ho : n ≤ k := ho
          rw [t2 k (by omega)] at hr
          rcases own' k B f ho hr with h1 | h1
          · exact mem_ms B h1 hlt
          · have := p1.size
            omega
      · obtain ⟨q1, q2, q3⟩ := okz.past i W2 ms2 hi
        refine ⟨q1, fun B g1 g2 g3 => ?_, fun k B f ho hr hlt => ?_⟩
        · obtain ⟨i2, W3, ms3, g4, g5, g6⟩ := q2 B g1 g2 g3
          refine ⟨i2, W3, ms3, ?_, g5, g6⟩
          have : i2 ≠ j := fun e => by
            subst e
            rw [hch] at g4
            injection g4 with g4
            exact hnp W3 ms3 g4
          exact (hh i2 _ this).2 g4
        · have ho : n ≤ k := ho
          rw [t2 k (by omega)] at hr
          exact q3 k B f ho hr hlt
/-- The same where nothing lies there: a slice that is nil. -/
def nuC (j : Nat) : SC → SC → Prop
  | .slc none n c, .sn z _ _ _ n' c' => z = true ∧ n = 0 ∧ c = 0 ∧ n' = 0 ∧ c' = 0
  | .slc (some _) n c, .sn z _ _ _ n' c' => z = false ∧ n = 0 ∧ c = 0 ∧ n' = 0 ∧ c' = 0
  | x, y => x = y
def nuL (j : Nat) : List Seg → List Seg → Prop
  | [], [] => True
  | .one x :: r, .one y :: r' => nuC j x y ∧ nuL j r r'
  | .row n f :: r, .row m g :: r' => n = m ∧ (∀ i, i < n → nuC j (f i) (g i)) ∧ nuL j r r'
  | _, _ => False
def nuA (j : Nat) : SA → SA → Prop
  | .c x, .c y => nuC j x y
  | .agg l, .agg l' => nuL j l l'
  | _, _ => False
def nuAs (j : Nat) : List SA → List SA → Prop
  | [], [] => True
  | x :: r, y :: r' => nuA j x y ∧ nuAs j r r'
  | _, _ => False
theorem nuC_spec {j : Nat} {x y : SC} {r : Rho} (h : nuC j x y) {v : Value} (hv : x.Is r v) : y.Is r v := by
  have base : x = y → y.Is r v := fun e => e ▸ hv
  cases x with
  | slc a n c =>
    cases a with
    | none =>
      cases y with
      | sn z i b o n' c' =>
        obtain ⟨rfl, rfl, rfl, rfl, rfl⟩ := h
        exact Or.inl ⟨rfl, hv, rfl, rfl⟩
      | _ => exact base h
    | some ad =>
      cases y with
      | sn z i b o n' c' =>
        obtain ⟨rfl, rfl, rfl, rfl, rfl⟩ := h
        exact Or.inr (Or.inr ⟨rfl, rfl, rfl, ad.block, ad.off, ad.spot, hv⟩)
      | _ => exact base h
  | _ => exact base h
theorem nuL_spec {j : Nat} : ∀ {l l' : List Seg}, nuL j l l' → (flat l).length = (flat l').length ∧ ∀ (d : Nat) (x y : SC), (flat l)[d]? = some x → (flat l')[d]? = some y → nuC j x y
  | [], [], _ => ⟨rfl, fun d x y e => by simp [flat] at e⟩
  | .one x :: r, .one y :: r', h => by
    obtain ⟨h1, h2⟩ := nuL_spec h.2
    refine ⟨by simp [flat, h1], fun d u v e1 e2 => ?_⟩
    cases d with
    | zero => simp [flat] at e1 e2; subst e1; subst e2; exact h.1
    | succ d => exact h2 d u v (by simpa [flat] using e1) (by simpa [flat] using e2)
  | .row n f :: r, .row m g :: r', h => by
    obtain ⟨rfl, h3, h4⟩ := h
    obtain ⟨h1, h2⟩ := nuL_spec h4
    refine ⟨by simp [flat, h1], fun d u v e1 e2 => ?_⟩
    simp only [flat] at e1 e2
    by_cases hd : d < n
    · rw [List.getElem?_append_left (by simpa using hd)] at e1 e2
      simp [hd] at e1 e2
      subst e1; subst e2
      exact h3 d hd
    · rw [List.getElem?_append_right (by simpa using Nat.le_of_not_lt hd)] at e1 e2
      simp at e1 e2
      exact h2 _ u v e1 e2
  | [], .one _ :: _, h => h.elim
  | [], .row _ _ :: _, h => h.elim
  | [], .obj _ :: _, h => h.elim
  | [], .past _ _ :: _, h => h.elim
  | .one _ :: _, [], h => h.elim
  | .one _ :: _, .row _ _ :: _, h => h.elim
  | .one _ :: _, .obj _ :: _, h => h.elim
  | .one _ :: _, .past _ _ :: _, h => h.elim
  | .row _ _ :: _, [], h => h.elim
  | .row _ _ :: _, .one _ :: _, h => h.elim
  | .row _ _ :: _, .obj _ :: _, h => h.elim
  | .row _ _ :: _, .past _ _ :: _, h => h.elim
  | .obj _ :: _, _, h => by cases ‹List Seg› with
    | nil => exact h.elim
    | cons x r => cases x <;> exact h.elim
  | .past _ _ :: _, _, h => by cases ‹List Seg› with
    | nil => exact h.elim
    | cons x r => cases x <;> exact h.elim
theorem nuA_spec {j : Nat} {x y : SA} {r : Rho} (h : nuA j x y) {v : Value} (hv : x.Is r v) : y.Is r v := by
  cases x with
  | c x =>
    cases y with
    | c y => exact nuC_spec (j := j) h hv
    | agg l => exact h.elim
  | agg l =>
    cases y with
    | c y => exact h.elim
    | agg l' =>
      obtain ⟨k1, k2⟩ := nuL_spec h
      obtain ⟨vs, e, h1, h2⟩ := hv
      refine ⟨vs, e, by rw [← k1]; exact h1, fun d y e => ?_⟩
      have hd : d < (flat l).length := by
        rw [k1]
        exact (List.getElem?_eq_some_iff.1 e).1
      obtain ⟨u, e1, e2⟩ := h2 d _ (List.getElem?_eq_getElem hd)
      exact ⟨u, e1, nuC_spec (k2 d _ y (List.getElem?_eq_getElem hd) e) e2⟩
theorem nuAs_spec {j : Nat} {r : Rho} : ∀ {l l' : List SA} {vs : List Value}, nuAs j l l' → IsAs r l vs → IsAs r l' vs
  | [], [], vs, _, h => ⟨h.1, fun d x e => by simp at e⟩
  | x :: l, y :: l', vs, h, hv => by
    cases vs with
    | nil => have := hv.1; simp at this
    | cons v vs =>
      have ht := nuAs_spec (vs := vs) h.2 ⟨by simpa using hv.1, fun d z e => hv.2 (d + 1) z e⟩
      refine ⟨by simpa using ht.1, fun d z e => ?_⟩
      cases d with
      | zero =>
        simp at e; subst e
        obtain ⟨u, e1, e2⟩ := hv.2 0 x rfl
        exact ⟨u, e1, nuA_spec h.1 e2⟩
      | succ d => exact ht.2 d z e
  | [], _ :: _, _, h, _ => h.elim
  | _ :: _, [], _, h, _ => h.elim
theorem FnR.nul {P : Program} {T : List (Nat × TD)} {f : FuncId} {n : Nat} {h0 : List (List Seg)} {args args' : List SA} {raw : World → Prop} {Res : SV → List (List Seg) → Prop} (h : FnR P T f n h0 args raw Res) (j : Nat) (hj : j < n) {W : World} {ms : List Nat}
    {ch : List Seg} (hch : h0[j]? = some ch) (hfl : flat ch = []) (hnp : ∀ W ms, ch ≠ [.past W ms]) (hargs : nuAs j args' args) :
    FnR P T f n (h0.set j [.past W ms]) args' raw (fun x hs => ∃ hs', Res x hs' ∧ hs = hs'.set j [.past W ms]) := by
  intro w r0 vs ok ha hraw
  have hjl : j < h0.length := (List.getElem?_eq_some_iff.1 hch).1
  have hlen0 : r0.length = h0.length := by have := ok.len; simpa using this
  have hpast : (h0.set j [.past W ms])[j]? = some [.past W ms] := by rw [List.getElem?_set_self hjl]
  obtain ⟨p1, _, p3⟩ := ok.past j W ms hpast
  have hh : ∀ (i : Nat) (c : List Seg), i ≠ j → ((h0.set j [.past W ms])[i]? = some c ↔ h0[i]? = some c) := fun i c hi => by rw [List.getElem?_set_ne (Ne.symm hi)]
  have hgl : ∀ i, i ≠ j → getH (h0.set j [.past W ms]) i = getH h0 i := fun i hi => by rw [getH_eq, getH_eq, List.getElem?_set_ne (Ne.symm hi)]
  have mem_ms : ∀ B, B ∈ (r0.drop n).map (·.1) → B < W.heap.size → B ∈ ms := fun B hB hlt => by
    obtain ⟨i, f, hi, e⟩ := mem_drop.1 hB
    exact p3 i B f hi e hlt
  have lv : ∀ i, flat (getH h0 i) ≠ [] → flat (getH (h0.set j [.past W ms]) i) ≠ [] := fun i hl => by
    by_cases hij : i = j
    · subst hij
      rw [getH_eq, hch] at hl
      exact absurd hfl hl
    · rw [hgl i hij]; exact hl
  have ok1 : HeapOk (cx0 P T w r0 n h0) h0 r0 w := by
    refine ⟨Ext.refl _ _, RLe.refl _, ok.rol, hlen0, fun i c B f hi hr => ?_, ok.lt, ok.own, fun i B f ho hlv hr => ok.ros i B f ho (lv i hlv) hr, fun i c ho hlv hi => ?_, fun i k B f f' c c' hik o1 o2 hi hk hri hrk => ?_, fun i m B f ho hi hr => ?_, fun i W2 ms2 hi => ?_⟩
    · by_cases hij : i = j
      · subst hij
        rw [hch] at hi
        injection hi with hi
        subst hi
        intro d x e; rw [hfl] at e; simp at e
      · exact ok.chunks i c B f ((hh i c hij).2 hi) hr
    · have : getH h0 i = c := by rw [getH_eq, hi]; rfl
      rw [← this]
      exact Classical.byContradiction hlv
    · have o1 : n ≤ i := o1
      have o2 : n ≤ k := o2
      exact ok.apart i k B f f' c c' hik o1 o2 ((hh i c (by omega)).2 hi) ((hh k c' (by omega)).2 hk) hri hrk
    · have o1 : n ≤ i := ho
      exact ok.maps i m B f o1 ((hh i _ (by omega)).2 hi) hr
    · by_cases hij : i = j
      · subst hij
        rw [hch] at hi
        injection hi with hi
        exact absurd hi (hnp W2 ms2)
      · obtain ⟨q1, _, q3⟩ := ok.past i W2 ms2 ((hh i _ hij).2 hi)
        exact ⟨q1, fun B _ g2 g3 => ⟨i, W2, ms2, hi, g2, g3⟩, q3⟩
  refine (h w _ vs ok1 (nuAs_spec hargs ha) hraw).mono ?_
  rintro e w' ⟨v, x, hs, r', rfl, hx, hok, hres⟩
  have hlen' : r'.length = hs.length := hok.len
  have hrl : r0.length ≤ r'.length := hok.rlen
  have hjz : j < hs.length := by omega
  have get : ∀ (i : Nat) (c : List Seg), (hs.set j [.past W ms])[i]? = some c → (i = j ∧ c = [.past W ms]) ∨ (i ≠ j ∧ hs[i]? = some c) := fun i c e => by
    by_cases hij : j = i
    · subst hij
      rw [List.getElem?_set_self hjz] at e
      injection e with e
      exact .inl ⟨rfl, e.symm⟩
    · rw [List.getElem?_set_ne hij] at e
      exact .inr ⟨fun e => hij e.symm, e⟩
  have hext : Ext ((r0.drop n).map (·.1)) w w' := hok.ext
  refine ⟨v, x, _, r', rfl, hx, ?_, hs, hres, rfl⟩
  refine ⟨hext, hok.agree, ok.rol, by rw [List.length_set]; exact hlen', fun i c B f hi hr => ?_, hok.lt, hok.own, fun i B f ho hlv hr => ?_, fun i c ho hlv hi => ?_, fun i k B f f' c c' hik o1 o2 hi hk hri hrk => ?_, fun i m B f ho hi hr => ?_, fun i W2 ms2 hi => ?_⟩
  · rcases get i c hi with ⟨rfl, rfl⟩ | ⟨hij, hi⟩
    · intro d y e; simp [flat] at e
    · exact hok.chunks i c B f hi hr
  · have ho : i < n := ho
    have hij : i ≠ j := fun e => by subst e; exact hlv (by show flat (getH (h0.set i [.past W ms]) i) = []; rw [getH_eq, List.getElem?_set_self hjl]; rfl)
    have hlv' : flat (getH h0 i) ≠ [] := by rw [← hgl i hij]; exact hlv
    exact hok.ros i B f ho hlv' hr
  · have ho : i < n := ho
    rcases get i c hi with ⟨rfl, rfl⟩ | ⟨hij, hi⟩
    · rfl
    · exact hok.dead i c ho (fun hc => hlv (lv i hc)) hi
  · have o1 : n ≤ i := o1
    have o2 : n ≤ k := o2
    rcases get i c hi with ⟨rfl, _⟩ | ⟨_, hi⟩
    · omega
    rcases get k c' hk with ⟨rfl, _⟩ | ⟨_, hk⟩
    · omega
    exact hok.apart i k B f f' c c' hik o1 o2 hi hk hri hrk
  · have o1 : n ≤ i := ho
    rcases get i _ hi with ⟨rfl, _⟩ | ⟨_, hi⟩
    · omega
    exact hok.maps i m B f o1 hi hr
  · rcases get i _ hi with ⟨rfl, e⟩ | ⟨hij, hi⟩
    · injection e with e _
      injection e with e1 e2
      subst e1; subst e2
      refine ⟨p1.trans2 hext fun B hB => ?_, fun B _ g2 g3 => ⟨i, _, _, hpast, g2, g3⟩, fun k B f ho hr hlt => ?_⟩
      · rcases Nat.lt_or_ge B W2.heap.size with hlt | hge
        · exact .inl (mem_ms B hB hlt)
        · exact .inr hge
      · rcases hok.own k B f ho hr with h1 | h1
        · exact mem_ms B h1 hlt
        · have h1 : w.heap.size ≤ B := h1
          have := p1.size
          omega
    · obtain ⟨q1, q2, q3⟩ := hok.past i W2 ms2 hi
      refine ⟨q1, fun B g1 g2 g3 => ?_, q3⟩
      obtain ⟨i2, W3, ms3, g4, g5, g6⟩ := q2 B g1 g2 g3
      refine ⟨i2, W3, ms3, ?_, g5, g6⟩
      have : i2 ≠ j := fun e => by
        subst e
        rw [hch] at g4
        injection g4 with g4
        exact hnp W3 ms3 g4
      exact (hh i2 _ this).2 g4
end Sx
end Go.Proofs.Ytdakmieapdpidaa
end

section
/-
  The table of types. No condition.
-/
namespace Go.Proofs.Ytdakmieapdpidaa
set_option linter.unusedVariables false
namespace Sx
def tds : List (Nat × TD) := [(1, ⟨.fn, 1, 8, [.one (.nilFn)]⟩),
  (2, ⟨.int .i64, 1, 8, [.one (.int .i64 0)]⟩),
  (3, ⟨.int .i64, 1, 8, [.one (.int .i64 0)]⟩),
  (4, ⟨.bool, 1, 1, [.one (.bool false)]⟩),
  (5, ⟨.int .u8, 1, 1, [.one (.w8 0)]⟩),
  (6, ⟨.int .u8, 1, 1, [.one (.w8 0)]⟩),
  (7, ⟨.struct [(2, 0), (3, 1), (4, 2), (6, 3)], 4, 24, [.one (.int .i64 0), .one (.int .i64 0), .one (.bool false), .one (.w8 0)]⟩),
  (8, ⟨.struct [(2, 0), (3, 1), (4, 2), (6, 3)], 4, 24, [.one (.int .i64 0), .one (.int .i64 0), .one (.bool false), .one (.w8 0)]⟩),
  (9, ⟨.str, 1, 16, [.one (.str [])]⟩),
  (10, ⟨.str, 1, 16, [.one (.str [])]⟩),
  (11, ⟨.str, 1, 16, [.one (.str [])]⟩),
  (12, ⟨.int .u64, 1, 8, [.one (.w64 0)]⟩),
  (13, ⟨.struct [(9, 0), (12, 1)], 2, 24, [.one (.str []), .one (.w64 0)]⟩),
  (14, ⟨.struct [(9, 0), (12, 1)], 2, 24, [.one (.str []), .one (.w64 0)]⟩),
  (15, ⟨.ptr 104, 1, 8, [.one (.ptr none)]⟩),
  (16, ⟨.ptr 107, 1, 8, [.one (.ptr none)]⟩),
  (17, ⟨.ptr 116, 1, 8, [.one (.ptr none)]⟩),
  (18, ⟨.struct [(17, 0)], 1, 8, [.one (.ptr none)]⟩),
  (19, ⟨.struct [(17, 0)], 1, 8, [.one (.ptr none)]⟩),
  (20, ⟨.ifc, 1, 16, [.one (.nilIfc)]⟩),
  (21, ⟨.int .i32, 1, 4, [.one (.int .i32 0)]⟩),
  (22, ⟨.slice 28, 1, 24, [.one (.slc none 0 0)]⟩),
  (23, ⟨.slice 5, 1, 24, [.one (.slc none 0 0)]⟩),
  (24, ⟨.int .u8, 1, 1, [.one (.w8 0)]⟩),
  (25, ⟨.int .u64, 1, 8, [.one (.w64 0)]⟩),
  (26, ⟨.slice 25, 1, 24, [.one (.slc none 0 0)]⟩),
  (27, ⟨.struct [(24, 0), (25, 1), (26, 2), (23, 3)], 4, 64, [.one (.w8 0), .one (.w64 0), .one (.slc none 0 0), .one (.slc none 0 0)]⟩),
  (28, ⟨.struct [(24, 0), (25, 1), (26, 2), (23, 3)], 4, 64, [.one (.w8 0), .one (.w64 0), .one (.slc none 0 0), .one (.slc none 0 0)]⟩),
  (29, ⟨.fn, 1, 8, [.one (.nilFn)]⟩),
  (30, ⟨.fn, 1, 8, [.one (.nilFn)]⟩),
  (31, ⟨.fn, 1, 8, [.one (.nilFn)]⟩),
  (32, ⟨.fn, 1, 8, [.one (.nilFn)]⟩),
  (33, ⟨.int .i64, 1, 8, [.one (.int .i64 0)]⟩),
  (34, ⟨.fn, 1, 8, [.one (.nilFn)]⟩),
  (36, ⟨.fn, 1, 8, [.one (.nilFn)]⟩),
  (37, ⟨.fn, 1, 8, [.one (.nilFn)]⟩),
  (38, ⟨.int .u16, 1, 2, [.one (.w16 0)]⟩),
  (39, ⟨.slice 23, 1, 24, [.one (.slc none 0 0)]⟩),
  (41, ⟨.fn, 1, 8, [.one (.nilFn)]⟩),
  (42, ⟨.fn, 1, 8, [.one (.nilFn)]⟩),
  (43, ⟨.fn, 1, 8, [.one (.nilFn)]⟩),
  (44, ⟨.fn, 1, 8, [.one (.nilFn)]⟩),
  (45, ⟨.fn, 1, 8, [.one (.nilFn)]⟩),
  (46, ⟨.slice 4, 1, 24, [.one (.slc none 0 0)]⟩),
  (47, ⟨.ptr 79, 1, 8, [.one (.ptr none)]⟩),
  (48, ⟨.fn, 1, 8, [.one (.nilFn)]⟩),
  (49, ⟨.fn, 1, 8, [.one (.nilFn)]⟩),
  (50, ⟨.fn, 1, 8, [.one (.nilFn)]⟩),
  (52, ⟨.fn, 1, 8, [.one (.nilFn)]⟩),
  (53, ⟨.fn, 1, 8, [.one (.nilFn)]⟩),
  (54, ⟨.fn, 1, 8, [.one (.nilFn)]⟩),
  (55, ⟨.fn, 1, 8, [.one (.nilFn)]⟩),
  (56, ⟨.fn, 1, 8, [.one (.nilFn)]⟩),
  (57, ⟨.slice 9, 1, 24, [.one (.slc none 0 0)]⟩),
  (58, ⟨.struct [(9, 0), (57, 1), (4, 2)], 3, 48, [.one (.str []), .one (.slc none 0 0), .one (.bool false)]⟩),
  (59, ⟨.struct [(9, 0), (57, 1), (4, 2)], 3, 48, [.one (.str []), .one (.slc none 0 0), .one (.bool false)]⟩),
  (61, ⟨.fn, 1, 8, [.one (.nilFn)]⟩),
  (62, ⟨.struct [(23, 0), (33, 1)], 2, 32, [.one (.slc none 0 0), .one (.int .i64 0)]⟩),
  (63, ⟨.struct [(23, 0), (33, 1)], 2, 32, [.one (.slc none 0 0), .one (.int .i64 0)]⟩),
  (64, ⟨.fn, 1, 8, [.one (.nilFn)]⟩),
  (65, ⟨.fn, 1, 8, [.one (.nilFn)]⟩),
  (66, ⟨.fn, 1, 8, [.one (.nilFn)]⟩),
  (67, ⟨.fn, 1, 8, [.one (.nilFn)]⟩),
  (68, ⟨.ptr 86, 1, 8, [.one (.ptr none)]⟩),
  (69, ⟨.fn, 1, 8, [.one (.nilFn)]⟩),
  (70, ⟨.fn, 1, 8, [.one (.nilFn)]⟩),
  (71, ⟨.fn, 1, 8, [.one (.nilFn)]⟩),
  (72, ⟨.fn, 1, 8, [.one (.nilFn)]⟩),
  (73, ⟨.fn, 1, 8, [.one (.nilFn)]⟩),
  (74, ⟨.fn, 1, 8, [.one (.nilFn)]⟩),
  (76, ⟨.fn, 1, 8, [.one (.nilFn)]⟩),
  (77, ⟨.fn, 1, 8, [.one (.nilFn)]⟩),
  (78, ⟨.struct [(3, 0), (22, 1), (4, 2), (2, 3)], 4, 48, [.one (.int .i64 0), .one (.slc none 0 0), .one (.bool false), .one (.int .i64 0)]⟩),
  (79, ⟨.struct [(3, 0), (22, 1), (4, 2), (2, 3)], 4, 48, [.one (.int .i64 0), .one (.slc none 0 0), .one (.bool false), .one (.int .i64 0)]⟩),
  (80, ⟨.fn, 1, 8, [.one (.nilFn)]⟩),
  (81, ⟨.fn, 1, 8, [.one (.nilFn)]⟩),
  (82, ⟨.ptr 63, 1, 8, [.one (.ptr none)]⟩),
  (83, ⟨.fn, 1, 8, [.one (.nilFn)]⟩),
  (84, ⟨.fn, 1, 8, [.one (.nilFn)]⟩),
  (85, ⟨.struct [(23, 0), (33, 1)], 2, 32, [.one (.slc none 0 0), .one (.int .i64 0)]⟩),
  (86, ⟨.struct [(23, 0), (33, 1)], 2, 32, [.one (.slc none 0 0), .one (.int .i64 0)]⟩),
  (88, ⟨.fn, 1, 8, [.one (.nilFn)]⟩),
  (89, ⟨.fn, 1, 8, [.one (.nilFn)]⟩),
  (90, ⟨.fn, 1, 8, [.one (.nilFn)]⟩),
  (91, ⟨.slice 57, 1, 24, [.one (.slc none 0 0)]⟩),
  (92, ⟨.fn, 1, 8, [.one (.nilFn)]⟩),
  (93, ⟨.fn, 1, 8, [.one (.nilFn)]⟩),
  (94, ⟨.fn, 1, 8, [.one (.nilFn)]⟩),
  (96, ⟨.fn, 1, 8, [.one (.nilFn)]⟩),
  (97, ⟨.int .u64, 1, 8, [.one (.w64 0)]⟩),
  (99, ⟨.fn, 1, 8, [.one (.nilFn)]⟩),
  (100, ⟨.fn, 1, 8, [.one (.nilFn)]⟩),
  (101, ⟨.array 8 5, 8, 8, [.row 8 (fun _ => .w8 0)]⟩),
  (102, ⟨.fn, 1, 8, [.one (.nilFn)]⟩),
  (103, ⟨.struct [(17, 0), (17, 1), (17, 2), (9, 3)], 4, 40, [.one (.ptr none), .one (.ptr none), .one (.ptr none), .one (.str [])]⟩),
  (104, ⟨.struct [(17, 0), (17, 1), (17, 2), (9, 3)], 4, 40, [.one (.ptr none), .one (.ptr none), .one (.ptr none), .one (.str [])]⟩),
  (105, ⟨.array 0 16, 0, 0, [.row 0 (fun _ => .ptr none)]⟩),
  (106, ⟨.struct [(105, 0)], 0, 0, [.row 0 (fun _ => .ptr none)]⟩),
  (107, ⟨.struct [(105, 0)], 0, 0, [.row 0 (fun _ => .ptr none)]⟩),
  (108, ⟨.int .u32, 1, 4, [.one (.w32 0)]⟩),
  (109, ⟨.int .u8, 1, 1, [.one (.w8 0)]⟩),
  (110, ⟨.int .u8, 1, 1, [.one (.w8 0)]⟩),
  (111, ⟨.fn, 1, 8, [.one (.nilFn)]⟩),
  (112, ⟨.ptr 5, 1, 8, [.one (.ptr none)]⟩),
  (113, ⟨.int .i32, 1, 4, [.one (.int .i32 0)]⟩),
  (114, ⟨.int .i32, 1, 4, [.one (.int .i32 0)]⟩),
  (115, ⟨.struct [(12, 0), (12, 1), (108, 2), (109, 3), (5, 4), (5, 5), (110, 6), (111, 7), (112, 8), (113, 9), (114, 10)], 11, 48, [.one (.w64 0), .one (.w64 0), .one (.w32 0), .one (.w8 0), .one (.w8 0), .one (.w8 0), .one (.w8 0), .one (.nilFn), .one (.ptr none), .one (.int .i32 0), .one (.int .i32 0)]⟩),
  (116, ⟨.struct [(12, 0), (12, 1), (108, 2), (109, 3), (5, 4), (5, 5), (110, 6), (111, 7), (112, 8), (113, 9), (114, 10)], 11, 48, [.one (.w64 0), .one (.w64 0), .one (.w32 0), .one (.w8 0), .one (.w8 0), .one (.w8 0), .one (.w8 0), .one (.nilFn), .one (.ptr none), .one (.int .i32 0), .one (.int .i32 0)]⟩),
  (117, ⟨.fn, 1, 8, [.one (.nilFn)]⟩),
  (118, ⟨.fn, 1, 8, [.one (.nilFn)]⟩)]
theorem td_1 : TdOk Try.prog 1 ⟨.fn, 1, 8, [.one (.nilFn)]⟩ := ⟨by kernel_rfl, show _ = _ by kernel_rfl, by kernel_rfl, by kernel_rfl, by kernel_rfl⟩
theorem td_2 : TdOk Try.prog 2 ⟨.int .i64, 1, 8, [.one (.int .i64 0)]⟩ := ⟨by kernel_rfl, show _ = _ by kernel_rfl, by kernel_rfl, by kernel_rfl, by kernel_rfl⟩
theorem td_3 : TdOk Try.prog 3 ⟨.int .i64, 1, 8, [.one (.int .i64 0)]⟩ := ⟨by kernel_rfl, show _ = _ by kernel_rfl, by kernel_rfl, by kernel_rfl, by kernel_rfl⟩
theorem td_4 : TdOk Try.prog 4 ⟨.bool, 1, 1, [.one (.bool false)]⟩ := ⟨by kernel_rfl, show _ = _ by kernel_rfl, by kernel_rfl, by kernel_rfl, by kernel_rfl⟩
theorem td_5 : TdOk Try.prog 5 ⟨.int .u8, 1, 1, [.one (.w8 0)]⟩ := ⟨by kernel_rfl, show _ = _ by kernel_rfl, by kernel_rfl, by kernel_rfl, by kernel_rfl⟩
theorem td_6 : TdOk Try.prog 6 ⟨.int .u8, 1, 1, [.one (.w8 0)]⟩ := ⟨by kernel_rfl, show _ = _ by kernel_rfl, by kernel_rfl, by kernel_rfl, by kernel_rfl⟩
theorem td_7 : TdOk Try.prog 7 ⟨.struct [(2, 0), (3, 1), (4, 2), (6, 3)], 4, 24, [.one (.int .i64 0), .one (.int .i64 0), .one (.bool false), .one (.w8 0)]⟩ := ⟨by kernel_rfl, show _ = _ by kernel_rfl, by kernel_rfl, by kernel_rfl, by kernel_rfl⟩
theorem td_8 : TdOk Try.prog 8 ⟨.struct [(2, 0), (3, 1), (4, 2), (6, 3)], 4, 24, [.one (.int .i64 0), .one (.int .i64 0), .one (.bool false), .one (.w8 0)]⟩ := ⟨by kernel_rfl, show _ = _ by kernel_rfl, by kernel_rfl, by kernel_rfl, by kernel_rfl⟩
theorem td_9 : TdOk Try.prog 9 ⟨.str, 1, 16, [.one (.str [])]⟩ := ⟨by kernel_rfl, show _ = _ by kernel_rfl, by kernel_rfl, by kernel_rfl, by kernel_rfl⟩
theorem td_10 : TdOk Try.prog 10 ⟨.str, 1, 16, [.one (.str [])]⟩ := ⟨by kernel_rfl, show _ = _ by kernel_rfl, by kernel_rfl, by kernel_rfl, by kernel_rfl⟩
theorem td_11 : TdOk Try.prog 11 ⟨.str, 1, 16, [.one (.str [])]⟩ := ⟨by kernel_rfl, show _ = _ by kernel_rfl, by kernel_rfl, by kernel_rfl, by kernel_rfl⟩
theorem td_12 : TdOk Try.prog 12 ⟨.int .u64, 1, 8, [.one (.w64 0)]⟩ := ⟨by kernel_rfl, show _ = _ by kernel_rfl, by kernel_rfl, by kernel_rfl, by kernel_rfl⟩
theorem td_13 : TdOk Try.prog 13 ⟨.struct [(9, 0), (12, 1)], 2, 24, [.one (.str []), .one (.w64 0)]⟩ := ⟨by kernel_rfl, show _ = _ by kernel_rfl, by kernel_rfl, by kernel_rfl, by kernel_rfl⟩
theorem td_14 : TdOk Try.prog 14 ⟨.struct [(9, 0), (12, 1)], 2, 24, [.one (.str []), .one (.w64 0)]⟩ := ⟨by kernel_rfl, show _ = _ by kernel_rfl, by kernel_rfl, by kernel_rfl, by kernel_rfl⟩
theorem td_15 : TdOk Try.prog 15 ⟨.ptr 104, 1, 8, [.one (.ptr none)]⟩ := ⟨by kernel_rfl, show _ = _ by kernel_rfl, by kernel_rfl, by kernel_rfl, by kernel_rfl⟩
theorem td_16 : TdOk Try.prog 16 ⟨.ptr 107, 1, 8, [.one (.ptr none)]⟩ := ⟨by kernel_rfl, show _ = _ by kernel_rfl, by kernel_rfl, by kernel_rfl, by kernel_rfl⟩
theorem td_17 : TdOk Try.prog 17 ⟨.ptr 116, 1, 8, [.one (.ptr none)]⟩ := ⟨by kernel_rfl, show _ = _ by kernel_rfl, by kernel_rfl, by kernel_rfl, by kernel_rfl⟩
theorem td_18 : TdOk Try.prog 18 ⟨.struct [(17, 0)], 1, 8, [.one (.ptr none)]⟩ := ⟨by kernel_rfl, show _ = _ by kernel_rfl, by kernel_rfl, by kernel_rfl, by kernel_rfl⟩
theorem td_19 : TdOk Try.prog 19 ⟨.struct [(17, 0)], 1, 8, [.one (.ptr none)]⟩ := ⟨by kernel_rfl, show _ = _ by kernel_rfl, by kernel_rfl, by kernel_rfl, by kernel_rfl⟩
theorem td_20 : TdOk Try.prog 20 ⟨.ifc, 1, 16, [.one (.nilIfc)]⟩ := ⟨by kernel_rfl, show _ = _ by kernel_rfl, by kernel_rfl, by kernel_rfl, by kernel_rfl⟩
theorem td_21 : TdOk Try.prog 21 ⟨.int .i32, 1, 4, [.one (.int .i32 0)]⟩ := ⟨by kernel_rfl, show _ = _ by kernel_rfl, by kernel_rfl, by kernel_rfl, by kernel_rfl⟩
theorem td_22 : TdOk Try.prog 22 ⟨.slice 28, 1, 24, [.one (.slc none 0 0)]⟩ := ⟨by kernel_rfl, show _ = _ by kernel_rfl, by kernel_rfl, by kernel_rfl, by kernel_rfl⟩
theorem td_23 : TdOk Try.prog 23 ⟨.slice 5, 1, 24, [.one (.slc none 0 0)]⟩ := ⟨by kernel_rfl, show _ = _ by kernel_rfl, by kernel_rfl, by kernel_rfl, by kernel_rfl⟩
theorem td_24 : TdOk Try.prog 24 ⟨.int .u8, 1, 1, [.one (.w8 0)]⟩ := ⟨by kernel_rfl, show _ = _ by kernel_rfl, by kernel_rfl, by kernel_rfl, by kernel_rfl⟩
theorem td_25 : TdOk Try.prog 25 ⟨.int .u64, 1, 8, [.one (.w64 0)]⟩ := ⟨by kernel_rfl, show _ = _ by kernel_rfl, by kernel_rfl, by kernel_rfl, by kernel_rfl⟩
theorem td_26 : TdOk Try.prog 26 ⟨.slice 25, 1, 24, [.one (.slc none 0 0)]⟩ := ⟨by kernel_rfl, show _ = _ by kernel_rfl, by kernel_rfl, by kernel_rfl, by kernel_rfl⟩
theorem td_27 : TdOk Try.prog 27 ⟨.struct [(24, 0), (25, 1), (26, 2), (23, 3)], 4, 64, [.one (.w8 0), .one (.w64 0), .one (.slc none 0 0), .one (.slc none 0 0)]⟩ := ⟨by kernel_rfl, show _ = _ by kernel_rfl, by kernel_rfl, by kernel_rfl, by kernel_rfl⟩
theorem td_28 : TdOk Try.prog 28 ⟨.struct [(24, 0), (25, 1), (26, 2), (23, 3)], 4, 64, [.one (.w8 0), .one (.w64 0), .one (.slc none 0 0), .one (.slc none 0 0)]⟩ := ⟨by kernel_rfl, show _ = _ by kernel_rfl, by kernel_rfl, by kernel_rfl, by kernel_rfl⟩
theorem td_29 : TdOk Try.prog 29 ⟨.fn, 1, 8, [.one (.nilFn)]⟩ := ⟨by kernel_rfl, show _ = _ by kernel_rfl, by kernel_rfl, by kernel_rfl, by kernel_rfl⟩
theorem td_30 : TdOk Try.prog 30 ⟨.fn, 1, 8, [.one (.nilFn)]⟩ := ⟨by kernel_rfl, show _ = _ by kernel_rfl, by kernel_rfl, by kernel_rfl, by kernel_rfl⟩
theorem td_31 : TdOk Try.prog 31 ⟨.fn, 1, 8, [.one (.nilFn)]⟩ := ⟨by kernel_rfl, show _ = _ by kernel_rfl, by kernel_rfl, by kernel_rfl, by kernel_rfl⟩
theorem td_32 : TdOk Try.prog 32 ⟨.fn, 1, 8, [.one (.nilFn)]⟩ := ⟨by kernel_rfl, show _ = _ by kernel_rfl, by kernel_rfl, by kernel_rfl, by kernel_rfl⟩
theorem td_33 : TdOk Try.prog 33 ⟨.int .i64, 1, 8, [.one (.int .i64 0)]⟩ := ⟨by kernel_rfl, show _ = _ by kernel_rfl, by kernel_rfl, by kernel_rfl, by kernel_rfl⟩
theorem td_34 : TdOk Try.prog 34 ⟨.fn, 1, 8, [.one (.nilFn)]⟩ := ⟨by kernel_rfl, show _ = _ by kernel_rfl, by kernel_rfl, by kernel_rfl, by kernel_rfl⟩
theorem td_36 : TdOk Try.prog 36 ⟨.fn, 1, 8, [.one (.nilFn)]⟩ := ⟨by kernel_rfl, show _ = _ by kernel_rfl, by kernel_rfl, by kernel_rfl, by kernel_rfl⟩
theorem td_37 : TdOk Try.prog 37 ⟨.fn, 1, 8, [.one (.nilFn)]⟩ := ⟨by kernel_rfl, show _ = _ by kernel_rfl, by kernel_rfl, by kernel_rfl, by kernel_rfl⟩
theorem td_38 : TdOk Try.prog 38 ⟨.int .u16, 1, 2, [.one (.w16 0)]⟩ := ⟨by kernel_rfl, show _ = _ by kernel_rfl, by kernel_rfl, by kernel_rfl, by kernel_rfl⟩
theorem td_39 : TdOk Try.prog 39 ⟨.slice 23, 1, 24, [.one (.slc none 0 0)]⟩ := ⟨by kernel_rfl, show _ = _ by kernel_rfl, by kernel_rfl, by kernel_rfl, by kernel_rfl⟩
theorem td_41 : TdOk Try.prog 41 ⟨.fn, 1, 8, [.one (.nilFn)]⟩ := ⟨by kernel_rfl, show _ = _ by kernel_rfl, by kernel_rfl, by kernel_rfl, by kernel_rfl⟩
theorem td_42 : TdOk Try.prog 42 ⟨.fn, 1, 8, [.one (.nilFn)]⟩ := ⟨by kernel_rfl, show _ = _ by kernel_rfl, by kernel_rfl, by kernel_rfl, by kernel_rfl⟩
theorem td_43 : TdOk Try.prog 43 ⟨.fn, 1, 8, [.one (.nilFn)]⟩ := ⟨by kernel_rfl, show _ = _ by kernel_rfl, by kernel_rfl, by kernel_rfl, by kernel_rfl⟩
theorem td_44 : TdOk Try.prog 44 ⟨.fn, 1, 8, [.one (.nilFn)]⟩ := ⟨by kernel_rfl, show _ = _ by kernel_rfl, by kernel_rfl, by kernel_rfl, by kernel_rfl⟩
theorem td_45 : TdOk Try.prog 45 ⟨.fn, 1, 8, [.one (.nilFn)]⟩ := ⟨by kernel_rfl, show _ = _ by kernel_rfl, by kernel_rfl, by kernel_rfl, by kernel_rfl⟩
theorem td_46 : TdOk Try.prog 46 ⟨.slice 4, 1, 24, [.one (.slc none 0 0)]⟩ := ⟨by kernel_rfl, show _ = _ by kernel_rfl, by kernel_rfl, by kernel_rfl, by kernel_rfl⟩
theorem td_47 : TdOk Try.prog 47 ⟨.ptr 79, 1, 8, [.one (.ptr none)]⟩ := ⟨by kernel_rfl, show _ = _ by kernel_rfl, by kernel_rfl, by kernel_rfl, by kernel_rfl⟩
theorem td_48 : TdOk Try.prog 48 ⟨.fn, 1, 8, [.one (.nilFn)]⟩ := ⟨by kernel_rfl, show _ = _ by kernel_rfl, by kernel_rfl, by kernel_rfl, by kernel_rfl⟩
theorem td_49 : TdOk Try.prog 49 ⟨.fn, 1, 8, [.one (.nilFn)]⟩ := ⟨by kernel_rfl, show _ = _ by kernel_rfl, by kernel_rfl, by kernel_rfl, by kernel_rfl⟩
theorem td_50 : TdOk Try.prog 50 ⟨.fn, 1, 8, [.one (.nilFn)]⟩ := ⟨by kernel_rfl, show _ = _ by kernel_rfl, by kernel_rfl, by kernel_rfl, by kernel_rfl⟩
theorem td_52 : TdOk Try.prog 52 ⟨.fn, 1, 8, [.one (.nilFn)]⟩ := ⟨by kernel_rfl, show _ = _ by kernel_rfl, by kernel_rfl, by kernel_rfl, by kernel_rfl⟩
theorem td_53 : TdOk Try.prog 53 ⟨.fn, 1, 8, [.one (.nilFn)]⟩ := ⟨by kernel_rfl, show _ = _ by kernel_rfl, by kernel_rfl, by kernel_rfl, by kernel_rfl⟩
theorem td_54 : TdOk Try.prog 54 ⟨.fn, 1, 8, [.one (.nilFn)]⟩ := ⟨by kernel_rfl, show _ = _ by kernel_rfl, by kernel_rfl, by kernel_rfl, by kernel_rfl⟩
theorem td_55 : TdOk Try.prog 55 ⟨.fn, 1, 8, [.one (.nilFn)]⟩ := ⟨by kernel_rfl, show _ = _ by kernel_rfl, by kernel_rfl, by kernel_rfl, by kernel_rfl⟩
theorem td_56 : TdOk Try.prog 56 ⟨.fn, 1, 8, [.one (.nilFn)]⟩ := ⟨by kernel_rfl, show _ = _ by kernel_rfl, by kernel_rfl, by kernel_rfl, by kernel_rfl⟩
theorem td_57 : TdOk Try.prog 57 ⟨.slice 9, 1, 24, [.one (.slc none 0 0)]⟩ := ⟨by kernel_rfl, show _ = _ by kernel_rfl, by kernel_rfl, by kernel_rfl, by kernel_rfl⟩
theorem td_58 : TdOk Try.prog 58 ⟨.struct [(9, 0), (57, 1), (4, 2)], 3, 48, [.one (.str []), .one (.slc none 0 0), .one (.bool false)]⟩ := ⟨by kernel_rfl, show _ = _ by kernel_rfl, by kernel_rfl, by kernel_rfl, by kernel_rfl⟩
theorem td_59 : TdOk Try.prog 59 ⟨.struct [(9, 0), (57, 1), (4, 2)], 3, 48, [.one (.str []), .one (.slc none 0 0), .one (.bool false)]⟩ := ⟨by kernel_rfl, show _ = _ by kernel_rfl, by kernel_rfl, by kernel_rfl, by kernel_rfl⟩
theorem td_61 : TdOk Try.prog 61 ⟨.fn, 1, 8, [.one (.nilFn)]⟩ := ⟨by kernel_rfl, show _ = _ by kernel_rfl, by kernel_rfl, by kernel_rfl, by kernel_rfl⟩
theorem td_62 : TdOk Try.prog 62 ⟨.struct [(23, 0), (33, 1)], 2, 32, [.one (.slc none 0 0), .one (.int .i64 0)]⟩ := ⟨by kernel_rfl, show _ = _ by kernel_rfl, by kernel_rfl, by kernel_rfl, by kernel_rfl⟩
theorem td_63 : TdOk Try.prog 63 ⟨.struct [(23, 0), (33, 1)], 2, 32, [.one (.slc none 0 0), .one (.int .i64 0)]⟩ := ⟨by kernel_rfl, show _ = _ by kernel_rfl, by kernel_rfl, by kernel_rfl, by kernel_rfl⟩
theorem td_64 : TdOk Try.prog 64 ⟨.fn, 1, 8, [.one (.nilFn)]⟩ := ⟨by kernel_rfl, show _ = _ by kernel_rfl, by kernel_rfl, by kernel_rfl, by kernel_rfl⟩
theorem td_65 : TdOk Try.prog 65 ⟨.fn, 1, 8, [.one (.nilFn)]⟩ := ⟨by kernel_rfl, show _ = _ by kernel_rfl, by kernel_rfl, by kernel_rfl, by kernel_rfl⟩
theorem td_66 : TdOk Try.prog 66 ⟨.fn, 1, 8, [.one (.nilFn)]⟩ := ⟨by kernel_rfl, show _ = _ by kernel_rfl, by kernel_rfl, by kernel_rfl, by kernel_rfl⟩
theorem td_67 : TdOk Try.prog 67 ⟨.fn, 1, 8, [.one (.nilFn)]⟩ := ⟨by kernel_rfl, show _ = _ by kernel_rfl, by kernel_rfl, by kernel_rfl, by kernel_rfl⟩
theorem td_68 : TdOk Try.prog 68 ⟨.ptr 86, 1, 8, [.one (.ptr none)]⟩ := ⟨by kernel_rfl, show _ = _ by kernel_rfl, by kernel_rfl, by kernel_rfl, by kernel_rfl⟩
theorem td_69 : TdOk Try.prog 69 ⟨.fn, 1, 8, [.one (.nilFn)]⟩ := ⟨by kernel_rfl, show _ = _ by kernel_rfl, by kernel_rfl, by kernel_rfl, by kernel_rfl⟩
theorem td_70 : TdOk Try.prog 70 ⟨.fn, 1, 8, [.one (.nilFn)]⟩ := ⟨by kernel_rfl, show _ = _ by kernel_rfl, by kernel_rfl, by kernel_rfl, by kernel_rfl⟩
theorem td_71 : TdOk Try.prog 71 ⟨.fn, 1, 8, [.one (.nilFn)]⟩ := ⟨by kernel_rfl, show _ = _ by kernel_rfl, by kernel_rfl, by kernel_rfl, by kernel_rfl⟩
theorem td_72 : TdOk Try.prog 72 ⟨.fn, 1, 8, [.one (.nilFn)]⟩ := ⟨by kernel_rfl, show _ = _ by kernel_rfl, by kernel_rfl, by kernel_rfl, by kernel_rfl⟩
theorem td_73 : TdOk Try.prog 73 ⟨.fn, 1, 8, [.one (.nilFn)]⟩ := ⟨by kernel_rfl, show _ = _ by kernel_rfl, by kernel_rfl, by kernel_rfl, by kernel_rfl⟩
theorem td_74 : TdOk Try.prog 74 ⟨.fn, 1, 8, [.one (.nilFn)]⟩ := ⟨by kernel_rfl, show _ = _ by kernel_rfl, by kernel_rfl, by kernel_rfl, by kernel_rfl⟩
theorem td_76 : TdOk Try.prog 76 ⟨.fn, 1, 8, [.one (.nilFn)]⟩ := ⟨by kernel_rfl, show _ = _ by kernel_rfl, by kernel_rfl, by kernel_rfl, by kernel_rfl⟩
theorem td_77 : TdOk Try.prog 77 ⟨.fn, 1, 8, [.one (.nilFn)]⟩ := ⟨by kernel_rfl, show _ = _ by kernel_rfl, by kernel_rfl, by kernel_rfl, by kernel_rfl⟩
theorem td_78 : TdOk Try.prog 78 ⟨.struct [(3, 0), (22, 1), (4, 2), (2, 3)], 4, 48, [.one (.int .i64 0), .one (.slc none 0 0), .one (.bool false), .one (.int .i64 0)]⟩ := ⟨by kernel_rfl, show _ = _ by kernel_rfl, by kernel_rfl, by kernel_rfl, by kernel_rfl⟩
theorem td_79 : TdOk Try.prog 79 ⟨.struct [(3, 0), (22, 1), (4, 2), (2, 3)], 4, 48, [.one (.int .i64 0), .one (.slc none 0 0), .one (.bool false), .one (.int .i64 0)]⟩ := ⟨by kernel_rfl, show _ = _ by kernel_rfl, by kernel_rfl, by kernel_rfl, by kernel_rfl⟩
theorem td_80 : TdOk Try.prog 80 ⟨.fn, 1, 8, [.one (.nilFn)]⟩ := ⟨by kernel_rfl, show _ = _ by kernel_rfl, by kernel_rfl, by kernel_rfl, by kernel_rfl⟩
theorem td_81 : TdOk Try.prog 81 ⟨.fn, 1, 8, [.one (.nilFn)]⟩ := ⟨by kernel_rfl, show _ = _ by kernel_rfl, by kernel_rfl, by kernel_rfl, by kernel_rfl⟩
theorem td_82 : TdOk Try.prog 82 ⟨.ptr 63, 1, 8, [.one (.ptr none)]⟩ := ⟨by kernel_rfl, show _ = _ by kernel_rfl, by kernel_rfl, by kernel_rfl, by kernel_rfl⟩
theorem td_83 : TdOk Try.prog 83 ⟨.fn, 1, 8, [.one (.nilFn)]⟩ := ⟨by kernel_rfl, show _ = _ by kernel_rfl, by kernel_rfl, by kernel_rfl, by kernel_rfl⟩
theorem td_84 : TdOk Try.prog 84 ⟨.fn, 1, 8, [.one (.nilFn)]⟩ := ⟨by kernel_rfl, show _ = _ by kernel_rfl, by kernel_rfl, by kernel_rfl, by kernel_rfl⟩
theorem td_85 : TdOk Try.prog 85 ⟨.struct [(23, 0), (33, 1)], 2, 32, [.one (.slc none 0 0), .one (.int .i64 0)]⟩ := ⟨by kernel_rfl, show _ = _ by kernel_rfl, by kernel_rfl, by kernel_rfl, by kernel_rfl⟩
theorem td_86 : TdOk Try.prog 86 ⟨.struct [(23, 0), (33, 1)], 2, 32, [.one (.slc none 0 0), .one (.int .i64 0)]⟩ := ⟨by kernel_rfl, show _ = _ by kernel_rfl, by kernel_rfl, by kernel_rfl, by kernel_rfl⟩
theorem td_88 : TdOk Try.prog 88 ⟨.fn, 1, 8, [.one (.nilFn)]⟩ := ⟨by kernel_rfl, show _ = _ by kernel_rfl, by kernel_rfl, by kernel_rfl, by kernel_rfl⟩
theorem td_89 : TdOk Try.prog 89 ⟨.fn, 1, 8, [.one (.nilFn)]⟩ := ⟨by kernel_rfl, show _ = _ by kernel_rfl, by kernel_rfl, by kernel_rfl, by kernel_rfl⟩
theorem td_90 : TdOk Try.prog 90 ⟨.fn, 1, 8, [.one (.nilFn)]⟩ := ⟨by kernel_rfl, show _ = _ by kernel_rfl, by kernel_rfl, by kernel_rfl, by kernel_rfl⟩
theorem td_91 : TdOk Try.prog 91 ⟨.slice 57, 1, 24, [.one (.slc none 0 0)]⟩ := ⟨by kernel_rfl, show _ = _ by kernel_rfl, by kernel_rfl, by kernel_rfl, by kernel_rfl⟩
theorem td_92 : TdOk Try.prog 92 ⟨.fn, 1, 8, [.one (.nilFn)]⟩ := ⟨by kernel_rfl, show _ = _ by kernel_rfl, by kernel_rfl, by kernel_rfl, by kernel_rfl⟩
theorem td_93 : TdOk Try.prog 93 ⟨.fn, 1, 8, [.one (.nilFn)]⟩ := ⟨by kernel_rfl, show _ = _ by kernel_rfl, by kernel_rfl, by kernel_rfl, by kernel_rfl⟩
theorem td_94 : TdOk Try.prog 94 ⟨.fn, 1, 8, [.one (.nilFn)]⟩ := ⟨by kernel_rfl, show _ = _ by kernel_rfl, by kernel_rfl, by kernel_rfl, by kernel_rfl⟩
theorem td_96 : TdOk Try.prog 96 ⟨.fn, 1, 8, [.one (.nilFn)]⟩ := ⟨by kernel_rfl, show _ = _ by kernel_rfl, by kernel_rfl, by kernel_rfl, by kernel_rfl⟩
theorem td_97 : TdOk Try.prog 97 ⟨.int .u64, 1, 8, [.one (.w64 0)]⟩ := ⟨by kernel_rfl, show _ = _ by kernel_rfl, by kernel_rfl, by kernel_rfl, by kernel_rfl⟩
theorem td_99 : TdOk Try.prog 99 ⟨.fn, 1, 8, [.one (.nilFn)]⟩ := ⟨by kernel_rfl, show _ = _ by kernel_rfl, by kernel_rfl, by kernel_rfl, by kernel_rfl⟩
theorem td_100 : TdOk Try.prog 100 ⟨.fn, 1, 8, [.one (.nilFn)]⟩ := ⟨by kernel_rfl, show _ = _ by kernel_rfl, by kernel_rfl, by kernel_rfl, by kernel_rfl⟩
theorem td_101 : TdOk Try.prog 101 ⟨.array 8 5, 8, 8, [.row 8 (fun _ => .w8 0)]⟩ := ⟨by kernel_rfl, show _ = _ by kernel_rfl, by kernel_rfl, by kernel_rfl, by kernel_rfl⟩
theorem td_102 : TdOk Try.prog 102 ⟨.fn, 1, 8, [.one (.nilFn)]⟩ := ⟨by kernel_rfl, show _ = _ by kernel_rfl, by kernel_rfl, by kernel_rfl, by kernel_rfl⟩
theorem td_103 : TdOk Try.prog 103 ⟨.struct [(17, 0), (17, 1), (17, 2), (9, 3)], 4, 40, [.one (.ptr none), .one (.ptr none), .one (.ptr none), .one (.str [])]⟩ := ⟨by kernel_rfl, show _ = _ by kernel_rfl, by kernel_rfl, by kernel_rfl, by kernel_rfl⟩
theorem td_104 : TdOk Try.prog 104 ⟨.struct [(17, 0), (17, 1), (17, 2), (9, 3)], 4, 40, [.one (.ptr none), .one (.ptr none), .one (.ptr none), .one (.str [])]⟩ := ⟨by kernel_rfl, show _ = _ by kernel_rfl, by kernel_rfl, by kernel_rfl, by kernel_rfl⟩
theorem td_105 : TdOk Try.prog 105 ⟨.array 0 16, 0, 0, [.row 0 (fun _ => .ptr none)]⟩ := ⟨by kernel_rfl, show _ = _ by kernel_rfl, by kernel_rfl, by kernel_rfl, by kernel_rfl⟩
theorem td_106 : TdOk Try.prog 106 ⟨.struct [(105, 0)], 0, 0, [.row 0 (fun _ => .ptr none)]⟩ := ⟨by kernel_rfl, show _ = _ by kernel_rfl, by kernel_rfl, by kernel_rfl, by kernel_rfl⟩
theorem td_107 : TdOk Try.prog 107 ⟨.struct [(105, 0)], 0, 0, [.row 0 (fun _ => .ptr none)]⟩ := ⟨by kernel_rfl, show _ = _ by kernel_rfl, by kernel_rfl, by kernel_rfl, by kernel_rfl⟩
theorem td_108 : TdOk Try.prog 108 ⟨.int .u32, 1, 4, [.one (.w32 0)]⟩ := ⟨by kernel_rfl, show _ = _ by kernel_rfl, by kernel_rfl, by kernel_rfl, by kernel_rfl⟩
theorem td_109 : TdOk Try.prog 109 ⟨.int .u8, 1, 1, [.one (.w8 0)]⟩ := ⟨by kernel_rfl, show _ = _ by kernel_rfl, by kernel_rfl, by kernel_rfl, by kernel_rfl⟩
theorem td_110 : TdOk Try.prog 110 ⟨.int .u8, 1, 1, [.one (.w8 0)]⟩ := ⟨by kernel_rfl, show _ = _ by kernel_rfl, by kernel_rfl, by kernel_rfl, by kernel_rfl⟩
theorem td_111 : TdOk Try.prog 111 ⟨.fn, 1, 8, [.one (.nilFn)]⟩ := ⟨by kernel_rfl, show _ = _ by kernel_rfl, by kernel_rfl, by kernel_rfl, by kernel_rfl⟩
theorem td_112 : TdOk Try.prog 112 ⟨.ptr 5, 1, 8, [.one (.ptr none)]⟩ := ⟨by kernel_rfl, show _ = _ by kernel_rfl, by kernel_rfl, by kernel_rfl, by kernel_rfl⟩
theorem td_113 : TdOk Try.prog 113 ⟨.int .i32, 1, 4, [.one (.int .i32 0)]⟩ := ⟨by kernel_rfl, show _ = _ by kernel_rfl, by kernel_rfl, by kernel_rfl, by kernel_rfl⟩
theorem td_114 : TdOk Try.prog 114 ⟨.int .i32, 1, 4, [.one (.int .i32 0)]⟩ := ⟨by kernel_rfl, show _ = _ by kernel_rfl, by kernel_rfl, by kernel_rfl, by kernel_rfl⟩
theorem td_115 : TdOk Try.prog 115 ⟨.struct [(12, 0), (12, 1), (108, 2), (109, 3), (5, 4), (5, 5), (110, 6), (111, 7), (112, 8), (113, 9), (114, 10)], 11, 48, [.one (.w64 0), .one (.w64 0), .one (.w32 0), .one (.w8 0), .one (.w8 0), .one (.w8 0), .one (.w8 0), .one (.nilFn), .one (.ptr none), .one (.int .i32 0), .one (.int .i32 0)]⟩ := ⟨by kernel_rfl, show _ = _ by kernel_rfl, by kernel_rfl, by kernel_rfl, by kernel_rfl⟩
theorem td_116 : TdOk Try.prog 116 ⟨.struct [(12, 0), (12, 1), (108, 2), (109, 3), (5, 4), (5, 5), (110, 6), (111, 7), (112, 8), (113, 9), (114, 10)], 11, 48, [.one (.w64 0), .one (.w64 0), .one (.w32 0), .one (.w8 0), .one (.w8 0), .one (.w8 0), .one (.w8 0), .one (.nilFn), .one (.ptr none), .one (.int .i32 0), .one (.int .i32 0)]⟩ := ⟨by kernel_rfl, show _ = _ by kernel_rfl, by kernel_rfl, by kernel_rfl, by kernel_rfl⟩
theorem td_117 : TdOk Try.prog 117 ⟨.fn, 1, 8, [.one (.nilFn)]⟩ := ⟨by kernel_rfl, show _ = _ by kernel_rfl, by kernel_rfl, by kernel_rfl, by kernel_rfl⟩
theorem td_118 : TdOk Try.prog 118 ⟨.fn, 1, 8, [.one (.nilFn)]⟩ := ⟨by kernel_rfl, show _ = _ by kernel_rfl, by kernel_rfl, by kernel_rfl, by kernel_rfl⟩
theorem tds_ok : AllT Try.prog tds := ⟨td_1, td_2, td_3, td_4, td_5, td_6, td_7, td_8, td_9, td_10, td_11, td_12, td_13, td_14, td_15, td_16, td_17, td_18, td_19, td_20, td_21, td_22, td_23, td_24, td_25, td_26, td_27, td_28, td_29, td_30, td_31, td_32, td_33, td_34, td_36, td_37, td_38, td_39, td_41, td_42, td_43, td_44, td_45, td_46, td_47, td_48, td_49, td_50, td_52, td_53, td_54, td_55, td_56, td_57, td_58, td_59, td_61, td_62, td_63, td_64, td_65, td_66, td_67, td_68, td_69, td_70, td_71, td_72, td_73, td_74, td_76, td_77, td_78, td_79, td_80, td_81, td_82, td_83, td_84, td_85, td_86, td_88, td_89, td_90, td_91, td_92, td_93, td_94, td_96, td_97, td_99, td_100, td_101, td_102, td_103, td_104, td_105, td_106, td_107, td_108, td_109, td_110, td_111, td_112, td_113, td_114, td_115, td_116, td_117, td_118, trivial⟩
end Sx
end Go.Proofs.Ytdakmieapdpidaa
end

section
/-
  Forms laid bare by an equation. Over any program. No condition of its own.
-/
namespace Go.Proofs.Ytdakmieapdpidaa
set_option linter.unusedVariables false
namespace Sx

theorem frcN_of {n m : Nat} {k : Nat → Prop} (h : n = m) (hk : k m) : frcN n k := by subst h; exact hk
end Sx
end Go.Proofs.Ytdakmieapdpidaa
end

section
/-
  Bytes as lists, and as rows of cells. No condition.
-/
namespace Go.Proofs.Ytdakmieapdpidaa
set_option linter.unusedVariables false
namespace Sha
abbrev Bs := List (BitVec 8)
def L (l : Bs) (i : Nat) : BitVec 8 := l.getD i 0#8
theorem L_lt {l : Bs} {i : Nat} (h : i < l.length) : L l i = l[i] := by
  unfold L; rw [List.getD_eq_getElem?_getD, List.getElem?_eq_getElem h]; rfl
theorem L_app1 {l m : Bs} {i : Nat} (h : i < l.length) : L (l ++ m) i = L l i := by
  unfold L; rw [List.getD_eq_getElem?_getD, List.getD_eq_getElem?_getD, List.getElem?_append_left h]
theorem L_app2 {l m : Bs} {i : Nat} : L (l ++ m) (l.length + i) = L m i := by
  unfold L; rw [List.getD_eq_getElem?_getD, List.getD_eq_getElem?_getD, List.getElem?_append_right (by omega), Nat.add_sub_cancel_left]
theorem L_app {l m : Bs} {i : Nat} : L (l ++ m) i = if i < l.length then L l i else L m (i - l.length) := by
  split
  · rename_i h; exact L_app1 h
  · rename_i h
    have := @L_app2 l m (i - l.length)
    rwa [show l.length + (i - l.length) = i by omega] at this
theorem L_drop (l : Bs) (o i : Nat) : L (l.drop o) i = L l (o + i) := by
  unfold L; rw [List.getD_eq_getElem?_getD, List.getD_eq_getElem?_getD, List.getElem?_drop]
theorem L_take (l : Bs) (n i : Nat) (h : i < n) : L (l.take n) i = L l i := by
  unfold L; rw [List.getD_eq_getElem?_getD, List.getD_eq_getElem?_getD, List.getElem?_take, if_pos h]
/-- The list of some bytes. -/
def tab (n : Nat) (b : Nat → BitVec 8) : Bs := (List.range n).map b
@[simp] theorem tab_len (n : Nat) (b : Nat → BitVec 8) : (tab n b).length = n := by simp [tab]
theorem L_tab {n : Nat} {b : Nat → BitVec 8} {i : Nat} (h : i < n) : L (tab n b) i = b i := by
  unfold L tab; rw [List.getD_eq_getElem?_getD]; simp [h]
/-- Bytes as the model's strings have them. -/
def U8 (l : Bs) : List UInt8 := l.map UInt8.ofBitVec
@[simp] theorem U8_len (l : Bs) : (U8 l).length = l.length := by simp [U8]
theorem U8_get (l : Bs) (q : Nat) (h : q < l.length) : ((U8 l).getD q 0).toBitVec = L l q := by
  rw [L_lt h, List.getD_eq_getElem?_getD, U8, List.getElem?_map, List.getElem?_eq_getElem h]
  rfl
theorem U8_inj {l m : Bs} (h : U8 l = U8 m) : l = m := by
  have : (U8 l).map UInt8.toBitVec = (U8 m).map UInt8.toBitVec := congrArg _ h
  simpa [U8, Function.comp_def] using this
def BS (l : List UInt8) : Bs := l.map UInt8.toBitVec
@[simp] theorem BS_len (l : List UInt8) : (BS l).length = l.length := by simp [BS]
theorem L_BS (l : List UInt8) (i : Nat) (hi : i < l.length) : L (BS l) i = (l.getD i 0).toBitVec := by
  rw [L_lt (by simpa using hi), List.getD_eq_getElem?_getD, List.getElem?_eq_getElem hi]
  simp [BS]
end Sha
namespace Sx
open Sha

theorem follows_ : Try.prog.follows .mixedOrders = true := by kernel_rfl
theorem eqC_w8 {q : List Nat} {x : SC} {b : BitVec 8} (h : x = .w8 b) : eqC q x (.w8 b) True := by subst h; exact ⟨rfl, trivial⟩
/-- n bytes, and room behind them. -/
def bytesF (n : Nat) (b : Nat → BitVec 8) : Nat → SC := fun j => if j < n then .w8 (b j) else .any
theorem bytesF_lt {n : Nat} {b : Nat → BitVec 8} {j : Nat} (h : j < n) : bytesF n b j = .w8 (b j) := if_pos h
theorem eqC_bytes {q : List Nat} {n : Nat} {f : Nat → SC} {b : Nat → BitVec 8} (h : ∀ j, j < n → f j = .w8 (b j)) (j : Nat) : eqC q (f j) (bytesF n b j) True := by
  unfold bytesF
  split
  · rename_i hj; exact eqC_w8 (h j hj)
  · trivial
theorem len2 {α : Type} : ∀ {l : List α}, l.length = 2 → ∃ a b, l = [a, b]
  | [a, b], _ => ⟨a, b, rfl⟩
theorem len3 {α : Type} : ∀ {l : List α}, l.length = 3 → ∃ a b c, l = [a, b, c]
  | [a, b, c], _ => ⟨a, b, c, rfl⟩
theorem upd_bytes {n k : Nat} {f g : Nat → BitVec 8} {v : SC} (hk : k < n) (hv : v = .w8 (g k)) (hf : ∀ j, j ≠ k → f j = g j) (j : Nat) (hj : j < n) : upd (bytesF n f) k v j = .w8 (g j) := by
  unfold upd
  split
  · rename_i h; rw [h, hv]
  · rename_i h; rw [bytesF_lt hj, hf j h]
theorem len2' {α : Type} : ∀ {l : List α}, l.length = 2 → ∃ a b, l = [a, b]
  | [a, b], _ => ⟨a, b, rfl⟩
theorem len3' {α : Type} : ∀ {l : List α}, l.length = 3 → ∃ a b c, l = [a, b, c]
  | [a, b, c], _ => ⟨a, b, c, rfl⟩
/-- n bytes from place o on. -/
def winF (o n : Nat) (b : Nat → BitVec 8) : Nat → SC := fun j => if o ≤ j ∧ j < o + n then .w8 (b (j - o)) else .any
theorem winF_at (o n : Nat) (b : Nat → BitVec 8) {i : Nat} (h : i < n) : winF o n b (o + i) = .w8 (b i) := by
  unfold winF
  rw [if_pos ⟨by omega, by omega⟩, show o + i - o = i by omega]
theorem eqC_win {q : List Nat} {o n : Nat} {f : Nat → SC} {b : Nat → BitVec 8} (h : ∀ i, i < n → f (o + i) = .w8 (b i)) (j : Nat) : eqC q (f j) (winF o n b j) True := by
  unfold winF
  split
  · rename_i hj
    have := h (j - o) (by omega)
    rw [show o + (j - o) = j by omega] at this
    exact eqC_w8 this
  · trivial
theorem eqC_winS {q : List Nat} {o n : Nat} {b : Nat → BitVec 8} {j : Nat} : eqC q (winF o n b j) (winF o n b j) True := eqC_win (fun _ h => winF_at _ _ _ h) j
theorem eqC_winM {q : List Nat} {g : Nat → Nat} {o n : Nat} {b : Nat → BitVec 8} {j : Nat} : eqC q (SC.mp g (winF o n b j)) (winF o n b j) True :=
  eqC_win (f := fun j => SC.mp g (winF o n b j)) (fun _ h => by rw [winF_at _ _ _ h]; rfl) j
theorem eqC_selfB {q : List Nat} {n : Nat} {b : Nat → BitVec 8} {j : Nat} : eqC q (bytesF n b j) (bytesF n b j) True := eqC_bytes (fun _ h => bytesF_lt h) j
theorem eqC_mpB {q : List Nat} {g : Nat → Nat} {n : Nat} {b : Nat → BitVec 8} {j : Nat} : eqC q (SC.mp g (bytesF n b j)) (bytesF n b j) True :=
  eqC_bytes (f := fun j => SC.mp g (bytesF n b j)) (fun j h => by rw [bytesF_lt h]; rfl) j
theorem eqC_winB {q : List Nat} {n : Nat} {b : Nat → BitVec 8} {j : Nat} : eqC q (bytesF n b j) (winF 0 n b j) True :=
  eqC_win (fun i h => by rw [Nat.zero_add]; exact bytesF_lt h) j
/-- Bytes of a slice that may be nil. -/
def bts : Bool → Nat → Nat → Nat → (Nat → BitVec 8) → List Seg
  | true, _, _, _, _ => []
  | false, N, o, n, b => [.row N (winF o n b)]
/-- Bytes of a slice that may be nil, taken as they are. -/
theorem sn_bts {h : List (List Seg)} {z : Bool} {j N o n : Nat} {b : Nat → BitVec 8} {k : (Nat → SC) → Prop} (hj : getH h j = bts z N o n b) (hN : o + n ≤ N) (hz : z = true → n = 0)
    (hk : ∀ g : Nat → SC, (∀ i, i < n → g i = .w8 (b i)) → k g) : ∃ f : Nat → SC, ((z = true → n = 0) ∧ (z = false → SnAt h j 0 o n 1 f)) ∧ k f := by
  refine ⟨fun i => .w8 (b i), ⟨hz, ?_⟩, hk _ fun _ _ => rfl⟩
  rintro rfl
  exact ⟨N, winF o n b, [], by rw [hj]; rfl, hN, fun q hq => by rw [Nat.add_comm]; exact (winF_at _ _ _ hq).symm⟩
/-- Things of which only the first m are known. -/
def partsF (m : Nat) (g : Nat → SC) : Nat → SC := fun i => if i < m then g i else .any
theorem frc_parts {m : Nat} {g : Nat → SC} {i : Nat} {k : SC → Prop} (h : i < m) (hk : frcSC (g i) k) : frcSC (partsF m g i) k := by
  unfold partsF; rw [if_pos h]; exact hk
/-- A part of some bytes. -/
def sub (l : Bs) (o n : Nat) : Bs := (l.drop o).take n
theorem eqC_bts {q : List Nat} {z : Bool} {N o n : Nat} {b : Nat → BitVec 8} {k : Prop} (hk : k) : eqSegs q (bts z N o n b) (bts z N o n b) k := by
  cases z
  · exact ⟨rfl, fun j hj => eqC_winS, hk⟩
  · exact hk
theorem eqC_btsM {q : List Nat} {g : Nat → Nat} {z : Bool} {N o n : Nat} {b : Nat → BitVec 8} {k : Prop} (hk : k) : eqSegs q (mpL g (bts z N o n b)) (bts z N o n b) k := by
  cases z
  · exact ⟨rfl, fun j hj => eqC_winM, hk⟩
  · exact hk
theorem frc_bytesL {n : Nat} {b : Nat → BitVec 8} {j : Nat} {k : SC → Prop} (h : j < n) (hk : k (.w8 (b j))) : frcSC (bytesF n b j) k := by
  rw [bytesF_lt h]; exact hk
theorem eqC_win0 {q : List Nat} {n : Nat} {f : Nat → SC} {b : Nat → BitVec 8} (h : ∀ i, i < n → f i = .w8 (b i)) (j : Nat) : eqC q (f j) (winF 0 n b j) True :=
  eqC_win (fun i hi => by rw [Nat.zero_add]; exact h i hi) j
theorem frc_win {o n i : Nat} {b : Nat → BitVec 8} {k : SC → Prop} (h : i < n) (hk : k (.w8 (b i))) : frcSC (winF o n b (i + o)) k := by
  rw [Nat.add_comm, winF_at _ _ _ h]; exact hk
theorem eqSegs_nil {q : List Nat} {x : List Seg} {k : Prop} (h : k) : eqSegs q x [] k := by
  cases x with
  | nil => exact h
  | cons a r => cases a <;> exact h
theorem nthC_w8 : ∀ (l : Bs) (j : Nat), j < l.length → nthC (l.map SC.w8) j = .w8 (L l j)
  | [], _, h => absurd h (by simp)
  | x :: l, 0, _ => rfl
  | x :: l, j + 1, h => nthC_w8 l j (by simpa using h)
theorem app_row {f g : Nat → SC} {l m : Bs} {n k : Nat} (hn : l.length = n) (hk : m.length = k) (hf : ∀ i, i < n → f i = .w8 (L l i)) (hg : ∀ i, i < k → g i = .w8 (L m i)) (i : Nat) (hi : i < n + k) :
    appF f 0 (scale n (0 + 1)) (scale k (0 + 1)) g i = .w8 (L (l ++ m) i) := by
  have e1 : scale n (0 + 1) = n := by rw [scale_eq, Nat.zero_add, Nat.mul_one]
  have e2 : scale k (0 + 1) = k := by rw [scale_eq, Nat.zero_add, Nat.mul_one]
  unfold appF
  rw [e1, e2, L_app, hn]
  by_cases h : i < n
  · rw [if_pos h, if_pos h]; exact hf i h
  · rw [if_neg h, if_pos hi, if_neg h]; exact hg _ (by omega)
theorem new_row {g : Nat → SC} {m : Bs} {k : Nat} (hg : ∀ i, i < k → g i = .w8 (L m i)) (i : Nat) (hi : i < k) : newF (scale k (0 + 1)) g i = .w8 (L m i) := by
  have e2 : scale k (0 + 1) = k := by rw [scale_eq, Nat.zero_add, Nat.mul_one]
  unfold newF
  rw [e2, if_pos hi]; exact hg i hi
theorem one_row {x y : BitVec 8} (h : x = y) (i : Nat) (hi : i < 1) : nthC [.w8 x] i = .w8 (L [y] i) := by
  obtain rfl : i = 0 := by omega
  subst h; rfl
theorem sn_btsM {h : List (List Seg)} {g : Nat → Nat} {z : Bool} {j N o n : Nat} {b : Nat → BitVec 8} {k : (Nat → SC) → Prop} (hj : getH h j = mpL g (bts z N o n b)) (hN : o + n ≤ N) (hz : z = true → n = 0)
    (hk : ∀ g : Nat → SC, (∀ i, i < n → g i = .w8 (b i)) → k g) : ∃ f : Nat → SC, ((z = true → n = 0) ∧ (z = false → SnAt h j 0 o n 1 f)) ∧ k f := by
  refine ⟨fun i => .w8 (b i), ⟨hz, ?_⟩, hk _ fun _ _ => rfl⟩
  rintro rfl
  refine ⟨N, fun j => SC.mp g (winF o n b j), [], by rw [hj]; rfl, hN, fun q hq => ?_⟩
  show SC.w8 (b q) = SC.mp g (winF o n b (q + o))
  rw [Nat.add_comm, winF_at _ _ _ (show q < n from hq)]
  rfl
theorem eqC_winBM {q : List Nat} {g : Nat → Nat} {n m : Nat} {b : Nat → BitVec 8} {j : Nat} (h : m ≤ n) : eqC q (SC.mp g (bytesF n b j)) (winF 0 m b j) True :=
  eqC_win0 (f := fun j => SC.mp g (bytesF n b j)) (fun i hi => by rw [bytesF_lt (by omega)]; rfl) j
theorem frc_bytesM {n : Nat} {g : Nat → Nat} {b : Nat → BitVec 8} {j : Nat} {k : SC → Prop} (h : j < n) (hk : k (.w8 (b j))) : frcSC (SC.mp g (bytesF n b j)) k := by
  rw [bytesF_lt h]; exact hk
theorem frc_winA {o n x : Nat} {b : Nat → BitVec 8} {k : SC → Prop} (i : Nat) (hx : x = i + o) (h : i < n) (hk : k (.w8 (b i))) : frcSC (winF o n b x) k := by
  rw [hx]; exact frc_win h hk
/-- A plain part of an entailment, found by itself. -/
theorem ent1 {a b : Prop} (k : b) (h : a := by first | exact rfl | exact fun _ _ => ⟨rfl, trivial⟩ | exact fun _ _ => trivial | exact ⟨rfl, rfl⟩ | omega | exact fun _ _ => eqC_winS | exact fun _ _ => eqC_winM | exact fun _ _ => eqC_winB | exact fun _ _ => eqC_selfB | exact fun _ _ => eqC_mpB) : a ∧ b := ⟨h, k⟩
end Sx
end Go.Proofs.Ytdakmieapdpidaa
end

section
/-
  Numbers of one, two, four or eight bytes, as lists of bytes: put and taken. Plain. No condition.
-/
namespace Go.Proofs.Ytdakmieapdpidaa
set_option linter.unusedVariables false
namespace Vi
open Sha

def lenN (n : BitVec 64) : Nat := if n < 64#64 then 1 else if n < 16384#64 then 2 else if n < 1073741824#64 then 4 else if n < 4611686018427387904#64 then 8 else 0
def okSz (k : Nat) : Prop := k = 1 ∨ k = 2 ∨ k = 4 ∨ k = 8
def markB (k : Nat) : BitVec 8 := if k = 2 then 64#8 else if k = 4 then 128#8 else if k = 8 then 192#8 else 0#8
def byteN (n : BitVec 64) (j : Nat) : BitVec 8 := (n >>> (8 * j)).setWidth 8
/-- A number's bytes, so many. -/
def wideL (n : BitVec 64) (k : Nat) : Bs := tab k fun i => if i = 0 then byteN n (k - 1) ||| markB k else byteN n (k - 1 - i)
/-- With the fewest. -/
def putL (n : BitVec 64) : Bs := wideL n (lenN n)
@[simp] theorem wideL_len (n : BitVec 64) (k : Nat) : (wideL n k).length = k := tab_len _ _
def sizeT (c : BitVec 8) : Nat := 2 ^ (c >>> 6).toNat
/-- What is taken: the first byte and i more. -/
def numT (l : Bs) : Nat → BitVec 64
  | 0 => (L l 0 &&& 63#8).setWidth 64
  | i + 1 => numT l i <<< 8 ||| (L l (i + 1)).setWidth 64
theorem lenN_spec (n : BitVec 64) : (n.toNat < 64 ∧ lenN n = 1) ∨ (64 ≤ n.toNat ∧ n.toNat < 16384 ∧ lenN n = 2) ∨ (16384 ≤ n.toNat ∧ n.toNat < 1073741824 ∧ lenN n = 4) ∨
    (1073741824 ≤ n.toNat ∧ n.toNat < 4611686018427387904 ∧ lenN n = 8) ∨ (4611686018427387904 ≤ n.toNat ∧ lenN n = 0) := by
  unfold lenN
  simp only [BitVec.lt_def, BitVec.toNat_ofNat]
  split <;> (try split) <;> (try split) <;> (try split) <;> omega
theorem lenN_ok {n : BitVec 64} (h : lenN n ≠ 0) : okSz (lenN n) := by
  have := lenN_spec n
  unfold okSz
  omega
theorem byteN_toNat (n : BitVec 64) (j : Nat) : (byteN n j).toNat = n.toNat / 256 ^ j % 256 := by
  unfold byteN
  rw [BitVec.toNat_setWidth, BitVec.toNat_ushiftRight, Nat.shiftRight_eq_div_pow, Nat.pow_mul]
theorem step_toNat (a : BitVec 64) (c : BitVec 8) (h : a.toNat < 2 ^ 56) : (a <<< 8 ||| c.setWidth 64).toNat = a.toNat * 256 + c.toNat := by
  have hc := c.isLt
  rw [BitVec.toNat_or, BitVec.toNat_shiftLeft, BitVec.toNat_setWidth, Nat.shiftLeft_eq, Nat.mod_eq_of_lt (by omega), Nat.mod_eq_of_lt (by omega : c.toNat < 2 ^ 64), Nat.mul_comm]
  exact (Nat.two_pow_add_eq_or_of_lt (by omega) _).symm
theorem mark_and : ∀ c : BitVec 8, c < 64#8 → (c ||| 0#8) &&& 63#8 = c ∧ (c ||| 64#8) &&& 63#8 = c ∧ (c ||| 128#8) &&& 63#8 = c ∧ (c ||| 192#8) &&& 63#8 = c := by decide +kernel
theorem mark_shr : ∀ c : BitVec 8, c < 64#8 → ((c ||| 0#8) >>> 6) = 0#8 ∧ ((c ||| 64#8) >>> 6) = 1#8 ∧ ((c ||| 128#8) >>> 6) = 2#8 ∧ ((c ||| 192#8) >>> 6) = 3#8 := by decide +kernel
theorem head_lt {n : BitVec 64} {k : Nat} (hk : okSz k) (h0 : lenN n ≠ 0) (h1 : lenN n ≤ k) : byteN n (k - 1) < 64#8 ∧ n.toNat < 64 * 256 ^ (k - 1) := by
  have hs := lenN_spec n
  rw [BitVec.lt_def, byteN_toNat]
  rcases hk with rfl | rfl | rfl | rfl <;> simp <;> omega
theorem take_wide {n : BitVec 64} {k : Nat} (hk : okSz k) (h0 : lenN n ≠ 0) (h1 : lenN n ≤ k) (r : Bs) : sizeT (L (wideL n k ++ r) 0) = k ∧ numT (wideL n k ++ r) (k - 1) = n := by
  obtain ⟨hb, hn⟩ := head_lt hk h0 h1
  have e0 : ∀ i, i < k → L (wideL n k ++ r) i = if i = 0 then byteN n (k - 1) ||| markB k else byteN n (k - 1 - i) := fun i hi => by
    rw [L_app1 (by simpa using hi)]
    exact L_tab hi
  have a0 := mark_and _ hb
  have a1 := mark_shr _ hb
  have z : (L (wideL n k ++ r) 0 &&& 63#8) = byteN n (k - 1) ∧ sizeT (L (wideL n k ++ r) 0) = k := by
    rw [e0 0 (by rcases hk with rfl | rfl | rfl | rfl <;> omega), if_pos rfl]
    unfold sizeT
    rcases hk with rfl | rfl | rfl | rfl
    · exact ⟨a0.1, by show 2 ^ ((byteN n 0 ||| 0#8) >>> 6).toNat = 1; rw [a1.1]; rfl⟩
    · exact ⟨a0.2.1, by show 2 ^ ((byteN n 1 ||| 64#8) >>> 6).toNat = 2; rw [a1.2.1]; rfl⟩
    · exact ⟨a0.2.2.1, by show 2 ^ ((byteN n 3 ||| 128#8) >>> 6).toNat = 4; rw [a1.2.2.1]; rfl⟩
    · exact ⟨a0.2.2.2, by show 2 ^ ((byteN n 7 ||| 192#8) >>> 6).toNat = 8; rw [a1.2.2.2]; rfl⟩
  refine ⟨z.2, ?_⟩
  have key : ∀ i, i < k → (numT (wideL n k ++ r) i).toNat = n.toNat / 256 ^ (k - 1 - i) := by
    intro i hi
    induction i with
    | zero =>
      simp only [numT]
      rw [z.1, BitVec.toNat_setWidth, byteN_toNat, Nat.sub_zero]
      have hq : n.toNat / 256 ^ (k - 1) < 64 := Nat.div_lt_of_lt_mul (by rw [Nat.mul_comm]; exact hn)
      rw [Nat.mod_eq_of_lt (by omega : n.toNat / 256 ^ (k - 1) < 256), Nat.mod_eq_of_lt (by omega)]
    | succ i ih =>
      have ih := ih (by omega)
      have hlt : n.toNat / 256 ^ (k - 1 - i) < 2 ^ 56 := by
        have hn2 := n.isLt
        have hs : 256 ≤ 256 ^ (k - 1 - i) := by
          have : 256 ^ 1 ≤ 256 ^ (k - 1 - i) := Nat.pow_le_pow_right (by omega) (by omega)
          simpa using this
        have := Nat.div_le_div_left hs (by omega : 0 < 256) (a := n.toNat)
        omega
      simp only [numT]
      rw [step_toNat _ _ (by rw [ih]; exact hlt), ih, e0 (i + 1) hi, if_neg (by omega), byteN_toNat]
      have e : k - 1 - i = (k - 1 - (i + 1)) + 1 := by omega
      rw [e, Nat.pow_succ, ← Nat.div_div_eq_div_mul]
      omega
  apply BitVec.eq_of_toNat_eq
  have := key (k - 1) (by rcases hk with rfl | rfl | rfl | rfl <;> omega)
  simpa using this
end Vi
end Go.Proofs.Ytdakmieapdpidaa
end

section
/-
  Numbers of one, two, four or eight bytes, taken: the program's Take, Len, mark. No condition.
-/
namespace Go.Proofs.Ytdakmieapdpidaa
set_option linter.unusedVariables false
namespace Vi
open Sha
/-- What Take answers. -/
def takeM (l : Bs) : BitVec 64 × Nat × Int := if l.length = 0 ∨ l.length < sizeT (L l 0) then (0#64, 0, 3) else (numT l (sizeT (L l 0) - 1), sizeT (L l 0), 0)
theorem shr6 : ∀ c : BitVec 8, (c >>> 6).toNat < 4 := by decide +kernel
theorem sizeT_le (c : BitVec 8) : 1 ≤ sizeT c ∧ sizeT c ≤ 8 := by
  unfold sizeT
  have := shr6 c
  have : (c >>> 6).toNat = 0 ∨ (c >>> 6).toNat = 1 ∨ (c >>> 6).toNat = 2 ∨ (c >>> 6).toNat = 3 := by omega
  rcases this with h | h | h | h <;> rw [h] <;> decide
end Vi
namespace Sx
open Sha Vi

/-- A slice of bytes that may be nil: where it lies in its block, how far that goes, its bytes. -/
structure Sl where
  z : Bool
  N : Nat
  o : Nat
  c : Nat
  l : Bs
structure Sl.Ok (s : Sl) : Prop where
  fit : s.o + s.l.length ≤ s.N
  cap : s.l.length ≤ s.c
  nil : s.z = true → s.l = []
  small : s.l.length ≤ 1000000
abbrev svC (i : Nat) (s : Sl) : SC := .sn s.z i 0 s.o s.l.length s.c
abbrev svB (s : Sl) : List Seg := bts s.z s.N s.o s.l.length (L s.l)
theorem svB_row {s : Sl} (h : s.z = false) : svB s = [.row s.N (winF s.o s.l.length (L s.l))] := by unfold svB; rw [h]; rfl
theorem frc_eq {x y : SC} {k : SC → Prop} (h : x = y) (hk : frcSC y k) : frcSC x k := by rw [h]; exact hk
/-- A slice within another one. -/
structure Sub (s s' : Sl) : Prop where
  z : s'.z = false → s.z = false
  N : s'.z = false → s.N = s'.N
  lo : s'.l ≠ [] → s.o ≤ s'.o ∧ s'.o + s'.l.length ≤ s.o + s.l.length
  at_ : ∀ i, i < s'.l.length → L s.l (s'.o - s.o + i) = L s'.l i
theorem Sub.ent {s s' : Sl} (h : Sub s s') {q : List Nat} {k : Prop} (hk : k) : eqSegs q (svB s) (svB s') k := by
  cases hz : s'.z with
  | true => unfold svB; rw [hz]; exact eqSegs_nil hk
  | false =>
    rw [svB_row (h.z hz), svB_row hz]
    refine ⟨h.N hz, fun j hj => eqC_win (fun i hi => ?_) j, hk⟩
    have hne : s'.l ≠ [] := fun e => by rw [e] at hi; simp at hi
    have h1 := h.lo hne
    rw [show s'.o + i = s.o + (s'.o - s.o + i) by omega, winF_at _ _ _ (by omega), h.at_ i hi]
theorem Sub.refl (s : Sl) : Sub s s := ⟨id, fun _ => rfl, fun _ => ⟨Nat.le_refl _, Nat.le_refl _⟩, fun i _ => by rw [Nat.sub_self, Nat.zero_add]⟩
theorem Sub.nil (s : Sl) {n o c : Nat} : Sub s ⟨true, n, o, c, []⟩ := ⟨fun h => Bool.noConfusion h, fun h => Bool.noConfusion h, fun h => absurd rfl h, fun i hi => by simp at hi⟩
theorem eqSegs_sub {q : List Nat} {z0 z : Bool} {N n0 o n : Nat} {B b : Nat → BitVec 8} {k : Prop} (h : z = false → z0 = false ∧ ∀ i, i < n → o + i < n0 ∧ B (o + i) = b i) (hk : k) : eqSegs q (bts z0 N 0 n0 B) (bts z N o n b) k := by
  cases z with
  | true => exact eqSegs_nil hk
  | false =>
    obtain ⟨rfl, h1⟩ := h rfl
    refine ⟨rfl, fun j hj => eqC_win (fun i hi => ?_) j, hk⟩
    have := winF_at 0 n0 B (h1 i hi).1
    rw [Nat.zero_add] at this
    rw [this, (h1 i hi).2]
theorem fn_vlen (n : BitVec 64) : Fn Try.prog tds 40 [] [.c (.w64 n)] (fun _ => True) (fun x hs => x = .a (.c (.int .i64 (lenN n : Nat))) ∧ hs = []) := by
  refine fn_of_body tds_ok follows_ Try.func40 rfl (t := .a (.c (.w64 n)) :: anys (Try.f40.ntmps - 1)) rfl (fun w r0 hr _ => ?_)
  obtain rfl : r0 = [] := List.eq_nil_of_length_eq_zero hr
  unfold lenN
  refine ⟨fun h => ?_, fun h => ?_⟩
  · rw [if_pos (of_decide_eq_true h)]
    exact ⟨.a (.c (.int .i64 1)), [], ⟨[], ⟨rfl, rfl, rfl⟩, rfl, trivial⟩, rfl, rfl⟩
  rw [if_neg (of_decide_eq_false h)]
  refine ⟨fun h => ?_, fun h => ?_⟩
  · rw [if_pos (of_decide_eq_true h)]
    exact ⟨.a (.c (.int .i64 2)), [], ⟨[], ⟨rfl, rfl, rfl⟩, rfl, trivial⟩, rfl, rfl⟩
  rw [if_neg (of_decide_eq_false h)]
  refine ⟨fun h => ?_, fun h => ?_⟩
  · rw [if_pos (of_decide_eq_true h)]
    exact ⟨.a (.c (.int .i64 4)), [], ⟨[], ⟨rfl, rfl, rfl⟩, rfl, trivial⟩, rfl, rfl⟩
  rw [if_neg (of_decide_eq_false h)]
  refine ⟨fun h => ?_, fun h => ?_⟩
  · rw [if_pos (of_decide_eq_true h)]
    exact ⟨.a (.c (.int .i64 8)), [], ⟨[], ⟨rfl, rfl, rfl⟩, rfl, trivial⟩, rfl, rfl⟩
  rw [if_neg (of_decide_eq_false h)]
  exact ⟨.a (.c (.int .i64 0)), [], ⟨[], ⟨rfl, rfl, rfl⟩, rfl, trivial⟩, rfl, rfl⟩
set_option maxRecDepth 20000 in
theorem fn_vtake (s : Sl) (hs : s.Ok) : FnR Try.prog tds 51 1 [svB s] [.c (svC 0 s)] (fun _ => True)
    (fun x hs => ∃ n k e, takeM s.l = (n, k, e) ∧ x = .tup [.c (.w64 n), .c (.int .i64 (k : Nat)), .c (.int .i64 e)] ∧ hs = [svB s]) := by
  obtain ⟨z, N, o, c, l⟩ := s
  obtain ⟨hN, hc, hz, _⟩ := hs
  dsimp only at hN hc hz
  show FnR _ _ _ 1 [bts z N o l.length (L l)] [.c (.sn z 0 0 o l.length c)] _ (fun x hs => ∃ n k e, takeM l = (n, k, e) ∧ x = .tup [.c (.w64 n), .c (.int .i64 (k : Nat)), .c (.int .i64 e)] ∧ hs = [bts z N o l.length (L l)])
  refine fn_of_body tds_ok follows_ Try.func51 rfl (t := .a (.c (.sn z 0 0 o l.length c)) :: anys (Try.f51.ntmps - 1)) rfl (fun w r0 hr _ => ?_)
  obtain ⟨x0, rfl⟩ := List.length_eq_one_iff.1 hr
  by_cases h0 : l.length = 0
  · have e0 : decide ((l.length : Int) = 0) = true := decide_eq_true (by omega)
    (repeat first | refine And.intro (by omega) ?_ | refine And.intro (by decide) ?_ | refine And.intro rfl ?_ | refine And.intro (fun _ => ?_) (fun h => Bool.noConfusion h) | refine And.intro (fun h => Bool.noConfusion h) (fun _ => ?_) | refine And.intro (fun _ => ?_) (fun h => absurd h (by rw [e0]; decide)) | refine And.intro (fun h => absurd h (by rw [e0]; decide)) (fun _ => ?_))
    refine ⟨_, _, ⟨[0], ⟨rfl, rfl, rfl⟩, ?_⟩, 0#64, 0, 3, by unfold takeM; rw [if_pos (.inl h0)], rfl, rfl⟩
    (repeat first | exact trivial | refine ent1 ?_)
    refine eqC_bts ?_
    (repeat first | exact trivial | refine ent1 ?_)
  have e0 : decide ((l.length : Int) = 0) = false := decide_eq_false (by omega)
  cases z with
  | true => exact absurd (by rw [hz rfl]; rfl) h0
  | false =>
  (repeat first | refine And.intro (by omega) ?_ | refine And.intro (by decide) ?_ | refine And.intro rfl ?_ | refine And.intro (fun _ => ?_) (fun h => Bool.noConfusion h) | refine And.intro (fun h => Bool.noConfusion h) (fun _ => ?_) | refine And.intro (fun _ => ?_) (fun h => absurd h (by rw [e0]; decide)) | refine And.intro (fun h => absurd h (by rw [e0]; decide)) (fun _ => ?_))
  have hp : 0 < l.length := by omega
  with_reducible refine frc_winA 0 rfl hp ?_
  obtain ⟨k, hk⟩ : ∃ k, sizeT (L l 0) = k := ⟨_, rfl⟩
  have hk1 := sizeT_le (L l 0)
  rw [hk] at hk1
  have ek : (1 : Int) * (2 : Int) ^ (L l 0 >>> 6).toNat = (k : Int) := by rw [← hk]; simp [sizeT]
  have h6 := shr6 (L l 0)
  have hb : (L l 0 >>> 6).toNat < 64 ∧ (-9223372036854775808 : Int) ≤ (1 : Int) * (2 : Int) ^ (L l 0 >>> 6).toNat ∧ (1 : Int) * (2 : Int) ^ (L l 0 >>> 6).toNat ≤ 9223372036854775807 := by rw [ek]; omega
  refine And.intro hb ?_
  rw [ek]
  by_cases h1 : l.length < k
  · have e1 : decide ((l.length : Int) < (k : Nat)) = true := decide_eq_true (by omega)
    (repeat first | refine And.intro (by omega) ?_ | refine And.intro (by decide) ?_ | refine And.intro rfl ?_ | refine And.intro (fun _ => ?_) (fun h => Bool.noConfusion h) | refine And.intro (fun h => Bool.noConfusion h) (fun _ => ?_) | refine And.intro (fun _ => ?_) (fun h => absurd h (by rw [e1]; decide)) | refine And.intro (fun h => absurd h (by rw [e1]; decide)) (fun _ => ?_))
    refine ⟨_, _, ⟨[0], ⟨rfl, rfl, rfl⟩, ?_⟩, 0#64, 0, 3, by unfold takeM; rw [hk, if_pos (.inr h1)], rfl, rfl⟩
    (repeat first | exact trivial | refine ent1 ?_)
  have e1 : decide ((l.length : Int) < (k : Nat)) = false := decide_eq_false (by omega)
  (repeat first | refine And.intro (by omega) ?_ | refine And.intro (by decide) ?_ | refine And.intro rfl ?_ | refine And.intro (fun _ => ?_) (fun h => Bool.noConfusion h) | refine And.intro (fun h => Bool.noConfusion h) (fun _ => ?_) | refine And.intro (fun _ => ?_) (fun h => absurd h (by rw [e1]; decide)) | refine And.intro (fun h => absurd h (by rw [e1]; decide)) (fun _ => ?_))
  with_reducible refine frc_winA 0 rfl hp ?_
  (repeat first | refine And.intro (by omega) ?_ | refine And.intro (by decide) ?_ | (with_reducible refine frc_parts (by first | omega | decide) ?_) | (with_reducible refine frc_bytesL (by first | omega | decide) ?_) | refine And.intro rfl ?_)
  obtain ⟨oo, hoo⟩ : ∃ oo, (if c = 1 then o else o + 1) = oo := ⟨_, rfl⟩
  refine frcN_of (m := 1) rfl ?_
  refine frcN_of (m := k) (by omega) ?_
  refine frcN_of (m := oo) hoo ?_
  refine frcN_of (m := k - 1) (by omega) ?_
  refine frcN_of (m := c - 1) (by omega) ?_
  refine .inl ⟨Nat, fun i => ⟨[.a (.c (.sn false 0 0 o l.length c)), .any, .a (.c (.w64 ((numT l i)))), .any, .any, .a (.c (.int .i64 ((k : Int)))), .any, .any, .any, .any, .any, .any, .any, .any, .any, .any, .any, .any, .any, .any, .any, .any, .any, .any, .any, .any, .any, .a (.c (.sn false 0 0 oo (k - 1) (c - 1))), .a (.c (.int .i64 (((k - 1 : Nat) : Int)))), .a (.c (.int .i64 (↑i))), .any, .any, .any, .any, .any, .any, .any, .any, .any, .any, .any], [bts false N o l.length (L l)]⟩, fun i => i ≤ k - 1, fun i => k - i, ⟨0, [0], ⟨⟨rfl, rfl, rfl⟩, ?_⟩, by omega⟩, fun i hi => ⟨fun h => ?_, fun h => ?_⟩⟩
  · (repeat first | exact trivial | refine ent1 ?_)
  · have hlt : (i : Int) < ((k - 1 : Nat) : Int) := of_decide_eq_true h
    have ho2 : oo = o + 1 := by rw [← hoo, if_neg (by omega)]
    (repeat first | refine And.intro (by omega) ?_ | refine And.intro (by decide) ?_ | (with_reducible refine frc_parts (by first | omega | decide) ?_) | (with_reducible refine frc_bytesL (by first | omega | decide) ?_) | refine And.intro rfl ?_)
    with_reducible refine frc_winA (i + 1) (by rw [ho2]; show ((i : Nat) : Int).toNat + (o + 1) = _; omega) (by omega) ?_
    refine ⟨⟨by omega, by omega⟩, i + 1, [0], ⟨⟨rfl, rfl, rfl⟩, ?_⟩, by omega, by dsimp only; omega⟩
    (repeat first | exact trivial | refine ent1 ?_)
  · have hi2 : i ≤ k - 1 := hi
    obtain rfl : i = k - 1 := by have : ¬ (i : Int) < ((k - 1 : Nat) : Int) := of_decide_eq_false h; omega
    (repeat first | refine And.intro (by omega) ?_ | refine And.intro (by decide) ?_ | (with_reducible refine frc_parts (by first | omega | decide) ?_) | (with_reducible refine frc_bytesL (by first | omega | decide) ?_) | refine And.intro rfl ?_)
    refine ⟨_, _, ⟨[0], ⟨rfl, rfl, rfl⟩, ?_⟩, numT l (k - 1), k, 0, by unfold takeM; rw [hk, if_neg (by omega)], rfl, rfl⟩
    (repeat first | exact trivial | refine ent1 ?_)
end Sx
end Go.Proofs.Ytdakmieapdpidaa
end

section
/-
  Slices of data that nobody turns: numbers, bytes, texts. No condition.
-/
namespace Go.Proofs.Ytdakmieapdpidaa
set_option linter.unusedVariables false
namespace Sx
open Go.RowKit Sha Vi

theorem ImAt.part {W : World} {ms : List Nat} {a : Addr} {l : List SC} (h : ImAt W ms a l) (o : Nat) {m : List SC} (hm : ∀ j x, m[j]? = some x → l[o + j]? = some x) : ImAt W ms (a.add o) m := by
  obtain ⟨h0, h1, h2, h3⟩ := h
  obtain ⟨B, f, s⟩ := a
  simp only at h0 h1 h2 h3
  subst h0
  rw [add_none]
  exact ⟨rfl, h1, h2, fun j x e => by
    obtain ⟨v, e1, e2⟩ := h3 (o + j) x (hm j x e)
    exact ⟨v, by rw [show f + o + j = f + (o + j) by omega]; exact e1, e2⟩⟩
theorem ImAt.sub {W : World} {ms : List Nat} {a : Addr} {l : List SC} (h : ImAt W ms a l) (o m : Nat) : ImAt W ms (a.add o) ((l.drop o).take m) :=
  h.part o fun j x e => by
    rw [List.getElem?_take] at e
    split at e
    · rwa [List.getElem?_drop] at e
    · cases e
theorem ImAt.one {W : World} {ms : List Nat} {a : Addr} {l : List SC} (h : ImAt W ms a l) {j : Nat} {x : SC} (e : l[j]? = some x) : ImAt W ms (a.add j) [x] :=
  h.part j fun i y e2 => by
    cases i with
    | zero => simp at e2; subst e2; exact e
    | succ i => simp at e2
theorem ImAt.zero {W : World} {ms : List Nat} {a : Addr} {l : List SC} (h : ImAt W ms a l) : a.add 0 = a := by
  obtain ⟨h0, _⟩ := h
  obtain ⟨B, f, s⟩ := a
  simp only at h0; subst h0
  rw [add_none]; rfl
theorem RawAt.past {C : Cx} {h : List (List Seg)} {i : Nat} {W : World} {ms : List Nat} (hp : h[i]? = some [.past W ms]) {a : Addr} {l : List SC} (k : ImAt W ms a l) : RawAt C h a l := .inr ⟨i, W, ms, hp, k⟩
/-- A slice that nobody turns, its cells. -/
structure SlAt (W : World) (ms : List Nat) (a : Option Addr) (n c sz : Nat) (l : List SC) : Prop where
  len : l.length = n * sz
  le : n ≤ c
  cap : n ≤ 9223372036854775807
  nil : a = none → c = 0
  im : ∀ x, a = some x → c ≠ 0 → ImAt W ms x l
theorem SlAt.later {W W' : World} {ms ms' : List Nat} {a : Option Addr} {n c sz : Nat} {l : List SC} (h : SlAt W ms a n c sz l) (k : Later W ms W' ms') : SlAt W' ms' a n c sz l :=
  ⟨h.len, h.le, h.cap, h.nil, fun x e hc => (h.im x e hc).later k⟩
theorem SlAt.nul {W : World} {ms : List Nat} {sz : Nat} : SlAt W ms none 0 0 sz [] := ⟨by simp, Nat.le_refl _, by decide, fun _ => rfl, fun x e _ => by cases e⟩
theorem SlAt.nil_ {W : World} {ms : List Nat} {n c sz : Nat} {l : List SC} (h : SlAt W ms none n c sz l) : n = 0 ∧ c = 0 ∧ l = [] := by
  have h1 := h.nil rfl
  have h2 := h.le
  have h3 : n = 0 := by omega
  exact ⟨h3, h1, List.eq_nil_of_length_eq_zero (by rw [h.len, h3, Nat.zero_mul])⟩
theorem range_nthC (l : List SC) : (List.range l.length).map (nthC l) = l := by
  apply List.ext_getElem (by simp)
  intro i h1 h2
  simp only [List.getElem_map, List.getElem_range]
  have : ∀ (l : List SC) (i : Nat) (h : i < l.length), nthC l i = l[i] := by
    intro l
    induction l with
    | nil => intro i h; simp at h
    | cons x l ih =>
      intro i h
      cases i with
      | zero => rfl
      | succ i => exact ih i (by simpa using h)
  exact this l i h2
theorem nthC_get? : ∀ {l : List SC} {i : Nat} {x : SC}, l[i]? = some x → nthC l i = x
  | [], _, _, h => by simp at h
  | y :: l, 0, x, h => by simpa [nthC] using h
  | y :: l, i + 1, x, h => nthC_get? (l := l) (by simpa using h)
/-- What is taken from such a slice. -/
theorem srcR {C : Cx} {h : List (List Seg)} {i : Nat} {W : World} {ms : List Nat} (hp : h[i]? = some [.past W ms]) {a : Addr} {n c sz : Nat} {l : List SC} (k : SlAt W ms (some a) n c sz l) {K : (Nat → SC) → Prop} (hk : K (nthC l)) :
    ∃ f, (n = 0 ∨ RawAt C h a ((List.range (n * sz)).map f)) ∧ K f :=
  ⟨nthC l, by
    rcases Nat.eq_zero_or_pos n with h0 | h0
    · exact .inl h0
    · exact .inr (by rw [← k.len, range_nthC]; exact .past hp (k.im a rfl (by have := k.le; omega))), hk⟩
abbrev BsAt (W : World) (ms : List Nat) (a : Option Addr) (n c : Nat) (l : Bs) : Prop := SlAt W ms a n c 1 (l.map .w8)
abbrev NsAt (W : World) (ms : List Nat) (a : Option Addr) (n c : Nat) (l : List (BitVec 64)) : Prop := SlAt W ms a n c 1 (l.map .w64)
theorem SlAt.n1 {α : Type} {g : α → SC} {W : World} {ms : List Nat} {a : Option Addr} {n c : Nat} {l : List α} (h : SlAt W ms a n c 1 (l.map g)) : l.length = n := by
  have := h.len; simpa using this
/-- A load of one of them. -/
theorem loadR {C : Cx} {h : List (List Seg)} {i : Nat} {W : World} {ms : List Nat} (hp : h[i]? = some [.past W ms]) {x : Addr} {l : List SC} (k : ImAt W ms x l) {j : Nat} {y : SC} (e : l[j]? = some y) {K : List Seg → Prop} (hk : K [.one y]) :
    ∃ s, (RawAt C h (x.add j) (flat s) ∧ (flat s).length = 1) ∧ K s :=
  ⟨[.one y], ⟨.past hp (k.one e), rfl⟩, hk⟩
theorem map_get? {α : Type} {g : α → SC} {l : List α} {j : Nat} {y : α} (e : l[j]? = some y) : (l.map g)[j]? = some (g y) := by
  rw [List.getElem?_map, e]; rfl
/-- A row that was given up. -/
theorem SlAt.frz {W : World} {ms : List Nat} {A : Addr} {F : Nat → Bool} {α : Nat → Addr} {N n c sz : Nat} {f : Nat → SC} {l : List SC} (h : flat [.row N f] ≠ [] → ImAt W ms A (((flat [.row N f]).map (SC.rz F α)).map SC.raw)) (hN : scale c sz = N) (hn : n ≤ c) (hc : n ≤ 9223372036854775807) (hsz : sz ≠ 0)
    (hl : l.length = n * sz) (hf : ∀ j x, l[j]? = some x → f j = x) (hr : ∀ x ∈ l, (x.rz F α).raw = x) : SlAt W ms (some (A.add (0 + 0))) n c sz l := by
  refine ⟨hl, hn, hc, (fun e => by cases e), fun x e h0 => ?_⟩
  injection e with e
  subst e
  rw [scale_eq] at hN
  have hpos : 0 < c * sz := Nat.mul_pos (by omega) (by omega)
  have hne : flat [.row N f] ≠ [] := by
    intro e
    have := congrArg List.length e
    simp [flat] at this
    omega
  refine (h hne).part (0 + 0) fun j x e => ?_
  have hj : j < n * sz := by
    rw [← hl]
    exact (List.getElem?_eq_some_iff.1 e).1
  have hjN : j < N := by
    rw [← hN]
    exact Nat.lt_of_lt_of_le hj (Nat.mul_le_mul_right _ hn)
  have e1 := hf j x e
  rw [show 0 + 0 + j = j by omega, List.getElem?_map, List.getElem?_map]
  simp only [flat, List.append_nil, List.getElem?_map, List.getElem?_range hjN, Option.map_some]
  rw [e1, hr x (List.mem_of_getElem? e)]
theorem newF_lt {m : Nat} {g : Nat → SC} {j : Nat} (h : j < m) : newF m g j = g j := if_pos h
theorem newR {l : List SC} {n sz : Nat} (hl : l.length = n * sz) (hs : sz ≠ 0) (j : Nat) (x : SC) (e : l[j]? = some x) : newF (scale n sz) (nthC l) j = x := by
  have hj := (List.getElem?_eq_some_iff.1 e).1
  rw [newF_lt (by rw [scale_eq, ← hl]; exact hj)]
  exact nthC_get? e
theorem rz_w64 (l : List (BitVec 64)) {F : Nat → Bool} {α : Nat → Addr} : ∀ x ∈ l.map SC.w64, (x.rz F α).raw = x := fun x hx => by
  obtain ⟨b, _, rfl⟩ := List.mem_map.1 hx
  rfl
theorem rz_w8 (l : Bs) {F : Nat → Bool} {α : Nat → Addr} : ∀ x ∈ l.map SC.w8, (x.rz F α).raw = x := fun x hx => by
  obtain ⟨b, _, rfl⟩ := List.mem_map.1 hx
  rfl
/-- The slice of bytes as a contract over blocks has it. -/
abbrev slR (a : Option Addr) (c : Nat) (l : Bs) : Sl := ⟨a.isNone, l.length, 0, c, l⟩
theorem SlAt.isNil {W : World} {ms : List Nat} {a : Option Addr} {n c : Nat} {l : Bs} (h : BsAt W ms a n c l) (e : a.isNone = true) : l = [] := by
  cases a with
  | none => have := h.nil_.2.2; simpa using this
  | some A => cases e
theorem SlAt.okB {W : World} {ms : List Nat} {a : Option Addr} {n c : Nat} {l : Bs} (h : BsAt W ms a n c l) (hs : l.length ≤ 1000000) : (slR a c l).Ok :=
  ⟨by simp, by have := h.n1; have := h.le; show l.length ≤ c; omega, h.isNil, hs⟩
theorem flat_bts (n : Nat) (l : Bs) (hn : l.length = n) : flat (bts false n 0 n (L l)) = l.map .w8 := by
  subst hn
  simp only [bts, flat, List.append_nil]
  apply List.ext_getElem (by simp)
  intro i h1 h2
  simp at h1 h2
  have := winF_at 0 l.length (L l) h1
  rw [Nat.zero_add] at this
  simp [this, L_lt h1]
theorem map_w8_raw (l : Bs) : ∀ x ∈ l.map SC.w8, x.raw = x := fun x hx => by
  obtain ⟨b, _, rfl⟩ := List.mem_map.1 hx
  rfl
theorem map_w64_raw (l : List (BitVec 64)) : ∀ x ∈ l.map SC.w64, x.raw = x := fun x hx => by
  obtain ⟨b, _, rfl⟩ := List.mem_map.1 hx
  rfl
theorem bts_ne (z : Bool) (N o n : Nat) (b : Nat → BitVec 8) (W : World) (ms : List Nat) : bts z N o n b ≠ [.past W ms] := by
  intro e; cases z <;> simp [bts] at e
/-- A contract over a block of bytes that is only read holds for bytes that nobody turns. -/
theorem FnR.rawB {P : Program} {T : List (Nat × TD)} {f : FuncId} {n : Nat} {h0 : List (List Seg)} {args args' : List SA} {raw : World → Prop} {Res : SV → List (List Seg) → Prop} (h : FnR P T f n h0 args raw Res) (j : Nat) (hj : j < n) {W : World} {ms : List Nat} {a : Option Addr} {m c : Nat} {l : Bs}
    (hb : BsAt W ms a m c l) (hch : h0[j]? = some (svB (slR a c l))) (hfree : ∀ A i c, i ≠ j → h0[i]? = some c → Free j (fun _ => A) (flat c)) (hargs : ∀ A, a = some A → unAs j A args' args) (hargs0 : a = none ∨ c = 0 → nuAs j args' args)
    (hx : ∀ x hs A, Res x hs → x.rz (fun i => Nat.beq i j) (fun _ => A) = x ∧ (rzH (fun i => Nat.beq i j) (fun _ => A) hs).set j [.past W ms] = hs.set j [.past W ms]) :
    FnR P T f n (h0.set j [.past W ms]) args' raw (fun x hs => ∃ hs', Res x hs' ∧ hs = hs'.set j [.past W ms]) := by
  cases a with
  | none =>
    obtain ⟨_, _, hl⟩ := hb.nil_
    exact h.nul j hj hch rfl (bts_ne _ _ _ _ _) (hargs0 (.inl rfl))
  | some A =>
    by_cases hc : c = 0
    · have h1 := hb.n1
      have h2 := hb.le
      have hl0 : l = [] := List.eq_nil_of_length_eq_zero (by omega)
      refine h.nul j hj hch ?_ (bts_ne _ _ _ _ _) (hargs0 (.inr hc))
      subst hl0; rfl
    have hfl : flat (svB (slR (some A) c l)) = l.map .w8 := flat_bts _ l rfl
    refine (h.unname j hj hch (bts_ne _ _ _ _ _) (hfl ▸ hb.im A rfl hc) (hfl ▸ map_w8_raw l) (hfree A) (hargs A rfl)).mono ?_
    rintro x hs ⟨x', hs', h1, rfl, rfl⟩
    obtain ⟨e1, e2⟩ := hx x' hs' A h1
    exact ⟨hs', by rw [e1]; exact h1, e2⟩
/-! Blocks in which a name does not stand. -/
def frL (j : Nat) (A : Addr) : List Seg → Prop
  | [] => True
  | .one x :: r => x.rz (fun i => Nat.beq i j) (fun _ => A) = x ∧ frL j A r
  | .row _ f :: r => (∀ i, (f i).rz (fun i => Nat.beq i j) (fun _ => A) = f i) ∧ frL j A r
  | .obj _ :: r => frL j A r
  | .past _ _ :: r => frL j A r
def frH (j : Nat) (A : Addr) : Nat → List (List Seg) → Prop
  | _, [] => True
  | i, c :: r => (i = j ∨ frL j A c) ∧ frH j A (i + 1) r
theorem frL.free {j : Nat} {A : Addr} : ∀ {l : List Seg}, frL j A l → Free j (fun _ => A) (flat l)
  | [], _ => fun x hx => by simp [flat] at hx
  | .one y :: r, h => fun x hx => by
    simp only [flat, List.mem_cons] at hx
    rcases hx with rfl | hx
    · exact h.1
    · exact frL.free h.2 x hx
  | .row n f :: r, h => fun x hx => by
    simp only [flat, List.mem_append, List.mem_map] at hx
    rcases hx with ⟨i, _, rfl⟩ | hx
    · exact h.1 i
    · exact frL.free h.2 x hx
  | .obj _ :: r, h => fun x hx => frL.free (l := r) h x hx
  | .past _ _ :: r, h => fun x hx => frL.free (l := r) h x hx
theorem frH.free {j : Nat} {A : Addr} : ∀ {h : List (List Seg)} {k : Nat}, frH j A k h → ∀ (i : Nat) (c : List Seg), k + i ≠ j → h[i]? = some c → Free j (fun _ => A) (flat c)
  | [], _, _, i, c, _, e => by simp at e
  | d :: h, k, hh, 0, c, hi, e => by
    simp at e; subst e
    rcases hh.1 with h1 | h1
    · omega
    · exact h1.free
  | d :: h, k, hh, i + 1, c, hi, e => frH.free hh.2 i c (by omega) (by simpa using e)
theorem rz_bytesF {F : Nat → Bool} {α : Nat → Addr} (n : Nat) (b : Nat → BitVec 8) (i : Nat) : (bytesF n b i).rz F α = bytesF n b i := by
  unfold bytesF; split <;> rfl
theorem rz_winF {F : Nat → Bool} {α : Nat → Addr} (o n : Nat) (b : Nat → BitVec 8) (i : Nat) : (winF o n b i).rz F α = winF o n b i := by
  unfold winF; split <;> rfl
theorem rzL_bts {F : Nat → Bool} {α : Nat → Addr} (z : Bool) (N o n : Nat) (b : Nat → BitVec 8) : rzL F α (bts z N o n b) = bts z N o n b := by
  cases z
  · simp only [bts, rzL, Seg.rz, rz_winF]
  · rfl
end Sx
end Go.Proofs.Ytdakmieapdpidaa
end
