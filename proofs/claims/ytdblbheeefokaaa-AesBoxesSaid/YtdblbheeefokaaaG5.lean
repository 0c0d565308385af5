/-
  Texts of this claim, part 5: Sxq, Tds, Frc, Bts, Once, Once2, Sxr, AesM, AesA, AesR, AesR2, AesR3, AesT, AesK, AesU, AesP, AesW, AesV, AesI, AesX, Sxw. No condition of its own.
-/
import Derived.Tactics
import Derived.Tactics2
import Derived.Defers
import Derived.Laws.Pointers
import Derived.Laws.LoneSync
import Derived.RegionTactic
import Derived.RegionCalls
import Derived.ChangeAlike
import Derived.OpenShut
import Derived.Test.YtdblbheeefokaaaG4
section
/-
  Functions by their bodies; calls by what the callee keeps to. Over any program. No condition of its own.
-/
namespace Go.Proofs.Ytdblbheeefokaaa
set_option linter.unusedVariables false
namespace Sx
open Go.RowKit

section
variable {C : Cx}
/-- A value and the blocks behind it, said in other words. -/
def Fin (C : Cx) (v : SV) (h : List (List Seg)) (x : SV) (hs : List (List Seg)) : Prop := ∃ q, Ent C q ⟨[v], h⟩ ⟨[x], hs⟩
theorem Fin.ok {v x : SV} {h hs : List (List Seg)} (f : Fin C v h x hs) {r : Rho} {w : World} {u : Value} (hu : v.Is r u) (ok : HeapOk C h r w) : ∃ r', x.Is r' u ∧ HeapOk C hs r' w := by
  obtain ⟨q, e⟩ := f
  have ok1 : Ok C ⟨[v], h⟩ r { tmps := #[u], defers := [] } w := ⟨ok, rfl, fun d y e => by
    cases d with
    | zero => simp at e; subst e; exact hu
    | succ d => simp at e, rfl⟩
  obtain ⟨r', ok2⟩ := e.ok ok1
  exact ⟨r', ok2.slots 0 x rfl, ok2.heap⟩
end
/-- What stands fast for a function that is handed the blocks h0, of which it may not turn the first n. -/
abbrev cx0 (P : Program) (T : List (Nat × TD)) (w : World) (r0 : Rho) (n : Nat) (h0 : List (List Seg)) : Cx := ⟨P, T, w, (r0.drop n).map (·.1), r0, n, fun i => flat (getH h0 i) ≠ [], fun B => ∃ (i : Nat) (W : World) (ms : List Nat), h0[i]? = some [.past W ms] ∧ B < W.heap.size ∧ B ∉ ms⟩
/-- What a function keeps to: the blocks h0 that it is handed (the first n are only read), its arguments, what the world must bear; what it returns and leaves. -/
def FnR (P : Program) (T : List (Nat × TD)) (f : FuncId) (n : Nat) (h0 : List (List Seg)) (args : List SA) (raw : World → Prop) (Res : SV → List (List Seg) → Prop) : Prop :=
  ∀ (w : World) (r0 : Rho) (vs : List Value), HeapOk (cx0 P T w r0 n h0) h0 r0 w → IsAs r0 args vs → raw w → Calls P f vs.toArray w fun e w' =>
    ∃ v x hs r', e = .returned v ∧ SV.Is r' x v ∧ HeapOk (cx0 P T w r0 n h0) hs r' w' ∧ Res x hs
abbrev Fn (P : Program) (T : List (Nat × TD)) (f : FuncId) (h0 : List (List Seg)) (args : List SA) (raw : World → Prop) (Res : SV → List (List Seg) → Prop) : Prop := FnR P T f 0 h0 args raw Res
def anys : Nat → List SV
  | 0 => []
  | n + 1 => .any :: anys n
theorem anys_len : ∀ n, (anys n).length = n
  | 0 => rfl
  | n + 1 => by simp [anys, anys_len n]
theorem anys_get : ∀ (n d : Nat) (x : SV), (anys n)[d]? = some x → x = .any
  | 0, _, _, e => by simp [anys] at e
  | n + 1, 0, _, e => by simp [anys] at e; exact e.symm
  | n + 1, d + 1, x, e => anys_get n d x (by simpa [anys] using e)
theorem fn_of_body {P : Program} {T : List (Nat × TD)} (hT : AllT P T) (hm : P.follows .mixedOrders = true) {f : FuncId} {fn : Func} {c : Code} (hf : P.funcs[f]? = some fn) (hb : fn.body = some c) {n : Nat} {h0 : List (List Seg)} {args : List SA} {raw : World → Prop} {Res : SV → List (List Seg) → Prop}
    {t : List SV} (ht : t = args.map SV.a ++ anys (fn.ntmps - args.length))
    (h : ∀ (w : World) (r0 : Rho), r0.length = h0.length → raw w → Body (cx0 P T w r0 n h0) fn c ⟨t, h0⟩ fun v h' => ∃ x hs, Fin (cx0 P T w r0 n h0) v h' x hs ∧ Res x hs) : FnR P T f n h0 args raw Res := by
  intro w r0 vs ok ha hraw
  subst ht
  have hlen : vs.toArray.size = args.length := by rw [ha.1]; simp
  refine calls_of_body (C := cx0 P T w r0 n h0) hT hm hf hb (s := ⟨args.map SV.a ++ anys (fn.ntmps - args.length), h0⟩) (r := r0) ⟨ok, ?_, fun d x e => ?_, rfl⟩ (h w r0 ok.len hraw) ?_
  · simp [anys_len, ha.1]
  · by_cases hd : d < args.length
    · rw [List.getElem?_append_left (by simpa using hd), List.getElem?_map] at e
      obtain ⟨y, hy, rfl⟩ := Option.map_eq_some_iff.1 e
      obtain ⟨u, hu, hi⟩ := ha.2 d y hy
      have : (vs.toArray ++ Array.replicate (fn.ntmps - vs.toArray.size) undef).getD d undef = u := by
        rw [Array.getD_eq_getD_getElem?, Array.getElem?_append_left (by rw [hlen]; exact hd)]
        simp [hu]
      rw [this]
      exact hi
    · rw [List.getElem?_append_right (by simpa using Nat.le_of_not_lt hd)] at e
      rw [anys_get _ _ _ e]
      trivial
  · rintro v y h' r' w' ⟨x, hs, hf, hr⟩ hy hok
    obtain ⟨r'', hx, hok'⟩ := hf.ok hy hok
    exact ⟨v, x, hs, r'', rfl, hx, hok', hr⟩

/-! Back at the caller's. -/
def bk (N : Nat) : List Nat → Nat → Nat
  | [], j => N + j
  | x :: _, 0 => x
  | _ :: q, j + 1 => bk N q j
def SC.mp (g : Nat → Nat) : SC → SC
  | .p i b o => .p (g i) b o
  | .sl i b o n c => .sl (g i) b o n c
  | .clo f i b o => .clo f (g i) b o
  | .cap f i b o => .cap f (g i) b o
  | .sn z i b o n c => .sn z (g i) b o n c
  | .mh i => .mh (g i)
  | x => x
def Seg.mp (g : Nat → Nat) : Seg → Seg
  | .one x => .one (x.mp g)
  | .row n f => .row n (fun j => (f j).mp g)
  | .obj m => .obj m
  | .past w ms => .past w ms
def mpL (g : Nat → Nat) : List Seg → List Seg
  | [] => []
  | x :: r => x.mp g :: mpL g r
def SA.mp (g : Nat → Nat) : SA → SA
  | .c x => .c (x.mp g)
  | .agg l => .agg (mpL g l)
def SV.mp (g : Nat → Nat) : SV → SV
  | .any => .any
  | .a x => .a (x.mp g)
  | .tup l => .tup (l.map (SA.mp g))
theorem flat_mp (g : Nat → Nat) : ∀ l : List Seg, flat (mpL g l) = (flat l).map (SC.mp g)
  | [] => rfl
  | .one x :: r => by simp [mpL, Seg.mp, flat, flat_mp g r]
  | .row n f :: r => by simp [mpL, Seg.mp, flat, flat_mp g r, Function.comp_def]
  | .obj _ :: r => by simp [mpL, Seg.mp, flat, flat_mp g r]
  | .past _ _ :: r => by simp [mpL, Seg.mp, flat, flat_mp g r]
theorem mpL_obj {g : Nat → Nat} {l : List Seg} {m : MapD} (h : [.obj m] = mpL g l) : l = [.obj m] := by
  cases l with
  | nil => cases h
  | cons x r =>
    simp only [mpL, List.cons.injEq] at h
    have hr : r = [] := by cases r <;> first | rfl | cases h.2
    subst hr
    cases x <;> simp [Seg.mp] at h
    obtain ⟨rfl, _⟩ := h; rfl
theorem mpL_past {g : Nat → Nat} {l : List Seg} {W : World} {ms : List Nat} (h : [.past W ms] = mpL g l) : l = [.past W ms] := by
  cases l with
  | nil => cases h
  | cons x r =>
    simp only [mpL, List.cons.injEq] at h
    have hr : r = [] := by cases r <;> first | rfl | cases h.2
    subst hr
    cases x <;> simp [Seg.mp] at h
    obtain ⟨⟨rfl, rfl⟩, _⟩ := h; rfl
section
variable {g : Nat → Nat} {r' R : Rho}
theorem SC.Is.mp (hg : ∀ (i : Nat) (x : Nat × Nat), r'[i]? = some x → R[g i]? = some x) {x : SC} {v : Value} (h : x.Is r' v) : (x.mp g).Is R v := by
  cases x <;> first
    | exact h
    | (obtain ⟨B, f, e, rfl⟩ := h; exact ⟨B, f, hg _ _ e, rfl⟩)
    | (rcases h with ⟨h1, h2⟩ | ⟨h1, B, f, e, h2⟩ | h; exact .inl ⟨h1, h2⟩; exact .inr (.inl ⟨h1, B, f, hg _ _ e, h2⟩); exact .inr (.inr h))
theorem SA.Is.mp (hg : ∀ (i : Nat) (x : Nat × Nat), r'[i]? = some x → R[g i]? = some x) {x : SA} {v : Value} (h : x.Is r' v) : (x.mp g).Is R v := by
  cases x with
  | c x => exact SC.Is.mp hg (x := x) h
  | agg l =>
    obtain ⟨vs, e, h1, h2⟩ := h
    refine ⟨vs, e, by rw [flat_mp]; simpa using h1, fun j y e' => ?_⟩
    rw [flat_mp, List.getElem?_map, Option.map_eq_some_iff] at e'
    obtain ⟨z, hz, rfl⟩ := e'
    obtain ⟨u, e1, e2⟩ := h2 j z hz
    exact ⟨u, e1, e2.mp hg⟩
theorem SV.Is.mp (hg : ∀ (i : Nat) (x : Nat × Nat), r'[i]? = some x → R[g i]? = some x) {x : SV} {v : Value} (h : x.Is r' v) : (x.mp g).Is R v := by
  cases x with
  | any => trivial
  | a x => exact SA.Is.mp hg (x := x) h
  | tup l =>
    obtain ⟨vs, e, h1, h2⟩ := h
    refine ⟨vs, e, by simpa using h1, fun j y e' => ?_⟩
    rw [List.getElem?_map, Option.map_eq_some_iff] at e'
    obtain ⟨z, hz, rfl⟩ := e'
    obtain ⟨u, e1, e2⟩ := h2 j z hz
    exact ⟨u, e1, e2.mp hg⟩
theorem At.mp (hg : ∀ (i : Nat) (x : Nat × Nat), r'[i]? = some x → R[g i]? = some x) {w : World} {B off : Nat} {l : List Seg} {z : Bool} (h : At z r' w B off (flat l)) : At z R w B off (flat (mpL g l)) := by
  intro j y e
  rw [flat_mp, List.getElem?_map, Option.map_eq_some_iff] at e
  obtain ⟨z, hz, rfl⟩ := e
  obtain ⟨v, e1, e2, e3⟩ := h j z hz
  exact ⟨v, e1, e2.mp hg, e3⟩
end
/-- The caller's blocks behind the call. -/
def back (g : Nat → Nat) : List Nat → List (List Seg) → List (List Seg) → List (List Seg)
  | [], hs, h => h ++ hs.map (mpL g)
  | i :: q, c :: hs, h => back g q hs (h.set i (mpL g c))
  | _ :: _, [], h => h
theorem back_get (g : Nat → Nat) : ∀ (q : List Nat) (hs h : List (List Seg)), q.Nodup → (∀ i ∈ q, i < h.length) → q.length ≤ hs.length →
    (back g q hs h).length = h.length + (hs.length - q.length) ∧
    (∀ (k i : Nat), q[k]? = some i → (back g q hs h)[i]? = (hs[k]?).map (mpL g)) ∧
    (∀ (j : Nat), j < h.length → j ∉ q → (back g q hs h)[j]? = h[j]?) ∧
    (∀ (j : Nat), (back g q hs h)[h.length + j]? = (hs[q.length + j]?).map (mpL g))
  | [], hs, h, _, _, _ => ⟨by simp [back], fun k i e => by simp at e, fun j hj _ => by simp [back, List.getElem?_append_left hj], fun j => by simp only [back]; rw [List.getElem?_append_right (by omega), List.getElem?_map]; simp⟩
  | i :: q, c :: hs, h, hn, hq, hl => by
    obtain ⟨h1, h2⟩ := List.nodup_cons.1 hn
    obtain ⟨b1, b2, b3, b4⟩ := back_get g q hs (h.set i (mpL g c)) h2 (fun j hj => by simpa using hq j (by simp [hj])) (by simpa using hl)
    simp only [List.length_set] at b1 b3 b4
    refine ⟨by simp only [back, b1, List.length_cons]; omega, fun k j e => ?_, fun j hj hnj => ?_, fun j => ?_⟩
    · cases k with
      | zero =>
        simp at e
        subst e
        simp only [back, List.getElem?_cons_zero, Option.map_some]
        rw [b3 i (hq i (by simp)) h1]
        simp [hq i (by simp)]
      | succ k => simpa [back] using b2 k j (by simpa using e)
    · simp only [List.mem_cons, not_or] at hnj
      simp only [back]
      rw [b3 j hj hnj.2, List.getElem?_set_ne (Ne.symm hnj.1)]
    · simp only [back, b4, List.length_cons]
      congr 1
      rw [show q.length + 1 + j = (q.length + j) + 1 by omega]; rfl
  | _ :: _, [], _, _, _, hl => by simp at hl
theorem bk_get (N : Nat) : ∀ (q : List Nat) (k : Nat), (∀ i, q[k]? = some i → bk N q k = i) ∧ (q.length ≤ k → bk N q k = N + (k - q.length))
  | [], k => ⟨fun i e => by simp at e, fun _ => by simp [bk]⟩
  | x :: q, 0 => ⟨fun i e => by simp at e; simp [bk, e], fun h => by simp at h⟩
  | x :: q, k + 1 => ⟨fun i e => by simpa [bk] using (bk_get N q k).1 i (by simpa using e), fun h => by simp only [bk]; rw [(bk_get N q k).2 (by simpa using h)]; simp⟩
theorem HeapOk.back {C : Cx} {h hs : List (List Seg)} {r r' : Rho} {w w' : World} (ok : HeapOk C h r w) {q : List Nat} {n : Nat} (hnq : n ≤ q.length) (hn : (q.drop n).Nodup) (hq : ∀ i ∈ q, i < h.length) (hne : ∀ i ∈ q.drop n, getH h i ≠ []) (hwr : ∀ i ∈ q.drop n, C.ro ≤ i) {lv sf : Nat → Prop} (hsf : ∀ B, sf B → ∃ (i : Nat) (W : World) (ms : List Nat), h[i]? = some [.past W ms] ∧ B < W.heap.size ∧ B ∉ ms)
    (ok' : HeapOk ⟨C.P, C.T, w, ((rn q r).drop n).map (·.1), rn q r, n, lv, sf⟩ hs r' w') :
    let R := r ++ r'.drop q.length
    let g := bk h.length q
    HeapOk C (Sx.back g (q.drop n) (hs.drop n) h) R w' ∧ RLe r R ∧ (∀ (i : Nat) (x : Nat × Nat), r'[i]? = some x → R[g i]? = some x) ∧ (q.drop n = [] → Ext [] w w') ∧
    (∀ (k : Nat) (w1 : World) (ms : List Nat), hs[k]? = some [.past w1 ms] → Ext ms w1 w' ∧ (∀ B, B < w.heap.size → B < w1.heap.size → B ∉ ms → ∃ (i : Nat) (W : World) (ms : List Nat), h[i]? = some [.past W ms] ∧ B < W.heap.size ∧ B ∉ ms) ∧
      ∀ (j B f : Nat), C.ro ≤ j → R[j]? = some (B, f) → B < w1.heap.size → B ∈ ms) ∧
    (∀ (i : Nat) (W : World) (ms : List Nat), i ∉ q.drop n → h[i]? = some [.past W ms] → (Sx.back g (q.drop n) (hs.drop n) h)[i]? = some [.past W ms]) ∧
    (∀ (i : Nat) (W : World) (ms : List Nat), (Sx.back g (q.drop n) (hs.drop n) h)[i]? = some [.past W ms] → (h[i]? = some [.past W ms]) ∨ ∃ k : Nat, hs[k]? = some [.past W ms]) := by
  intro R g
  have hlen : r.length = h.length := ok.len
  have hlen' : r'.length = hs.length := ok'.len
  have hqr : ∀ i ∈ q, i < r.length := fun i hi => by rw [hlen]; exact hq i hi
  have hqs : ∀ i ∈ q.drop n, i ∈ q := fun i hi => List.mem_of_mem_drop hi
  have hpre : ∀ (k j : Nat), q[k]? = some j → r'[k]? = r[j]? := fun k j e => by
    have hj := hqr j (List.mem_of_getElem? e)
    have e1 := rn_get hqr e
    rw [List.getElem?_eq_getElem hj] at e1 ⊢
    exact ok'.agree k _ e1
  have hql : q.length ≤ r'.length := by
    rcases Nat.lt_or_ge r'.length q.length with hlt | h
    · have e1 := hpre r'.length q[r'.length] (List.getElem?_eq_getElem hlt)
      rw [List.getElem?_eq_none (Nat.le_refl _), List.getElem?_eq_getElem (hqr _ (List.getElem_mem _))] at e1
      cases e1
    · exact h
  obtain ⟨b1, b2, b3, b4⟩ := back_get g (q.drop n) (hs.drop n) h hn (fun i hi => hq i (hqs i hi)) (by simp only [List.length_drop]; omega)
  have hR1 : ∀ j, j < r.length → R[j]? = r[j]? := fun j hj => List.getElem?_append_left hj
  have hR2 : ∀ j, R[r.length + j]? = r'[q.length + j]? := fun j => by
    rw [List.getElem?_append_right (by omega), List.getElem?_drop]; congr 1; omega
  have hg : ∀ (i : Nat) (x : Nat × Nat), r'[i]? = some x → R[g i]? = some x := by
    intro i x e
    by_cases hi : i < q.length
    · have e1 := List.getElem?_eq_getElem hi
      rw [show g i = q[i] from (bk_get h.length q i).1 _ e1, hR1 _ (hqr _ (List.getElem_mem _)), ← hpre i _ e1]
      exact e
    · rw [show g i = h.length + (i - q.length) from (bk_get h.length q i).2 (by omega), ← hlen, hR2, show q.length + (i - q.length) = i by omega]
      exact e
  -- the callee's blocks that it may turn
  have hm' : ∀ B, B ∈ ((rn q r).drop n).map (·.1) → ∃ i, i ∈ q.drop n ∧ ∃ f, r[i]? = some (B, f) := by
    intro B hB
    obtain ⟨k, f, hk, e⟩ := mem_drop.1 hB
    cases hqk : q[k]? with
    | none => simp [rn, hqk] at e
    | some j =>
      rw [rn_get hqr hqk] at e
      exact ⟨j, List.mem_of_getElem? (i := k - n) (by rw [List.getElem?_drop, show n + (k - n) = k by omega]; exact hqk), f, e⟩
  have hext : Ext C.m C.w0 w' := ok.ext.trans2 ok'.ext (fun B hB => by
    obtain ⟨i, hi, f, e⟩ := hm' B hB
    exact ok.own i B f (hwr i hi) e)
  -- a block of the new list: an old one that was not handed over, or one of the callee's
  have cases_ : ∀ (j B f : Nat) (c : List Seg), (Sx.back g (q.drop n) (hs.drop n) h)[j]? = some c → R[j]? = some (B, f) → (j < h.length ∧ j ∉ q.drop n ∧ h[j]? = some c ∧ r[j]? = some (B, f)) ∨ (∃ k c', n ≤ k ∧ g k = j ∧ hs[k]? = some c' ∧ c = mpL g c' ∧ r'[k]? = some (B, f)) := by
    intro j B f c hc hr
    by_cases hj : j < h.length
    · by_cases hjq : j ∈ q.drop n
      · obtain ⟨k, hk, rfl⟩ := List.mem_iff_getElem.1 hjq
        have e1 := List.getElem?_eq_getElem hk
        rw [b2 k _ e1, Option.map_eq_some_iff] at hc
        obtain ⟨c', hc', rfl⟩ := hc
        rw [List.getElem?_drop] at hc' e1
        rw [hR1 _ (hqr _ (hqs _ hjq)), ← hpre (n + k) _ e1] at hr
        exact .inr ⟨n + k, c', by omega, (bk_get h.length q (n + k)).1 _ e1, hc', rfl, hr⟩
      · rw [b3 j hj hjq] at hc
        rw [hR1 j (by omega)] at hr
        exact .inl ⟨hj, hjq, hc, hr⟩
    · obtain ⟨d, rfl⟩ : ∃ d, j = h.length + d := ⟨j - h.length, by omega⟩
      rw [b4, Option.map_eq_some_iff] at hc
      obtain ⟨c', hc', rfl⟩ := hc
      rw [List.getElem?_drop, List.length_drop, show n + (q.length - n + d) = q.length + d by omega] at hc'
      rw [← hlen, hR2] at hr
      exact .inr ⟨q.length + d, c', by omega, by rw [show g (q.length + d) = h.length + (q.length + d - q.length) from (bk_get h.length q _).2 (by omega)]; omega, hc', rfl, hr⟩
  -- where the callee's blocks lie
  have where_ : ∀ (k B f : Nat), n ≤ k → r'[k]? = some (B, f) → (∃ i, i ∈ q.drop n ∧ ∃ f', r[i]? = some (B, f')) ∨ w.heap.size ≤ B := by
    intro k B f hk e
    rcases ok'.own k B f hk e with hm | hm
    · exact .inl (hm' B hm)
    · exact .inr hm
  have hhi : ∀ i ∈ q.drop n, h[i]? = some (getH h i) := fun i hi => by rw [getH_eq, List.getElem?_eq_getElem (hq i (hqs i hi))]; rfl
  -- an old block that was not handed over has nothing of the callee's
  have old : ∀ (j B f : Nat) (c : List Seg), j ∉ q.drop n → h[j]? = some c → r[j]? = some (B, f) → flat c ≠ [] → B ∉ ((rn q r).drop n).map (·.1) := by
    intro j B f c hjq hc hr hf hm
    obtain ⟨i, hi, f', e⟩ := hm' B hm
    exact hf (ok.sep (fun e => hjq (by rw [e]; exact hi)) (hwr i hi) hc (hhi i hi) hr e (hne i hi))
  have old2 : ∀ (j B f : Nat) (c : List Seg), C.ro ≤ j → j ∉ q.drop n → h[j]? = some c → r[j]? = some (B, f) → c = [] ∨ ((∀ i ∈ q.drop n, ∀ f', r[i]? ≠ some (B, f')) ∧ B < w.heap.size) := by
    intro j B f c ho hjq hc hr
    by_cases hex : ∃ i, i ∈ q.drop n ∧ ∃ f', r[i]? = some (B, f')
    · obtain ⟨i, hi, f', hf'⟩ := hex
      rcases ok.apart j i B f f' c _ (fun e => hjq (by rw [e]; exact hi)) ho (hwr i hi) hc (hhi i hi) hr hf' with h1 | h1
      · exact .inl h1
      · exact absurd h1 (hne i hi)
    · exact .inr ⟨fun i hi f' e => hex ⟨i, hi, f', e⟩, ok.lt j B f ho hr⟩
  have hrl := ok.rlen
  have hrl2 := ok.rol
  have two : ∀ j : Nat, j < r.length ∨ ∃ d, j = r.length + d := fun j => by
    rcases Nat.lt_or_ge j r.length with h | h
    · exact .inl h
    · exact .inr ⟨j - r.length, by omega⟩
  have pold : ∀ (i : Nat) (w1 : World) (ms : List Nat), h[i]? = some [.past w1 ms] → Ext ms w1 w' ∧ (∀ B, B < C.w0.heap.size → B < w1.heap.size → B ∉ ms → C.safe B) ∧ ∀ (j B f : Nat), C.ro ≤ j → R[j]? = some (B, f) → B < w1.heap.size → B ∈ ms := by
    intro i w1 ms hi
    obtain ⟨p1, p2, p3⟩ := ok.past i w1 ms hi
    refine ⟨p1.trans2 ok'.ext fun B hB => ?_, p2, fun j B f ho e hlt => ?_⟩
    · obtain ⟨i2, hi2, f, e⟩ := hm' B hB
      rcases Nat.lt_or_ge B w1.heap.size with hlt | hge
      · exact .inl (p3 i2 B f (hwr i2 hi2) e hlt)
      · exact .inr hge
    · rcases two j with hj | ⟨d, rfl⟩
      · rw [hR1 j hj] at e
        exact p3 j B f ho e hlt
      · rw [hR2] at e
        rcases where_ _ B f (by omega) e with ⟨i2, hi2, f', e2⟩ | hge
        · exact p3 i2 B f' (hwr i2 hi2) e2 hlt
        · have := p1.size
          omega
  have pnew : ∀ (k : Nat) (w1 : World) (ms : List Nat), hs[k]? = some [.past w1 ms] → Ext ms w1 w' ∧ (∀ B, B < w.heap.size → B < w1.heap.size → B ∉ ms → ∃ (i : Nat) (W : World) (ms : List Nat), h[i]? = some [.past W ms] ∧ B < W.heap.size ∧ B ∉ ms) ∧
      ∀ (j B f : Nat), C.ro ≤ j → R[j]? = some (B, f) → B < w1.heap.size → B ∈ ms := by
    intro k w1 ms hk
    obtain ⟨p1, p2, p3⟩ := ok'.past k w1 ms hk
    refine ⟨p1, fun B h1 h2 h3 => hsf B (p2 B h1 h2 h3), fun j B f ho e hlt => ?_⟩
    rcases two j with hj | ⟨d, rfl⟩
    · rw [hR1 j hj] at e
      apply Classical.byContradiction
      intro hn
      obtain ⟨i2, W, ms2, g1, g2, g3⟩ := hsf B (p2 B (ok.lt j B f ho e) hlt hn)
      exact g3 ((ok.past i2 W ms2 g1).2.2 j B f ho e g2)
    · rw [hR2] at e
      exact p3 _ B f (show n ≤ q.length + d by omega) e hlt
  have rows : ∀ (j : Nat) (c : List Seg), (Sx.back g (q.drop n) (hs.drop n) h)[j]? = some c → ∃ B f, R[j]? = some (B, f) := by
    intro j c e
    have hj : j < R.length := by
      have : j < (Sx.back g (q.drop n) (hs.drop n) h).length := by
        rcases Nat.lt_or_ge j (Sx.back g (q.drop n) (hs.drop n) h).length with h | h
        · exact h
        · rw [List.getElem?_eq_none h] at e; cases e
      rw [b1] at this
      simp only [R, List.length_append, List.length_drop, hlen, hlen'] at this ⊢
      omega
    exact ⟨R[j].1, R[j].2, List.getElem?_eq_getElem hj⟩
  have which : ∀ (i : Nat) (W : World) (ms : List Nat), (Sx.back g (q.drop n) (hs.drop n) h)[i]? = some [.past W ms] → (h[i]? = some [.past W ms]) ∨ ∃ k : Nat, hs[k]? = some [.past W ms] := by
    intro i W ms hi
    obtain ⟨B, f, hr⟩ := rows i _ hi
    rcases cases_ i B f _ hi hr with ⟨_, _, h3, _⟩ | ⟨k, c', _, _, h3, h4, _⟩
    · exact .inl h3
    · exact .inr ⟨k, by rw [h3, mpL_past h4]⟩
  refine ⟨⟨hext, fun i x e => ?_, ok.rol, ?_, fun j c B f hc hr => ?_, fun j B f ho hr => ?_, fun j B f ho hr => ?_, fun j B f ho hl hr => ?_, fun j c ho hl hc => ?_, fun i j B f f' c c' hij o1 o2 hi hj hri hrj => ?_, fun j m B f ho hc hr => ?_, fun i w1 ms hi => ?_⟩, fun i x e => ?_, hg, fun e => ?_, pnew, fun i W ms hn' hi => ?_, which⟩
  · have e1 := ok.agree i x e
    have hi : i < r.length := by
      rcases Nat.lt_or_ge i r.length with h | h
      · exact h
      · rw [List.getElem?_eq_none h] at e1; cases e1
    rw [hR1 i hi]; exact e1
  · rw [b1]; simp [R, hlen]; omega
  · rcases cases_ j B f c hc hr with ⟨h1, h2, h3, h4⟩ | ⟨k, c', hkn, hk, h3, rfl, h4⟩
    · refine ((ok.chunks j c B f h3 h4).mono ?_).extm ok'.ext (fun hl => old j B f c h2 h3 h4 hl)
      intro i x e
      have hi : i < r.length := by
        rcases Nat.lt_or_ge i r.length with h | h
        · exact h
        · rw [List.getElem?_eq_none h] at e; cases e
      rw [hR1 i hi]; exact e
    · intro d x e
      obtain ⟨v, e1, e2, e3⟩ := (ok'.chunks k c' B f h3 h4).mp hg d x e
      exact ⟨v, e1, e2, fun _ => e3 (le_ble hkn)⟩
  · have hj : j < r.length ∨ ∃ d, j = r.length + d := by
      rcases Nat.lt_or_ge j r.length with h | h
      · exact .inl h
      · exact .inr ⟨j - r.length, by omega⟩
    rcases hj with hj | ⟨d, rfl⟩
    · rw [hR1 j hj] at hr; exact Nat.lt_of_lt_of_le (ok.lt j B f ho hr) ok'.ext.size
    · rw [hR2] at hr; exact ok'.lt _ B f (show n ≤ q.length + d by omega) hr
  · have hj : j < r.length ∨ ∃ d, j = r.length + d := by
      rcases Nat.lt_or_ge j r.length with h | h
      · exact .inl h
      · exact .inr ⟨j - r.length, by omega⟩
    rcases hj with hj | ⟨d, rfl⟩
    · rw [hR1 j hj] at hr; exact ok.own j B f ho hr
    · rw [hR2] at hr
      rcases where_ _ B f (by omega) hr with ⟨i, hi, f', e⟩ | h
      · exact ok.own i B f' (hwr i hi) e
      · exact .inr (Nat.le_trans ok.ext.size h)
  · rw [hR1 j (by omega)] at hr
    exact ok.ros j B f ho hl hr
  · have hjq : j ∉ q.drop n := fun hc' => by have := hwr j hc'; omega
    rw [b3 j (by omega) hjq] at hc
    exact ok.dead j c ho hl hc
  · rcases cases_ i B f c hi hri with ⟨h1, h2, h3, h4⟩ | ⟨k, d, hkn, hk, h3, rfl, h4⟩ <;> rcases cases_ j B f' c' hj hrj with ⟨g1, g2, g3, g4⟩ | ⟨l, d', hln, hl, g3, rfl, g4⟩
    · exact ok.apart i j B f f' c c' hij o1 o2 h3 g3 h4 g4
    · rcases old2 i B f c o1 h2 h3 h4 with h5 | ⟨h5, h6⟩
      · exact .inl h5
      · rcases where_ _ B f' hln g4 with ⟨i', hi', f'', e⟩ | h
        · exact absurd e (h5 i' hi' f'')
        · omega
    · rcases old2 j B f' c' o2 g2 g3 g4 with h5 | ⟨h5, h6⟩
      · exact .inr h5
      · rcases where_ _ B f hkn h4 with ⟨i', hi', f'', e⟩ | h
        · exact absurd e (h5 i' hi' f'')
        · omega
    · rcases ok'.apart k l B f f' d d' (fun e => hij (by rw [← hk, ← hl, e])) hkn hln h3 g3 h4 g4 with h | h
      · left; rw [h]; rfl
      · right; rw [h]; rfl
  · rcases cases_ j B f _ hc hr with ⟨h1, h2, h3, h4⟩ | ⟨k, c', hkn, hk, h3, h4, h5⟩
    · refine (ok.maps j m B f ho h3 h4).block (ok'.ext.block B (ok.lt j B f ho h4) fun hB => ?_)
      rcases old2 j B f _ ho h2 h3 h4 with h5 | ⟨h5, _⟩
      · cases h5
      · obtain ⟨i2, hi2, f2, e2⟩ := hm' B hB
        exact h5 i2 hi2 f2 e2
    · exact ok'.maps k m B f hkn (by rw [h3, mpL_obj h4]) h5
  · rcases which i w1 ms hi with h1 | ⟨k, h1⟩
    · exact pold i w1 ms h1
    · obtain ⟨p1, p2, p3⟩ := pnew k w1 ms h1
      refine ⟨p1, fun B h2 h3 h4 => ?_, p3⟩
      obtain ⟨i2, W, ms2, g1, g2, g3⟩ := p2 B (Nat.lt_of_lt_of_le h2 ok.ext.size) h3 h4
      exact (ok.past i2 W ms2 g1).2.1 B h2 g2 g3
  · have hi : i < r.length := by
      rcases Nat.lt_or_ge i r.length with h | h
      · exact h
      · rw [List.getElem?_eq_none h] at e; cases e
    rw [hR1 i hi]; exact e
  · refine ok'.ext.mono fun B hB => ?_
    obtain ⟨i, hi, _⟩ := hm' B hB
    rw [e] at hi
    cases hi
  · have hil : i < h.length := by
      rcases Nat.lt_or_ge i h.length with h1 | h1
      · exact h1
      · rw [List.getElem?_eq_none h1] at hi; cases hi
    rw [b3 i hil hn']; exact hi

/-! Calls. -/
/-- The blocks l, where they are, aren't among q. -/
def apartB (h : List (List Seg)) (q : List Nat) : List Nat → Bool
  | [] => true
  | i :: l => (match Nat.blt i h.length with
    | true => !(memB i q) && (match getH h i with
      | [] => false
      | _ => true)
    | false => true) && apartB h q l
def keepB (k : Keep) (q : List Nat) (h : List (List Seg)) : Bool := match k with
  | .free => true
  | .all => q.isEmpty
  | .only l => apartB h q l
def allNe (h : List (List Seg)) : List Nat → Bool
  | [] => true
  | i :: q => match stirs (getH h i) with
    | false => false
    | true => allNe h q
theorem allNe_spec {h : List (List Seg)} : ∀ {q : List Nat}, allNe h q = true → ∀ i ∈ q, stirs (getH h i) = true
  | [], _, i, hi => by cases hi
  | x :: q, hh, i, hi => by
    simp only [allNe] at hh
    split at hh
    · cases hh
    · rename_i hne
      cases hi with
      | head => exact hne
      | tail _ hi => exact allNe_spec hh i hi
theorem stirs_ne {l : List Seg} (h : stirs l = true) : l ≠ [] := fun e => by subst e; cases h
/-- How long a list is, as a number written out. -/
def lenK {α : Type} : List α → Nat → (Nat → Prop) → Prop
  | [], n, k => frcN n k
  | _ :: r, n, k => lenK r (n + 1) k
theorem lenK_eq {α : Type} : ∀ (l : List α) (n : Nat) (k : Nat → Prop), lenK l n k = k (n + l.length)
  | [], n, k => frcN_eq n k
  | _ :: r, n, k => by rw [lenK, lenK_eq r]; simp only [List.length_cons]; congr 1; omega
/-- The caller's blocks behind the call, laid bare. -/
def mapK (g : Nat → Nat) : List (List Seg) → (List (List Seg) → Prop) → Prop
  | [], k => k []
  | x :: r, k => mapK g r fun l => k (mpL g x :: l)
theorem mapK_eq (g : Nat → Nat) : ∀ (l : List (List Seg)) (k : List (List Seg) → Prop), mapK g l k = k (l.map (mpL g))
  | [], _ => rfl
  | x :: r, k => by rw [mapK, mapK_eq g r]; rfl
def appK (g : Nat → Nat) (ys : List (List Seg)) : List (List Seg) → (List (List Seg) → Prop) → Prop
  | [], k => mapK g ys k
  | x :: r, k => appK g ys r fun l => k (x :: l)
theorem appK_eq (g : Nat → Nat) (ys : List (List Seg)) : ∀ (l : List (List Seg)) (k : List (List Seg) → Prop), appK g ys l k = k (l ++ ys.map (mpL g))
  | [], k => mapK_eq g ys k
  | x :: r, k => by rw [appK, appK_eq g ys r]; rfl
def backK (g : Nat → Nat) : List Nat → List (List Seg) → List (List Seg) → (List (List Seg) → Prop) → Prop
  | [], hs, h, k => appK g hs h k
  | i :: q, c :: hs, h, k => setH h i (mpL g c) fun h => backK g q hs h k
  | _ :: _, [], h, k => k h
theorem backK_eq (g : Nat → Nat) : ∀ (q : List Nat) (hs h : List (List Seg)) (k : List (List Seg) → Prop), backK g q hs h k = k (back g q hs h)
  | [], hs, h, k => appK_eq g hs h k
  | i :: q, c :: hs, h, k => by rw [backK, setH_eq, backK_eq g q]; rfl
  | _ :: _, [], _, _ => rfl
section
variable {C : Cx}
theorem apartB_spec {h : List (List Seg)} {q : List Nat} : ∀ {l : List Nat}, apartB h q l = true → ∀ i ∈ l, i < h.length → i ∉ q ∧ getH h i ≠ []
  | [], _, i, hi, _ => by cases hi
  | x :: l, hh, i, hi, hl => by
    simp only [apartB, Bool.and_eq_true] at hh
    cases hi with
    | tail _ hi => exact apartB_spec hh.2 i hi hl
    | head =>
      have h1 := hh.1
      split at h1
      · simp only [Bool.and_eq_true, Bool.not_eq_true'] at h1
        refine ⟨fun hc => ?_, fun e => ?_⟩
        · rw [memB_iff.2 hc] at h1
          exact absurd h1.1 (by simp)
        · rw [e] at h1
          exact absurd h1.2 (by simp)
      · rename_i hb
        have : Nat.blt x h.length = true := Nat.ble_eq_true_of_le hl
        rw [this] at hb
        cases hb
theorem frm_back {k : Keep} {h hs : List (List Seg)} {q : List Nat} {n : Nat} {r r' : Rho} {w w' : World} {lv sf : Nat → Prop} {h' : List (List Seg)} (hqr : ∀ i ∈ q, i < r.length) (hl : ∀ i ∈ q, i < h.length) (hst : ∀ i ∈ q.drop n, stirs (getH h i) = true) (hwr : ∀ i ∈ q.drop n, C.ro ≤ i) (h4 : keepB k (q.drop n) h = true) (ok : HeapOk C h r w)
    (hok : HeapOk ⟨C.P, C.T, w, ((rn q r).drop n).map (·.1), rn q r, n, lv, sf⟩ hs r' w') (hnq : n ≤ q.length) (o4 : q.drop n = [] → Ext [] w w') (ok2 : HeapOk C h' (r ++ r'.drop q.length) w')
    (o5 : ∀ (k : Nat) (w1 : World) (ms : List Nat), hs[k]? = some [.past w1 ms] → Ext ms w1 w' ∧ (∀ B, B < w.heap.size → B < w1.heap.size → B ∉ ms → ∃ (i : Nat) (W : World) (ms : List Nat), h[i]? = some [.past W ms] ∧ B < W.heap.size ∧ B ∉ ms) ∧
      ∀ (j B f : Nat), C.ro ≤ j → (r ++ r'.drop q.length)[j]? = some (B, f) → B < w1.heap.size → B ∈ ms)
    (o6 : k.binds = true → ∀ (i : Nat) (W : World) (ms : List Nat), i ∉ q.drop n → h[i]? = some [.past W ms] → h'[i]? = some [.past W ms])
    (o7 : ∀ (i : Nat) (W : World) (ms : List Nat), h'[i]? = some [.past W ms] → (h[i]? = some [.past W ms]) ∨ ∃ k : Nat, hs[k]? = some [.past W ms]) : Frm C k h r w h' (r ++ r'.drop q.length) w' := by
  have hne : ∀ i ∈ q.drop n, getH h i ≠ [] := fun i hi => stirs_ne (hst i hi)
  have hkp : k.binds = true → Keeps h h' := fun hb i W ms hi => o6 hb i W ms (fun hc => by
    have := hst i hc
    rw [getH_eq, hi] at this
    cases this) hi
  have hqs : ∀ i ∈ q.drop n, i ∈ q := fun i hi => List.mem_of_mem_drop hi
  have hsub : ∀ B, B ∈ ((rn q r).drop n).map (·.1) → ∃ i, i ∈ q.drop n ∧ ∃ f, r[i]? = some (B, f) := by
    intro B hB
    obtain ⟨k, f, hk, e⟩ := mem_drop.1 hB
    cases hqk : q[k]? with
    | none => simp [rn, hqk] at e
    | some j =>
      rw [rn_get hqr hqk] at e
      exact ⟨j, List.mem_of_getElem? (i := k - n) (by rw [List.getElem?_drop, show n + (k - n) = k by omega]; exact hqk), f, e⟩
  have hmem : ∀ B, B ∈ ((rn q r).drop n).map (·.1) → B ∈ (r.drop C.ro).map (·.1) := fun B hB => by
    obtain ⟨i, hi, f, e⟩ := hsub B hB
    exact mem_drop.2 ⟨i, f, hwr i hi, e⟩
  refine ⟨hok.ext.mono fun i hi => .inl (hmem i hi), fun i B f ho e => ?_, ?_, hkp, fun i W ms hi B h1 h2 h3 => ?_⟩
  · rw [List.getElem?_append] at e
    split at e
    · exact .inl (mem_drop.2 ⟨i, f, ho, e⟩)
    · rw [List.getElem?_drop] at e
      rcases hok.own _ B f (show n ≤ q.length + (i - r.length) by omega) e with h | h
      · exact .inl (hmem B h)
      · exact .inr h
  · cases k with
    | free => trivial
    | all => exact o4 (by simpa [keepB] using h4)
    | only l =>
      refine ⟨?_, fun i hi ho B f hr hB => hok.ext.block B hB fun hc => ?_, fun i W ms hi => (ok2.past i W ms (hkp rfl i W ms hi)).1⟩
      · exact ok.ext.trans2 hok.ext fun B hB => by
          obtain ⟨i, hi, f, e⟩ := hsub B hB
          exact ok.own i B f (hwr i hi) e
      · obtain ⟨j, hjq, f', e2⟩ := hsub B hc
        have hil : i < h.length := by
          rw [← ok.len]
          rcases Nat.lt_or_ge i r.length with h | h
          · exact h
          · rw [List.getElem?_eq_none h] at hr; cases hr
        obtain ⟨a1, a2⟩ := apartB_spec h4 i hi hil
        have hij : i ≠ j := fun e => by subst e; exact a1 hjq
        have ch : ∀ z, z < h.length → h[z]? = some (getH h z) := fun z hz => by rw [getH_eq, List.getElem?_eq_getElem hz]; rfl
        rcases ok.apart i j B f f' _ _ hij ho (hwr j hjq) (ch i hil) (ch j (hl j (hqs j hjq))) hr e2 with h | h
        · exact a2 h
        · exact hne j hjq h
  · rcases o7 i W ms hi with h5 | ⟨d, h5⟩
    · exact ⟨i, W, ms, h5, h2, h3⟩
    · exact (o5 d W ms h5).2.1 B h1 h2 h3
def allGe (n : Nat) : List Nat → Bool
  | [] => true
  | x :: r => match Nat.ble n x with
    | true => allGe n r
    | false => false
theorem allGe_spec {n : Nat} : ∀ {l : List Nat}, allGe n l = true → ∀ i ∈ l, n ≤ i
  | [], _, i, hi => by cases hi
  | x :: l, h, i, hi => by
    simp only [allGe] at h
    split at h
    · rename_i hb
      cases hi with
      | head => exact ble_le hb
      | tail _ hi => exact allGe_spec h i hi
    · cases h
def disj (a : List Nat) : List Nat → Bool
  | [] => true
  | x :: r => match memB x a with
    | true => false
    | false => disj a r
theorem disj_spec {a : List Nat} : ∀ {l : List Nat}, disj a l = true → ∀ i ∈ l, i ∉ a
  | [], _, i, hi => by cases hi
  | x :: l, h, i, hi => by
    simp only [disj] at h
    split at h
    · cases h
    · rename_i hb
      cases hi with
      | head => exact fun hc => by rw [memB_iff.2 hc] at hb; cases hb
      | tail _ hi => exact disj_spec h i hi
/-- Whether blocks may be handed over: the first n to be read, the others to be turned. -/
def qOk (ro n : Nat) (qt : Keep) (q : List Nat) (h : List (List Seg)) : Bool :=
  Nat.ble n q.length && nodup (q.drop n) && allLt q h.length && allNe h (q.drop n) && allGe ro (q.drop n) && disj (q.take n) (q.drop n) && keepB qt (q.drop n) h
/-- A call by what the callee keeps to; q: what the callee's blocks are called here. -/
theorem call_fn {qt : Keep} {f : FuncId} {args args0 : List SA} {t : List SV} {h : List (List Seg)} {k : SV → List (List Seg) → Prop} {n : Nat} {h0 : List (List Seg)} {raw : World → Prop} {Res : SV → List (List Seg) → Prop}
    (hfn : FnR C.P C.T f n h0 args0 raw Res) (q : List Nat) (hq : qOk C.ro n qt q h = true)
    (hE : entH q h q h0 True) (hA : ∀ r w vs, HeapOk C h r w → IsAs r args vs → IsAs (rn q r) args0 vs) (hraw : ∀ r w, HeapOk C h r w → raw w)
    (hk : ∀ x hs, Res x hs → lenK h 0 fun N => backK (bk N q) (q.drop n) (hs.drop n) h fun h' => k (x.mp (bk N q)) h') : CallVC C qt f #[] args #[] t h k := by
  intro r a w vs ok ha
  simp only [qOk, Bool.and_eq_true] at hq
  obtain ⟨⟨⟨⟨⟨⟨h0', h1⟩, h2⟩, h3⟩, h5⟩, h6⟩, h4⟩ := hq
  have hnq := ble_le h0'
  have hn := nodup_spec h1
  have hl := allLt_spec h2
  have hst := allNe_spec h3
  have hne : ∀ i ∈ q.drop n, getH h i ≠ [] := fun i hi => stirs_ne (hst i hi)
  have hwr := allGe_spec h5
  have hdj := disj_spec h6
  have hlen := ok.heap.len
  have hqs : ∀ i ∈ q.drop n, i ∈ q := fun i hi => List.mem_of_mem_drop hi
  have hqr : ∀ i ∈ q, i < r.length := fun i hi => by rw [hlen]; exact hl i hi
  obtain ⟨_, e7, e8⟩ := entH_spec hqr h hE
  have look : ∀ (i B f : Nat), (rn q r)[i]? = some (B, f) → ∃ j, q[i]? = some j ∧ r[j]? = some (B, f) := by
    intro i B f e
    cases hi : q[i]? with
    | none => simp [rn, hi] at e
    | some j => exact ⟨j, rfl, by rw [← rn_get hqr hi]; exact e⟩
  have hdrop : ∀ (i j : Nat), n ≤ i → q[i]? = some j → j ∈ q.drop n := fun i j hi e =>
    List.mem_of_getElem? (i := i - n) (by rw [List.getElem?_drop, show n + (i - n) = i by omega]; exact e)
  have chunk : ∀ j, j < h.length → h[j]? = some (getH h j) := fun j hj => by rw [getH_eq, List.getElem?_eq_getElem hj]; rfl
  have cells : ∀ (i B f : Nat) (ch : List Seg), h0[i]? = some ch → (rn q r)[i]? = some (B, f) → At (Nat.ble n i) (rn q r) w B f (flat ch) := by
    intro i B f ch hi hr j y e
    obtain ⟨j', hq', hr'⟩ := look i B f hr
    obtain ⟨_, h9⟩ := e8 i ch j' hi hq'
    obtain ⟨x, hx, hv⟩ := h9 j y e
    obtain ⟨v, e1, e2, e3⟩ := ok.heap.chunk hr' j x hx
    exact ⟨v, e1, hv v e2, fun hb => e3 (le_ble (hwr j' (hdrop i j' (ble_le hb) hq')))⟩
  have pastUp : ∀ (i : Nat) (W : World) (ms : List Nat), h0[i]? = some [.past W ms] → ∃ j, q[i]? = some j ∧ h[j]? = some [.past W ms] := by
    intro i W ms hi
    have hil : i < q.length := by
      rw [e7]
      rcases Nat.lt_or_ge i h0.length with h1 | h1
      · exact h1
      · rw [List.getElem?_eq_none h1] at hi; cases hi
    have hqi := List.getElem?_eq_getElem hil
    refine ⟨_, hqi, ?_⟩
    have hk := (e8 i _ _ hi hqi).1.2.2 W ms rfl
    rw [chunk _ (hl _ (List.getElem_mem _)), hk]
  have ok0 : HeapOk (cx0 C.P C.T w (rn q r) n h0) h0 (rn q r) w := by
    refine ⟨Ext.refl _ _, RLe.refl _, by simpa [rn] using hnq, by simp [rn, e7], fun i ch B f hi hr => cells i B f ch hi hr, fun i B f ho hr => ?_, fun i B f ho hr => .inl (mem_drop.2 ⟨i, f, ho, hr⟩), fun i B f ho hlv hr => ?_, fun i ch ho hlv hi => ?_, fun i j B f f' ch ch' hij o1 o2 hi hj hri hrj => ?_, fun i m B f ho hi hr => ?_, fun i W ms hi => ?_⟩
    · obtain ⟨j', hq', hr'⟩ := look i B f hr
      exact ok.heap.lt j' B f (hwr j' (hdrop i j' ho hq')) hr'
    · have hi0 : i < h0.length := by
        rw [← e7]
        obtain ⟨j', hq', _⟩ := look i B f hr
        rcases Nat.lt_or_ge i q.length with h | h
        · exact h
        · rw [List.getElem?_eq_none h] at hq'; cases hq'
      have hch : h0[i]? = some (getH h0 i) := by rw [getH_eq, List.getElem?_eq_getElem hi0]; rfl
      have hAt := cells i B f _ hch hr
      refine ⟨fun hc => ?_, hAt.lt hlv⟩
      obtain ⟨j', hq', hr'⟩ := look i B f hr
      obtain ⟨i2, f2, hi2, e2⟩ := mem_drop.1 hc
      obtain ⟨j2, hq2, hr2⟩ := look i2 B f2 e2
      have hj2 := hdrop i2 j2 hi2 hq2
      have hjt : j' ∈ q.take n := List.mem_of_getElem? (i := i) (by rw [List.getElem?_take, if_pos ho]; exact hq')
      have hne2 : j' ≠ j2 := fun e => hdj j2 hj2 (e ▸ hjt)
      have hfl := ok.heap.sep hne2 (hwr j2 hj2) (chunk j' (hl j' (List.mem_of_getElem? hq'))) (chunk j2 (hl j2 (hqs j2 hj2))) hr' hr2 (hne j2 hj2)
      obtain ⟨_, h9⟩ := e8 i _ j' hch hq'
      cases e : flat (getH h0 i) with
      | nil => exact hlv e
      | cons y l =>
        obtain ⟨x, hx, _⟩ := h9 0 y (by rw [e]; rfl)
        rw [hfl] at hx
        cases hx
    · have : getH h0 i = ch := by rw [getH_eq, hi]; rfl
      rw [← this]
      exact Classical.byContradiction hlv
    · have o1 : n ≤ i := o1
      have o2 : n ≤ j := o2
      obtain ⟨i', hqi, hri'⟩ := look i B f hri
      obtain ⟨j', hqj, hrj'⟩ := look j B f' hrj
      have m1 := hdrop i i' o1 hqi
      have m2 := hdrop j j' o2 hqj
      have hne' : i' ≠ j' := by
        intro e
        subst e
        have g1 : (q.drop n)[i - n]? = some i' := by rw [List.getElem?_drop, show n + (i - n) = i by omega]; exact hqi
        have g2 : (q.drop n)[j - n]? = some i' := by rw [List.getElem?_drop, show n + (j - n) = j by omega]; exact hqj
        have hi1 : i - n < (q.drop n).length := by
          rcases Nat.lt_or_ge (i - n) (q.drop n).length with h | h
          · exact h
          · rw [List.getElem?_eq_none h] at g1; cases g1
        have := (List.getElem?_inj hi1 hn).1 (g1.trans g2.symm)
        omega
      have l1 := hl i' (hqs i' m1)
      have l2 := hl j' (hqs j' m2)
      rcases ok.heap.apart i' j' B f f' _ _ hne' (hwr i' m1) (hwr j' m2) (chunk i' l1) (chunk j' l2) hri' hrj' with h | h
      · exact .inl ((e8 i ch i' hi hqi).1.1 h)
      · exact .inr ((e8 j ch' j' hj hqj).1.1 h)
    · obtain ⟨j', hq', hr'⟩ := look i B f hr
      have m1 := hdrop i j' ho hq'
      refine ok.heap.maps j' m B f (hwr j' m1) ?_ hr'
      have hk := (e8 i _ _ hi hq').1.2.1 m rfl
      rw [← hk]
      exact chunk _ (hl _ (hqs j' m1))
    · obtain ⟨j', hq', hj'⟩ := pastUp i W ms hi
      obtain ⟨p1, _, p3⟩ := ok.heap.past j' W ms hj'
      refine ⟨p1, fun B _ h2 h3 => ⟨i, W, ms, hi, h2, h3⟩, fun j B f ho hr hlt => ?_⟩
      obtain ⟨j2, hq2, hr2⟩ := look j B f hr
      exact p3 j2 B f (hwr j2 (hdrop j j2 ho hq2)) hr2 hlt
  have hcall := hfn w (rn q r) vs ok0 (hA r w vs ok.heap ha) (hraw r w ok.heap)
  have hargs : (#[] : Array Value) ++ vs.toArray ++ #[] = vs.toArray := by simp
  rw [hargs]
  refine hcall.mono ?_
  rintro e w' ⟨v, x, hs, r', rfl, hx, hok, hres⟩
  obtain ⟨o1, o2, o3, o4, o5, o6, o7⟩ := ok.heap.back hnq hn hl hne hwr (fun B ⟨i, W, ms, h1, h2, h3⟩ => by
    obtain ⟨j', _, hj'⟩ := pastUp i W ms h1
    exact ⟨j', W, ms, hj', h2, h3⟩) hok
  have hk' := hk x hs hres
  rw [lenK_eq, Nat.zero_add, backK_eq] at hk'
  exact ⟨v, _, _, _, rfl, hx.mp o3, o2, o1, frm_back hqr hl hst hwr h4 ok.heap hok hnq o4 o1 o5 (fun _ => o6) o7, hk'⟩
/-- Arguments that are the same there. -/
def eqAs (q : List Nat) : List SA → List SA → Prop
  | [], [] => True
  | x :: r, y :: r' => eqA q x y (eqAs q r r')
  | _, _ => False
theorem eqAs_spec {q : List Nat} {r : Rho} (hq : ∀ i ∈ q, i < r.length) : ∀ {l l' : List SA} {vs : List Value}, eqAs q l l' → IsAs r l vs → IsAs (rn q r) l' vs
  | [], [], vs, _, h => ⟨h.1, fun j x e => by simp at e⟩
  | x :: l, y :: l', vs, h, hv => by
    obtain ⟨h, h1⟩ := eqA_spec hq (show eqA q x y (eqAs q l l') from h)
    cases vs with
    | nil => have := hv.1; simp at this
    | cons v vs =>
      have ht := eqAs_spec (vs := vs) hq h ⟨by simpa using hv.1, fun j z e => hv.2 (j + 1) z e⟩
      refine ⟨by simpa using ht.1, fun j z e => ?_⟩
      cases j with
      | zero =>
        simp at e
        subst e
        obtain ⟨u, e1, e2⟩ := hv.2 0 x rfl
        exact ⟨u, e1, h1 u e2⟩
      | succ j => exact ht.2 j z e
  | [], _ :: _, _, h, _ => h.elim
  | _ :: _, [], _, h, _ => h.elim
theorem call_same {qt : Keep} {f : FuncId} {args args0 : List SA} {t : List SV} {h : List (List Seg)} {k : SV → List (List Seg) → Prop} {n : Nat} {h0 : List (List Seg)} {raw : World → Prop} {Res : SV → List (List Seg) → Prop}
    (hfn : FnR C.P C.T f n h0 args0 raw Res) (q : List Nat) (hq : qOk C.ro n qt q h = true)
    (hA : eqAs q args args0) (hE : entH q h q h0 True) (hraw : ∀ w, Ext C.m C.w0 w → raw w)
    (hk : ∀ x hs, Res x hs → lenK h 0 fun N => backK (bk N q) (q.drop n) (hs.drop n) h fun h' => k (x.mp (bk N q)) h') : CallVC C qt f #[] args #[] t h k := by
  refine call_fn hfn q hq hE (fun r w vs ok hv => eqAs_spec (fun i hi => ?_) hA hv) (fun r w ok => hraw w ok.ext) hk
  simp only [qOk, Bool.and_eq_true] at hq
  rw [ok.len]
  exact allLt_spec hq.1.1.1.1.2 i hi
/-- What is returned where a function is called from outside. -/
theorem Fn.calls {P : Program} {T : List (Nat × TD)} {f : FuncId} {args : List SA} {raw : World → Prop} {Res : SV → List (List Seg) → Prop} (h : FnR P T f 0 [] args raw Res) {w : World} {vs : List Value} (ha : IsAs [] args vs) (hr : raw w) :
    Calls P f vs.toArray w fun e w' => ∃ v x hs r', e = .returned v ∧ SV.Is r' x v ∧ HeapOk (cx0 P T w [] 0 []) hs r' w' ∧ Res x hs :=
  h w [] vs ⟨Ext.refl _ _, RLe.refl _, Nat.le_refl _, rfl, fun i ch B f hi => by simp at hi, fun i B f _ hr => by simp at hr, fun i B f _ hr => by simp at hr, fun i B f _ _ hr => by simp at hr, fun i ch _ _ hi => by simp at hi, fun i j B f f' ch ch' _ _ _ hi => by simp at hi, fun i m B f _ hi => by simp at hi, fun i W ms hi => by simp at hi⟩ ha hr
end
end Sx
end Go.Proofs.Ytdblbheeefokaaa
end

section
/-
  The table of types. No condition.
-/
namespace Go.Proofs.Ytdblbheeefokaaa
set_option linter.unusedVariables false
namespace Sx
def tds : List (Nat × TD) := [(1, ⟨.fn, 1, 8, [.one (.nilFn)]⟩),
  (2, ⟨.int .i64, 1, 8, [.one (.int .i64 0)]⟩),
  (3, ⟨.int .i64, 1, 8, [.one (.int .i64 0)]⟩),
  (4, ⟨.bool, 1, 1, [.one (.bool false)]⟩),
  (5, ⟨.int .u8, 1, 1, [.one (.w8 0)]⟩),
  (6, ⟨.int .u8, 1, 1, [.one (.w8 0)]⟩),
  (7, ⟨.struct [(2, 0), (3, 1), (4, 2), (6, 3)], 4, 24, [.one (.int .i64 0), .one (.int .i64 0), .one (.bool false), .one (.w8 0)]⟩),
  (8, ⟨.struct [(2, 0), (3, 1), (4, 2), (6, 3)], 4, 24, [.one (.int .i64 0), .one (.int .i64 0), .one (.bool false), .one (.w8 0)]⟩),
  (9, ⟨.str, 1, 16, [.one (.str [])]⟩),
  (10, ⟨.str, 1, 16, [.one (.str [])]⟩),
  (11, ⟨.str, 1, 16, [.one (.str [])]⟩),
  (12, ⟨.int .u64, 1, 8, [.one (.w64 0)]⟩),
  (13, ⟨.struct [(9, 0), (12, 1)], 2, 24, [.one (.str []), .one (.w64 0)]⟩),
  (14, ⟨.struct [(9, 0), (12, 1)], 2, 24, [.one (.str []), .one (.w64 0)]⟩),
  (15, ⟨.ptr 85, 1, 8, [.one (.ptr none)]⟩),
  (16, ⟨.ptr 88, 1, 8, [.one (.ptr none)]⟩),
  (17, ⟨.ptr 97, 1, 8, [.one (.ptr none)]⟩),
  (18, ⟨.struct [(17, 0)], 1, 8, [.one (.ptr none)]⟩),
  (19, ⟨.struct [(17, 0)], 1, 8, [.one (.ptr none)]⟩),
  (20, ⟨.ifc, 1, 16, [.one (.nilIfc)]⟩),
  (21, ⟨.int .i32, 1, 4, [.one (.int .i32 0)]⟩),
  (22, ⟨.fn, 1, 8, [.one (.nilFn)]⟩),
  (23, ⟨.ptr 50, 1, 8, [.one (.ptr none)]⟩),
  (24, ⟨.fn, 1, 8, [.one (.nilFn)]⟩),
  (25, ⟨.map .w8b, 1, 8, [.one (.nilMap)]⟩),
  (26, ⟨.fn, 1, 8, [.one (.nilFn)]⟩),
  (27, ⟨.fn, 1, 8, [.one (.nilFn)]⟩),
  (28, ⟨.array 16 5, 16, 16, [.row 16 (fun _ => .w8 0)]⟩),
  (29, ⟨.array 16 5, 16, 16, [.row 16 (fun _ => .w8 0)]⟩),
  (30, ⟨.ptr 54, 1, 8, [.one (.ptr none)]⟩),
  (31, ⟨.fn, 1, 8, [.one (.nilFn)]⟩),
  (32, ⟨.fn, 1, 8, [.one (.nilFn)]⟩),
  (33, ⟨.struct [], 0, 0, []⟩),
  (34, ⟨.struct [], 0, 0, []⟩),
  (35, ⟨.struct [], 0, 0, []⟩),
  (36, ⟨.int .u32, 1, 4, [.one (.w32 0)]⟩),
  (37, ⟨.struct [(35, 0), (36, 0)], 1, 4, [.one (.w32 0)]⟩),
  (38, ⟨.struct [(35, 0), (36, 0)], 1, 4, [.one (.w32 0)]⟩),
  (39, ⟨.struct [(21, 0), (36, 1)], 2, 8, [.one (.int .i32 0), .one (.w32 0)]⟩),
  (40, ⟨.struct [(21, 0), (36, 1)], 2, 8, [.one (.int .i32 0), .one (.w32 0)]⟩),
  (41, ⟨.struct [(34, 0), (40, 0)], 2, 8, [.one (.int .i32 0), .one (.w32 0)]⟩),
  (42, ⟨.struct [(34, 0), (40, 0)], 2, 8, [.one (.int .i32 0), .one (.w32 0)]⟩),
  (43, ⟨.struct [(34, 0), (38, 0), (42, 1)], 3, 12, [.one (.w32 0), .one (.int .i32 0), .one (.w32 0)]⟩),
  (44, ⟨.struct [(34, 0), (38, 0), (42, 1)], 3, 12, [.one (.w32 0), .one (.int .i32 0), .one (.w32 0)]⟩),
  (45, ⟨.array 256 5, 256, 256, [.row 256 (fun _ => .w8 0)]⟩),
  (46, ⟨.struct [], 0, 0, []⟩),
  (47, ⟨.struct [(35, 0), (46, 0), (2, 0)], 1, 8, [.one (.int .i64 0)]⟩),
  (48, ⟨.struct [(35, 0), (46, 0), (2, 0)], 1, 8, [.one (.int .i64 0)]⟩),
  (49, ⟨.struct [(44, 0), (45, 3), (48, 259)], 260, 280, [.one (.w32 0), .one (.int .i32 0), .one (.w32 0), .row 256 (fun _ => .w8 0), .one (.int .i64 0)]⟩),
  (50, ⟨.struct [(44, 0), (45, 3), (48, 259)], 260, 280, [.one (.w32 0), .one (.int .i32 0), .one (.w32 0), .row 256 (fun _ => .w8 0), .one (.int .i64 0)]⟩),
  (51, ⟨.fn, 1, 8, [.one (.nilFn)]⟩),
  (52, ⟨.array 11 29, 176, 176, [.row 176 (fun _ => .w8 0)]⟩),
  (53, ⟨.struct [(23, 0), (52, 1)], 177, 184, [.one (.ptr none), .row 176 (fun _ => .w8 0)]⟩),
  (54, ⟨.struct [(23, 0), (52, 1)], 177, 184, [.one (.ptr none), .row 176 (fun _ => .w8 0)]⟩),
  (55, ⟨.ptr 29, 1, 8, [.one (.ptr none)]⟩),
  (56, ⟨.fn, 1, 8, [.one (.nilFn)]⟩),
  (57, ⟨.fn, 1, 8, [.one (.nilFn)]⟩),
  (58, ⟨.fn, 1, 8, [.one (.nilFn)]⟩),
  (59, ⟨.ptr 44, 1, 8, [.one (.ptr none)]⟩),
  (60, ⟨.fn, 1, 8, [.one (.nilFn)]⟩),
  (61, ⟨.int .u64, 1, 8, [.one (.w64 0)]⟩),
  (62, ⟨.ptr 48, 1, 8, [.one (.ptr none)]⟩),
  (63, ⟨.fn, 1, 8, [.one (.nilFn)]⟩),
  (64, ⟨.ptr 2, 1, 8, [.one (.ptr none)]⟩),
  (65, ⟨.ptr 38, 1, 8, [.one (.ptr none)]⟩),
  (66, ⟨.fn, 1, 8, [.one (.nilFn)]⟩),
  (67, ⟨.ptr 36, 1, 8, [.one (.ptr none)]⟩),
  (68, ⟨.fn, 1, 8, [.one (.nilFn)]⟩),
  (69, ⟨.ptr 42, 1, 8, [.one (.ptr none)]⟩),
  (70, ⟨.fn, 1, 8, [.one (.nilFn)]⟩),
  (71, ⟨.fn, 1, 8, [.one (.nilFn)]⟩),
  (72, ⟨.ptr 40, 1, 8, [.one (.ptr none)]⟩),
  (73, ⟨.fn, 1, 8, [.one (.nilFn)]⟩),
  (74, ⟨.ptr 21, 1, 8, [.one (.ptr none)]⟩),
  (75, ⟨.fn, 1, 8, [.one (.nilFn)]⟩),
  (77, ⟨.fn, 1, 8, [.one (.nilFn)]⟩),
  (78, ⟨.fn, 1, 8, [.one (.nilFn)]⟩),
  (79, ⟨.fn, 1, 8, [.one (.nilFn)]⟩),
  (80, ⟨.fn, 1, 8, [.one (.nilFn)]⟩),
  (81, ⟨.fn, 1, 8, [.one (.nilFn)]⟩),
  (82, ⟨.fn, 1, 8, [.one (.nilFn)]⟩),
  (83, ⟨.fn, 1, 8, [.one (.nilFn)]⟩),
  (84, ⟨.struct [(17, 0), (17, 1), (17, 2), (9, 3)], 4, 40, [.one (.ptr none), .one (.ptr none), .one (.ptr none), .one (.str [])]⟩),
  (85, ⟨.struct [(17, 0), (17, 1), (17, 2), (9, 3)], 4, 40, [.one (.ptr none), .one (.ptr none), .one (.ptr none), .one (.str [])]⟩),
  (86, ⟨.array 0 16, 0, 0, [.row 0 (fun _ => .ptr none)]⟩),
  (87, ⟨.struct [(86, 0)], 0, 0, [.row 0 (fun _ => .ptr none)]⟩),
  (88, ⟨.struct [(86, 0)], 0, 0, [.row 0 (fun _ => .ptr none)]⟩),
  (89, ⟨.fn, 1, 8, [.one (.nilFn)]⟩),
  (90, ⟨.int .u8, 1, 1, [.one (.w8 0)]⟩),
  (91, ⟨.int .u8, 1, 1, [.one (.w8 0)]⟩),
  (92, ⟨.fn, 1, 8, [.one (.nilFn)]⟩),
  (93, ⟨.ptr 5, 1, 8, [.one (.ptr none)]⟩),
  (94, ⟨.int .i32, 1, 4, [.one (.int .i32 0)]⟩),
  (95, ⟨.int .i32, 1, 4, [.one (.int .i32 0)]⟩),
  (96, ⟨.struct [(12, 0), (12, 1), (36, 2), (90, 3), (5, 4), (5, 5), (91, 6), (92, 7), (93, 8), (94, 9), (95, 10)], 11, 48, [.one (.w64 0), .one (.w64 0), .one (.w32 0), .one (.w8 0), .one (.w8 0), .one (.w8 0), .one (.w8 0), .one (.nilFn), .one (.ptr none), .one (.int .i32 0), .one (.int .i32 0)]⟩),
  (97, ⟨.struct [(12, 0), (12, 1), (36, 2), (90, 3), (5, 4), (5, 5), (91, 6), (92, 7), (93, 8), (94, 9), (95, 10)], 11, 48, [.one (.w64 0), .one (.w64 0), .one (.w32 0), .one (.w8 0), .one (.w8 0), .one (.w8 0), .one (.w8 0), .one (.nilFn), .one (.ptr none), .one (.int .i32 0), .one (.int .i32 0)]⟩)]
theorem td_1 : TdOk Try.prog 1 ⟨.fn, 1, 8, [.one (.nilFn)]⟩ := ⟨by kernel_rfl, show _ = _ by kernel_rfl, by kernel_rfl, by kernel_rfl, by kernel_rfl⟩
theorem td_2 : TdOk Try.prog 2 ⟨.int .i64, 1, 8, [.one (.int .i64 0)]⟩ := ⟨by kernel_rfl, show _ = _ by kernel_rfl, by kernel_rfl, by kernel_rfl, by kernel_rfl⟩
theorem td_3 : TdOk Try.prog 3 ⟨.int .i64, 1, 8, [.one (.int .i64 0)]⟩ := ⟨by kernel_rfl, show _ = _ by kernel_rfl, by kernel_rfl, by kernel_rfl, by kernel_rfl⟩
theorem td_4 : TdOk Try.prog 4 ⟨.bool, 1, 1, [.one (.bool false)]⟩ := ⟨by kernel_rfl, show _ = _ by kernel_rfl, by kernel_rfl, by kernel_rfl, by kernel_rfl⟩
theorem td_5 : TdOk Try.prog 5 ⟨.int .u8, 1, 1, [.one (.w8 0)]⟩ := ⟨by kernel_rfl, show _ = _ by kernel_rfl, by kernel_rfl, by kernel_rfl, by kernel_rfl⟩
theorem td_6 : TdOk Try.prog 6 ⟨.int .u8, 1, 1, [.one (.w8 0)]⟩ := ⟨by kernel_rfl, show _ = _ by kernel_rfl, by kernel_rfl, by kernel_rfl, by kernel_rfl⟩
theorem td_7 : TdOk Try.prog 7 ⟨.struct [(2, 0), (3, 1), (4, 2), (6, 3)], 4, 24, [.one (.int .i64 0), .one (.int .i64 0), .one (.bool false), .one (.w8 0)]⟩ := ⟨by kernel_rfl, show _ = _ by kernel_rfl, by kernel_rfl, by kernel_rfl, by kernel_rfl⟩
theorem td_8 : TdOk Try.prog 8 ⟨.struct [(2, 0), (3, 1), (4, 2), (6, 3)], 4, 24, [.one (.int .i64 0), .one (.int .i64 0), .one (.bool false), .one (.w8 0)]⟩ := ⟨by kernel_rfl, show _ = _ by kernel_rfl, by kernel_rfl, by kernel_rfl, by kernel_rfl⟩
theorem td_9 : TdOk Try.prog 9 ⟨.str, 1, 16, [.one (.str [])]⟩ := ⟨by kernel_rfl, show _ = _ by kernel_rfl, by kernel_rfl, by kernel_rfl, by kernel_rfl⟩
theorem td_10 : TdOk Try.prog 10 ⟨.str, 1, 16, [.one (.str [])]⟩ := ⟨by kernel_rfl, show _ = _ by kernel_rfl, by kernel_rfl, by kernel_rfl, by kernel_rfl⟩
theorem td_11 : TdOk Try.prog 11 ⟨.str, 1, 16, [.one (.str [])]⟩ := ⟨by kernel_rfl, show _ = _ by kernel_rfl, by kernel_rfl, by kernel_rfl, by kernel_rfl⟩
theorem td_12 : TdOk Try.prog 12 ⟨.int .u64, 1, 8, [.one (.w64 0)]⟩ := ⟨by kernel_rfl, show _ = _ by kernel_rfl, by kernel_rfl, by kernel_rfl, by kernel_rfl⟩
theorem td_13 : TdOk Try.prog 13 ⟨.struct [(9, 0), (12, 1)], 2, 24, [.one (.str []), .one (.w64 0)]⟩ := ⟨by kernel_rfl, show _ = _ by kernel_rfl, by kernel_rfl, by kernel_rfl, by kernel_rfl⟩
theorem td_14 : TdOk Try.prog 14 ⟨.struct [(9, 0), (12, 1)], 2, 24, [.one (.str []), .one (.w64 0)]⟩ := ⟨by kernel_rfl, show _ = _ by kernel_rfl, by kernel_rfl, by kernel_rfl, by kernel_rfl⟩
theorem td_15 : TdOk Try.prog 15 ⟨.ptr 85, 1, 8, [.one (.ptr none)]⟩ := ⟨by kernel_rfl, show _ = _ by kernel_rfl, by kernel_rfl, by kernel_rfl, by kernel_rfl⟩
theorem td_16 : TdOk Try.prog 16 ⟨.ptr 88, 1, 8, [.one (.ptr none)]⟩ := ⟨by kernel_rfl, show _ = _ by kernel_rfl, by kernel_rfl, by kernel_rfl, by kernel_rfl⟩
theorem td_17 : TdOk Try.prog 17 ⟨.ptr 97, 1, 8, [.one (.ptr none)]⟩ := ⟨by kernel_rfl, show _ = _ by kernel_rfl, by kernel_rfl, by kernel_rfl, by kernel_rfl⟩
theorem td_18 : TdOk Try.prog 18 ⟨.struct [(17, 0)], 1, 8, [.one (.ptr none)]⟩ := ⟨by kernel_rfl, show _ = _ by kernel_rfl, by kernel_rfl, by kernel_rfl, by kernel_rfl⟩
theorem td_19 : TdOk Try.prog 19 ⟨.struct [(17, 0)], 1, 8, [.one (.ptr none)]⟩ := ⟨by kernel_rfl, show _ = _ by kernel_rfl, by kernel_rfl, by kernel_rfl, by kernel_rfl⟩
theorem td_20 : TdOk Try.prog 20 ⟨.ifc, 1, 16, [.one (.nilIfc)]⟩ := ⟨by kernel_rfl, show _ = _ by kernel_rfl, by kernel_rfl, by kernel_rfl, by kernel_rfl⟩
theorem td_21 : TdOk Try.prog 21 ⟨.int .i32, 1, 4, [.one (.int .i32 0)]⟩ := ⟨by kernel_rfl, show _ = _ by kernel_rfl, by kernel_rfl, by kernel_rfl, by kernel_rfl⟩
theorem td_22 : TdOk Try.prog 22 ⟨.fn, 1, 8, [.one (.nilFn)]⟩ := ⟨by kernel_rfl, show _ = _ by kernel_rfl, by kernel_rfl, by kernel_rfl, by kernel_rfl⟩
theorem td_23 : TdOk Try.prog 23 ⟨.ptr 50, 1, 8, [.one (.ptr none)]⟩ := ⟨by kernel_rfl, show _ = _ by kernel_rfl, by kernel_rfl, by kernel_rfl, by kernel_rfl⟩
theorem td_24 : TdOk Try.prog 24 ⟨.fn, 1, 8, [.one (.nilFn)]⟩ := ⟨by kernel_rfl, show _ = _ by kernel_rfl, by kernel_rfl, by kernel_rfl, by kernel_rfl⟩
theorem td_25 : TdOk Try.prog 25 ⟨.map .w8b, 1, 8, [.one (.nilMap)]⟩ := ⟨by kernel_rfl, ⟨5, 4, by kernel_rfl, by kernel_rfl, by kernel_rfl⟩, by kernel_rfl, by kernel_rfl, by kernel_rfl⟩
theorem td_26 : TdOk Try.prog 26 ⟨.fn, 1, 8, [.one (.nilFn)]⟩ := ⟨by kernel_rfl, show _ = _ by kernel_rfl, by kernel_rfl, by kernel_rfl, by kernel_rfl⟩
theorem td_27 : TdOk Try.prog 27 ⟨.fn, 1, 8, [.one (.nilFn)]⟩ := ⟨by kernel_rfl, show _ = _ by kernel_rfl, by kernel_rfl, by kernel_rfl, by kernel_rfl⟩
theorem td_28 : TdOk Try.prog 28 ⟨.array 16 5, 16, 16, [.row 16 (fun _ => .w8 0)]⟩ := ⟨by kernel_rfl, show _ = _ by kernel_rfl, by kernel_rfl, by kernel_rfl, by kernel_rfl⟩
theorem td_29 : TdOk Try.prog 29 ⟨.array 16 5, 16, 16, [.row 16 (fun _ => .w8 0)]⟩ := ⟨by kernel_rfl, show _ = _ by kernel_rfl, by kernel_rfl, by kernel_rfl, by kernel_rfl⟩
theorem td_30 : TdOk Try.prog 30 ⟨.ptr 54, 1, 8, [.one (.ptr none)]⟩ := ⟨by kernel_rfl, show _ = _ by kernel_rfl, by kernel_rfl, by kernel_rfl, by kernel_rfl⟩
theorem td_31 : TdOk Try.prog 31 ⟨.fn, 1, 8, [.one (.nilFn)]⟩ := ⟨by kernel_rfl, show _ = _ by kernel_rfl, by kernel_rfl, by kernel_rfl, by kernel_rfl⟩
theorem td_32 : TdOk Try.prog 32 ⟨.fn, 1, 8, [.one (.nilFn)]⟩ := ⟨by kernel_rfl, show _ = _ by kernel_rfl, by kernel_rfl, by kernel_rfl, by kernel_rfl⟩
theorem td_33 : TdOk Try.prog 33 ⟨.struct [], 0, 0, []⟩ := ⟨by kernel_rfl, show _ = _ by kernel_rfl, by kernel_rfl, by kernel_rfl, by kernel_rfl⟩
theorem td_34 : TdOk Try.prog 34 ⟨.struct [], 0, 0, []⟩ := ⟨by kernel_rfl, show _ = _ by kernel_rfl, by kernel_rfl, by kernel_rfl, by kernel_rfl⟩
theorem td_35 : TdOk Try.prog 35 ⟨.struct [], 0, 0, []⟩ := ⟨by kernel_rfl, show _ = _ by kernel_rfl, by kernel_rfl, by kernel_rfl, by kernel_rfl⟩
theorem td_36 : TdOk Try.prog 36 ⟨.int .u32, 1, 4, [.one (.w32 0)]⟩ := ⟨by kernel_rfl, show _ = _ by kernel_rfl, by kernel_rfl, by kernel_rfl, by kernel_rfl⟩
theorem td_37 : TdOk Try.prog 37 ⟨.struct [(35, 0), (36, 0)], 1, 4, [.one (.w32 0)]⟩ := ⟨by kernel_rfl, show _ = _ by kernel_rfl, by kernel_rfl, by kernel_rfl, by kernel_rfl⟩
theorem td_38 : TdOk Try.prog 38 ⟨.struct [(35, 0), (36, 0)], 1, 4, [.one (.w32 0)]⟩ := ⟨by kernel_rfl, show _ = _ by kernel_rfl, by kernel_rfl, by kernel_rfl, by kernel_rfl⟩
theorem td_39 : TdOk Try.prog 39 ⟨.struct [(21, 0), (36, 1)], 2, 8, [.one (.int .i32 0), .one (.w32 0)]⟩ := ⟨by kernel_rfl, show _ = _ by kernel_rfl, by kernel_rfl, by kernel_rfl, by kernel_rfl⟩
theorem td_40 : TdOk Try.prog 40 ⟨.struct [(21, 0), (36, 1)], 2, 8, [.one (.int .i32 0), .one (.w32 0)]⟩ := ⟨by kernel_rfl, show _ = _ by kernel_rfl, by kernel_rfl, by kernel_rfl, by kernel_rfl⟩
theorem td_41 : TdOk Try.prog 41 ⟨.struct [(34, 0), (40, 0)], 2, 8, [.one (.int .i32 0), .one (.w32 0)]⟩ := ⟨by kernel_rfl, show _ = _ by kernel_rfl, by kernel_rfl, by kernel_rfl, by kernel_rfl⟩
theorem td_42 : TdOk Try.prog 42 ⟨.struct [(34, 0), (40, 0)], 2, 8, [.one (.int .i32 0), .one (.w32 0)]⟩ := ⟨by kernel_rfl, show _ = _ by kernel_rfl, by kernel_rfl, by kernel_rfl, by kernel_rfl⟩
theorem td_43 : TdOk Try.prog 43 ⟨.struct [(34, 0), (38, 0), (42, 1)], 3, 12, [.one (.w32 0), .one (.int .i32 0), .one (.w32 0)]⟩ := ⟨by kernel_rfl, show _ = _ by kernel_rfl, by kernel_rfl, by kernel_rfl, by kernel_rfl⟩
theorem td_44 : TdOk Try.prog 44 ⟨.struct [(34, 0), (38, 0), (42, 1)], 3, 12, [.one (.w32 0), .one (.int .i32 0), .one (.w32 0)]⟩ := ⟨by kernel_rfl, show _ = _ by kernel_rfl, by kernel_rfl, by kernel_rfl, by kernel_rfl⟩
theorem td_45 : TdOk Try.prog 45 ⟨.array 256 5, 256, 256, [.row 256 (fun _ => .w8 0)]⟩ := ⟨by kernel_rfl, show _ = _ by kernel_rfl, by kernel_rfl, by kernel_rfl, by kernel_rfl⟩
theorem td_46 : TdOk Try.prog 46 ⟨.struct [], 0, 0, []⟩ := ⟨by kernel_rfl, show _ = _ by kernel_rfl, by kernel_rfl, by kernel_rfl, by kernel_rfl⟩
theorem td_47 : TdOk Try.prog 47 ⟨.struct [(35, 0), (46, 0), (2, 0)], 1, 8, [.one (.int .i64 0)]⟩ := ⟨by kernel_rfl, show _ = _ by kernel_rfl, by kernel_rfl, by kernel_rfl, by kernel_rfl⟩
theorem td_48 : TdOk Try.prog 48 ⟨.struct [(35, 0), (46, 0), (2, 0)], 1, 8, [.one (.int .i64 0)]⟩ := ⟨by kernel_rfl, show _ = _ by kernel_rfl, by kernel_rfl, by kernel_rfl, by kernel_rfl⟩
theorem td_49 : TdOk Try.prog 49 ⟨.struct [(44, 0), (45, 3), (48, 259)], 260, 280, [.one (.w32 0), .one (.int .i32 0), .one (.w32 0), .row 256 (fun _ => .w8 0), .one (.int .i64 0)]⟩ := ⟨by kernel_rfl, show _ = _ by kernel_rfl, by kernel_rfl, by kernel_rfl, by kernel_rfl⟩
theorem td_50 : TdOk Try.prog 50 ⟨.struct [(44, 0), (45, 3), (48, 259)], 260, 280, [.one (.w32 0), .one (.int .i32 0), .one (.w32 0), .row 256 (fun _ => .w8 0), .one (.int .i64 0)]⟩ := ⟨by kernel_rfl, show _ = _ by kernel_rfl, by kernel_rfl, by kernel_rfl, by kernel_rfl⟩
theorem td_51 : TdOk Try.prog 51 ⟨.fn, 1, 8, [.one (.nilFn)]⟩ := ⟨by kernel_rfl, show _ = _ by kernel_rfl, by kernel_rfl, by kernel_rfl, by kernel_rfl⟩
theorem td_52 : TdOk Try.prog 52 ⟨.array 11 29, 176, 176, [.row 176 (fun _ => .w8 0)]⟩ := ⟨by kernel_rfl, show _ = _ by kernel_rfl, by kernel_rfl, by kernel_rfl, by kernel_rfl⟩
theorem td_53 : TdOk Try.prog 53 ⟨.struct [(23, 0), (52, 1)], 177, 184, [.one (.ptr none), .row 176 (fun _ => .w8 0)]⟩ := ⟨by kernel_rfl, show _ = _ by kernel_rfl, by kernel_rfl, by kernel_rfl, by kernel_rfl⟩
theorem td_54 : TdOk Try.prog 54 ⟨.struct [(23, 0), (52, 1)], 177, 184, [.one (.ptr none), .row 176 (fun _ => .w8 0)]⟩ := ⟨by kernel_rfl, show _ = _ by kernel_rfl, by kernel_rfl, by kernel_rfl, by kernel_rfl⟩
theorem td_55 : TdOk Try.prog 55 ⟨.ptr 29, 1, 8, [.one (.ptr none)]⟩ := ⟨by kernel_rfl, show _ = _ by kernel_rfl, by kernel_rfl, by kernel_rfl, by kernel_rfl⟩
theorem td_56 : TdOk Try.prog 56 ⟨.fn, 1, 8, [.one (.nilFn)]⟩ := ⟨by kernel_rfl, show _ = _ by kernel_rfl, by kernel_rfl, by kernel_rfl, by kernel_rfl⟩
theorem td_57 : TdOk Try.prog 57 ⟨.fn, 1, 8, [.one (.nilFn)]⟩ := ⟨by kernel_rfl, show _ = _ by kernel_rfl, by kernel_rfl, by kernel_rfl, by kernel_rfl⟩
theorem td_58 : TdOk Try.prog 58 ⟨.fn, 1, 8, [.one (.nilFn)]⟩ := ⟨by kernel_rfl, show _ = _ by kernel_rfl, by kernel_rfl, by kernel_rfl, by kernel_rfl⟩
theorem td_59 : TdOk Try.prog 59 ⟨.ptr 44, 1, 8, [.one (.ptr none)]⟩ := ⟨by kernel_rfl, show _ = _ by kernel_rfl, by kernel_rfl, by kernel_rfl, by kernel_rfl⟩
theorem td_60 : TdOk Try.prog 60 ⟨.fn, 1, 8, [.one (.nilFn)]⟩ := ⟨by kernel_rfl, show _ = _ by kernel_rfl, by kernel_rfl, by kernel_rfl, by kernel_rfl⟩
theorem td_61 : TdOk Try.prog 61 ⟨.int .u64, 1, 8, [.one (.w64 0)]⟩ := ⟨by kernel_rfl, show _ = _ by kernel_rfl, by kernel_rfl, by kernel_rfl, by kernel_rfl⟩
theorem td_62 : TdOk Try.prog 62 ⟨.ptr 48, 1, 8, [.one (.ptr none)]⟩ := ⟨by kernel_rfl, show _ = _ by kernel_rfl, by kernel_rfl, by kernel_rfl, by kernel_rfl⟩
theorem td_63 : TdOk Try.prog 63 ⟨.fn, 1, 8, [.one (.nilFn)]⟩ := ⟨by kernel_rfl, show _ = _ by kernel_rfl, by kernel_rfl, by kernel_rfl, by kernel_rfl⟩
theorem td_64 : TdOk Try.prog 64 ⟨.ptr 2, 1, 8, [.one (.ptr none)]⟩ := ⟨by kernel_rfl, show _ = _ by kernel_rfl, by kernel_rfl, by kernel_rfl, by kernel_rfl⟩
theorem td_65 : TdOk Try.prog 65 ⟨.ptr 38, 1, 8, [.one (.ptr none)]⟩ := ⟨by kernel_rfl, show _ = _ by kernel_rfl, by kernel_rfl, by kernel_rfl, by kernel_rfl⟩
theorem td_66 : TdOk Try.prog 66 ⟨.fn, 1, 8, [.one (.nilFn)]⟩ := ⟨by kernel_rfl, show _ = _ by kernel_rfl, by kernel_rfl, by kernel_rfl, by kernel_rfl⟩
theorem td_67 : TdOk Try.prog 67 ⟨.ptr 36, 1, 8, [.one (.ptr none)]⟩ := ⟨by kernel_rfl, show _ = _ by kernel_rfl, by kernel_rfl, by kernel_rfl, by kernel_rfl⟩
theorem td_68 : TdOk Try.prog 68 ⟨.fn, 1, 8, [.one (.nilFn)]⟩ := ⟨by kernel_rfl, show _ = _ by kernel_rfl, by kernel_rfl, by kernel_rfl, by kernel_rfl⟩
theorem td_69 : TdOk Try.prog 69 ⟨.ptr 42, 1, 8, [.one (.ptr none)]⟩ := ⟨by kernel_rfl, show _ = _ by kernel_rfl, by kernel_rfl, by kernel_rfl, by kernel_rfl⟩
theorem td_70 : TdOk Try.prog 70 ⟨.fn, 1, 8, [.one (.nilFn)]⟩ := ⟨by kernel_rfl, show _ = _ by kernel_rfl, by kernel_rfl, by kernel_rfl, by kernel_rfl⟩
theorem td_71 : TdOk Try.prog 71 ⟨.fn, 1, 8, [.one (.nilFn)]⟩ := ⟨by kernel_rfl, show _ = _ by kernel_rfl, by kernel_rfl, by kernel_rfl, by kernel_rfl⟩
theorem td_72 : TdOk Try.prog 72 ⟨.ptr 40, 1, 8, [.one (.ptr none)]⟩ := ⟨by kernel_rfl, show _ = _ by kernel_rfl, by kernel_rfl, by kernel_rfl, by kernel_rfl⟩
theorem td_73 : TdOk Try.prog 73 ⟨.fn, 1, 8, [.one (.nilFn)]⟩ := ⟨by kernel_rfl, show _ = _ by kernel_rfl, by kernel_rfl, by kernel_rfl, by kernel_rfl⟩
theorem td_74 : TdOk Try.prog 74 ⟨.ptr 21, 1, 8, [.one (.ptr none)]⟩ := ⟨by kernel_rfl, show _ = _ by kernel_rfl, by kernel_rfl, by kernel_rfl, by kernel_rfl⟩
theorem td_75 : TdOk Try.prog 75 ⟨.fn, 1, 8, [.one (.nilFn)]⟩ := ⟨by kernel_rfl, show _ = _ by kernel_rfl, by kernel_rfl, by kernel_rfl, by kernel_rfl⟩
theorem td_77 : TdOk Try.prog 77 ⟨.fn, 1, 8, [.one (.nilFn)]⟩ := ⟨by kernel_rfl, show _ = _ by kernel_rfl, by kernel_rfl, by kernel_rfl, by kernel_rfl⟩
theorem td_78 : TdOk Try.prog 78 ⟨.fn, 1, 8, [.one (.nilFn)]⟩ := ⟨by kernel_rfl, show _ = _ by kernel_rfl, by kernel_rfl, by kernel_rfl, by kernel_rfl⟩
theorem td_79 : TdOk Try.prog 79 ⟨.fn, 1, 8, [.one (.nilFn)]⟩ := ⟨by kernel_rfl, show _ = _ by kernel_rfl, by kernel_rfl, by kernel_rfl, by kernel_rfl⟩
theorem td_80 : TdOk Try.prog 80 ⟨.fn, 1, 8, [.one (.nilFn)]⟩ := ⟨by kernel_rfl, show _ = _ by kernel_rfl, by kernel_rfl, by kernel_rfl, by kernel_rfl⟩
theorem td_81 : TdOk Try.prog 81 ⟨.fn, 1, 8, [.one (.nilFn)]⟩ := ⟨by kernel_rfl, show _ = _ by kernel_rfl, by kernel_rfl, by kernel_rfl, by kernel_rfl⟩
theorem td_82 : TdOk Try.prog 82 ⟨.fn, 1, 8, [.one (.nilFn)]⟩ := ⟨by kernel_rfl, show _ = _ by kernel_rfl, by kernel_rfl, by kernel_rfl, by kernel_rfl⟩
theorem td_83 : TdOk Try.prog 83 ⟨.fn, 1, 8, [.one (.nilFn)]⟩ := ⟨by kernel_rfl, show _ = _ by kernel_rfl, by kernel_rfl, by kernel_rfl, by kernel_rfl⟩
theorem td_84 : TdOk Try.prog 84 ⟨.struct [(17, 0), (17, 1), (17, 2), (9, 3)], 4, 40, [.one (.ptr none), .one (.ptr none), .one (.ptr none), .one (.str [])]⟩ := ⟨by kernel_rfl, show _ = _ by kernel_rfl, by kernel_rfl, by kernel_rfl, by kernel_rfl⟩
theorem td_85 : TdOk Try.prog 85 ⟨.struct [(17, 0), (17, 1), (17, 2), (9, 3)], 4, 40, [.one (.ptr none), .one (.ptr none), .one (.ptr none), .one (.str [])]⟩ := ⟨by kernel_rfl, show _ = _ by kernel_rfl, by kernel_rfl, by kernel_rfl, by kernel_rfl⟩
theorem td_86 : TdOk Try.prog 86 ⟨.array 0 16, 0, 0, [.row 0 (fun _ => .ptr none)]⟩ := ⟨by kernel_rfl, show _ = _ by kernel_rfl, by kernel_rfl, by kernel_rfl, by kernel_rfl⟩
theorem td_87 : TdOk Try.prog 87 ⟨.struct [(86, 0)], 0, 0, [.row 0 (fun _ => .ptr none)]⟩ := ⟨by kernel_rfl, show _ = _ by kernel_rfl, by kernel_rfl, by kernel_rfl, by kernel_rfl⟩
theorem td_88 : TdOk Try.prog 88 ⟨.struct [(86, 0)], 0, 0, [.row 0 (fun _ => .ptr none)]⟩ := ⟨by kernel_rfl, show _ = _ by kernel_rfl, by kernel_rfl, by kernel_rfl, by kernel_rfl⟩
theorem td_89 : TdOk Try.prog 89 ⟨.fn, 1, 8, [.one (.nilFn)]⟩ := ⟨by kernel_rfl, show _ = _ by kernel_rfl, by kernel_rfl, by kernel_rfl, by kernel_rfl⟩
theorem td_90 : TdOk Try.prog 90 ⟨.int .u8, 1, 1, [.one (.w8 0)]⟩ := ⟨by kernel_rfl, show _ = _ by kernel_rfl, by kernel_rfl, by kernel_rfl, by kernel_rfl⟩
theorem td_91 : TdOk Try.prog 91 ⟨.int .u8, 1, 1, [.one (.w8 0)]⟩ := ⟨by kernel_rfl, show _ = _ by kernel_rfl, by kernel_rfl, by kernel_rfl, by kernel_rfl⟩
theorem td_92 : TdOk Try.prog 92 ⟨.fn, 1, 8, [.one (.nilFn)]⟩ := ⟨by kernel_rfl, show _ = _ by kernel_rfl, by kernel_rfl, by kernel_rfl, by kernel_rfl⟩
theorem td_93 : TdOk Try.prog 93 ⟨.ptr 5, 1, 8, [.one (.ptr none)]⟩ := ⟨by kernel_rfl, show _ = _ by kernel_rfl, by kernel_rfl, by kernel_rfl, by kernel_rfl⟩
theorem td_94 : TdOk Try.prog 94 ⟨.int .i32, 1, 4, [.one (.int .i32 0)]⟩ := ⟨by kernel_rfl, show _ = _ by kernel_rfl, by kernel_rfl, by kernel_rfl, by kernel_rfl⟩
theorem td_95 : TdOk Try.prog 95 ⟨.int .i32, 1, 4, [.one (.int .i32 0)]⟩ := ⟨by kernel_rfl, show _ = _ by kernel_rfl, by kernel_rfl, by kernel_rfl, by kernel_rfl⟩
theorem td_96 : TdOk Try.prog 96 ⟨.struct [(12, 0), (12, 1), (36, 2), (90, 3), (5, 4), (5, 5), (91, 6), (92, 7), (93, 8), (94, 9), (95, 10)], 11, 48, [.one (.w64 0), .one (.w64 0), .one (.w32 0), .one (.w8 0), .one (.w8 0), .one (.w8 0), .one (.w8 0), .one (.nilFn), .one (.ptr none), .one (.int .i32 0), .one (.int .i32 0)]⟩ := ⟨by kernel_rfl, show _ = _ by kernel_rfl, by kernel_rfl, by kernel_rfl, by kernel_rfl⟩
theorem td_97 : TdOk Try.prog 97 ⟨.struct [(12, 0), (12, 1), (36, 2), (90, 3), (5, 4), (5, 5), (91, 6), (92, 7), (93, 8), (94, 9), (95, 10)], 11, 48, [.one (.w64 0), .one (.w64 0), .one (.w32 0), .one (.w8 0), .one (.w8 0), .one (.w8 0), .one (.w8 0), .one (.nilFn), .one (.ptr none), .one (.int .i32 0), .one (.int .i32 0)]⟩ := ⟨by kernel_rfl, show _ = _ by kernel_rfl, by kernel_rfl, by kernel_rfl, by kernel_rfl⟩
theorem tds_ok : AllT Try.prog tds := ⟨td_1, td_2, td_3, td_4, td_5, td_6, td_7, td_8, td_9, td_10, td_11, td_12, td_13, td_14, td_15, td_16, td_17, td_18, td_19, td_20, td_21, td_22, td_23, td_24, td_25, td_26, td_27, td_28, td_29, td_30, td_31, td_32, td_33, td_34, td_35, td_36, td_37, td_38, td_39, td_40, td_41, td_42, td_43, td_44, td_45, td_46, td_47, td_48, td_49, td_50, td_51, td_52, td_53, td_54, td_55, td_56, td_57, td_58, td_59, td_60, td_61, td_62, td_63, td_64, td_65, td_66, td_67, td_68, td_69, td_70, td_71, td_72, td_73, td_74, td_75, td_77, td_78, td_79, td_80, td_81, td_82, td_83, td_84, td_85, td_86, td_87, td_88, td_89, td_90, td_91, td_92, td_93, td_94, td_95, td_96, td_97, trivial⟩
end Sx
end Go.Proofs.Ytdblbheeefokaaa
end

section
/-
  Forms laid bare by an equation. Over any program. No condition of its own.
-/
namespace Go.Proofs.Ytdblbheeefokaaa
set_option linter.unusedVariables false
namespace Sx

end Sx
end Go.Proofs.Ytdblbheeefokaaa
end

section
/-
  Bytes as lists, and as rows of cells. No condition.
-/
namespace Go.Proofs.Ytdblbheeefokaaa
set_option linter.unusedVariables false
namespace Sha
abbrev Bs := List (BitVec 8)
def L (l : Bs) (i : Nat) : BitVec 8 := l.getD i 0#8
theorem L_lt {l : Bs} {i : Nat} (h : i < l.length) : L l i = l[i] := by
  unfold L; rw [List.getD_eq_getElem?_getD, List.getElem?_eq_getElem h]; rfl
/-- The list of some bytes. -/
def tab (n : Nat) (b : Nat → BitVec 8) : Bs := (List.range n).map b
@[simp] theorem tab_len (n : Nat) (b : Nat → BitVec 8) : (tab n b).length = n := by simp [tab]
theorem L_tab {n : Nat} {b : Nat → BitVec 8} {i : Nat} (h : i < n) : L (tab n b) i = b i := by
  unfold L tab; rw [List.getD_eq_getElem?_getD]; simp [h]
/-- Bytes as the model's strings have them. -/
def U8 (l : Bs) : List UInt8 := l.map UInt8.ofBitVec
@[simp] theorem U8_len (l : Bs) : (U8 l).length = l.length := by simp [U8]
theorem U8_get (l : Bs) (q : Nat) (h : q < l.length) : ((U8 l).getD q 0).toBitVec = L l q := by
  rw [L_lt h, List.getD_eq_getElem?_getD, U8, List.getElem?_map, List.getElem?_eq_getElem h]
  rfl
def BS (l : List UInt8) : Bs := l.map UInt8.toBitVec
@[simp] theorem BS_len (l : List UInt8) : (BS l).length = l.length := by simp [BS]
theorem L_BS (l : List UInt8) (i : Nat) (hi : i < l.length) : L (BS l) i = (l.getD i 0).toBitVec := by
  rw [L_lt (by simpa using hi), List.getD_eq_getElem?_getD, List.getElem?_eq_getElem hi]
  simp [BS]
end Sha
namespace Sx
open Sha

theorem follows_ : Try.prog.follows .mixedOrders = true := by kernel_rfl
theorem cast64 {k : Nat} (h : k < 64) : (BitVec.ofInt 64 (k : Int)).toNat = k := by
  rw [BitVec.ofInt_natCast, BitVec.toNat_ofNat, Nat.mod_eq_of_lt (by omega)]
theorem eqC_w8 {q : List Nat} {x : SC} {b : BitVec 8} (h : x = .w8 b) : eqC q x (.w8 b) True := by subst h; exact ⟨rfl, trivial⟩
/-- Loads out of rows, by cases on the place. -/
theorem upd_w8 {f g : Nat → SC} {k : Nat} {v : SC} (hv : v = g k) (hf : ∀ j, j ≠ k → f j = g j) (j : Nat) : upd f k v j = g j := by
  unfold upd
  split
  · rename_i h; rw [h, hv]
  · rename_i h; exact hf j h
theorem ofIntN (k : Nat) : BitVec.ofInt 8 (k : Int) = BitVec.ofNat 8 k := BitVec.ofInt_natCast _ _
/-- n bytes, and room behind them. -/
def bytesF (n : Nat) (b : Nat → BitVec 8) : Nat → SC := fun j => if j < n then .w8 (b j) else .any
theorem bytesF_lt {n : Nat} {b : Nat → BitVec 8} {j : Nat} (h : j < n) : bytesF n b j = .w8 (b j) := if_pos h
theorem eqC_bytes {q : List Nat} {n : Nat} {f : Nat → SC} {b : Nat → BitVec 8} (h : ∀ j, j < n → f j = .w8 (b j)) (j : Nat) : eqC q (f j) (bytesF n b j) True := by
  unfold bytesF
  split
  · rename_i hj; exact eqC_w8 (h j hj)
  · trivial
theorem idx8 (x : BitVec 8) : 0 ≤ (x.toNat : Int) ∧ (x.toNat : Int) < ((256 : Nat) : Int) := by have := x.isLt; omega
theorem lt8 {c : Nat} (h : 256 ≤ c) (x : BitVec 8) : ((x.toNat : Int)).toNat + 0 < c := by have := x.isLt; omega
theorem len2' {α : Type} : ∀ {l : List α}, l.length = 2 → ∃ a b, l = [a, b]
  | [a, b], _ => ⟨a, b, rfl⟩
/-- n bytes from place o on. -/
def winF (o n : Nat) (b : Nat → BitVec 8) : Nat → SC := fun j => if o ≤ j ∧ j < o + n then .w8 (b (j - o)) else .any
theorem winF_at (o n : Nat) (b : Nat → BitVec 8) {i : Nat} (h : i < n) : winF o n b (o + i) = .w8 (b i) := by
  unfold winF
  rw [if_pos ⟨by omega, by omega⟩, show o + i - o = i by omega]
theorem eqC_win {q : List Nat} {o n : Nat} {f : Nat → SC} {b : Nat → BitVec 8} (h : ∀ i, i < n → f (o + i) = .w8 (b i)) (j : Nat) : eqC q (f j) (winF o n b j) True := by
  unfold winF
  split
  · rename_i hj
    have := h (j - o) (by omega)
    rw [show o + (j - o) = j by omega] at this
    exact eqC_w8 this
  · trivial
theorem eqC_winS {q : List Nat} {o n : Nat} {b : Nat → BitVec 8} {j : Nat} : eqC q (winF o n b j) (winF o n b j) True := eqC_win (fun _ h => winF_at _ _ _ h) j
theorem eqC_winM {q : List Nat} {g : Nat → Nat} {o n : Nat} {b : Nat → BitVec 8} {j : Nat} : eqC q (SC.mp g (winF o n b j)) (winF o n b j) True :=
  eqC_win (f := fun j => SC.mp g (winF o n b j)) (fun _ h => by rw [winF_at _ _ _ h]; rfl) j
theorem eqC_selfB {q : List Nat} {n : Nat} {b : Nat → BitVec 8} {j : Nat} : eqC q (bytesF n b j) (bytesF n b j) True := eqC_bytes (fun _ h => bytesF_lt h) j
theorem eqC_mpB {q : List Nat} {g : Nat → Nat} {n : Nat} {b : Nat → BitVec 8} {j : Nat} : eqC q (SC.mp g (bytesF n b j)) (bytesF n b j) True :=
  eqC_bytes (f := fun j => SC.mp g (bytesF n b j)) (fun j h => by rw [bytesF_lt h]; rfl) j
theorem eqC_winB {q : List Nat} {n : Nat} {b : Nat → BitVec 8} {j : Nat} : eqC q (bytesF n b j) (winF 0 n b j) True :=
  eqC_win (fun i h => by rw [Nat.zero_add]; exact bytesF_lt h) j
/-- A part of some bytes. -/
def sub (l : Bs) (o n : Nat) : Bs := (l.drop o).take n
/-- A plain part of an entailment, found by itself. -/
theorem ent1 {a b : Prop} (k : b) (h : a := by first | exact rfl | exact fun _ _ => ⟨rfl, trivial⟩ | exact fun _ _ => trivial | omega | exact fun _ _ => eqC_winS | exact fun _ _ => eqC_winM | exact fun _ _ => eqC_winB | exact fun _ _ => eqC_selfB | exact fun _ _ => eqC_mpB) : a ∧ b := ⟨h, k⟩
end Sx
end Go.Proofs.Ytdblbheeefokaaa
end

section
/-
  sync.Once of one goroutine, its lock free: what is called, once; atomic numbers. No condition.
-/
namespace Go.Proofs.Ytdblbheeefokaaa
set_option linter.unusedVariables false
open Go.RowKit

theorem run_enter {P : Program} {g : FuncId} (h : ((P.funcs[g]?).any fun fn => fn.body.isSome && fn.name != "runtime.NumGoroutine") = true) (vs : Array Value) (w : World) : (callFunc g vs).run P w = .ok (.enter g vs) w := by
  obtain ⟨fn, hfn, hb⟩ : ∃ fn, P.funcs[g]? = some fn ∧ (fn.body.isSome && fn.name != "runtime.NumGoroutine") = true := by
    cases e : P.funcs[g]? with
    | none => rw [e] at h; cases h
    | some fn => rw [e] at h; exact ⟨fn, rfl, h⟩
  simp only [Bool.and_eq_true, bne_iff_ne] at hb
  have h1 : (fn.name == "runtime.NumGoroutine") = false := by simpa using hb.2
  have h2 : fn.body.isNone = false := by
    cases e : fn.body with
    | none => rw [e] at hb; exact absurd hb.1 (by simp)
    | some b => rfl
  simp only [callFunc, Sem.run_bind, run_program, hfn, Result.andThen_ok, h1, h2, Bool.false_eq_true, if_false]
  rfl
theorem wrap64 {n : Int} (h : -9223372036854775808 ≤ n ∧ n ≤ 9223372036854775807) : IntKind.i64.wrap n = n := by
  unfold IntKind.wrap IntKind.bits IntKind.signed
  simp only [Bool.true_and, decide_eq_true_eq]
  have h2 : ((2 : Int) ^ 64) = 18446744073709551616 := by decide
  have h3 : ((2 : Int) ^ (64 - 1)) = 9223372036854775808 := by decide
  rw [h2, h3]
  split <;> omega
theorem run_add_i64 {P : Program} {n : Int} (h : -9223372036854775808 ≤ n + 1 ∧ n + 1 ≤ 9223372036854775807) (w : World) : (Op.intArith .add .i64 n 1).run P w = .ok (.int .i64 (n + 1)) w := by
  simp [Op.intArith, pure, wrap64 h]
theorem disable (w : World) : (callFunc 30 #[]).run Try.prog w = .ok (.value (.tuple #[])) w := run_call_mark0 Try.func30 (by kernel_rfl) (by kernel_rfl) (by kernel_rfl) .disable (by kernel_rfl) w
theorem enable (w : World) : (callFunc 32 #[]).run Try.prog w = .ok (.value (.tuple #[])) w := run_call_mark0 Try.func32 (by kernel_rfl) (by kernel_rfl) (by kernel_rfl) .enable (by kernel_rfl) w
theorem acquire (a : Addr) (w : World) : (callFunc 33 #[.pointer (some a)]).run Try.prog w = .ok (.value (.tuple #[])) w := run_call_marked Try.func33 (by kernel_rfl) (by kernel_rfl) (by kernel_rfl) .acquire (by kernel_rfl) a w
theorem releaseMerge (a : Addr) (w : World) : (callFunc 35 #[.pointer (some a)]).run Try.prog w = .ok (.value (.tuple #[])) w := run_call_marked Try.func35 (by kernel_rfl) (by kernel_rfl) (by kernel_rfl) .releaseMerge (by kernel_rfl) a w

theorem store_deferred (a : Addr) (x : Value) (u : FrameMode) (w : World) (hc : w.cell? a = some x) (hz : w.frozen? a = false) :
    CallsD Try.prog 25 #[.pointer (some a), .bool true] u w fun e u' w' => u' = u ∧ (e = .returned (.tuple #[]) ∧ w' = w.drew.setCell a (.int .u32 1)) := by
  have hc' : w.drew.cell? a = some x := by go_simp
  have hz' : w.drew.frozen? a = false := by go_simp
  have hst := run_call_store (P := Try.prog) Try.func28 (by kernel_rfl) (by kernel_rfl) (by kernel_rfl) (by kernel_rfl) (k := .u32) (y := 1) hc' hz'
  go_enter_d Try.func25, Try.ntmps25
  go_wp2
  go_region_calls
  all_goals (go_end0; exact ⟨rfl, rfl⟩)

set_option maxRecDepth 100000 in
theorem unlock_deferred (a : Addr) (u : FrameMode) (w : World) (hc : w.cell? a = some (.int .i32 1)) (hz : w.frozen? a = false) :
    CallsD Try.prog 24 #[.pointer (some a)] u w fun e u' w' => u' = u ∧ (e = .returned (.tuple #[]) ∧ w' = w.setCell a (.int .i32 0)) := by
  have hd := disable
  have he := enable
  have hr := releaseMerge
  have hadd := run_call_add (P := Try.prog) Try.func36 (by kernel_rfl) (by kernel_rfl) (by kernel_rfl) .i32 (by kernel_rfl) (y := -1) (s := 0) hc hz (by simp [go_sem]; rfl)
  have hcv := run_convert_to_unsafe (P := Try.prog) (src := 72) (dst := 76) Try.underlying72 Try.underlying76 (by kernel_rfl) hc
  go_enter_d Try.func24, Try.ntmps24
  go_wp2
  go_end0
  exact ⟨rfl, rfl⟩
set_option maxRecDepth 100000 in
theorem lock_free (a : Addr) (w : World) (hc : w.cell? a = some (.int .i32 0)) (hz : w.frozen? a = false) :
    Calls Try.prog 23 #[.pointer (some a)] w fun e w' => e = .returned (.tuple #[]) ∧ w' = w.setCell a (.int .i32 1) := by
  have hd := disable
  have he := enable
  have ha := acquire
  have hcas := run_call_cas_hit (P := Try.prog) Try.func31 (by kernel_rfl) (by kernel_rfl) (by kernel_rfl) .i32 (by kernel_rfl) (y := 1) hc hz
  have hc' : (w.setCell a (.int .i32 1)).cell? a = some (.int .i32 1) := World.cell?_setCell_same w a _ hc
  have hcv := run_convert_to_unsafe (P := Try.prog) (src := 72) (dst := 76) Try.underlying72 Try.underlying76 (by kernel_rfl) hc'
  go_enter Try.func23, Try.ntmps23
  go_wp2
  go_end0
  exact ⟨rfl, rfl⟩
theorem bool_load (a : Addr) (x : Int) (w : World) (hc : w.cell? a = some (.int .u32 x)) :
    Calls Try.prog 16 #[.pointer (some a)] w fun e w' => e = .returned (.bool (x != 0)) ∧ w' = w := by
  have hl := run_call_load (P := Try.prog) Try.func22 (by kernel_rfl) (by kernel_rfl) (by kernel_rfl) .u32 (by kernel_rfl) (w := w) (a := a) (x := x) hc
  go_enter Try.func16, Try.ntmps16
  go_wp2
  refine bodyPost_ret (results_tmp rfl _ _ _) rfl ?_
  exact ⟨rfl, rfl⟩
set_option maxRecDepth 100000 in
set_option maxHeartbeats 1600000 in
/-- What is handed to Do is called, the lock held; then the Once is done. -/
theorem slow_any (b off : Nat) (fv : Go.Fn) (x y : Array Value) (g : FuncId) (vs : Array Value) (R : World → Prop) (w : World) (hfv : fv = .func g) (hgb : ((Try.prog.funcs[g]?).any fun fn => fn.body.isSome && fn.name != "runtime.NumGoroutine") = true) (hvs : x ++ y = vs)
    (h0 : w.cell? ⟨b, off, none⟩ = some (.int .u32 0)) (h1 : w.cell? ⟨b, off + 1, none⟩ = some (.int .i32 0))
    (f0 : w.frozen? ⟨b, off, none⟩ = false) (f1 : w.frozen? ⟨b, off + 1, none⟩ = false)
    (hg : Calls Try.prog g vs (w.setCell ⟨b, off + 1, none⟩ (.int .i32 1)) fun e w1 => e = .returned (.tuple #[]) ∧ R w1)
    (hR : ∀ w1, R w1 → w1.cell? ⟨b, off, none⟩ = some (.int .u32 0) ∧ w1.cell? ⟨b, off + 1, none⟩ = some (.int .i32 1) ∧ w1.frozen? ⟨b, off, none⟩ = false ∧ w1.frozen? ⟨b, off + 1, none⟩ = false) :
    Calls Try.prog 17 #[.pointer (some ⟨b, off, none⟩), .func fv x y] w fun e w' => e = .returned (.tuple #[]) ∧
      ∃ w1, R w1 ∧ w' = (w1.drew.setCell ⟨b, off, none⟩ (.int .u32 1)).setCell ⟨b, off + 1, none⟩ (.int .i32 0) := by
  subst hfv
  subst hvs
  have hl := run_call_load (P := Try.prog) Try.func22 (by kernel_rfl) (by kernel_rfl) (by kernel_rfl) .u32 (by kernel_rfl) (w := w.setCell ⟨b, off + 1, none⟩ (.int .i32 1)) (a := ⟨b, off, none⟩) (x := 0) ((World.cell?_setCell_other _ ⟨b, off + 1, none⟩ ⟨b, off, none⟩ _ (by simp)).trans h0)
  have hnot : ∀ (x : Bool) (w : World), (Op.unary .not (.bool x)).run Try.prog w = .ok (.bool (!x)) w := fun _ _ => rfl
  go_enter_defers Try.func17, Try.ntmps17
  go_wp2_with (go_at_call 23; refine (lock_free ⟨b, off + 1, none⟩ _ (by go_simp) (by go_simp)).mono ?_; rintro e w' ⟨rfl, rfl⟩)
  go_at_call 16
  refine (bool_load ⟨b, off, none⟩ 0 _ ((World.cell?_setCell_other _ ⟨b, off + 1, none⟩ ⟨b, off, none⟩ _ (by simp)).trans h0)).mono ?_
  rintro e w' ⟨rfl, rfl⟩
  go_wp2
  rw [run_enter hgb, Oper.upon_enter]
  refine hg.mono ?_
  rintro e w1 ⟨rfl, hw1⟩
  obtain ⟨r0, r1, r2, r3⟩ := hR w1 hw1
  dsimp only
  go_wp2
  refine leaves_cons (f := 25) (args := #[.pointer (some ⟨b, off, none⟩), .bool true]) (by simp) (by simp [go_sem]) ?_
  refine (store_deferred ⟨b, off, none⟩ (.int .u32 0) .returning _ r0 r2).mono ?_
  rintro e u' w'' ⟨rfl, rfl, rfl⟩
  refine leaves_cons (f := 24) (args := #[.pointer (some ⟨b, off + 1, none⟩)]) (by simp [settle]) (by simp [go_sem]) ?_
  refine (unlock_deferred ⟨b, off + 1, none⟩ _ _ ?_ (by simp [r3])).mono ?_
  · refine (World.cell?_setCell_other _ ⟨b, off, none⟩ ⟨b, off + 1, none⟩ _ (by simp)).trans ?_
    rw [World.cell?_drew]
    exact r1
  rintro e u' w'' ⟨rfl, rfl, rfl⟩
  simp [Leaves, settle, results, Try.results17]
  exact ⟨w1, hw1, rfl⟩
end Go.Proofs.Ytdblbheeefokaaa
end

section
/-
  sync.Once's Do; a counter. No condition.
-/
namespace Go.Proofs.Ytdblbheeefokaaa
set_option linter.unusedVariables false
open Go.RowKit

set_option maxRecDepth 100000 in
theorem once_slow (b off : Nat) (v : Value) (w : World) (Post : Ending → World → Prop) (h0 : w.cell? ⟨b, off, none⟩ = some (.int .u32 0)) (h : Calls Try.prog 17 #[.pointer (some ⟨b, off, none⟩), v] w Post)
    (hp : ∀ e w', Post e w' → e = .returned (.tuple #[])) : Calls Try.prog 9 #[.pointer (some ⟨b, off, none⟩), v] w Post := by
  have hnot : ∀ (x : Bool) (w : World), (Op.unary .not (.bool x)).run Try.prog w = .ok (.bool (!x)) w := fun _ _ => rfl
  go_enter Try.func9, Try.ntmps9
  go_wp2_with fail
  refine (bool_load ⟨b, off, none⟩ 0 _ h0).mono ?_
  rintro e w' ⟨rfl, rfl⟩
  go_wp2_with fail
  refine h.mono ?_
  intro e w1 hw1
  obtain rfl := hp e w1 hw1
  dsimp only
  go_wp2_with fail
  go_end0
  exact hw1
set_option maxRecDepth 100000 in
theorem once_done (b off : Nat) (v : Value) (w : World) (h0 : w.cell? ⟨b, off, none⟩ = some (.int .u32 1)) :
    Calls Try.prog 9 #[.pointer (some ⟨b, off, none⟩), v] w fun e w' => e = .returned (.tuple #[]) ∧ w' = w := by
  have hnot : ∀ (x : Bool) (w : World), (Op.unary .not (.bool x)).run Try.prog w = .ok (.bool (!x)) w := fun _ _ => rfl
  go_enter Try.func9, Try.ntmps9
  go_wp2_with fail
  go_at_call 16
  refine (bool_load ⟨b, off, none⟩ 1 _ h0).mono ?_
  rintro e w' ⟨rfl, rfl⟩
  go_wp2_with fail
  go_end0
  exact ⟨rfl, rfl⟩
set_option maxRecDepth 100000 in
theorem i64_add (a : Addr) (n : Int) (w : World) (hc : w.cell? a = some (.int .i64 n)) (hz : w.frozen? a = false) (h : -9223372036854775808 ≤ n + 1 ∧ n + 1 ≤ 9223372036854775807) :
    Calls Try.prog 12 #[.pointer (some a), .int .i64 1] w fun e w' => e = .returned (.int .i64 (n + 1)) ∧ w' = w.setCell a (.int .i64 (n + 1)) := by
  have hadd := run_call_add (P := Try.prog) Try.func21 (by kernel_rfl) (by kernel_rfl) (by kernel_rfl) .i64 (by kernel_rfl) (y := 1) (s := n + 1) hc hz (run_add_i64 h w)
  go_enter Try.func12, Try.ntmps12
  go_wp2
  refine bodyPost_ret (results_tmp rfl _ _ _) rfl ?_
  exact ⟨rfl, rfl⟩
end Go.Proofs.Ytdblbheeefokaaa
end

section
/-
  sync.Once's Do as a function over blocks; counters. No condition.
-/
namespace Go.Proofs.Ytdblbheeefokaaa
set_option linter.unusedVariables false
namespace Sx
open Go.RowKit

section
variable {C : Cx} {r : Rho} {w : World} {B f : Nat}
theorem put_first {x y : SC} {l : List Seg} {v : Value} (ok : HeapOk C [.one x :: l] r w) (hr : r[0]? = some (B, f)) (hv : y.Is r v) (h0 : C.ro = 0) : HeapOk C [.one y :: l] r (w.setCell ⟨B, f, none⟩ v) := by
  obtain ⟨l', e, hp, hd⟩ := putS_spec (new := [.one y]) (l := .one x :: l) (b := 0) (o := 0) (k := fun l' => l' = .one y :: l) rfl
  subst e
  exact ok.put hr (i := 0) rfl (by simp) hp (vs := [v]) ⟨rfl, fun j z e => by
    cases j with
    | zero => simp [flat] at e; subst e; exact ⟨v, rfl, hv⟩
    | succ j => simp [flat] at e⟩ (by omega) hd
theorem put_second {x y z : SC} {l : List Seg} {v : Value} (ok : HeapOk C [.one z :: .one x :: l] r w) (hr : r[0]? = some (B, f)) (hv : y.Is r v) (h0 : C.ro = 0) : HeapOk C [.one z :: .one y :: l] r (w.setCell ⟨B, f + 1, none⟩ v) := by
  obtain ⟨l', e, hp, hd⟩ := putS_spec (new := [.one y]) (l := .one z :: .one x :: l) (b := 1) (o := 0) (k := fun l' => l' = .one z :: .one y :: l) rfl
  subst e
  exact ok.put hr (i := 0) rfl (by simp) hp (vs := [v]) ⟨rfl, fun j z e => by
    cases j with
    | zero => simp [flat] at e; subst e; exact ⟨v, rfl, hv⟩
    | succ j => simp [flat] at e⟩ (by omega) hd
end
/-- From another world on. -/
theorem HeapOk.rebase {P : Program} {T : List (Nat × TD)} {w w1 : World} {h h0 h1 : List (List Seg)} {r : Rho} (hp : ∀ (i : Nat) (W : World) (ms : List Nat), h[i]? ≠ some [.past W ms]) (ok : HeapOk (cx0 P T w r 0 h0) h r w1) : HeapOk (cx0 P T w1 r 0 h1) h r w1 :=
  ⟨Ext.refl _ _, RLe.refl _, Nat.zero_le _, ok.len, ok.chunks, ok.lt, fun i B f ho h => .inl (mem_drop.2 ⟨i, f, ho, h⟩), fun i B f ho => absurd ho (Nat.not_lt_zero i), fun i ch ho => absurd ho (Nat.not_lt_zero i), ok.apart, ok.maps, fun i W ms e => absurd e (hp i W ms)⟩
theorem HeapOk.onto {P : Program} {T : List (Nat × TD)} {w w1 w2 : World} {h h0 h1 : List (List Seg)} {r : Rho} (e : Ext (r.map (·.1)) w w1) (hp : ∀ (i : Nat) (W : World) (ms : List Nat), h[i]? ≠ some [.past W ms]) (ok : HeapOk (cx0 P T w1 r 0 h1) h r w2) : HeapOk (cx0 P T w r 0 h0) h r w2 :=
  ⟨e.trans ok.ext, ok.agree, Nat.zero_le _, ok.len, ok.chunks, ok.lt, fun i B f ho h => .inl (mem_drop.2 ⟨i, f, ho, h⟩), fun i B f ho => absurd ho (Nat.not_lt_zero i), fun i ch ho => absurd ho (Nat.not_lt_zero i), ok.apart, ok.maps, fun i W ms e => absurd e (hp i W ms)⟩
theorem no_past (x : SC) (y : Seg) (l : List Seg) : ∀ (i : Nat) (W : World) (ms : List Nat), ([.one x :: y :: l] : List (List Seg))[i]? ≠ some [.past W ms] := fun i W ms e => by
  cases i with
  | zero => simp at e
  | succ i => simp at e
theorem is_at {C : Cx} {h : List (List Seg)} {r : Rho} {w : World} {B f : Nat} {l : List Seg} {x : SC} {j : Nat} (ok : HeapOk C h r w) (hr : r[0]? = some (B, f)) (hh : h[0]? = some l) (hx : (flat l)[j]? = some x) (h0 : C.ro = 0) :
    ∃ v, w.cell? ⟨B, f + j, none⟩ = some v ∧ x.Is r v ∧ w.frozen? ⟨B, f + j, none⟩ = false := by
  obtain ⟨v, e1, e2, e3⟩ := ok.chunks 0 l B f hh hr j x hx
  exact ⟨v, e1, e2, (e3 (by rw [h0]; rfl)).fr e1⟩
theorem fn_once {g : FuncId} (hgb : ((Try.prog.funcs[g]?).any fun fn => fn.body.isSome && fn.name != "runtime.NumGoroutine") = true) {rest rest' : List Seg}
    (hF : Go.Proofs.Ytdblbheeefokaaa.Sx.Fn Try.prog tds g [.one (.w32 0) :: .one (.int .i32 1) :: rest] [.c (.p 0 0 0)] (fun _ => True) (fun x hs => x = .tup [] ∧ hs = [.one (.w32 0) :: .one (.int .i32 1) :: rest'])) :
    Go.Proofs.Ytdblbheeefokaaa.Sx.Fn Try.prog tds 9 [.one (.w32 0) :: .one (.int .i32 0) :: rest] [.c (.p 0 0 0), .c (.clo g 0 0 0)] (fun _ => True) (fun x hs => x = .tup [] ∧ hs = [.one (.w32 1) :: .one (.int .i32 0) :: rest']) := by
  intro w r0 vs ok ha _
  obtain ⟨⟨B, f⟩, rfl⟩ := List.length_eq_one_iff.1 ok.len
  obtain ⟨hl, ha⟩ := ha
  obtain ⟨v0, v1, rfl⟩ := len2' hl.symm
  obtain ⟨u, hu, B0, f0, hr0, rfl⟩ := ha 0 _ rfl
  obtain ⟨u, hu1, B1, f1, hr1, rfl⟩ := ha 1 _ rfl
  simp at hu hu1 hr0 hr1
  obtain ⟨rfl, rfl⟩ := hr0
  obtain ⟨rfl, rfl⟩ := hr1
  subst hu
  subst hu1
  obtain ⟨_, c0, rfl, z0⟩ := is_at ok rfl rfl (j := 0) (x := .w32 0) rfl rfl
  obtain ⟨_, c1, rfl, z1⟩ := is_at ok rfl rfl (j := 1) (x := .int .i32 0) rfl rfl
  have ok1 := put_second (y := .int .i32 1) ok rfl (v := .int .i32 1) rfl rfl
  have hg := hF (w.setCell ⟨B, f + 1, none⟩ (.int .i32 1)) [(B, f)] [.pointer (some ⟨B, f, none⟩)] (ok1.rebase (no_past _ _ _)) ⟨rfl, fun j x e => by
    cases j with
    | zero => simp at e; subst e; exact ⟨_, rfl, B, f, rfl, rfl⟩
    | succ j => simp at e⟩ trivial
  let R : World → Prop := fun w2 => HeapOk (cx0 Try.prog tds (w.setCell ⟨B, f + 1, none⟩ (.int .i32 1)) [(B, f)] 0 [.one (.w32 0) :: .one (.int .i32 1) :: rest]) [.one (.w32 0) :: .one (.int .i32 1) :: rest'] [(B, f)] w2
  have hg2 : Calls Try.prog g #[.pointer (some ⟨B, f, none⟩)] (w.setCell ⟨B, f + 1, none⟩ (.int .i32 1)) fun e w2 => e = .returned (.tuple #[]) ∧ R w2 := by
    refine hg.mono ?_
    rintro e w2 ⟨v, x, hs, r', rfl, hx, hok, rfl, rfl⟩
    obtain ⟨vs, rfl, hl, _⟩ := hx
    obtain rfl : vs = [] := List.eq_nil_of_length_eq_zero hl.symm
    obtain ⟨y, rfl⟩ := List.length_eq_one_iff.1 hok.len
    have := hok.agree 0 (B, f) rfl
    simp at this
    subst this
    exact ⟨rfl, hok⟩
  have hR : ∀ w2, R w2 → w2.cell? ⟨B, f, none⟩ = some (.int .u32 0) ∧ w2.cell? ⟨B, f + 1, none⟩ = some (.int .i32 1) ∧ w2.frozen? ⟨B, f, none⟩ = false ∧ w2.frozen? ⟨B, f + 1, none⟩ = false := by
    intro w2 h
    obtain ⟨_, d0, rfl, y0⟩ := is_at h rfl rfl (j := 0) (x := .w32 0) rfl rfl
    obtain ⟨_, d1, rfl, y1⟩ := is_at h rfl rfl (j := 1) (x := .int .i32 1) rfl rfl
    exact ⟨d0, d1, y0, y1⟩
  refine (once_slow B f (.func (.func g) #[.pointer (some ⟨B, f, none⟩)] #[]) w _ c0 (slow_any B f (.func g) #[.pointer (some ⟨B, f, none⟩)] #[] g #[.pointer (some ⟨B, f, none⟩)] R w rfl hgb rfl c0 c1 z0 z1 hg2 hR) (fun e w' h => h.1)).mono ?_
  rintro e w' ⟨rfl, w2, hw2, rfl⟩
  have k1 := put_first (y := .w32 1) hw2.drew rfl (v := .int .u32 1) rfl rfl
  have k2 := put_second (y := .int .i32 0) k1 rfl (v := .int .i32 0) rfl rfl
  exact ⟨.tuple #[], .tup [], _, [(B, f)], rfl, ⟨[], rfl, rfl, fun j x e => by simp at e⟩, HeapOk.onto ok1.ext (no_past _ _ _) k2, rfl, rfl⟩
theorem fn_once_done {rest : List Seg} {g : FuncId} :
    Go.Proofs.Ytdblbheeefokaaa.Sx.Fn Try.prog tds 9 [.one (.w32 1) :: rest] [.c (.p 0 0 0), .c (.clo g 0 0 0)] (fun _ => True) (fun x hs => x = .tup [] ∧ hs = [.one (.w32 1) :: rest]) := by
  intro w r0 vs ok ha _
  obtain ⟨⟨B, f⟩, rfl⟩ := List.length_eq_one_iff.1 ok.len
  obtain ⟨hl, ha⟩ := ha
  obtain ⟨v0, v1, rfl⟩ := len2' hl.symm
  obtain ⟨u, hu, B0, f0, hr0, rfl⟩ := ha 0 _ rfl
  simp at hu hr0
  obtain ⟨rfl, rfl⟩ := hr0
  subst hu
  obtain ⟨_, c0, rfl, z0⟩ := is_at ok rfl rfl (j := 0) (x := .w32 1) rfl rfl
  refine (once_done B f v1 w c0).mono ?_
  rintro e w' ⟨rfl, rfl⟩
  exact ⟨.tuple #[], .tup [], _, [(B, f)], rfl, ⟨[], rfl, rfl, fun j x e => by simp at e⟩, ok, rfl, rfl⟩
theorem fn_i64_add {l l' : List Seg} {off : Nat} {n : Int} (hx : (flat l)[off]? = some (.int .i64 n)) (hne : l ≠ []) (hp : Put [.one (.int .i64 (n + 1))] l l' off) (hd : hd1 l' = true) (hn : -9223372036854775808 ≤ n + 1 ∧ n + 1 ≤ 9223372036854775807) :
    Go.Proofs.Ytdblbheeefokaaa.Sx.Fn Try.prog tds 12 [l] [.c (.p 0 off 0), .c (.int .i64 1)] (fun _ => True) (fun x hs => x = .a (.c (.int .i64 (n + 1))) ∧ hs = [l']) := by
  intro w r0 vs ok ha _
  obtain ⟨⟨B, f⟩, rfl⟩ := List.length_eq_one_iff.1 ok.len
  obtain ⟨hl, ha⟩ := ha
  obtain ⟨v0, v1, rfl⟩ := len2' hl.symm
  obtain ⟨u, hu, B0, f0, hr0, rfl⟩ := ha 0 _ rfl
  obtain ⟨u, hu1, rfl⟩ := ha 1 _ rfl
  simp at hu hu1 hr0
  obtain ⟨rfl, rfl⟩ := hr0
  subst hu
  subst hu1
  obtain ⟨_, c0, rfl, z0⟩ := is_at ok rfl rfl (j := off) hx rfl
  refine (i64_add ⟨B, f + off, none⟩ n w c0 z0 hn).mono ?_
  rintro e w' ⟨rfl, rfl⟩
  exact ⟨.int .i64 (n + 1), .a (.c (.int .i64 (n + 1))), _, [(B, f)], rfl, rfl, ok.put rfl (i := 0) rfl hne hp (vs := [.int .i64 (n + 1)]) ⟨rfl, fun j z e => by
    cases j with
    | zero => simp [flat] at e; subst e; exact ⟨_, rfl, rfl⟩
    | succ j => simp [flat] at e⟩ (Nat.zero_le _) hd, rfl, rfl⟩
end Sx
end Go.Proofs.Ytdblbheeefokaaa
end

section
/-
  The field of 256 as the program reckons it: plain functions. No condition.
-/
namespace Go.Proofs.Ytdblbheeefokaaa
set_option linter.unusedVariables false
namespace Aes

def twice (a : BitVec 8) : BitVec 8 := if a &&& 128#8 = 0#8 then a <<< 1 else a <<< 1 ^^^ 27#8
/-- k rounds of the product: what is summed, and the first factor. -/
def timesS (b : BitVec 8) : Nat → BitVec 8 × BitVec 8 → BitVec 8 × BitVec 8
  | 0, s => s
  | k + 1, s => let s := timesS b k s; (if (b >>> k) &&& 1#8 = 1#8 then s.1 ^^^ s.2 else s.1, twice s.2)
def times (a b : BitVec 8) : BitVec 8 := (timesS b 8 (0#8, a)).1
/-- k rounds of the power: what is reckoned, and the power. -/
def invS : Nat → BitVec 8 × BitVec 8 → BitVec 8 × BitVec 8
  | 0, s => s
  | k + 1, s => let s := invS k s; (if (254 >>> k) % 2 = 1 then times s.1 s.2 else s.1, times s.2 s.2)
def inverse (a : BitVec 8) : BitVec 8 := (invS 8 (1#8, a)).1
def rot8 (x : BitVec 8) (k : Nat) : BitVec 8 := (x <<< k) ||| (x >>> (8 - k))
/-- What a byte is exchanged for. -/
def boxS (i : BitVec 8) : Nat → BitVec 8
  | 0 => i ^^^ 99#8
  | k + 1 => boxS i k ^^^ rot8 i ((k + 1) % 8)
def box (a : BitVec 8) : BitVec 8 := boxS (inverse a) 4
/-- The columns mixed. -/
def mixAt (b : Nat → BitVec 8) (i : Nat) : BitVec 8 :=
  twice (b i) ^^^ twice (b (i / 4 * 4 + (i + 1) % 4)) ^^^ b (i / 4 * 4 + (i + 1) % 4) ^^^ b (i / 4 * 4 + (i + 2) % 4) ^^^ b (i / 4 * 4 + (i + 3) % 4)
def shiftAt (b : Nat → BitVec 8) (i : Nat) : BitVec 8 := box (b (4 * ((i / 4 + i % 4) % 4) + i % 4))
/-! The document's product. -/
/-! The document's block. -/
/-! The program's round keys. -/
def pW (old : Nat → BitVec 8) (p : BitVec 8) : Nat → Nat → BitVec 8
  | 0, j => if j = 0 then old 0 ^^^ box (old 13) ^^^ p else old j ^^^ box (old (12 + (j + 1) % 4))
  | c + 1, j => old (4 * (c + 1) + j) ^^^ pW old p c j
def pNow (old : Nat → BitVec 8) (p : BitVec 8) (i : Nat) : BitVec 8 := pW old p (i / 4) (i % 4)
/-- r round keys behind the first one; the power. -/
def pKeyS (k : Nat → BitVec 8) : Nat → (Nat → BitVec 8) × BitVec 8
  | 0 => (k, 1#8)
  | r + 1 => let s := pKeyS k r
    (fun i => if i < 16 * (r + 1) then s.1 i else pNow (fun j => s.1 (16 * r + j)) s.2 (i - 16 * (r + 1)), times s.2 2#8)
def pKeys (k : Nat → BitVec 8) : Nat → BitVec 8 := (pKeyS k 10).1
/-- The program's block, turned. -/
def pTurnS (k b : Nat → BitVec 8) : Nat → Nat → BitVec 8
  | 0, i => b i ^^^ pKeys k i
  | r + 1, i => mixAt (shiftAt (pTurnS k b r)) i ^^^ pKeys k (16 * (r + 1) + i)
def pTurn (k b : Nat → BitVec 8) (i : Nat) : BitVec 8 := shiftAt (pTurnS k b 9) i ^^^ pKeys k (160 + i)
end Aes
end Go.Proofs.Ytdblbheeefokaaa
end

section
/-
  The program's field of 256. No condition.
-/
namespace Go.Proofs.Ytdblbheeefokaaa
set_option linter.unusedVariables false
namespace Sx
open Aes

theorem fn_twice (a : BitVec 8) : Fn Try.prog tds 20 [] [.c (.w8 a)] (fun _ => True) (fun x hs => x = .a (.c (.w8 (twice a))) ∧ hs = []) := by
  refine fn_of_body tds_ok follows_ Try.func20 rfl (t := [.a (.c (.w8 (a))), .any, .any, .any, .any, .any, .any, .any, .any, .any, .any]) rfl (fun w r0 hr _ => ?_)
  obtain rfl : r0 = [] := List.eq_nil_of_length_eq_zero hr
  refine ⟨fun h => ?_, fun h => ?_⟩
  · exact ⟨.a (.c (.w8 (twice a))), [], ⟨[], ⟨rfl, rfl, rfl⟩, (if_neg (of_decide_eq_true h)).symm, trivial⟩, rfl, rfl⟩
  · exact ⟨.a (.c (.w8 (twice a))), [], ⟨[], ⟨rfl, rfl, rfl⟩, (if_pos (by simpa using h)).symm, trivial⟩, rfl, rfl⟩
theorem fn_times (a b : BitVec 8) : Fn Try.prog tds 11 [] [.c (.w8 a), .c (.w8 b)] (fun _ => True) (fun x hs => x = .a (.c (.w8 (times a b))) ∧ hs = []) := by
  refine fn_of_body tds_ok follows_ Try.func11 rfl (t := [.a (.c (.w8 (a))), .a (.c (.w8 (b))), .any, .any, .any, .any, .any, .any, .any, .any, .any, .any, .any, .any, .any, .any, .any, .any, .any, .any, .any, .any, .any]) rfl (fun w r0 hr _ => ?_)
  obtain rfl : r0 = [] := List.eq_nil_of_length_eq_zero hr
  refine .inl ⟨Nat, fun k => ⟨[.a (.c (.w8 ((timesS b k (0#8, a)).2))), .a (.c (.w8 (b))), .any, .any, .any, .a (.c (.w8 ((timesS b k (0#8, a)).1))), .any, .a (.c (.int .i64 (↑k))), .any, .any, .any, .any, .any, .any, .any, .any, .any, .any, .any, .any, .any, .any, .any], []⟩, fun k => k ≤ 8, fun k => 8 - k, ⟨0, [], ⟨⟨rfl, rfl, rfl⟩, rfl, rfl, rfl, rfl, trivial⟩, by omega⟩, fun k hk => ⟨fun h => ?_, fun h => ?_⟩⟩
  · have hlt : (k : Int) < 8 := of_decide_eq_true h
    have e : ∀ y : BitVec 8, y >>> (BitVec.ofInt 64 (k : Int)).toNat = y >>> k := fun y => by
      rw [BitVec.ofInt_natCast, BitVec.toNat_ofNat, Nat.mod_eq_of_lt (by omega)]
    refine ⟨fun h2 => ?_, fun h2 => ?_⟩
    all_goals
      rw [e] at h2
      refine ⟨by kernel_rfl, call_same (fn_twice _) [] rfl ⟨rfl, trivial⟩ trivial (fun _ _ => trivial) ?_⟩
      rintro x hs ⟨rfl, rfl⟩
      refine ⟨⟨by omega, by omega⟩, k + 1, [], ⟨⟨rfl, rfl, rfl⟩, rfl, rfl, ?_, rfl, trivial⟩, by dsimp only; omega, by dsimp only; omega⟩
      first | exact (if_pos (of_decide_eq_true h2)).symm | exact (if_neg (of_decide_eq_false h2)).symm
  · obtain rfl : k = 8 := by have : ¬ (k : Int) < 8 := of_decide_eq_false h; have hk : k ≤ 8 := hk; omega
    exact ⟨.a (.c (.w8 (times a b))), [], ⟨[], ⟨rfl, rfl, rfl⟩, rfl, trivial⟩, rfl, rfl⟩
theorem bit254 : ∀ k, k < 8 → (((((254 : Int) / 2 ^ k).toNat &&& (1 : Int).toNat : Nat) : Int) = 1 ↔ (254 >>> k) % 2 = 1) := by decide
theorem d254 (n : Nat) : 0 ≤ (254 : Int) / 2 ^ n ∧ (254 : Int) / 2 ^ n ≤ 254 :=
  ⟨Int.ediv_nonneg (by omega) (Int.le_of_lt (Int.pow_pos (by omega))), Int.ediv_le_self _ (by omega)⟩
theorem fn_inverse (a : BitVec 8) : Fn Try.prog tds 18 [] [.c (.w8 a)] (fun _ => True) (fun x hs => x = .a (.c (.w8 (inverse a))) ∧ hs = []) := by
  refine fn_of_body tds_ok follows_ Try.func18 rfl (t := [.a (.c (.w8 (a))), .any, .any, .any, .any, .any, .any, .any, .any, .any, .any, .any, .any, .any, .any, .any, .any, .any, .any, .any, .any, .any, .any]) rfl (fun w r0 hr _ => ?_)
  obtain rfl : r0 = [] := List.eq_nil_of_length_eq_zero hr
  refine .inl ⟨Nat, fun k => ⟨[.any, .any, .any, .a (.c (.w8 ((invS k (1#8, a)).1))), .a (.c (.w8 ((invS k (1#8, a)).2))), .any, .any, .a (.c (.int .i64 (↑k))), .any, .any, .any, .any, .any, .any, .any, .any, .any, .any, .any, .any, .any, .any, .any], []⟩, fun k => k ≤ 8, fun k => 8 - k, ⟨0, [], ⟨⟨rfl, rfl, rfl⟩, rfl, rfl, rfl, trivial⟩, by omega⟩, fun k hk => ⟨fun h => ?_, fun h => ?_⟩⟩
  · have hlt : (k : Int) < 8 := of_decide_eq_true h
    have hd := d254 (BitVec.ofInt 64 (k : Int)).toNat
    refine ⟨by rw [cast64 (by omega)]; omega, ⟨by omega, by omega, by omega, by omega⟩, fun h2 => ?_, fun h2 => ?_⟩
    all_goals rw [cast64 (by omega)] at h2
    · have h3 := (bit254 k (by omega)).1 (of_decide_eq_true h2)
      refine ⟨by kernel_rfl, call_same (fn_times _ _) [] rfl ⟨rfl, rfl, trivial⟩ trivial (fun _ _ => trivial) ?_⟩
      rintro x hs ⟨rfl, rfl⟩
      refine ⟨by kernel_rfl, call_same (fn_times _ _) [] rfl ⟨rfl, rfl, trivial⟩ trivial (fun _ _ => trivial) ?_⟩
      rintro x hs ⟨rfl, rfl⟩
      exact ⟨⟨by omega, by omega⟩, k + 1, [], ⟨⟨rfl, rfl, rfl⟩, (if_pos h3).symm, rfl, rfl, trivial⟩, by dsimp only; omega, by dsimp only; omega⟩
    · have h3 := mt (bit254 k (by omega)).2 (of_decide_eq_false h2)
      refine ⟨by kernel_rfl, call_same (fn_times _ _) [] rfl ⟨rfl, rfl, trivial⟩ trivial (fun _ _ => trivial) ?_⟩
      rintro x hs ⟨rfl, rfl⟩
      exact ⟨⟨by omega, by omega⟩, k + 1, [], ⟨⟨rfl, rfl, rfl⟩, (if_neg h3).symm, rfl, rfl, trivial⟩, by dsimp only; omega, by dsimp only; omega⟩
  · obtain rfl : k = 8 := by have : ¬ (k : Int) < 8 := of_decide_eq_false h; have hk : k ≤ 8 := hk; omega
    exact ⟨.a (.c (.w8 (inverse a))), [], ⟨[], ⟨rfl, rfl, rfl⟩, rfl, trivial⟩, rfl, rfl⟩
theorem rot_eq (a : BitVec 8) : ∀ k : Nat, k < 5 → a <<< ((BitVec.ofInt 64 (k : Int)) &&& 7#64).toNat ||| a >>> (8#64 - ((BitVec.ofInt 64 (k : Int)) &&& 7#64)).toNat = rot8 a (k % 8) := by
  intro k hk
  have : k = 0 ∨ k = 1 ∨ k = 2 ∨ k = 3 ∨ k = 4 := by omega
  rcases this with rfl | rfl | rfl | rfl | rfl <;> rfl
theorem fn_rot8 (a : BitVec 8) (k : Nat) (hk : k < 5) : Fn Try.prog tds 19 [] [.c (.w8 a), .c (.int .i64 (k : Int))] (fun _ => True) (fun x hs => x = .a (.c (.w8 (rot8 a (k % 8)))) ∧ hs = []) := by
  refine fn_of_body tds_ok follows_ Try.func19 rfl (t := [.a (.c (.w8 (a))), .a (.c (.int .i64 (↑k))), .any, .any, .any, .any, .any, .any, .any, .any, .any, .any, .any, .any, .any, .any, .any]) rfl (fun w r0 hr _ => ?_)
  obtain rfl : r0 = [] := List.eq_nil_of_length_eq_zero hr
  exact ⟨.a (.c (.w8 (rot8 a (k % 8)))), [], ⟨[], ⟨rfl, rfl, rfl⟩, rot_eq a k hk, trivial⟩, rfl, rfl⟩
/-- A block as a value. -/
abbrev blk (a : Nat → BitVec 8) : SA := .agg [.row 16 fun i => .w8 (a i)]
def xorB (a b : Nat → BitVec 8) : Nat → BitVec 8 := fun i => a i ^^^ b i
theorem fn_sum (a b : Nat → BitVec 8) : Fn Try.prog tds 13 [] [blk a, blk b] (fun _ => True) (fun x hs => x = .a (blk (xorB a b)) ∧ hs = []) := by
  refine fn_of_body tds_ok follows_ Try.func13 rfl (t := [.a (blk a), .a (blk b), .any, .any, .any, .any, .any, .any, .any, .any, .any, .any, .any, .any, .any, .any, .any, .any, .any]) rfl (fun w r0 hr _ => ?_)
  obtain rfl : r0 = [] := List.eq_nil_of_length_eq_zero hr
  refine ⟨rfl, rfl, .inl ⟨Nat, fun k => ⟨[.any, .any, .a (.c (.p 0 0 0)), .a (.c (.p 1 0 0)), .a (.c (.p 2 0 0)), .any, .a (.c (.int .i64 (↑k))), .any, .any, .any, .any, .any, .any, .any, .any, .any, .any, .any, .any], [[.row 16 fun i => .w8 (if i < k then a i ^^^ b i else a i)], [.row 16 fun i => .w8 (b i)], [.row 16 fun _ => .w8 0]]⟩, fun k => k ≤ 16, fun k => 16 - k, ⟨0, [0, 1, 2], ⟨⟨rfl, rfl, rfl⟩, rfl, rfl, rfl, rfl, rfl, fun j hj => ⟨by simp, trivial⟩, rfl, fun j hj => ⟨rfl, trivial⟩, rfl, fun j hj => ⟨rfl, trivial⟩, trivial⟩, by omega⟩, fun k hk => ⟨fun h => ?_, fun h => ?_⟩⟩⟩
  · have hlt : (k : Int) < 16 := of_decide_eq_true h
    refine ⟨none, [], [(0, true), (1, true), (2, true), (3, true), (4, true), (5, true), (6, true), (7, true)], [8], by kernel_rfl, ⟨by omega, by omega⟩, by omega, ⟨by omega, by omega⟩, by omega, ⟨by omega, by omega⟩, by omega, rfl, ⟨by omega, by omega⟩, k + 1, [0, 1, 2], ⟨⟨rfl, rfl, rfl⟩, rfl, rfl, rfl, rfl, rfl, fun j hj => ?_, rfl, fun j hj => ⟨rfl, trivial⟩, rfl, fun j hj => ⟨rfl, trivial⟩, trivial⟩, by dsimp only; omega, by dsimp only; omega⟩
    refine eqC_w8 ?_
    by_cases hjk : j = k
    · subst hjk; simp [upd]
    · have : j < k + 1 ↔ j < k := by omega
      simp [upd, hjk, this]
  · obtain rfl : k = 16 := by have : ¬ (k : Int) < 16 := of_decide_eq_false h; have hk : k ≤ 16 := hk; omega
    exact ⟨by omega, rfl, rfl, by omega, .a (blk (xorB a b)), [], ⟨[], ⟨rfl, rfl, rfl⟩, rfl, rfl, fun j hj => eqC_w8 (by simp [hj, xorB]), trivial⟩, rfl, rfl⟩
theorem fn_mix (b : Nat → BitVec 8) : Fn Try.prog tds 14 [] [blk b] (fun _ => True) (fun x hs => x = .a (blk (mixAt b)) ∧ hs = []) := by
  refine fn_of_body tds_ok follows_ Try.func14 rfl (t := .a (blk b) :: anys 50) rfl (fun w r0 hr _ => ?_)
  obtain rfl : r0 = [] := List.eq_nil_of_length_eq_zero hr
  refine ⟨rfl, .inl ⟨Nat, fun k => ⟨[.any, .a (.c (.p 0 0 0)), .a (.c (.p 1 0 0)), .a (.c (.p 2 0 0)), .any, .any, .any, .any, .a (.c (.int .i64 (↑k))), .any, .any, .any, .any, .any, .any, .any, .any, .any, .any, .any, .any, .any, .any, .any, .any, .any, .any, .any, .any, .any, .any, .any, .any, .any, .any, .any, .any, .any, .any, .any, .any, .any, .any, .any, .any, .any, .any, .any, .any, .any, .any], [[.row 16 fun i => .w8 (b i)], [.row 16 fun _ => .w8 0], [.row 16 fun i => .w8 (if i < k then mixAt b i else 0#8)]]⟩, fun k => k ≤ 16, fun k => 16 - k, ⟨0, [0, 1, 2], ⟨⟨rfl, rfl, rfl⟩, rfl, rfl, rfl, rfl, rfl, fun j hj => ⟨rfl, trivial⟩, rfl, fun j hj => ⟨rfl, trivial⟩, rfl, fun j hj => ⟨by simp, trivial⟩, trivial⟩, by omega⟩, fun k hk => ⟨fun h => ?_, fun h => ?_⟩⟩⟩
  · have hlt : (k : Int) < 16 := of_decide_eq_true h
    refine ⟨⟨by omega, by omega, by omega⟩, ⟨by omega, by omega⟩, none, [], [(0, true), (1, true), (2, true), (3, true), (4, true), (5, true), (6, true), (7, true), (8, true), (9, true), (10, true), (11, true)], [], by kernel_rfl, ?_⟩
    refine ⟨⟨by omega, by omega⟩, by omega, ⟨by omega, by omega⟩, ⟨by omega, by omega⟩, ⟨by omega, by omega⟩, ⟨by omega, by omega⟩, by omega, none, [], [(0, true), (1, true), (3, true), (6, true), (8, true), (9, true), (10, true), (11, true), (12, true), (13, true), (14, true), (16, true), (17, true), (18, true), (19, true), (20, true), (21, true), (22, true), (2, false), (4, false), (5, true), (7, true), (15, true), (23, true), (24, true)], [25], by kernel_rfl, ?_⟩
    repeat refine ⟨by omega, ?_⟩
    refine ⟨by kernel_rfl, call_same (fn_twice _) [] rfl ⟨rfl, trivial⟩ trivial (fun _ _ => trivial) ?_⟩
    rintro x hs ⟨rfl, rfl⟩
    refine ⟨by kernel_rfl, call_same (fn_twice _) [] rfl ⟨rfl, trivial⟩ trivial (fun _ _ => trivial) ?_⟩
    rintro x hs ⟨rfl, rfl⟩
    repeat refine ⟨by omega, ?_⟩
    refine ⟨rfl, ⟨by omega, by omega⟩, k + 1, [0, 1, 2], ⟨⟨rfl, rfl, rfl⟩, rfl, rfl, rfl, rfl, rfl, fun j hj => ⟨rfl, trivial⟩, rfl, fun j hj => ⟨rfl, trivial⟩, rfl, fun j hj => eqC_w8 ?_, trivial⟩, by dsimp only; omega, by dsimp only; omega⟩
    refine (upd_w8 (g := fun i => .w8 (if i < k + 1 then mixAt b i else 0#8)) ?_ ?_ j).trans rfl
    · have e0 : (k : Int).toNat + 0 = k := by omega
      have e1 : ((k : Int) / 4 * 4 + ((k : Int) + 1) % 4).toNat + 0 = k / 4 * 4 + (k + 1) % 4 := by omega
      have e2 : ((k : Int) / 4 * 4 + ((k : Int) + 2) % 4).toNat + 0 = k / 4 * 4 + (k + 2) % 4 := by omega
      have e3 : ((k : Int) / 4 * 4 + ((k : Int) + 3) % 4).toNat + 0 = k / 4 * 4 + (k + 3) % 4 := by omega
      simp only [e0, e1, e2, e3, if_pos (show k < k + 1 by omega)]
      rfl
    · intro j hjk
      have hjk' : j ≠ k := by simpa using hjk
      have : j < k + 1 ↔ j < k := by omega
      simp only [this]
  · obtain rfl : k = 16 := by have : ¬ (k : Int) < 16 := of_decide_eq_false h; have hk : k ≤ 16 := hk; omega
    exact ⟨by omega, rfl, rfl, by omega, .a (blk (mixAt b)), [], ⟨[], ⟨rfl, rfl, rfl⟩, rfl, rfl, fun j hj => eqC_w8 (by simp [hj]), trivial⟩, rfl, rfl⟩
end Sx
end Go.Proofs.Ytdblbheeefokaaa
end

section
/-
  The document's field of 256, its boxes. No condition.
-/
namespace Go.Proofs.Ytdblbheeefokaaa
set_option linter.unusedVariables false
namespace Sx
open Aes

end Sx
end Go.Proofs.Ytdblbheeefokaaa
end

section
/-
  The document's boxes. No condition.
-/
namespace Go.Proofs.Ytdblbheeefokaaa
set_option linter.unusedVariables false
namespace Sx
open Aes

end Sx
end Go.Proofs.Ytdblbheeefokaaa
end

section
/-
  The document's columns, mixed; a key's words. No condition.
-/
namespace Go.Proofs.Ytdblbheeefokaaa
set_option linter.unusedVariables false
namespace Sx
open Aes

end Sx
end Go.Proofs.Ytdblbheeefokaaa
end

section
/-
  The program's tables: filled; blocks shifted. No condition.
-/
namespace Go.Proofs.Ytdblbheeefokaaa
set_option linter.unusedVariables false
namespace Sx
open Aes

/-- Tables: done or not, the lock, the boxes, the counter. -/
abbrev tabs (d : BitVec 32) (m : Int) (b : Nat → BitVec 8) (n : Int) : List Seg := [.one (.w32 d), .one (.int .i32 m), .one (.w32 0), .row 256 (fun i => .w8 (b i)), .one (.int .i64 n)]
def boxes (i : Nat) : BitVec 8 := box (BitVec.ofNat 8 i)
theorem fn_fill (d : BitVec 32) (m : Int) (b : Nat → BitVec 8) (n : Int) : Fn Try.prog tds 10 [tabs d m b n] [.c (.p 0 0 0)] (fun _ => True) (fun x hs => x = .tup [] ∧ hs = [tabs d m boxes n]) := by
  refine fn_of_body tds_ok follows_ Try.func10 rfl (t := [.a (.c (.p 0 0 0)), .any, .any, .any, .any, .any, .any, .any, .any, .any, .any, .any, .any, .any, .any, .any, .any, .any, .any, .any, .any, .any, .any, .any, .any, .any, .any, .any, .any, .any, .any]) rfl (fun w r0 hr _ => ?_)
  obtain ⟨x0, rfl⟩ := List.length_eq_one_iff.1 hr
  refine .inl ⟨Nat, fun k => ⟨[.a (.c (.p 0 0 0)), .any, .any, .any, .any, .any, .a (.c (.int .i64 (↑k))), .any, .any, .any, .any, .any, .any, .any, .any, .any, .any, .any, .any, .any, .any, .any, .any, .any, .any, .any, .any, .any, .any, .any, .any], [tabs d m (fun i => if i < k then boxes i else b i) n]⟩, fun k => k ≤ 256, fun k => 256 - k, ⟨0, [0], ⟨⟨rfl, rfl, rfl⟩, ?_⟩, by omega⟩, fun k hk => ⟨fun h => ?_, fun h => ?_⟩⟩
  · exact ⟨rfl, rfl, rfl, rfl, rfl, rfl, fun j hj => ⟨by simp, trivial⟩, rfl, trivial⟩
  · have hlt : (k : Int) < 256 := of_decide_eq_true h
    refine ⟨by kernel_rfl, call_same (fn_inverse _) [] rfl ⟨rfl, trivial⟩ trivial (fun _ _ => trivial) ?_⟩
    rintro x hs ⟨rfl, rfl⟩
    refine .inl ⟨Nat, fun j => ⟨[.a (.c (.p 0 0 0)), .any, .a (.c (.int .i64 (↑k))), .a (.c (.w8 ((inverse (BitVec.ofNat 8 k))))), .a (.c (.w8 ((boxS (inverse (BitVec.ofNat 8 k)) j)))), .any, .a (.c (.int .i64 (↑k))), .any, .any, .any, .any, .any, .any, .any, .a (.c (.int .i64 (↑j))), .any, .any, .any, .any, .any, .any, .any, .any, .any, .any, .any, .any, .any, .any, .any, .any], [tabs d m (fun i => if i < k then boxes i else b i) n]⟩, fun j => j ≤ 4, fun j => 4 - j, ⟨0, [0], ⟨⟨rfl, rfl, rfl⟩, ?_⟩, by omega⟩, fun j hj => ⟨fun h => ?_, fun h => ?_⟩⟩
    · rw [ofIntN]
      exact ⟨rfl, rfl, rfl, rfl, rfl, rfl, rfl, rfl, rfl, rfl, fun j hj => ⟨rfl, trivial⟩, rfl, trivial⟩
    · have hlj : (j : Int) < 4 := of_decide_eq_true h
      refine ⟨⟨by omega, by omega⟩, by kernel_rfl, call_same (fn_rot8 _ (j + 1) (by omega)) [] rfl ⟨rfl, rfl, trivial⟩ trivial (fun _ _ => trivial) ?_⟩
      rintro x hs ⟨rfl, rfl⟩
      exact ⟨⟨by omega, by omega⟩, j + 1, [0], ⟨⟨rfl, rfl, rfl⟩, rfl, rfl, rfl, rfl, rfl, rfl, rfl, rfl, rfl, rfl, fun j hj => ⟨rfl, trivial⟩, rfl, trivial⟩, by dsimp only; omega, by dsimp only; omega⟩
    · obtain rfl : j = 4 := by have : ¬ (j : Int) < 4 := of_decide_eq_false h; have hj : j ≤ 4 := hj; omega
      refine ⟨by omega, by omega, rfl, ⟨by omega, by omega⟩, k + 1, [0], ⟨⟨rfl, rfl, rfl⟩, rfl, rfl, rfl, rfl, rfl, rfl, fun j hj => eqC_w8 ?_, rfl, trivial⟩, by dsimp only; omega, by dsimp only; omega⟩
      have e : (k : Int).toNat + 0 = k := by omega
      rw [e]
      refine (upd_w8 (g := fun i => .w8 (if i < k + 1 then boxes i else b i)) ?_ ?_ j).trans rfl
      · simp only [if_pos (show k < k + 1 by omega)]
        rfl
      · intro j hjk
        have : j < k + 1 ↔ j < k := by omega
        simp only [this]
  · obtain rfl : k = 256 := by have : ¬ (k : Int) < 256 := of_decide_eq_false h; have hk : k ≤ 256 := hk; omega
    exact ⟨.tup [], [tabs d m boxes n], ⟨[0], ⟨rfl, rfl, rfl⟩, rfl, rfl, rfl, rfl, fun j hj => eqC_w8 (by simp [hj]), rfl, trivial⟩, rfl, rfl⟩
theorem fn_do (d : BitVec 32) (b : Nat → BitVec 8) (n : Int) (hd : d = 0#32 ∨ d = 1#32 ∧ b = boxes) : Fn Try.prog tds 9 [tabs d 0 b n] [.c (.p 0 0 0), .c (.clo 10 0 0 0)] (fun _ => True) (fun x hs => x = .tup [] ∧ hs = [tabs 1 0 boxes n]) := by
  rcases hd with rfl | ⟨rfl, rfl⟩
  · exact fn_once (by kernel_rfl) (fn_fill 0#32 1 b n)
  · exact fn_once_done
theorem boxes_at (c : BitVec 8) : boxes c.toNat = box c := by unfold boxes; rw [BitVec.ofNat_toNat, BitVec.setWidth_eq]
theorem fn_tbox (d : BitVec 32) (b : Nat → BitVec 8) (n : Int) (c : BitVec 8) (hd : d = 0#32 ∨ d = 1#32 ∧ b = boxes) : Fn Try.prog tds 6 [tabs d 0 b n] [.c (.p 0 0 0), .c (.w8 c)] (fun _ => True) (fun x hs => x = .a (.c (.w8 (box c))) ∧ hs = [tabs 1 0 boxes n]) := by
  refine fn_of_body tds_ok follows_ Try.func6 rfl (t := [.a (.c (.p 0 0 0)), .a (.c (.w8 (c))), .any, .any, .any, .any, .any, .any, .any, .any, .any, .any, .any, .any, .any, .any, .any, .any, .any]) rfl (fun w r0 hr _ => ?_)
  obtain ⟨x0, rfl⟩ := List.length_eq_one_iff.1 hr
  refine ⟨fun h => absurd h (by decide), fun _ => ?_⟩
  refine ⟨by kernel_rfl, call_same (fn_do d b n hd) [0] rfl ⟨rfl, rfl, rfl, trivial⟩ ⟨rfl, rfl, rfl, rfl, fun j hj => ⟨rfl, trivial⟩, rfl, trivial⟩ (fun _ _ => trivial) ?_⟩
  rintro x hs ⟨rfl, rfl⟩
  refine ⟨idx8 _, by have := c.isLt; omega, .a (.c (.w8 (box c))), [tabs 1 0 boxes n], ⟨[0], ⟨rfl, rfl, rfl⟩, boxes_at c, rfl, rfl, rfl, rfl, fun j hj => ⟨rfl, trivial⟩, rfl, trivial⟩, rfl, rfl⟩
theorem fn_shift (b : Nat → BitVec 8) (n : Int) : FnR Try.prog tds 15 1 [tabs 1 0 boxes n] [.c (.p 0 0 0), blk b] (fun _ => True) (fun x hs => x = .a (blk (shiftAt b)) ∧ hs = [tabs 1 0 boxes n]) := by
  refine fn_of_body tds_ok follows_ Try.func15 rfl (t := .a (.c (.p 0 0 0)) :: .a (blk b) :: anys 32) rfl (fun w r0 hr _ => ?_)
  obtain ⟨x0, rfl⟩ := List.length_eq_one_iff.1 hr
  refine ⟨rfl, .inl ⟨Nat, fun k => ⟨[.a (.c (.p 0 0 0)), .any, .any, .a (.c (.p 1 0 0)), .a (.c (.p 2 0 0)), .a (.c (.p 3 0 0)), .any, .any, .any, .a (.c (.int .i64 (↑k))), .any, .any, .any, .any, .any, .any, .any, .any, .any, .any, .any, .any, .any, .any, .any, .any, .any, .any, .any, .any, .any, .any, .any, .any], [tabs 1 0 boxes n, [.row 16 fun i => .w8 (b i)], [.row 16 fun _ => .w8 0], [.row 16 fun i => .w8 (if i < k then shiftAt b i else 0#8)]]⟩, fun k => k ≤ 16, fun k => 16 - k, ⟨0, [0, 1, 2, 3], ⟨⟨rfl, rfl, rfl⟩, ?_⟩, by omega⟩, fun k hk => ⟨fun h => ?_, fun h => ?_⟩⟩⟩
  · exact ⟨rfl, rfl, rfl, rfl, rfl, rfl, rfl, rfl, rfl, fun j hj => ⟨rfl, trivial⟩, rfl, rfl, fun j hj => ⟨rfl, trivial⟩, rfl, fun j hj => ⟨rfl, trivial⟩, rfl, fun j hj => ⟨by simp, trivial⟩, trivial⟩
  · have hlt : (k : Int) < 16 := of_decide_eq_true h
    repeat refine ⟨by omega, ?_⟩
    refine ⟨none, [], [(0, true), (1, true), (2, true), (3, true), (4, true), (5, true), (6, true), (7, true), (8, true), (9, true), (10, true), (11, true), (12, true), (13, true), (14, true), (15, true)], [16], by kernel_rfl, ?_⟩
    repeat first
      | refine ⟨by omega, ?_⟩
      | refine ⟨idx8 _, ?_⟩
      | refine ⟨lt8 (Nat.le_refl _) _, ?_⟩
    refine ⟨rfl, ⟨by omega, by omega⟩, k + 1, [0, 1, 2, 3], ⟨⟨rfl, rfl, rfl⟩, ?_⟩, by dsimp only; omega, by dsimp only; omega⟩
    refine ⟨rfl, rfl, rfl, rfl, rfl, rfl, rfl, rfl, rfl, fun j hj => ⟨rfl, trivial⟩, rfl, rfl, fun j hj => ⟨rfl, trivial⟩, rfl, fun j hj => ⟨rfl, trivial⟩, rfl, fun j hj => eqC_w8 ?_, trivial⟩
    have e0 : (k : Int).toNat + 0 = k := by omega
    have e1 : (4 * (((k : Int) / 4 + (k : Int) % 4) % 4) + (k : Int) % 4).toNat + 0 = 4 * ((k / 4 + k % 4) % 4) + k % 4 := by omega
    have e2 : ∀ x : BitVec 8, ((x.toNat : Int)).toNat + 0 = x.toNat := fun x => by omega
    rw [e0, e1, e2, boxes_at]
    refine (upd_w8 (g := fun i => .w8 (if i < k + 1 then shiftAt b i else 0#8)) ?_ ?_ j).trans rfl
    · simp only [if_pos (show k < k + 1 by omega)]
      rfl
    · intro j hjk
      have : j < k + 1 ↔ j < k := by omega
      simp only [this]
  · obtain rfl : k = 16 := by have : ¬ (k : Int) < 16 := of_decide_eq_false h; have hk : k ≤ 16 := hk; omega
    exact ⟨by omega, rfl, rfl, by omega, .a (blk (shiftAt b)), [tabs 1 0 boxes n], ⟨[0], ⟨rfl, rfl, rfl⟩, rfl, rfl, fun j hj => eqC_w8 (by simp [hj]), rfl, rfl, rfl, rfl, fun j hj => ⟨rfl, trivial⟩, rfl, trivial⟩, rfl, rfl⟩
end Sx
end Go.Proofs.Ytdblbheeefokaaa
end

section
/-
  The program's round keys. No condition.
-/
namespace Go.Proofs.Ytdblbheeefokaaa
set_option linter.unusedVariables false
namespace Sx
open Aes

theorem fn_new : Fn Try.prog tds 5 [] [] (fun _ => True) (fun x hs => x = .a (.c (.p 0 0 0)) ∧ hs = [tabs 0 0 (fun _ => 0#8) 0]) := by
  refine fn_of_body tds_ok follows_ Try.func5 rfl (t := anys 2) rfl (fun w r0 hr _ => ?_)
  obtain rfl : r0 = [] := List.eq_nil_of_length_eq_zero hr
  exact ⟨.a (.c (.p 0 0 0)), [tabs 0 0 (fun _ => 0#8) 0], ⟨[0], ⟨rfl, rfl, rfl⟩, rfl, rfl, rfl, rfl, rfl, fun j hj => ⟨rfl, trivial⟩, rfl, trivial⟩, rfl, rfl⟩
/-- A key: its tables, its round keys. -/
abbrev keyC (K : Nat → BitVec 8) : List Seg := [.one (.p 0 0 0), .row 176 (fun i => .w8 (K i))]
theorem pNow_lo (old : Nat → BitVec 8) (p : BitVec 8) {i : Nat} (h : i < 4) : pNow old p i = if i = 0 then old 0 ^^^ box (old 13) ^^^ p else old i ^^^ box (old (12 + (i + 1) % 4)) := by
  unfold pNow
  rw [show i / 4 = 0 by omega, show i % 4 = i by omega]
  rfl
theorem pNow_hi (old : Nat → BitVec 8) (p : BitVec 8) {i : Nat} (h : 4 ≤ i) : pNow old p i = old i ^^^ pNow old p (i - 4) := by
  unfold pNow
  obtain ⟨c, hc⟩ : ∃ c, i / 4 = c + 1 := ⟨i / 4 - 1, by omega⟩
  rw [hc, show (i - 4) / 4 = c by omega, show (i - 4) % 4 = i % 4 by omega]
  show old (4 * (c + 1) + i % 4) ^^^ _ = _
  rw [show 4 * (c + 1) + i % 4 = i by omega]
theorem pKeyS_lt (key : Nat → BitVec 8) (r : Nat) {i : Nat} (h : i < 16 * (r + 1)) : (pKeyS key (r + 1)).1 i = (pKeyS key r).1 i := by
  simp only [pKeyS]; rw [if_pos h]
theorem pKeyS_ge (key : Nat → BitVec 8) (r : Nat) (i : Nat) : (pKeyS key (r + 1)).1 (16 * (r + 1) + i) = pNow (fun j => (pKeyS key r).1 (16 * r + j)) (pKeyS key r).2 i := by
  simp only [pKeyS]; rw [if_neg (by omega), show 16 * (r + 1) + i - 16 * (r + 1) = i by omega]
set_option maxHeartbeats 2000000 in
theorem fn_key (d : BitVec 32) (b : Nat → BitVec 8) (n : Int) (key : Nat → BitVec 8) (hd : d = 0#32 ∨ d = 1#32 ∧ b = boxes) :
    Fn Try.prog tds 7 [tabs d 0 b n] [.c (.p 0 0 0), blk key] (fun _ => True) (fun x hs => x = .a (.c (.p 1 0 0)) ∧ hs = [tabs 1 0 boxes n, keyC (pKeys key)]) := by
  refine fn_of_body tds_ok follows_ Try.func7 rfl (t := .a (.c (.p 0 0 0)) :: .a (blk key) :: anys 94) rfl (fun w r0 hr _ => ?_)
  obtain ⟨x0, rfl⟩ := List.length_eq_one_iff.1 hr
  refine ⟨rfl, fun h => absurd h (by decide), fun _ => ?_⟩
  refine ⟨by kernel_rfl, call_same (fn_do d b n hd) [0] rfl ⟨rfl, rfl, rfl, trivial⟩ ⟨rfl, rfl, rfl, rfl, fun j hj => ⟨rfl, trivial⟩, rfl, trivial⟩ (fun _ _ => trivial) ?_⟩
  rintro x hs ⟨rfl, rfl⟩
  refine ⟨rfl, rfl, none, [], [(0, true), (1, true), (2, true), (3, true), (4, true)], [5], by kernel_rfl, ?_⟩
  repeat refine ⟨by omega, ?_⟩
  refine ⟨by decide, rfl, .inl ⟨Nat, fun r => ⟨[.a (.c (.p 0 0 0)), .any, .any, .any, .any, .a (.c (.p 1 0 0)), .a (.c (.w8 ((pKeyS key r).2))), .a (.c (.int .i64 (↑(r + 1)))), .any, .any, .any, .any, .any, .any, .any, .any, .any, .any, .any, .any, .any, .any, .any, .any, .any, .any, .any, .any, .any, .any, .any, .any, .any, .any, .any, .any, .any, .any, .any, .any, .any, .any, .any, .any, .any, .any, .any, .any, .any, .any, .any, .any, .any, .any, .any, .any, .any, .any, .any, .any, .any, .any, .any, .any, .any, .any, .any, .any, .any, .any, .any, .any, .any, .any, .any, .any, .any, .any, .any, .any, .any, .any, .any, .any, .any, .any, .any, .any, .any, .any, .any, .any, .any, .any, .any, .any], [tabs 1 0 boxes n, keyC fun i => if i < 16 * (r + 1) then (pKeyS key r).1 i else 0#8]⟩, fun r => r ≤ 10, fun r => 10 - r, ⟨0, [0, 2], ⟨⟨rfl, rfl, rfl⟩, ?_⟩, by omega⟩, fun r hr => ⟨fun h => ?_, fun h => ?_⟩⟩⟩
  · refine ⟨rfl, rfl, rfl, rfl, rfl, rfl, rfl, rfl, fun j hj => ⟨rfl, trivial⟩, rfl, rfl, rfl, fun j hj => eqC_w8 ?_, trivial⟩
    show (if 0 ≤ j ∧ j < 0 + 16 then SC.w8 (key (j - 0 + 0)) else SC.w8 0) = SC.w8 (if j < 16 then key j else 0#8)
    by_cases hj16 : j < 16
    · rw [if_pos ⟨by omega, by omega⟩, if_pos hj16]
      rfl
    · rw [if_neg (by omega), if_neg hj16]
      rfl
  · have hlt : ((r + 1 : Nat) : Int) ≤ 10 := of_decide_eq_true h
    repeat refine ⟨by omega, ?_⟩
    refine ⟨(by omega : (((r + 1 : Nat) : Int) - 1).toNat * 16 + 0 + 16 ≤ 176), rfl, rfl, ⟨by omega, by omega⟩, ?_⟩
    refine .inl ⟨Nat, fun k => ⟨[.a (.c (.p 0 0 0)), .any, .any, .any, .any, .a (.c (.p 1 0 0)), .a (.c (.w8 ((pKeyS key r).2))), .a (.c (.int .i64 (↑(r + 1)))), .a (.c (.p 2 0 0)), .a (.c (.p 1 1 (16 * (r + 1)))), .any, .any, .any, .any, .any, .any, .any, .any, .any, .any, .any, .any, .any, .any, .any, .any, .any, .any, .any, .any, .any, .any, .any, .any, .any, .any, .any, .any, .any, .any, .any, .any, .any, .any, .a (.c (.int .i64 (↑k))), .any, .any, .any, .any, .any, .any, .any, .any, .any, .any, .any, .any, .any, .any, .any, .any, .any, .any, .any, .any, .any, .any, .any, .any, .any, .any, .any, .any, .any, .any, .any, .any, .any, .any, .any, .any, .any, .any, .any, .any, .any, .any, .any, .any, .any, .any, .any, .any, .any, .any, .any], [tabs 1 0 boxes n, keyC fun i => if i < 16 * (r + 1) then (pKeyS key r).1 i else if i < 16 * (r + 1) + k then (pKeyS key r).1 (16 * r + (i - 16 * (r + 1))) ^^^ box ((pKeyS key r).1 (16 * r + (12 + (i - 16 * (r + 1) + 1) % 4))) else 0#8, [.row 16 fun j => .w8 ((pKeyS key r).1 (16 * r + j))]]⟩, fun k => k ≤ 4, fun k => 4 - k, ⟨0, [0, 1, 2], ⟨⟨rfl, rfl, rfl⟩, ?_⟩, by omega⟩, fun k hk => ⟨fun h => ?_, fun h => ?_⟩⟩
    · refine ⟨rfl, rfl, rfl, rfl, rfl, (by omega : ((r + 1 : Nat) : Int).toNat * 16 + 0 = 16 * (r + 1)), rfl, rfl, rfl, rfl, rfl, fun j hj => ⟨rfl, trivial⟩, rfl, rfl, rfl, fun j hj => eqC_w8 (congrArg SC.w8 ?_), rfl, fun j hj => eqC_w8 (congrArg SC.w8 ?_), trivial⟩
      · dsimp only
        by_cases h1 : j < 16 * (r + 1)
        · rw [if_pos h1, if_pos h1]
        · rw [if_neg h1, if_neg h1, if_neg (by omega)]
      · have e : (((r + 1 : Nat) : Int) - 1).toNat * 16 + 0 = 16 * r := by omega
        show (if j + ((((r + 1 : Nat) : Int) - 1).toNat * 16 + 0) < 16 * (r + 1) then (pKeyS key r).1 (j + ((((r + 1 : Nat) : Int) - 1).toNat * 16 + 0)) else 0#8) = _
        rw [e, if_pos (by omega), Nat.add_comm]
    · have hlk : (k : Int) < 4 := of_decide_eq_true h
      refine ⟨none, [], [(0, true), (1, true), (2, true), (3, true), (4, true), (5, true), (6, true), (7, true), (8, true), (9, true), (10, true), (11, true), (12, true), (13, true), (14, true), (15, true), (16, true), (17, true), (18, true)], [19], by kernel_rfl, ?_⟩
      repeat first
        | refine ⟨by omega, ?_⟩
        | refine ⟨idx8 _, ?_⟩
        | refine ⟨lt8 (Nat.le_refl _) _, ?_⟩
      refine ⟨rfl, ⟨by omega, by omega⟩, k + 1, [0, 1, 2], ⟨⟨rfl, rfl, rfl⟩, ?_⟩, by dsimp only; omega, by dsimp only; omega⟩
      refine ⟨rfl, rfl, rfl, rfl, rfl, rfl, rfl, rfl, rfl, rfl, rfl, fun j hj => ⟨rfl, trivial⟩, rfl, rfl, rfl, fun j hj => eqC_w8 ?_, rfl, fun j hj => ⟨rfl, trivial⟩, trivial⟩
      have e0 : (k : Int).toNat + 0 = k := by omega
      have e1 : (12 + ((k : Int) + 1) % 4).toNat + 0 = 12 + (k + 1) % 4 := by omega
      have e2 : ∀ x : BitVec 8, ((x.toNat : Int)).toNat + 0 = x.toNat := fun x => by omega
      have e3 : (k : Int).toNat + 16 * (r + 1) = 16 * (r + 1) + k := by omega
      rw [e0, e1, e2, boxes_at, e3]
      refine (upd_w8 (g := fun i => .w8 (if i < 16 * (r + 1) then (pKeyS key r).1 i else if i < 16 * (r + 1) + (k + 1) then (pKeyS key r).1 (16 * r + (i - 16 * (r + 1))) ^^^ box ((pKeyS key r).1 (16 * r + (12 + (i - 16 * (r + 1) + 1) % 4))) else 0#8)) ?_ ?_ j).trans rfl
      · rw [if_neg (by omega), if_pos (by omega), show 16 * (r + 1) + k - 16 * (r + 1) = k by omega]
      · intro j hjk
        have : j < 16 * (r + 1) + (k + 1) ↔ j < 16 * (r + 1) + k := by omega
        simp only [this]
    · obtain rfl : k = 4 := by have : ¬ (k : Int) < 4 := of_decide_eq_false h; have hk : k ≤ 4 := hk; omega
      refine ⟨none, [], [(0, true), (1, true), (2, true), (3, true), (4, true), (5, true), (6, true), (7, true)], [8], by kernel_rfl, ?_⟩
      repeat refine ⟨by omega, ?_⟩
      refine ⟨rfl, .inl ⟨Nat, fun k => ⟨[.a (.c (.p 0 0 0)), .any, .any, .any, .any, .a (.c (.p 1 0 0)), .a (.c (.w8 ((pKeyS key r).2))), .a (.c (.int .i64 (↑(r + 1)))), .a (.c (.p 2 0 0)), .a (.c (.p 1 1 (16 * (r + 1)))), .any, .a (.c (.int .i64 (↑k))), .any, .any, .any, .any, .any, .any, .any, .any, .any, .any, .any, .any, .any, .any, .any, .any, .any, .any, .any, .any, .any, .any, .any, .any, .any, .any, .any, .any, .any, .any, .any, .any, .any, .any, .any, .any, .any, .any, .any, .any, .any, .any, .any, .any, .any, .any, .any, .any, .any, .any, .any, .any, .any, .any, .any, .any, .any, .any, .any, .any, .any, .any, .any, .any, .any, .any, .any, .any, .any, .any, .any, .any, .any, .any, .any, .any, .any, .any, .any, .any, .any, .any, .any, .any], [tabs 1 0 boxes n, keyC fun i => if i < 16 * (r + 1) + k then (pKeyS key (r + 1)).1 i else 0#8, [.row 16 fun j => .w8 ((pKeyS key r).1 (16 * r + j))]]⟩, fun k => 4 ≤ k ∧ k ≤ 16, fun k => 16 - k, ⟨4, [0, 1, 2], ⟨⟨rfl, rfl, rfl⟩, ?_⟩, by omega, by omega⟩, fun k hk => ⟨fun h => ?_, fun h => ?_⟩⟩⟩
      · refine ⟨rfl, rfl, rfl, rfl, rfl, rfl, rfl, rfl, rfl, rfl, rfl, fun j hj => ⟨rfl, trivial⟩, rfl, rfl, rfl, fun j hj => eqC_w8 ?_, rfl, fun j hj => ⟨rfl, trivial⟩, trivial⟩
        have e0 : Int.toNat 0 + 16 * (r + 1) = 16 * (r + 1) := Nat.zero_add _
        rw [e0]
        refine (upd_w8 (g := fun i => .w8 (if i < 16 * (r + 1) + 4 then (pKeyS key (r + 1)).1 i else 0#8)) ?_ ?_ j).trans rfl
        · refine congrArg SC.w8 ?_
          dsimp only
          rw [if_neg (by omega), if_pos (by omega), if_pos (by omega)]
          have e := pKeyS_ge key r 0
          rw [pNow_lo _ _ (by omega), if_pos rfl] at e
          rw [Nat.sub_self]
          exact e.symm
        · intro j hj
          refine congrArg SC.w8 ?_
          dsimp only
          by_cases h1 : j < 16 * (r + 1)
          · rw [if_pos h1, if_pos (by omega), pKeyS_lt key r h1]
          · rw [if_neg h1]
            by_cases h2 : j < 16 * (r + 1) + 4
            · rw [if_pos h2, if_pos h2]
              obtain ⟨i, rfl⟩ : ∃ i, j = 16 * (r + 1) + i := ⟨j - 16 * (r + 1), by omega⟩
              rw [pKeyS_ge key r i, pNow_lo _ _ (by omega), if_neg (by omega), show 16 * (r + 1) + i - 16 * (r + 1) = i by omega]
            · rw [if_neg h2, if_neg h2]
      · have hlk : (k : Int) < 16 := of_decide_eq_true h
        obtain ⟨hk4, hk16⟩ := hk
        refine ⟨none, [], [(0, true), (1, true), (2, true), (3, true), (4, true), (5, true), (6, true), (7, true), (8, true), (9, true), (10, true), (11, true), (12, true), (13, true)], [14], by kernel_rfl, ?_⟩
        repeat refine ⟨by omega, ?_⟩
        refine ⟨rfl, ⟨by omega, by omega⟩, k + 1, [0, 1, 2], ⟨⟨rfl, rfl, rfl⟩, ?_⟩, by omega, by dsimp only; omega⟩
        refine ⟨rfl, rfl, rfl, rfl, rfl, rfl, rfl, rfl, rfl, rfl, rfl, fun j hj => ⟨rfl, trivial⟩, rfl, rfl, rfl, fun j hj => eqC_w8 ?_, rfl, fun j hj => ⟨rfl, trivial⟩, trivial⟩
        have e0 : (k : Int).toNat + 0 = k := by omega
        have e1 : (k : Int).toNat + 16 * (r + 1) = 16 * (r + 1) + k := by omega
        have e2 : ((k : Int) - 4).toNat + 16 * (r + 1) = 16 * (r + 1) + (k - 4) := by omega
        rw [e0, e1, e2]
        refine (upd_w8 (g := fun i => .w8 (if i < 16 * (r + 1) + (k + 1) then (pKeyS key (r + 1)).1 i else 0#8)) ?_ ?_ j).trans rfl
        · refine congrArg SC.w8 ?_
          dsimp only
          rw [if_pos (by omega), if_pos (by omega), pKeyS_ge key r k, pKeyS_ge key r (k - 4), pNow_hi _ _ hk4]
        · intro j hjk
          have : j < 16 * (r + 1) + (k + 1) ↔ j < 16 * (r + 1) + k := by omega
          simp only [this]
      · obtain rfl : k = 16 := by have : ¬ (k : Int) < 16 := of_decide_eq_false h; omega
        refine ⟨by kernel_rfl, call_same (fn_times _ _) [] rfl ⟨rfl, rfl, trivial⟩ trivial (fun _ _ => trivial) ?_⟩
        rintro x hs ⟨rfl, rfl⟩
        refine ⟨⟨by omega, by omega⟩, r + 1, [0, 1], ⟨⟨rfl, rfl, rfl⟩, rfl, rfl, rfl, rfl, rfl, rfl, rfl, rfl, fun j hj => ⟨rfl, trivial⟩, rfl, rfl, rfl, fun j hj => eqC_w8 ?_, trivial⟩, by dsimp only; omega, by dsimp only; omega⟩
        rfl
  · obtain rfl : r = 10 := by have : ¬ ((r + 1 : Nat) : Int) ≤ 10 := of_decide_eq_false h; have hr : r ≤ 10 := hr; omega
    exact ⟨.a (.c (.p 1 0 0)), [tabs 1 0 boxes n, keyC (pKeys key)], ⟨[0, 1], ⟨rfl, rfl, rfl⟩, rfl, rfl, rfl, rfl, rfl, fun j hj => ⟨rfl, trivial⟩, rfl, rfl, rfl, fun j hj => eqC_w8 (congrArg SC.w8 (if_pos hj)), trivial⟩, rfl, rfl⟩
end Sx
end Go.Proofs.Ytdblbheeefokaaa
end

section
/-
  The program's block, turned by a key. No condition.
-/
namespace Go.Proofs.Ytdblbheeefokaaa
set_option linter.unusedVariables false
namespace Sx
open Aes

theorem put_count (n : Int) : Put [.one (.int .i64 (n + 1))] (tabs 1 0 boxes n) (tabs 1 0 boxes (n + 1)) 259 := by
  obtain ⟨l', e, hp, _⟩ := putS_spec (new := [.one (.int .i64 (n + 1))]) (l := tabs 1 0 boxes n) (b := 259) (o := 0) (k := fun l' => l' = tabs 1 0 boxes (n + 1)) rfl
  subst e
  exact hp
theorem tabs_count (d : BitVec 32) (m : Int) (b : Nat → BitVec 8) (n : Int) : (flat (tabs d m b n))[259]? = some (.int .i64 n) := by
  have e : flat (tabs d m b n) = .w32 d :: .int .i32 m :: .w32 0 :: ((List.range 256).map (fun i => SC.w8 (b i)) ++ [.int .i64 n]) := rfl
  rw [e, show 259 = 256 + 1 + 1 + 1 from rfl, List.getElem?_cons_succ, List.getElem?_cons_succ, List.getElem?_cons_succ, List.getElem?_append_right (by simp)]
  simp
theorem fn_turn (n : Int) (key b : Nat → BitVec 8) (hn : -9223372036854775808 ≤ n + 1 ∧ n + 1 ≤ 9223372036854775807) :
    Fn Try.prog tds 8 [tabs 1 0 boxes n, keyC (pKeys key)] [.c (.p 1 0 0), blk b] (fun _ => True) (fun x hs => x = .a (blk (pTurn key b)) ∧ hs = [tabs 1 0 boxes (n + 1), keyC (pKeys key)]) := by
  refine fn_of_body tds_ok follows_ Try.func8 rfl (t := .a (.c (.p 1 0 0)) :: .a (blk b) :: anys 58) rfl (fun w r0 hr _ => ?_)
  obtain ⟨x0, x1, rfl⟩ := len2' hr
  refine ⟨rfl, ?_⟩
  repeat first
    | refine ⟨fun _ => ?_, fun h => absurd h (by decide)⟩
    | refine ⟨fun h => absurd h (by decide), fun _ => ?_⟩
  refine ⟨by kernel_rfl, call_same (fn_i64_add (tabs_count _ _ _ n) (by simp) (put_count n) rfl hn) [0] rfl ⟨rfl, rfl, trivial⟩ ⟨rfl, rfl, rfl, rfl, fun j hj => ⟨rfl, trivial⟩, rfl, trivial⟩ (fun _ _ => trivial) ?_⟩
  rintro x hs ⟨rfl, rfl⟩
  refine ⟨none, [], [(0, true), (1, true), (2, true), (3, true), (4, true), (5, true), (6, false)], [7], by kernel_rfl, ?_⟩
  repeat refine ⟨by omega, ?_⟩
  refine ⟨by decide, ?_⟩
  refine ⟨by kernel_rfl, call_same (fn_sum b (fun j => pKeys key (j + 0))) [] rfl ⟨rfl, rfl, fun j hj => ⟨rfl, trivial⟩, rfl, rfl, fun j hj => ⟨rfl, trivial⟩, trivial⟩ trivial (fun _ _ => trivial) ?_⟩
  rintro x hs ⟨rfl, rfl⟩
  refine ⟨rfl, rfl, .inl ⟨Nat, fun r => ⟨[.a (.c (.p 1 0 0)), .any, .any, .a (.c (.p 2 0 0)), .a (.c (.p 3 0 0)), .a (.c (.int .i64 (↑(r + 1)))), .any, .any, .any, .any, .any, .any, .any, .any, .any, .any, .any, .any, .any, .any, .any, .any, .any, .any, .any, .any, .any, .any, .any, .any, .any, .any, .any, .any, .any, .any, .any, .any, .any, .any, .any, .any, .any, .any, .any, .any, .any, .any, .any, .any, .any, .any, .any, .any, .any, .any, .any, .any, .any, .any], [tabs 1 0 boxes (n + 1), keyC (pKeys key), [.row 16 fun i => .w8 (pTurnS key b r i)], [.row 16 fun _ => .w8 0]]⟩, fun r => r ≤ 9, fun r => 9 - r, ⟨0, [0, 1, 2, 3], ⟨⟨rfl, rfl, rfl⟩, ?_⟩, by omega⟩, fun r hr => ⟨fun h => ?_, fun h => ?_⟩⟩⟩
  · (repeat first | exact trivial | refine ⟨rfl, ?_⟩ | refine ⟨fun _ _ => ⟨rfl, trivial⟩, ?_⟩ | refine ⟨by omega, ?_⟩)
  · have hlt : ((r + 1 : Nat) : Int) < 10 := of_decide_eq_true h
    refine ⟨none, [], [(0, true), (1, true), (2, true), (3, true), (4, true), (7, true), (8, true), (9, true), (10, true), (11, true), (12, true), (5, false), (6, false), (13, false)], [14], by kernel_rfl, ?_⟩
    repeat refine ⟨by omega, ?_⟩
    refine ⟨(by omega : ((r + 1 : Nat) : Int).toNat * 16 + 0 + 16 ≤ 176), ?_⟩
    refine ⟨by kernel_rfl, call_same (fn_shift (pTurnS key b r) (n + 1)) [0] rfl ⟨rfl, rfl, rfl, fun j hj => ⟨rfl, trivial⟩, trivial⟩ (by (repeat first | exact trivial | refine ⟨rfl, ?_⟩ | refine ⟨fun _ _ => ⟨rfl, trivial⟩, ?_⟩ | refine ⟨by omega, ?_⟩)) (fun _ _ => trivial) ?_⟩
    rintro x hs ⟨rfl, rfl⟩
    refine ⟨by kernel_rfl, call_same (fn_mix _) [] rfl ⟨rfl, rfl, fun j hj => ⟨rfl, trivial⟩, trivial⟩ trivial (fun _ _ => trivial) ?_⟩
    rintro x hs ⟨rfl, rfl⟩
    refine ⟨by kernel_rfl, call_same (fn_sum _ (fun j => pKeys key (j + (((r + 1 : Nat) : Int).toNat * 16 + 0)))) [] rfl ⟨rfl, rfl, fun j hj => ⟨rfl, trivial⟩, rfl, rfl, fun j hj => ⟨rfl, trivial⟩, trivial⟩ trivial (fun _ _ => trivial) ?_⟩
    rintro x hs ⟨rfl, rfl⟩
    refine ⟨rfl, rfl, ⟨by omega, by omega⟩, r + 1, [0, 1, 2, 3], ⟨⟨rfl, rfl, rfl⟩, ?_⟩, by dsimp only; omega, by dsimp only; omega⟩
    (repeat first | exact trivial | refine ⟨rfl, ?_⟩ | refine ⟨fun _ _ => ⟨rfl, trivial⟩, ?_⟩ | refine ⟨by omega, ?_⟩)
    refine ⟨fun j hj => eqC_w8 (congrArg SC.w8 ?_), ?_⟩
    · show mixAt (shiftAt (pTurnS key b r)) j ^^^ pKeys key (j + (((r + 1 : Nat) : Int).toNat * 16 + 0)) = mixAt (shiftAt (pTurnS key b r)) j ^^^ pKeys key (16 * (r + 1) + j)
      rw [show j + (((r + 1 : Nat) : Int).toNat * 16 + 0) = 16 * (r + 1) + j by omega]
    · (repeat first | exact trivial | refine ⟨rfl, ?_⟩ | refine ⟨fun _ _ => ⟨rfl, trivial⟩, ?_⟩ | refine ⟨by omega, ?_⟩)
  · obtain rfl : r = 9 := by have : ¬ ((r + 1 : Nat) : Int) < 10 := of_decide_eq_false h; have hr : r ≤ 9 := hr; omega
    refine ⟨none, [], [(0, true), (1, true), (2, true), (3, true), (4, true), (6, true), (7, true), (8, true), (9, true), (10, true), (5, false), (11, false)], [12], by kernel_rfl, ?_⟩
    (repeat first | refine ⟨by omega, ?_⟩ | refine ⟨by decide, ?_⟩ | refine ⟨idx8 _, ?_⟩ | refine ⟨lt8 (Nat.le_refl _) _, ?_⟩)
    refine ⟨by kernel_rfl, call_same (fn_shift (pTurnS key b 9) (n + 1)) [0] rfl ⟨rfl, rfl, rfl, fun j hj => ⟨rfl, trivial⟩, trivial⟩ (by (repeat first | exact trivial | refine ⟨rfl, ?_⟩ | refine ⟨fun _ _ => ⟨rfl, trivial⟩, ?_⟩ | refine ⟨by omega, ?_⟩)) (fun _ _ => trivial) ?_⟩
    rintro x hs ⟨rfl, rfl⟩
    refine ⟨by kernel_rfl, call_same (fn_sum _ (fun j => pKeys key (j + 160))) [] rfl ⟨rfl, rfl, fun j hj => ⟨rfl, trivial⟩, rfl, rfl, fun j hj => ⟨rfl, trivial⟩, trivial⟩ trivial (fun _ _ => trivial) ?_⟩
    rintro x hs ⟨rfl, rfl⟩
    refine ⟨rfl, rfl, by omega, .a (blk (pTurn key b)), [tabs 1 0 boxes (n + 1), keyC (pKeys key)], ⟨[0, 1], ⟨rfl, rfl, rfl⟩, ?_⟩, rfl, rfl⟩
    (repeat first | exact trivial | refine ⟨rfl, ?_⟩ | refine ⟨fun _ _ => ⟨rfl, trivial⟩, ?_⟩ | refine ⟨by omega, ?_⟩)
    refine ⟨fun j hj => eqC_w8 (congrArg SC.w8 ?_), ?_⟩
    · show shiftAt (pTurnS key b 9) j ^^^ pKeys key (j + 160) = shiftAt (pTurnS key b 9) j ^^^ pKeys key (160 + j)
      rw [Nat.add_comm]
    · (repeat first | exact trivial | refine ⟨rfl, ?_⟩ | refine ⟨fun _ _ => ⟨rfl, trivial⟩, ?_⟩ | refine ⟨by omega, ?_⟩)
end Sx
end Go.Proofs.Ytdblbheeefokaaa
end

section
/-
  The field of 256: the program's way and the document's are one; round keys and blocks too. Plain. No condition.
-/
namespace Go.Proofs.Ytdblbheeefokaaa
set_option linter.unusedVariables false
namespace Aes

theorem all8 {P : BitVec 8 → Prop} (h : ∀ k, k < 256 → P (BitVec.ofNat 8 k)) (x : BitVec 8) : P x := by
  have := h x.toNat x.isLt
  rwa [BitVec.ofNat_toNat, BitVec.setWidth_eq] at this
/-! The document's product. -/
/-! Inverses. -/
/-! Columns. -/
theorem mixAt_congr {s t : Nat → BitVec 8} (h : ∀ i, i < 16 → s i = t i) (i : Nat) (hi : i < 16) : mixAt s i = mixAt t i := by
  unfold mixAt
  rw [h i hi, h _ (by omega), h _ (by omega), h _ (by omega)]
theorem shiftAt_congr {s t : Nat → BitVec 8} (h : ∀ i, i < 16 → s i = t i) (i : Nat) (hi : i < 16) : shiftAt s i = shiftAt t i := by
  unfold shiftAt
  rw [h _ (by omega)]
/-! Round keys. -/
section
variable {B : Nat → BitVec 8} (hB : ∀ x : BitVec 8, B x.toNat = box x) (key : Nat → BitVec 8)
include hB
end
end Aes
end Go.Proofs.Ytdblbheeefokaaa
end

section
/-
  A key and a block whose turned block is known: the model's answer. Plain. No condition.
-/
namespace Go.Proofs.Ytdblbheeefokaaa
set_option linter.unusedVariables false
namespace Aes

def ofL (l : List Nat) (i : Nat) : BitVec 8 := BitVec.ofNat 8 (l.getD i 0)
theorem pW_congr {s t : Nat → BitVec 8} (p : BitVec 8) (h : ∀ i, i < 16 → s i = t i) {j : Nat} (hj : j < 4) : ∀ c, c < 4 → pW s p c j = pW t p c j
  | 0, _ => by simp only [pW]; rw [h 0 (by omega), h 13 (by omega), h j (by omega), h (12 + (j + 1) % 4) (by omega)]
  | c + 1, hc => by simp only [pW]; rw [pW_congr p h hj c (by omega), h _ (by omega)]
theorem pNow_congr {s t : Nat → BitVec 8} (p : BitVec 8) (h : ∀ i, i < 16 → s i = t i) {i : Nat} (hi : i < 16) : pNow s p i = pNow t p i :=
  pW_congr p h (by omega) _ (by omega)
def KeyAt (K : Nat → BitVec 8) (r : Nat) (l : List Nat) (p : BitVec 8) : Prop := (∀ j, j < 16 → (pKeyS K r).1 (16 * r + j) = ofL l j) ∧ (pKeyS K r).2 = p
theorem key_next {K : Nat → BitVec 8} {r : Nat} {l l' : List Nat} {p p' : BitVec 8} (h : KeyAt K r l p) (e : ∀ j, j < 16 → pNow (ofL l) p j = ofL l' j) (ep : times p 2#8 = p') : KeyAt K (r + 1) l' p' := by
  obtain ⟨h1, h2⟩ := h
  refine ⟨fun j hj => ?_, ?_⟩
  · simp only [pKeyS]
    rw [if_neg (by omega), h2, show 16 * (r + 1) + j - 16 * (r + 1) = j by omega, pNow_congr p h1 hj, e j hj]
  · simp only [pKeyS]
    rw [h2, ep]
theorem pKeyS_up (K : Nat → BitVec 8) (r i : Nat) (hi : i < 16 * (r + 1)) : ∀ n, (pKeyS K (r + n)).1 i = (pKeyS K r).1 i
  | 0 => rfl
  | n + 1 => by
    rw [← Nat.add_assoc]
    simp only [pKeyS]
    rw [if_pos (by omega), pKeyS_up K r i hi n]
theorem KeyAt.key {K : Nat → BitVec 8} {r : Nat} {l : List Nat} {p : BitVec 8} (h : KeyAt K r l p) (hr : r ≤ 10) (j : Nat) (hj : j < 16) : pKeys K (16 * r + j) = ofL l j := by
  have := pKeyS_up K r (16 * r + j) (by omega) (10 - r)
  rw [show r + (10 - r) = 10 by omega] at this
  unfold pKeys
  rw [this, h.1 j hj]
def TurnAt (K b : Nat → BitVec 8) (r : Nat) (l : List Nat) : Prop := ∀ i, i < 16 → pTurnS K b r i = ofL l i
theorem turn_next {K b : Nat → BitVec 8} {r : Nat} {l l' k : List Nat} {p : BitVec 8} (h : TurnAt K b r l) (hk : KeyAt K (r + 1) k p) (hr : r + 1 ≤ 10) (e : ∀ i, i < 16 → mixAt (shiftAt (ofL l)) i ^^^ ofL k i = ofL l' i) : TurnAt K b (r + 1) l' := by
  intro i hi
  simp only [pTurnS]
  rw [hk.key hr i hi, mixAt_congr (shiftAt_congr h) i hi, e i hi]
def awK (i : Nat) : BitVec 8 := BitVec.ofInt 8 (i : Int)
def awB (i : Nat) : BitVec 8 := BitVec.ofInt 8 ((i : Int) * 17)
theorem aw_k0 : KeyAt awK 0 [0, 1, 2, 3, 4, 5, 6, 7, 8, 9, 10, 11, 12, 13, 14, 15] 1#8 := ⟨by decide +kernel, rfl⟩
theorem aw_k1 : KeyAt awK 1 [214, 170, 116, 253, 210, 175, 114, 250, 218, 166, 120, 241, 214, 171, 118, 254] 2#8 := key_next aw_k0 (by decide +kernel) (by decide +kernel)
theorem aw_k2 : KeyAt awK 2 [182, 146, 207, 11, 100, 61, 189, 241, 190, 155, 197, 0, 104, 48, 179, 254] 4#8 := key_next aw_k1 (by decide +kernel) (by decide +kernel)
theorem aw_k3 : KeyAt awK 3 [182, 255, 116, 78, 210, 194, 201, 191, 108, 89, 12, 191, 4, 105, 191, 65] 8#8 := key_next aw_k2 (by decide +kernel) (by decide +kernel)
theorem aw_k4 : KeyAt awK 4 [71, 247, 247, 188, 149, 53, 62, 3, 249, 108, 50, 188, 253, 5, 141, 253] 16#8 := key_next aw_k3 (by decide +kernel) (by decide +kernel)
theorem aw_k5 : KeyAt awK 5 [60, 170, 163, 232, 169, 159, 157, 235, 80, 243, 175, 87, 173, 246, 34, 170] 32#8 := key_next aw_k4 (by decide +kernel) (by decide +kernel)
theorem aw_k6 : KeyAt awK 6 [94, 57, 15, 125, 247, 166, 146, 150, 167, 85, 61, 193, 10, 163, 31, 107] 64#8 := key_next aw_k5 (by decide +kernel) (by decide +kernel)
theorem aw_k7 : KeyAt awK 7 [20, 249, 112, 26, 227, 95, 226, 140, 68, 10, 223, 77, 78, 169, 192, 38] 128#8 := key_next aw_k6 (by decide +kernel) (by decide +kernel)
theorem aw_k8 : KeyAt awK 8 [71, 67, 135, 53, 164, 28, 101, 185, 224, 22, 186, 244, 174, 191, 122, 210] 27#8 := key_next aw_k7 (by decide +kernel) (by decide +kernel)
theorem aw_k9 : KeyAt awK 9 [84, 153, 50, 209, 240, 133, 87, 104, 16, 147, 237, 156, 190, 44, 151, 78] 54#8 := key_next aw_k8 (by decide +kernel) (by decide +kernel)
theorem aw_k10 : KeyAt awK 10 [19, 17, 29, 127, 227, 148, 74, 23, 243, 7, 167, 139, 77, 43, 48, 197] 108#8 := key_next aw_k9 (by decide +kernel) (by decide +kernel)
theorem aw_s0 : TurnAt awK awB 0 [0, 16, 32, 48, 64, 80, 96, 112, 128, 144, 160, 176, 192, 208, 224, 240] := fun i hi => by
  show awB i ^^^ pKeys awK i = _
  have := aw_k0.key (by omega) i hi
  rw [show 16 * 0 + i = i by omega] at this
  rw [this]
  exact (by decide +kernel : ∀ i, i < 16 → awB i ^^^ ofL [0, 1, 2, 3, 4, 5, 6, 7, 8, 9, 10, 11, 12, 13, 14, 15] i = ofL [0, 16, 32, 48, 64, 80, 96, 112, 128, 144, 160, 176, 192, 208, 224, 240] i) i hi
theorem aw_s1 : TurnAt awK awB 1 [137, 216, 16, 232, 133, 90, 206, 104, 45, 24, 67, 216, 203, 18, 143, 228] := turn_next aw_s0 aw_k1 (by omega) (by decide +kernel)
theorem aw_s2 : TurnAt awK awB 2 [73, 21, 89, 143, 85, 229, 215, 160, 218, 202, 148, 250, 31, 10, 99, 247] := turn_next aw_s1 aw_k2 (by omega) (by decide +kernel)
theorem aw_s3 : TurnAt awK awB 3 [250, 99, 106, 40, 37, 179, 57, 201, 64, 102, 138, 49, 87, 36, 77, 23] := turn_next aw_s2 aw_k3 (by omega) (by decide +kernel)
theorem aw_s4 : TurnAt awK awB 4 [36, 114, 64, 35, 105, 102, 179, 250, 110, 210, 117, 50, 136, 66, 91, 108] := turn_next aw_s3 aw_k4 (by omega) (by decide +kernel)
theorem aw_s5 : TurnAt awK awB 5 [200, 22, 119, 188, 155, 122, 201, 59, 37, 2, 121, 146, 176, 38, 25, 150] := turn_next aw_s4 aw_k5 (by omega) (by decide +kernel)
theorem aw_s6 : TurnAt awK awB 6 [198, 47, 225, 9, 247, 94, 237, 195, 204, 121, 57, 93, 132, 249, 207, 93] := turn_next aw_s5 aw_k6 (by omega) (by decide +kernel)
theorem aw_s7 : TurnAt awK awB 7 [209, 135, 108, 15, 121, 196, 48, 10, 180, 85, 148, 173, 214, 111, 244, 31] := turn_next aw_s6 aw_k7 (by omega) (by decide +kernel)
theorem aw_s8 : TurnAt awK awB 8 [253, 227, 186, 210, 5, 229, 208, 215, 53, 71, 150, 78, 241, 254, 55, 241] := turn_next aw_s7 aw_k8 (by omega) (by decide +kernel)
theorem aw_s9 : TurnAt awK awB 9 [189, 110, 124, 61, 242, 181, 119, 158, 11, 97, 33, 110, 139, 16, 182, 137] := turn_next aw_s8 aw_k9 (by omega) (by decide +kernel)
theorem aw_turn (i : Nat) (hi : i < 16) : pTurn awK awB i = ofL [105, 196, 224, 216, 106, 123, 4, 48, 216, 205, 183, 128, 112, 180, 197, 90] i := by
  unfold pTurn
  have := aw_k10.key (by omega) i hi
  rw [show 160 + i = 16 * 10 + i by omega, this, shiftAt_congr aw_s9 i hi]
  exact (by decide +kernel : ∀ i, i < 16 → shiftAt (ofL [189, 110, 124, 61, 242, 181, 119, 158, 11, 97, 33, 110, 139, 16, 182, 137]) i ^^^ ofL [19, 17, 29, 127, 227, 148, 74, 23, 243, 7, 167, 139, 77, 43, 48, 197] i = ofL [105, 196, 224, 216, 106, 123, 4, 48, 216, 205, 183, 128, 112, 180, 197, 90] i) i hi
end Aes
end Go.Proofs.Ytdblbheeefokaaa
end

section
/-
  The law's fixed fact. No condition.
-/
namespace Go.Proofs.Ytdblbheeefokaaa
set_option linter.unusedVariables false
namespace Sx
open Aes

theorem fn_awake : Fn Try.prog tds 4 [] [] (fun _ => True) (fun x hs => x = .a (.c (.bool true)) ∧ hs = []) := by
  refine fn_of_body tds_ok follows_ Try.func4 rfl (t := anys 36) rfl (fun w r0 hr _ => ?_)
  obtain rfl : r0 = [] := List.eq_nil_of_length_eq_zero hr
  refine .inl ⟨Nat, fun k => ⟨[.any, .a (.c (.p 0 0 0)), .a (.c (.p 1 0 0)), .any, .any, .a (.c (.int .i64 (↑k))), .any, .any, .any, .any, .any, .any, .any, .any, .any, .any, .any, .any, .any, .any, .any, .any, .any, .any, .any, .any, .any, .any, .any, .any, .any, .any, .any, .any, .any, .any], [[.row 16 fun i => .w8 (if i < k then awK i else 0#8)], [.row 16 fun i => .w8 (if i < k then awB i else 0#8)]]⟩, fun k => k ≤ 16, fun k => 16 - k, ⟨0, [0, 1], ⟨⟨rfl, rfl, rfl⟩, ?_⟩, by omega⟩, fun k hk => ⟨fun h => ?_, fun h => ?_⟩⟩
  · (repeat first | exact trivial | refine ⟨rfl, ?_⟩ | refine ⟨fun _ _ => ⟨rfl, trivial⟩, ?_⟩ | refine ⟨by omega, ?_⟩)
  · have hlt : (k : Int) < 16 := of_decide_eq_true h
    (repeat first | refine ⟨by omega, ?_⟩ | refine ⟨by decide, ?_⟩ | refine ⟨idx8 _, ?_⟩ | refine ⟨lt8 (Nat.le_refl _) _, ?_⟩)
    refine ⟨rfl, ?_⟩
    (repeat first | refine ⟨by omega, ?_⟩ | refine ⟨by decide, ?_⟩ | refine ⟨idx8 _, ?_⟩ | refine ⟨lt8 (Nat.le_refl _) _, ?_⟩)
    have e0 : (k : Int).toNat + 0 = k := by omega
    refine ⟨rfl, ⟨by omega, by omega⟩, k + 1, [0, 1], ⟨⟨rfl, rfl, rfl⟩, ?_⟩, by dsimp only; omega, by dsimp only; omega⟩
    (repeat first | exact trivial | refine ⟨rfl, ?_⟩ | refine ⟨fun _ _ => ⟨rfl, trivial⟩, ?_⟩ | refine ⟨by omega, ?_⟩)
    refine ⟨fun j hj => eqC_w8 ?_, rfl, fun j hj => eqC_w8 ?_, trivial⟩
    all_goals
      rw [e0]
      refine (upd_w8 (k := k) (g := fun i => .w8 (if i < k + 1 then _ else 0#8)) ?_ ?_ j).trans rfl
      · simp only [if_pos (show k < k + 1 by omega)]
        rfl
      · intro j hjk
        have : j < k + 1 ↔ j < k := by omega
        simp only [this]
  · obtain rfl : k = 16 := by have : ¬ (k : Int) < 16 := of_decide_eq_false h; have hk : k ≤ 16 := hk; omega
    refine ⟨some [0,1], [5], [(1, true), (3, true), (0, false), (2, false), (4, false), (5, false)], [6], by kernel_rfl, ?_⟩
    (repeat first | refine ⟨by omega, ?_⟩ | refine ⟨by decide, ?_⟩ | refine ⟨idx8 _, ?_⟩ | refine ⟨lt8 (Nat.le_refl _) _, ?_⟩)
    refine ⟨by kernel_rfl, call_same fn_new [] rfl trivial trivial (fun _ _ => trivial) ?_⟩
    rintro x hs ⟨rfl, rfl⟩
    refine ⟨by kernel_rfl, call_same (fn_key 0 (fun _ => 0#8) 0 awK (.inl rfl)) [2] rfl ⟨rfl, rfl, rfl, fun j hj => eqC_w8 (congrArg SC.w8 (if_pos hj)), trivial⟩ (by (repeat first | exact trivial | refine ⟨rfl, ?_⟩ | refine ⟨fun _ _ => ⟨rfl, trivial⟩, ?_⟩ | refine ⟨by omega, ?_⟩)) (fun _ _ => trivial) ?_⟩
    rintro x hs ⟨rfl, rfl⟩
    refine ⟨by kernel_rfl, call_same (fn_turn 0 awK awB (by omega)) [2, 3] rfl ⟨rfl, rfl, rfl, fun j hj => eqC_w8 (congrArg SC.w8 (if_pos hj)), trivial⟩ (by (repeat first | exact trivial | refine ⟨rfl, ?_⟩ | refine ⟨fun _ _ => ⟨rfl, trivial⟩, ?_⟩ | refine ⟨by omega, ?_⟩)) (fun _ _ => trivial) ?_⟩
    rintro x hs ⟨rfl, rfl⟩
    refine ⟨rfl, rfl, ?_⟩
    (repeat first | refine ⟨by omega, ?_⟩ | refine ⟨by decide, ?_⟩ | refine ⟨idx8 _, ?_⟩ | refine ⟨lt8 (Nat.le_refl _) _, ?_⟩)
    refine ⟨fun _ => ?_, fun h => absurd (aw_turn 0 (by omega)) (of_decide_eq_false h)⟩
    (repeat first | refine ⟨by omega, ?_⟩ | refine ⟨by decide, ?_⟩ | refine ⟨idx8 _, ?_⟩ | refine ⟨lt8 (Nat.le_refl _) _, ?_⟩)
    refine ⟨fun _ => ?_, fun h => absurd (aw_turn 0 (by omega)) (of_decide_eq_false h)⟩
    (repeat first | refine ⟨by omega, ?_⟩ | refine ⟨by decide, ?_⟩ | refine ⟨idx8 _, ?_⟩ | refine ⟨lt8 (Nat.le_refl _) _, ?_⟩)
    refine ⟨fun _ => ?_, fun h => absurd (aw_turn 0 (by omega)) (of_decide_eq_false h)⟩
    refine ⟨fun _ => ?_, fun h => absurd (aw_turn 0 (by omega)) (of_decide_eq_false h)⟩
    refine ⟨fun _ => ?_, fun h => absurd (aw_turn 1 (by omega)) (of_decide_eq_false h)⟩
    (repeat first | refine ⟨by omega, ?_⟩ | refine ⟨by decide, ?_⟩ | refine ⟨idx8 _, ?_⟩ | refine ⟨lt8 (Nat.le_refl _) _, ?_⟩)
    refine ⟨fun _ => ?_, fun h => absurd (aw_turn 1 (by omega)) (of_decide_eq_false h)⟩
    (repeat first | refine ⟨by omega, ?_⟩ | refine ⟨by decide, ?_⟩ | refine ⟨idx8 _, ?_⟩ | refine ⟨lt8 (Nat.le_refl _) _, ?_⟩)
    refine ⟨fun _ => ?_, fun h => absurd (aw_turn 1 (by omega)) (of_decide_eq_false h)⟩
    refine ⟨fun _ => ?_, fun h => absurd (aw_turn 1 (by omega)) (of_decide_eq_false h)⟩
    exact ⟨.a (.c (.bool true)), [], ⟨[], ⟨rfl, rfl, rfl⟩, decide_eq_true (aw_turn 15 (by omega)), trivial⟩, rfl, rfl⟩
end Sx
end Go.Proofs.Ytdblbheeefokaaa
end

section
/-
  Unlike blocks stay unlike under one key. Plain. No condition.
-/
namespace Go.Proofs.Ytdblbheeefokaaa
set_option linter.unusedVariables false
namespace Aes

theorem unbox : ∀ x : BitVec 8, ofL [82, 9, 106, 213, 48, 54, 165, 56, 191, 64, 163, 158, 129, 243, 215, 251, 124, 227, 57, 130, 155, 47, 255, 135, 52, 142, 67, 68, 196, 222, 233, 203, 84, 123, 148, 50, 166, 194, 35, 61, 238, 76, 149, 11, 66, 250, 195, 78, 8, 46, 161, 102, 40, 217, 36, 178, 118, 91, 162, 73, 109, 139, 209, 37, 114, 248, 246, 100, 134, 104, 152, 22, 212, 164, 92, 204, 93, 101, 182, 146, 108, 112, 72, 80, 253, 237, 185, 218, 94, 21, 70, 87, 167, 141, 157, 132, 144, 216, 171, 0, 140, 188, 211, 10, 247, 228, 88, 5, 184, 179, 69, 6, 208, 44, 30, 143, 202, 63, 15, 2, 193, 175, 189, 3, 1, 19, 138, 107, 58, 145, 17, 65, 79, 103, 220, 234, 151, 242, 207, 206, 240, 180, 230, 115, 150, 172, 116, 34, 231, 173, 53, 133, 226, 249, 55, 232, 28, 117, 223, 110, 71, 241, 26, 113, 29, 41, 197, 137, 111, 183, 98, 14, 170, 24, 190, 27, 252, 86, 62, 75, 198, 210, 121, 32, 154, 219, 192, 254, 120, 205, 90, 244, 31, 221, 168, 51, 136, 7, 199, 49, 177, 18, 16, 89, 39, 128, 236, 95, 96, 81, 127, 169, 25, 181, 74, 13, 45, 229, 122, 159, 147, 201, 156, 239, 160, 224, 59, 77, 174, 42, 245, 176, 200, 235, 187, 60, 131, 83, 153, 97, 23, 43, 4, 126, 186, 119, 214, 38, 225, 105, 20, 99, 85, 33, 12, 125] (box x).toNat = x := all8 (by decide +kernel)
theorem box_inj {x y : BitVec 8} (h : box x = box y) : x = y := by rw [← unbox x, ← unbox y, h]
theorem box_ne : ∀ x : BitVec 8, box x ≠ x := all8 (by decide +kernel)
end Aes
end Go.Proofs.Ytdblbheeefokaaa
end

section
/-
  binnacle/binnaclelaw05.AesBoxes: each byte is exchanged for another one, none for itself, no two for one. No condition.
-/
namespace Go.Proofs.Ytdblbheeefokaaa
set_option linter.unusedVariables false
namespace Aes
open Sx
theorem look_put {x k : BitVec 8} {v : Bool} : ∀ {l : List (BitVec 8 × Bool)}, lookK x false (putK k v l) = if x = k then v else lookK x false l
  | [] => by simp [putK, lookK]
  | y :: l => by
    simp only [putK]
    by_cases h : k = y.1
    · rw [if_pos h]
      simp only [lookK]
      by_cases hx : x = k
      · rw [if_pos hx, if_pos hx]
      · rw [if_neg hx, if_neg hx, if_neg (fun e => hx (e.trans h.symm))]
    · rw [if_neg h]
      simp only [lookK]
      by_cases hx : x = y.1
      · rw [if_pos hx, if_pos hx, if_neg (fun e => h (e.symm.trans hx))]
      · rw [if_neg hx, if_neg hx, look_put]
/-- What was seen: boxes of the numbers below. -/
def SeenB (k : Nat) (l : List (BitVec 8 × Bool)) : Prop := ∀ x, lookK x false l = true → ∃ j, j < k ∧ x = box (BitVec.ofNat 8 j)
theorem seen_new {k : Nat} {l : List (BitVec 8 × Bool)} (h : SeenB k l) (hk : k < 256) : lookK (box (BitVec.ofNat 8 k)) false l = false := by
  cases e : lookK (box (BitVec.ofNat 8 k)) false l with
  | false => rfl
  | true =>
    obtain ⟨j, hj, hb⟩ := h _ e
    have := congrArg BitVec.toNat (box_inj hb)
    simp only [BitVec.toNat_ofNat] at this
    omega
theorem seen_put {k : Nat} {l : List (BitVec 8 × Bool)} (h : SeenB k l) : SeenB (k + 1) (putK (box (BitVec.ofNat 8 k)) true l) := by
  intro x hx
  rw [look_put] at hx
  by_cases e : x = box (BitVec.ofNat 8 k)
  · exact ⟨k, by omega, e⟩
  · rw [if_neg e] at hx
    obtain ⟨j, hj, hb⟩ := h x hx
    exact ⟨j, by omega, hb⟩
theorem box_zero : box 0#8 = 99#8 := by decide +kernel
end Aes
namespace Sx
open Aes

theorem fn_aesBoxes (a : BitVec 8) : Fn Try.prog tds 3 [] [.c (.w8 a)] (fun _ => True) (fun x hs => x = .a (.c (.bool true)) ∧ hs = []) := by
  refine fn_of_body tds_ok follows_ Try.func3 rfl (t := .a (.c (.w8 a)) :: anys (Try.f3.ntmps - 1)) rfl (fun w r0 hr _ => ?_)
  obtain rfl : r0 = [] := List.eq_nil_of_length_eq_zero hr
  refine ⟨by kernel_rfl, call_same fn_awake [] rfl trivial trivial (fun _ _ => trivial) ?_⟩
  rintro x hs ⟨rfl, rfl⟩
  refine ⟨fun h => absurd h (by decide), fun _ => ?_⟩
  refine ⟨by kernel_rfl, call_same fn_new [] rfl trivial trivial (fun _ _ => trivial) ?_⟩
  rintro x hs ⟨rfl, rfl⟩
  (repeat first | refine And.intro (by omega) ?_ | refine And.intro (by decide) ?_ | refine And.intro rfl ?_ | refine And.intro (fun _ => ?_) (fun h => Bool.noConfusion h) | refine And.intro (fun h => Bool.noConfusion h) (fun _ => ?_))
  refine .inl ⟨Nat × BitVec 32 × (Nat → BitVec 8) × List (BitVec 8 × Bool), fun x => ⟨[.a (.c (.w8 (a))), .any, .any, .a (.c (.p 0 0 0)), .a (.c (.mh 1)), .any, .any, .any, .any, .any, .any, .a (.c (.int .i64 (↑x.1))), .any, .any, .any, .any, .any, .any, .any, .any, .any, .any, .any, .any, .any, .any, .any, .any, .any, .any, .any, .any, .any, .any, .any, .any, .any, .any, .any, .any, .any, .any], [tabs x.2.1 0 x.2.2.1 0, [.obj (.w8b x.2.2.2)]]⟩,
    fun x => x.1 ≤ 256 ∧ (x.2.1 = 0#32 ∨ x.2.1 = 1#32 ∧ x.2.2.1 = boxes) ∧ SeenB x.1 x.2.2.2, fun x => 256 - x.1, ⟨(0, 0#32, fun _ => 0#8, []), [0, 1], ⟨⟨rfl, rfl, rfl⟩, ?_⟩, by omega, .inl rfl, fun x hx => Bool.noConfusion hx⟩, fun x hx => ?_⟩
  · (repeat first | exact trivial | refine ent1 ?_)
  obtain ⟨k, d, b, l⟩ := x
  obtain ⟨hk, hd, hl⟩ := hx
  dsimp only at hk hd hl ⊢
  refine ⟨fun h => ?_, fun h => ?_⟩
  · have hlt : k < 256 := by have : (k : Int) < 256 := of_decide_eq_true h; omega
    refine ⟨by kernel_rfl, call_same (fn_tbox d b 0 (BitVec.ofInt 8 (k : Int)) hd) [0] rfl ⟨rfl, rfl, trivial⟩ (by (repeat first | exact trivial | refine ⟨rfl, ?_⟩ | refine ⟨fun _ _ => ⟨rfl, trivial⟩, ?_⟩ | refine ⟨by omega, ?_⟩)) (fun _ _ => trivial) ?_⟩
    rintro x hs ⟨rfl, rfl⟩
    have e0 : BitVec.ofInt 8 (k : Int) = BitVec.ofNat 8 k := by rw [ofIntN]
    rw [e0]
    have e1 : lookK (box (BitVec.ofNat 8 k)) false l = false := seen_new hl hlt
    have e2 : decide (box (BitVec.ofNat 8 k) = BitVec.ofInt 8 (k : Int)) = false := decide_eq_false (by rw [e0]; exact box_ne _)
    (repeat first | refine And.intro (by omega) ?_ | refine And.intro (by decide) ?_ | refine And.intro rfl ?_ | refine And.intro (fun _ => ?_) (fun h => Bool.noConfusion h) | refine And.intro (fun h => Bool.noConfusion h) (fun _ => ?_) | refine And.intro (fun _ => ?_) (fun h => absurd h (by rw [e1]; decide)) | refine And.intro (fun h => absurd h (by rw [e1]; decide)) (fun _ => ?_) | refine And.intro (fun _ => ?_) (fun h => absurd h (by rw [e2]; decide)) | refine And.intro (fun h => absurd h (by rw [e2]; decide)) (fun _ => ?_))
    refine ⟨(k + 1, 1#32, boxes, putK (box (BitVec.ofNat 8 k)) true l), [0, 1], ⟨⟨rfl, rfl, rfl⟩, ?_⟩, ⟨by dsimp only; omega, .inr ⟨rfl, rfl⟩, seen_put hl⟩, by dsimp only; omega⟩
    (repeat first | exact trivial | refine ent1 ?_)
  · obtain rfl : k = 256 := by have : ¬ (k : Int) < 256 := of_decide_eq_false h; omega
    refine ⟨by kernel_rfl, call_same (fn_tbox d b 0 a hd) [0] rfl ⟨rfl, rfl, trivial⟩ (by (repeat first | exact trivial | refine ⟨rfl, ?_⟩ | refine ⟨fun _ _ => ⟨rfl, trivial⟩, ?_⟩ | refine ⟨by omega, ?_⟩)) (fun _ _ => trivial) ?_⟩
    rintro x hs ⟨rfl, rfl⟩
    refine ⟨by kernel_rfl, call_same fn_new [] rfl trivial trivial (fun _ _ => trivial) ?_⟩
    rintro x hs ⟨rfl, rfl⟩
    refine ⟨by kernel_rfl, call_same (fn_tbox 0 (fun _ => 0#8) 0 a (.inl rfl)) [2] rfl ⟨rfl, rfl, trivial⟩ (by (repeat first | exact trivial | refine ⟨rfl, ?_⟩ | refine ⟨fun _ _ => ⟨rfl, trivial⟩, ?_⟩ | refine ⟨by omega, ?_⟩)) (fun _ _ => trivial) ?_⟩
    rintro x hs ⟨rfl, rfl⟩
    have e1 : decide (box a = box a) = true := decide_eq_true rfl
    (repeat first | refine And.intro (by omega) ?_ | refine And.intro (by decide) ?_ | refine And.intro rfl ?_ | refine And.intro (fun _ => ?_) (fun h => Bool.noConfusion h) | refine And.intro (fun h => Bool.noConfusion h) (fun _ => ?_) | refine And.intro (fun _ => ?_) (fun h => absurd h (by rw [e1]; decide)) | refine And.intro (fun h => absurd h (by rw [e1]; decide)) (fun _ => ?_))
    refine call_same (fn_tbox 1 boxes 0 0#8 (.inr ⟨rfl, rfl⟩)) [0] rfl ⟨rfl, rfl, trivial⟩ (by (repeat first | exact trivial | refine ⟨rfl, ?_⟩ | refine ⟨fun _ _ => ⟨rfl, trivial⟩, ?_⟩ | refine ⟨by omega, ?_⟩)) (fun _ _ => trivial) ?_
    rintro x hs ⟨rfl, rfl⟩
    have e2 : decide (box 0#8 = 99#8) = true := decide_eq_true box_zero
    (repeat first | refine And.intro (by omega) ?_ | refine And.intro (by decide) ?_ | refine And.intro rfl ?_ | refine And.intro (fun _ => ?_) (fun h => Bool.noConfusion h) | refine And.intro (fun h => Bool.noConfusion h) (fun _ => ?_) | refine And.intro (fun _ => ?_) (fun h => absurd h (by rw [e1]; decide)) | refine And.intro (fun h => absurd h (by rw [e1]; decide)) (fun _ => ?_) | refine And.intro (fun _ => ?_) (fun h => absurd h (by rw [e2]; decide)) | refine And.intro (fun h => absurd h (by rw [e2]; decide)) (fun _ => ?_))
    exact ⟨.a (.c (.bool true)), [], ⟨[], ⟨rfl, rfl, rfl⟩, e2, trivial⟩, rfl, rfl⟩
end Sx
end Go.Proofs.Ytdblbheeefokaaa
end

section
/-
  From a function over blocks to a law's walk: arguments opened. Over any program. No condition of its own.
-/
namespace Go.Proofs.Ytdblbheeefokaaa
set_option linter.unusedVariables false
namespace Sx
open Go.RowKit Go.ChangeShapes Go.WideShapes

section
variable {H : Type} {enc : TypeId × Value → H} {P : Program} {w : World} {base : Nat} {sp : Nat → Bool} {held : Bool}
theorem wf_w8 {a : Int} (h : (Lit.int .u8 a).wf = true) : a = ((BitVec.ofInt 8 a).toNat : Int) := by
  have := bounds_u8 h
  rw [BitVec.toNat_ofInt]
  omega
end
theorem isAs_nil (r : Rho) : IsAs r [] [] := ⟨rfl, fun j x e => by simp at e⟩
theorem isAs_cons {r : Rho} {x : SA} {v : Value} {l : List SA} {vs : List Value} (h : SA.Is r x v) (hs : IsAs r l vs) : IsAs r (x :: l) (v :: vs) :=
  ⟨by simpa using hs.1, fun j y e => by
    cases j with
    | zero => simp at e; subst e; exact ⟨v, rfl, h⟩
    | succ j => exact hs.2 j y e⟩
/-- A law's walk. -/
theorem Fn.law {P : Program} {T : List (Nat × TD)} {f : FuncId} {args : List SA} {raw : World → Prop} (h : Fn P T f [] args raw (fun x hs => x = .a (.c (.bool true)) ∧ hs = [])) {w : World} {vs : List Value} (ha : IsAs [] args vs) (hr : raw w) :
    Calls P f vs.toArray w fun e w' => e = .returned (.bool true) ∧ Below w.heap.size w w' := by
  refine (Fn.calls h ha hr).mono ?_
  rintro e w' ⟨v, x, hs, r', rfl, hx, hok, rfl, rfl⟩
  obtain rfl : v = .bool true := hx
  exact ⟨rfl, hok.ext.below0⟩
end Sx
end Go.Proofs.Ytdblbheeefokaaa
end
