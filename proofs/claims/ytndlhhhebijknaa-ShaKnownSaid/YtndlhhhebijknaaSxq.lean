/-
  Functions by their bodies; calls by what the callee keeps to. Over any program. No condition of its own.
-/
import Derived.Test.YtndlhhhebijknaaSxp
namespace Go.Proofs.Ytndlhhhebijknaa
set_option linter.unusedVariables false
namespace Sx
open Go.RowKit

section
variable {C : Cx}
/-- A value and the blocks behind it, said in other words. -/
def Fin (C : Cx) (v : SV) (h : List (List Seg)) (x : SV) (hs : List (List Seg)) : Prop := ∃ q, Ent C q ⟨[v], h⟩ ⟨[x], hs⟩
theorem Fin.ok {v x : SV} {h hs : List (List Seg)} (f : Fin C v h x hs) {r : Rho} {w : World} {u : Value} (hu : v.Is r u) (ok : HeapOk C h r w) : ∃ r', x.Is r' u ∧ HeapOk C hs r' w := by
  obtain ⟨q, e⟩ := f
  have ok1 : Ok C ⟨[v], h⟩ r { tmps := #[u], defers := [] } w := ⟨ok, rfl, fun d y e => by
    cases d with
    | zero => simp at e; subst e; exact hu
    | succ d => simp at e, rfl⟩
  obtain ⟨r', ok2⟩ := e.ok ok1
  exact ⟨r', ok2.slots 0 x rfl, ok2.heap⟩
end
/-- What stands fast for a function that is handed the blocks h0, of which it may not turn the first n. -/
abbrev cx0 (P : Program) (T : List (Nat × TD)) (w : World) (r0 : Rho) (n : Nat) (h0 : List (List Seg)) : Cx := ⟨P, T, w, (r0.drop n).map (·.1), r0, n, fun i => flat (getH h0 i) ≠ []⟩
/-- What a function keeps to: the blocks h0 that it is handed (the first n are only read), its arguments, what the world must bear; what it returns and leaves. -/
def FnR (P : Program) (T : List (Nat × TD)) (f : FuncId) (n : Nat) (h0 : List (List Seg)) (args : List SA) (raw : World → Prop) (Res : SV → List (List Seg) → Prop) : Prop :=
  ∀ (w : World) (r0 : Rho) (vs : List Value), HeapOk (cx0 P T w r0 n h0) h0 r0 w → IsAs r0 args vs → raw w → Calls P f vs.toArray w fun e w' =>
    ∃ v x hs r', e = .returned v ∧ SV.Is r' x v ∧ HeapOk (cx0 P T w r0 n h0) hs r' w' ∧ Res x hs
abbrev Fn (P : Program) (T : List (Nat × TD)) (f : FuncId) (h0 : List (List Seg)) (args : List SA) (raw : World → Prop) (Res : SV → List (List Seg) → Prop) : Prop := FnR P T f 0 h0 args raw Res
def anys : Nat → List SV
  | 0 => []
  | n + 1 => .any :: anys n
theorem anys_len : ∀ n, (anys n).length = n
  | 0 => rfl
  | n + 1 => by simp [anys, anys_len n]
theorem anys_get : ∀ (n d : Nat) (x : SV), (anys n)[d]? = some x → x = .any
  | 0, _, _, e => by simp [anys] at e
  | n + 1, 0, _, e => by simp [anys] at e; exact e.symm
  | n + 1, d + 1, x, e => anys_get n d x (by simpa [anys] using e)
theorem fn_of_body {P : Program} {T : List (Nat × TD)} (hT : AllT P T) (hm : P.follows .mixedOrders = true) {f : FuncId} {fn : Func} {c : Code} (hf : P.funcs[f]? = some fn) (hb : fn.body = some c) {n : Nat} {h0 : List (List Seg)} {args : List SA} {raw : World → Prop} {Res : SV → List (List Seg) → Prop}
    {t : List SV} (ht : t = args.map SV.a ++ anys (fn.ntmps - args.length))
    (h : ∀ (w : World) (r0 : Rho), r0.length = h0.length → raw w → Body (cx0 P T w r0 n h0) fn c ⟨t, h0⟩ fun v h' => ∃ x hs, Fin (cx0 P T w r0 n h0) v h' x hs ∧ Res x hs) : FnR P T f n h0 args raw Res := by
  intro w r0 vs ok ha hraw
  subst ht
  have hlen : vs.toArray.size = args.length := by rw [ha.1]; simp
  refine calls_of_body (C := cx0 P T w r0 n h0) hT hm hf hb (s := ⟨args.map SV.a ++ anys (fn.ntmps - args.length), h0⟩) (r := r0) ⟨ok, ?_, fun d x e => ?_, rfl⟩ (h w r0 ok.len hraw) ?_
  · simp [anys_len, ha.1]
  · by_cases hd : d < args.length
    · rw [List.getElem?_append_left (by simpa using hd), List.getElem?_map] at e
      obtain ⟨y, hy, rfl⟩ := Option.map_eq_some_iff.1 e
      obtain ⟨u, hu, hi⟩ := ha.2 d y hy
      have : (vs.toArray ++ Array.replicate (fn.ntmps - vs.toArray.size) undef).getD d undef = u := by
        rw [Array.getD_eq_getD_getElem?, Array.getElem?_append_left (by rw [hlen]; exact hd)]
        simp [hu]
      rw [this]
      exact hi
    · rw [List.getElem?_append_right (by simpa using Nat.le_of_not_lt hd)] at e
      rw [anys_get _ _ _ e]
      trivial
  · rintro v y h' r' w' ⟨x, hs, hf, hr⟩ hy hok
    obtain ⟨r'', hx, hok'⟩ := hf.ok hy hok
    exact ⟨v, x, hs, r'', rfl, hx, hok', hr⟩

/-! Back at the caller's. -/
def bk (N : Nat) : List Nat → Nat → Nat
  | [], j => N + j
  | x :: _, 0 => x
  | _ :: q, j + 1 => bk N q j
def SC.mp (g : Nat → Nat) : SC → SC
  | .p i b o => .p (g i) b o
  | .sl i b o n c => .sl (g i) b o n c
  | .clo f i b o => .clo f (g i) b o
  | .sn z i b o n c => .sn z (g i) b o n c
  | x => x
def Seg.mp (g : Nat → Nat) : Seg → Seg
  | .one x => .one (x.mp g)
  | .row n f => .row n (fun j => (f j).mp g)
def mpL (g : Nat → Nat) : List Seg → List Seg
  | [] => []
  | x :: r => x.mp g :: mpL g r
def SA.mp (g : Nat → Nat) : SA → SA
  | .c x => .c (x.mp g)
  | .agg l => .agg (mpL g l)
def SV.mp (g : Nat → Nat) : SV → SV
  | .any => .any
  | .a x => .a (x.mp g)
  | .tup l => .tup (l.map (SA.mp g))
theorem flat_mp (g : Nat → Nat) : ∀ l : List Seg, flat (mpL g l) = (flat l).map (SC.mp g)
  | [] => rfl
  | .one x :: r => by simp [mpL, Seg.mp, flat, flat_mp g r]
  | .row n f :: r => by simp [mpL, Seg.mp, flat, flat_mp g r, Function.comp_def]
section
variable {g : Nat → Nat} {r' R : Rho}
theorem SC.Is.mp (hg : ∀ (i : Nat) (x : Nat × Nat), r'[i]? = some x → R[g i]? = some x) {x : SC} {v : Value} (h : x.Is r' v) : (x.mp g).Is R v := by
  cases x <;> first
    | exact h
    | (obtain ⟨B, f, e, rfl⟩ := h; exact ⟨B, f, hg _ _ e, rfl⟩)
    | (rcases h with ⟨h1, h2⟩ | ⟨h1, B, f, e, h2⟩; exact .inl ⟨h1, h2⟩; exact .inr ⟨h1, B, f, hg _ _ e, h2⟩)
theorem SA.Is.mp (hg : ∀ (i : Nat) (x : Nat × Nat), r'[i]? = some x → R[g i]? = some x) {x : SA} {v : Value} (h : x.Is r' v) : (x.mp g).Is R v := by
  cases x with
  | c x => exact SC.Is.mp hg (x := x) h
  | agg l =>
    obtain ⟨vs, e, h1, h2⟩ := h
    refine ⟨vs, e, by rw [flat_mp]; simpa using h1, fun j y e' => ?_⟩
    rw [flat_mp, List.getElem?_map, Option.map_eq_some_iff] at e'
    obtain ⟨z, hz, rfl⟩ := e'
    obtain ⟨u, e1, e2⟩ := h2 j z hz
    exact ⟨u, e1, e2.mp hg⟩
theorem SV.Is.mp (hg : ∀ (i : Nat) (x : Nat × Nat), r'[i]? = some x → R[g i]? = some x) {x : SV} {v : Value} (h : x.Is r' v) : (x.mp g).Is R v := by
  cases x with
  | any => trivial
  | a x => exact SA.Is.mp hg (x := x) h
  | tup l =>
    obtain ⟨vs, e, h1, h2⟩ := h
    refine ⟨vs, e, by simpa using h1, fun j y e' => ?_⟩
    rw [List.getElem?_map, Option.map_eq_some_iff] at e'
    obtain ⟨z, hz, rfl⟩ := e'
    obtain ⟨u, e1, e2⟩ := h2 j z hz
    exact ⟨u, e1, e2.mp hg⟩
theorem At.mp (hg : ∀ (i : Nat) (x : Nat × Nat), r'[i]? = some x → R[g i]? = some x) {w : World} {B off : Nat} {l : List Seg} {z : Bool} (h : At z r' w B off (flat l)) : At z R w B off (flat (mpL g l)) := by
  intro j y e
  rw [flat_mp, List.getElem?_map, Option.map_eq_some_iff] at e
  obtain ⟨z, hz, rfl⟩ := e
  obtain ⟨v, e1, e2, e3⟩ := h j z hz
  exact ⟨v, e1, e2.mp hg, e3⟩
end
/-- The caller's blocks behind the call. -/
def back (g : Nat → Nat) : List Nat → List (List Seg) → List (List Seg) → List (List Seg)
  | [], hs, h => h ++ hs.map (mpL g)
  | i :: q, c :: hs, h => back g q hs (h.set i (mpL g c))
  | _ :: _, [], h => h
theorem mpL_nil {g : Nat → Nat} {l : List Seg} (h : mpL g l = []) : l = [] := by cases l <;> first | rfl | cases h
theorem back_get (g : Nat → Nat) : ∀ (q : List Nat) (hs h : List (List Seg)), q.Nodup → (∀ i ∈ q, i < h.length) → q.length ≤ hs.length →
    (back g q hs h).length = h.length + (hs.length - q.length) ∧
    (∀ (k i : Nat), q[k]? = some i → (back g q hs h)[i]? = (hs[k]?).map (mpL g)) ∧
    (∀ (j : Nat), j < h.length → j ∉ q → (back g q hs h)[j]? = h[j]?) ∧
    (∀ (j : Nat), (back g q hs h)[h.length + j]? = (hs[q.length + j]?).map (mpL g))
  | [], hs, h, _, _, _ => ⟨by simp [back], fun k i e => by simp at e, fun j hj _ => by simp [back, List.getElem?_append_left hj], fun j => by simp only [back]; rw [List.getElem?_append_right (by omega), List.getElem?_map]; simp⟩
  | i :: q, c :: hs, h, hn, hq, hl => by
    obtain ⟨h1, h2⟩ := List.nodup_cons.1 hn
    obtain ⟨b1, b2, b3, b4⟩ := back_get g q hs (h.set i (mpL g c)) h2 (fun j hj => by simpa using hq j (by simp [hj])) (by simpa using hl)
    simp only [List.length_set] at b1 b3 b4
    refine ⟨by simp only [back, b1, List.length_cons]; omega, fun k j e => ?_, fun j hj hnj => ?_, fun j => ?_⟩
    · cases k with
      | zero =>
        simp at e
        subst e
        simp only [back, List.getElem?_cons_zero, Option.map_some]
        rw [b3 i (hq i (by simp)) h1]
        simp [hq i (by simp)]
      | succ k => simpa [back] using b2 k j (by simpa using e)
    · simp only [List.mem_cons, not_or] at hnj
      simp only [back]
      rw [b3 j hj hnj.2, List.getElem?_set_ne (Ne.symm hnj.1)]
    · simp only [back, b4, List.length_cons]
      congr 1
      rw [show q.length + 1 + j = (q.length + j) + 1 by omega]; rfl
  | _ :: _, [], _, _, _, hl => by simp at hl
theorem bk_get (N : Nat) : ∀ (q : List Nat) (k : Nat), (∀ i, q[k]? = some i → bk N q k = i) ∧ (q.length ≤ k → bk N q k = N + (k - q.length))
  | [], k => ⟨fun i e => by simp at e, fun _ => by simp [bk]⟩
  | x :: q, 0 => ⟨fun i e => by simp at e; simp [bk, e], fun h => by simp at h⟩
  | x :: q, k + 1 => ⟨fun i e => by simpa [bk] using (bk_get N q k).1 i (by simpa using e), fun h => by simp only [bk]; rw [(bk_get N q k).2 (by simpa using h)]; simp⟩
theorem HeapOk.back {C : Cx} {h hs : List (List Seg)} {r r' : Rho} {w w' : World} (ok : HeapOk C h r w) {q : List Nat} {n : Nat} (hnq : n ≤ q.length) (hn : (q.drop n).Nodup) (hq : ∀ i ∈ q, i < h.length) (hne : ∀ i ∈ q.drop n, getH h i ≠ []) (hwr : ∀ i ∈ q.drop n, C.ro ≤ i) {lv : Nat → Prop}
    (ok' : HeapOk ⟨C.P, C.T, w, ((rn q r).drop n).map (·.1), rn q r, n, lv⟩ hs r' w') :
    let R := r ++ r'.drop q.length
    let g := bk h.length q
    HeapOk C (Sx.back g (q.drop n) (hs.drop n) h) R w' ∧ RLe r R ∧ (∀ (i : Nat) (x : Nat × Nat), r'[i]? = some x → R[g i]? = some x) ∧ (q.drop n = [] → Ext [] w w') := by
  intro R g
  have hlen : r.length = h.length := ok.len
  have hlen' : r'.length = hs.length := ok'.len
  have hqr : ∀ i ∈ q, i < r.length := fun i hi => by rw [hlen]; exact hq i hi
  have hqs : ∀ i ∈ q.drop n, i ∈ q := fun i hi => List.mem_of_mem_drop hi
  have hpre : ∀ (k j : Nat), q[k]? = some j → r'[k]? = r[j]? := fun k j e => by
    have hj := hqr j (List.mem_of_getElem? e)
    have e1 := rn_get hqr e
    rw [List.getElem?_eq_getElem hj] at e1 ⊢
    exact ok'.agree k _ e1
  have hql : q.length ≤ r'.length := by
    rcases Nat.lt_or_ge r'.length q.length with hlt | h
    · have e1 := hpre r'.length q[r'.length] (List.getElem?_eq_getElem hlt)
      rw [List.getElem?_eq_none (Nat.le_refl _), List.getElem?_eq_getElem (hqr _ (List.getElem_mem _))] at e1
      cases e1
    · exact h
  obtain ⟨b1, b2, b3, b4⟩ := back_get g (q.drop n) (hs.drop n) h hn (fun i hi => hq i (hqs i hi)) (by simp only [List.length_drop]; omega)
  have hR1 : ∀ j, j < r.length → R[j]? = r[j]? := fun j hj => List.getElem?_append_left hj
  have hR2 : ∀ j, R[r.length + j]? = r'[q.length + j]? := fun j => by
    rw [List.getElem?_append_right (by omega), List.getElem?_drop]; congr 1; omega
  have hg : ∀ (i : Nat) (x : Nat × Nat), r'[i]? = some x → R[g i]? = some x := by
    intro i x e
    by_cases hi : i < q.length
    · have e1 := List.getElem?_eq_getElem hi
      rw [show g i = q[i] from (bk_get h.length q i).1 _ e1, hR1 _ (hqr _ (List.getElem_mem _)), ← hpre i _ e1]
      exact e
    · rw [show g i = h.length + (i - q.length) from (bk_get h.length q i).2 (by omega), ← hlen, hR2, show q.length + (i - q.length) = i by omega]
      exact e
  -- the callee's blocks that it may turn
  have hm' : ∀ B, B ∈ ((rn q r).drop n).map (·.1) → ∃ i, i ∈ q.drop n ∧ ∃ f, r[i]? = some (B, f) := by
    intro B hB
    obtain ⟨k, f, hk, e⟩ := mem_drop.1 hB
    cases hqk : q[k]? with
    | none => simp [rn, hqk] at e
    | some j =>
      rw [rn_get hqr hqk] at e
      exact ⟨j, List.mem_of_getElem? (i := k - n) (by rw [List.getElem?_drop, show n + (k - n) = k by omega]; exact hqk), f, e⟩
  have hext : Ext C.m C.w0 w' := ok.ext.trans2 ok'.ext (fun B hB => by
    obtain ⟨i, hi, f, e⟩ := hm' B hB
    exact ok.own i B f (hwr i hi) e)
  -- a block of the new list: an old one that was not handed over, or one of the callee's
  have cases_ : ∀ (j B f : Nat) (c : List Seg), (Sx.back g (q.drop n) (hs.drop n) h)[j]? = some c → R[j]? = some (B, f) → (j < h.length ∧ j ∉ q.drop n ∧ h[j]? = some c ∧ r[j]? = some (B, f)) ∨ (∃ k c', n ≤ k ∧ g k = j ∧ hs[k]? = some c' ∧ c = mpL g c' ∧ r'[k]? = some (B, f)) := by
    intro j B f c hc hr
    by_cases hj : j < h.length
    · by_cases hjq : j ∈ q.drop n
      · obtain ⟨k, hk, rfl⟩ := List.mem_iff_getElem.1 hjq
        have e1 := List.getElem?_eq_getElem hk
        rw [b2 k _ e1, Option.map_eq_some_iff] at hc
        obtain ⟨c', hc', rfl⟩ := hc
        rw [List.getElem?_drop] at hc' e1
        rw [hR1 _ (hqr _ (hqs _ hjq)), ← hpre (n + k) _ e1] at hr
        exact .inr ⟨n + k, c', by omega, (bk_get h.length q (n + k)).1 _ e1, hc', rfl, hr⟩
      · rw [b3 j hj hjq] at hc
        rw [hR1 j (by omega)] at hr
        exact .inl ⟨hj, hjq, hc, hr⟩
    · obtain ⟨d, rfl⟩ : ∃ d, j = h.length + d := ⟨j - h.length, by omega⟩
      rw [b4, Option.map_eq_some_iff] at hc
      obtain ⟨c', hc', rfl⟩ := hc
      rw [List.getElem?_drop, List.length_drop, show n + (q.length - n + d) = q.length + d by omega] at hc'
      rw [← hlen, hR2] at hr
      exact .inr ⟨q.length + d, c', by omega, by rw [show g (q.length + d) = h.length + (q.length + d - q.length) from (bk_get h.length q _).2 (by omega)]; omega, hc', rfl, hr⟩
  -- where the callee's blocks lie
  have where_ : ∀ (k B f : Nat), n ≤ k → r'[k]? = some (B, f) → (∃ i, i ∈ q.drop n ∧ ∃ f', r[i]? = some (B, f')) ∨ w.heap.size ≤ B := by
    intro k B f hk e
    rcases ok'.own k B f hk e with hm | hm
    · exact .inl (hm' B hm)
    · exact .inr hm
  have hhi : ∀ i ∈ q.drop n, h[i]? = some (getH h i) := fun i hi => by rw [getH_eq, List.getElem?_eq_getElem (hq i (hqs i hi))]; rfl
  -- an old block that was not handed over has nothing of the callee's
  have old : ∀ (j B f : Nat) (c : List Seg), j ∉ q.drop n → h[j]? = some c → r[j]? = some (B, f) → flat c ≠ [] → B ∉ ((rn q r).drop n).map (·.1) := by
    intro j B f c hjq hc hr hf hm
    obtain ⟨i, hi, f', e⟩ := hm' B hm
    exact hf (ok.sep (fun e => hjq (by rw [e]; exact hi)) (hwr i hi) hc (hhi i hi) hr e (hne i hi))
  have old2 : ∀ (j B f : Nat) (c : List Seg), C.ro ≤ j → j ∉ q.drop n → h[j]? = some c → r[j]? = some (B, f) → c = [] ∨ ((∀ i ∈ q.drop n, ∀ f', r[i]? ≠ some (B, f')) ∧ B < w.heap.size) := by
    intro j B f c ho hjq hc hr
    by_cases hex : ∃ i, i ∈ q.drop n ∧ ∃ f', r[i]? = some (B, f')
    · obtain ⟨i, hi, f', hf'⟩ := hex
      rcases ok.apart j i B f f' c _ (fun e => hjq (by rw [e]; exact hi)) ho (hwr i hi) hc (hhi i hi) hr hf' with h1 | h1
      · exact .inl h1
      · exact absurd h1 (hne i hi)
    · exact .inr ⟨fun i hi f' e => hex ⟨i, hi, f', e⟩, ok.lt j B f ho hr⟩
  have hrl := ok.rlen
  have hrl2 := ok.rol
  refine ⟨⟨hext, fun i x e => ?_, ok.rol, ?_, fun j c B f hc hr => ?_, fun j B f ho hr => ?_, fun j B f ho hr => ?_, fun j B f ho hl hr => ?_, fun j c ho hl hc => ?_, fun i j B f f' c c' hij o1 o2 hi hj hri hrj => ?_⟩, fun i x e => ?_, hg, fun e => ?_⟩
  · have e1 := ok.agree i x e
    have hi : i < r.length := by
      rcases Nat.lt_or_ge i r.length with h | h
      · exact h
      · rw [List.getElem?_eq_none h] at e1; cases e1
    rw [hR1 i hi]; exact e1
  · rw [b1]; simp [R, hlen]; omega
  · rcases cases_ j B f c hc hr with ⟨h1, h2, h3, h4⟩ | ⟨k, c', hkn, hk, h3, rfl, h4⟩
    · refine ((ok.chunks j c B f h3 h4).mono ?_).extm ok'.ext (fun hl => old j B f c h2 h3 h4 hl)
      intro i x e
      have hi : i < r.length := by
        rcases Nat.lt_or_ge i r.length with h | h
        · exact h
        · rw [List.getElem?_eq_none h] at e; cases e
      rw [hR1 i hi]; exact e
    · intro d x e
      obtain ⟨v, e1, e2, e3⟩ := (ok'.chunks k c' B f h3 h4).mp hg d x e
      exact ⟨v, e1, e2, fun _ => e3 (le_ble hkn)⟩
  · have hj : j < r.length ∨ ∃ d, j = r.length + d := by
      rcases Nat.lt_or_ge j r.length with h | h
      · exact .inl h
      · exact .inr ⟨j - r.length, by omega⟩
    rcases hj with hj | ⟨d, rfl⟩
    · rw [hR1 j hj] at hr; exact Nat.lt_of_lt_of_le (ok.lt j B f ho hr) ok'.ext.size
    · rw [hR2] at hr; exact ok'.lt _ B f (show n ≤ q.length + d by omega) hr
  · have hj : j < r.length ∨ ∃ d, j = r.length + d := by
      rcases Nat.lt_or_ge j r.length with h | h
      · exact .inl h
      · exact .inr ⟨j - r.length, by omega⟩
    rcases hj with hj | ⟨d, rfl⟩
    · rw [hR1 j hj] at hr; exact ok.own j B f ho hr
    · rw [hR2] at hr
      rcases where_ _ B f (by omega) hr with ⟨i, hi, f', e⟩ | h
      · exact ok.own i B f' (hwr i hi) e
      · exact .inr (Nat.le_trans ok.ext.size h)
  · rw [hR1 j (by omega)] at hr
    exact ok.ros j B f ho hl hr
  · have hjq : j ∉ q.drop n := fun hc' => by have := hwr j hc'; omega
    rw [b3 j (by omega) hjq] at hc
    exact ok.dead j c ho hl hc
  · rcases cases_ i B f c hi hri with ⟨h1, h2, h3, h4⟩ | ⟨k, d, hkn, hk, h3, rfl, h4⟩ <;> rcases cases_ j B f' c' hj hrj with ⟨g1, g2, g3, g4⟩ | ⟨l, d', hln, hl, g3, rfl, g4⟩
    · exact ok.apart i j B f f' c c' hij o1 o2 h3 g3 h4 g4
    · rcases old2 i B f c o1 h2 h3 h4 with h5 | ⟨h5, h6⟩
      · exact .inl h5
      · rcases where_ _ B f' hln g4 with ⟨i', hi', f'', e⟩ | h
        · exact absurd e (h5 i' hi' f'')
        · omega
    · rcases old2 j B f' c' o2 g2 g3 g4 with h5 | ⟨h5, h6⟩
      · exact .inr h5
      · rcases where_ _ B f hkn h4 with ⟨i', hi', f'', e⟩ | h
        · exact absurd e (h5 i' hi' f'')
        · omega
    · rcases ok'.apart k l B f f' d d' (fun e => hij (by rw [← hk, ← hl, e])) hkn hln h3 g3 h4 g4 with h | h
      · left; rw [h]; rfl
      · right; rw [h]; rfl
  · have hi : i < r.length := by
      rcases Nat.lt_or_ge i r.length with h | h
      · exact h
      · rw [List.getElem?_eq_none h] at e; cases e
    rw [hR1 i hi]; exact e
  · refine ok'.ext.mono fun B hB => ?_
    obtain ⟨i, hi, _⟩ := hm' B hB
    rw [e] at hi
    cases hi

/-! Calls. -/
/-- The blocks l, where they are, aren't among q. -/
def apartB (h : List (List Seg)) (q : List Nat) : List Nat → Bool
  | [] => true
  | i :: l => (match Nat.blt i h.length with
    | true => !(memB i q) && (match getH h i with
      | [] => false
      | _ => true)
    | false => true) && apartB h q l
def keepB (k : Keep) (q : List Nat) (h : List (List Seg)) : Bool := match k with
  | .free => true
  | .all => q.isEmpty
  | .only l => apartB h q l
def allNe (h : List (List Seg)) : List Nat → Bool
  | [] => true
  | i :: q => match getH h i with
    | [] => false
    | _ => allNe h q
theorem allNe_spec {h : List (List Seg)} : ∀ {q : List Nat}, allNe h q = true → ∀ i ∈ q, getH h i ≠ []
  | [], _, i, hi => by cases hi
  | x :: q, hh, i, hi => by
    simp only [allNe] at hh
    split at hh
    · cases hh
    · rename_i hne
      cases hi with
      | head => exact fun e => hne e
      | tail _ hi => exact allNe_spec hh i hi
/-- How long a list is, as a number written out. -/
def lenK {α : Type} : List α → Nat → (Nat → Prop) → Prop
  | [], n, k => frcN n k
  | _ :: r, n, k => lenK r (n + 1) k
theorem lenK_eq {α : Type} : ∀ (l : List α) (n : Nat) (k : Nat → Prop), lenK l n k = k (n + l.length)
  | [], n, k => frcN_eq n k
  | _ :: r, n, k => by rw [lenK, lenK_eq r]; simp only [List.length_cons]; congr 1; omega
/-- The caller's blocks behind the call, laid bare. -/
def mapK (g : Nat → Nat) : List (List Seg) → (List (List Seg) → Prop) → Prop
  | [], k => k []
  | x :: r, k => mapK g r fun l => k (mpL g x :: l)
theorem mapK_eq (g : Nat → Nat) : ∀ (l : List (List Seg)) (k : List (List Seg) → Prop), mapK g l k = k (l.map (mpL g))
  | [], _ => rfl
  | x :: r, k => by rw [mapK, mapK_eq g r]; rfl
def appK (g : Nat → Nat) (ys : List (List Seg)) : List (List Seg) → (List (List Seg) → Prop) → Prop
  | [], k => mapK g ys k
  | x :: r, k => appK g ys r fun l => k (x :: l)
theorem appK_eq (g : Nat → Nat) (ys : List (List Seg)) : ∀ (l : List (List Seg)) (k : List (List Seg) → Prop), appK g ys l k = k (l ++ ys.map (mpL g))
  | [], k => mapK_eq g ys k
  | x :: r, k => by rw [appK, appK_eq g ys r]; rfl
def backK (g : Nat → Nat) : List Nat → List (List Seg) → List (List Seg) → (List (List Seg) → Prop) → Prop
  | [], hs, h, k => appK g hs h k
  | i :: q, c :: hs, h, k => setH h i (mpL g c) fun h => backK g q hs h k
  | _ :: _, [], h, k => k h
theorem backK_eq (g : Nat → Nat) : ∀ (q : List Nat) (hs h : List (List Seg)) (k : List (List Seg) → Prop), backK g q hs h k = k (back g q hs h)
  | [], hs, h, k => appK_eq g hs h k
  | i :: q, c :: hs, h, k => by rw [backK, setH_eq, backK_eq g q]; rfl
  | _ :: _, [], _, _ => rfl
section
variable {C : Cx}
theorem apartB_spec {h : List (List Seg)} {q : List Nat} : ∀ {l : List Nat}, apartB h q l = true → ∀ i ∈ l, i < h.length → i ∉ q ∧ getH h i ≠ []
  | [], _, i, hi, _ => by cases hi
  | x :: l, hh, i, hi, hl => by
    simp only [apartB, Bool.and_eq_true] at hh
    cases hi with
    | tail _ hi => exact apartB_spec hh.2 i hi hl
    | head =>
      have h1 := hh.1
      split at h1
      · simp only [Bool.and_eq_true, Bool.not_eq_true'] at h1
        refine ⟨fun hc => ?_, fun e => ?_⟩
        · rw [memB_iff.2 hc] at h1
          exact absurd h1.1 (by simp)
        · rw [e] at h1
          exact absurd h1.2 (by simp)
      · rename_i hb
        have : Nat.blt x h.length = true := Nat.ble_eq_true_of_le hl
        rw [this] at hb
        cases hb
theorem frm_back {k : Keep} {h hs : List (List Seg)} {q : List Nat} {n : Nat} {r r' : Rho} {w w' : World} {lv : Nat → Prop} (hqr : ∀ i ∈ q, i < r.length) (hl : ∀ i ∈ q, i < h.length) (hne : ∀ i ∈ q.drop n, getH h i ≠ []) (hwr : ∀ i ∈ q.drop n, C.ro ≤ i) (h4 : keepB k (q.drop n) h = true) (ok : HeapOk C h r w)
    (hok : HeapOk ⟨C.P, C.T, w, ((rn q r).drop n).map (·.1), rn q r, n, lv⟩ hs r' w') (hnq : n ≤ q.length) (o4 : q.drop n = [] → Ext [] w w') : Frm C k r w (r ++ r'.drop q.length) w' := by
  have hqs : ∀ i ∈ q.drop n, i ∈ q := fun i hi => List.mem_of_mem_drop hi
  have hsub : ∀ B, B ∈ ((rn q r).drop n).map (·.1) → ∃ i, i ∈ q.drop n ∧ ∃ f, r[i]? = some (B, f) := by
    intro B hB
    obtain ⟨k, f, hk, e⟩ := mem_drop.1 hB
    cases hqk : q[k]? with
    | none => simp [rn, hqk] at e
    | some j =>
      rw [rn_get hqr hqk] at e
      exact ⟨j, List.mem_of_getElem? (i := k - n) (by rw [List.getElem?_drop, show n + (k - n) = k by omega]; exact hqk), f, e⟩
  have hmem : ∀ B, B ∈ ((rn q r).drop n).map (·.1) → B ∈ (r.drop C.ro).map (·.1) := fun B hB => by
    obtain ⟨i, hi, f, e⟩ := hsub B hB
    exact mem_drop.2 ⟨i, f, hwr i hi, e⟩
  refine ⟨hok.ext.mono fun i hi => .inl (hmem i hi), fun i B f ho e => ?_, ?_⟩
  · rw [List.getElem?_append] at e
    split at e
    · exact .inl (mem_drop.2 ⟨i, f, ho, e⟩)
    · rw [List.getElem?_drop] at e
      rcases hok.own _ B f (show n ≤ q.length + (i - r.length) by omega) e with h | h
      · exact .inl (hmem B h)
      · exact .inr h
  · cases k with
    | free => trivial
    | all => exact o4 (by simpa [keepB] using h4)
    | only l =>
      refine ⟨?_, fun i hi ho B f hr hB => hok.ext.block B hB fun hc => ?_⟩
      · exact ok.ext.trans2 hok.ext fun B hB => by
          obtain ⟨i, hi, f, e⟩ := hsub B hB
          exact ok.own i B f (hwr i hi) e
      · obtain ⟨j, hjq, f', e2⟩ := hsub B hc
        have hil : i < h.length := by
          rw [← ok.len]
          rcases Nat.lt_or_ge i r.length with h | h
          · exact h
          · rw [List.getElem?_eq_none h] at hr; cases hr
        obtain ⟨a1, a2⟩ := apartB_spec h4 i hi hil
        have hij : i ≠ j := fun e => by subst e; exact a1 hjq
        have ch : ∀ z, z < h.length → h[z]? = some (getH h z) := fun z hz => by rw [getH_eq, List.getElem?_eq_getElem hz]; rfl
        rcases ok.apart i j B f f' _ _ hij ho (hwr j hjq) (ch i hil) (ch j (hl j (hqs j hjq))) hr e2 with h | h
        · exact a2 h
        · exact hne j hjq h
def allGe (n : Nat) : List Nat → Bool
  | [] => true
  | x :: r => match Nat.ble n x with
    | true => allGe n r
    | false => false
theorem allGe_spec {n : Nat} : ∀ {l : List Nat}, allGe n l = true → ∀ i ∈ l, n ≤ i
  | [], _, i, hi => by cases hi
  | x :: l, h, i, hi => by
    simp only [allGe] at h
    split at h
    · rename_i hb
      cases hi with
      | head => exact ble_le hb
      | tail _ hi => exact allGe_spec h i hi
    · cases h
def disj (a : List Nat) : List Nat → Bool
  | [] => true
  | x :: r => match memB x a with
    | true => false
    | false => disj a r
theorem disj_spec {a : List Nat} : ∀ {l : List Nat}, disj a l = true → ∀ i ∈ l, i ∉ a
  | [], _, i, hi => by cases hi
  | x :: l, h, i, hi => by
    simp only [disj] at h
    split at h
    · cases h
    · rename_i hb
      cases hi with
      | head => exact fun hc => by rw [memB_iff.2 hc] at hb; cases hb
      | tail _ hi => exact disj_spec h i hi
/-- Whether blocks may be handed over: the first n to be read, the others to be turned. -/
def qOk (ro n : Nat) (qt : Keep) (q : List Nat) (h : List (List Seg)) : Bool :=
  Nat.ble n q.length && nodup (q.drop n) && allLt q h.length && allNe h (q.drop n) && allGe ro (q.drop n) && disj (q.take n) (q.drop n) && keepB qt (q.drop n) h
/-- A call by what the callee keeps to; q: what the callee's blocks are called here. -/
theorem call_fn {qt : Keep} {f : FuncId} {args args0 : List SA} {t : List SV} {h : List (List Seg)} {k : SV → List (List Seg) → Prop} {n : Nat} {h0 : List (List Seg)} {raw : World → Prop} {Res : SV → List (List Seg) → Prop}
    (hfn : FnR C.P C.T f n h0 args0 raw Res) (q : List Nat) (hq : qOk C.ro n qt q h = true)
    (hE : entH q h q h0 True) (hA : ∀ r w vs, HeapOk C h r w → IsAs r args vs → IsAs (rn q r) args0 vs) (hraw : ∀ r w, HeapOk C h r w → raw w)
    (hk : ∀ x hs, Res x hs → lenK h 0 fun N => backK (bk N q) (q.drop n) (hs.drop n) h fun h' => k (x.mp (bk N q)) h') : CallVC C qt f #[] args #[] t h k := by
  intro r a w vs ok ha
  simp only [qOk, Bool.and_eq_true] at hq
  obtain ⟨⟨⟨⟨⟨⟨h0', h1⟩, h2⟩, h3⟩, h5⟩, h6⟩, h4⟩ := hq
  have hnq := ble_le h0'
  have hn := nodup_spec h1
  have hl := allLt_spec h2
  have hne := allNe_spec h3
  have hwr := allGe_spec h5
  have hdj := disj_spec h6
  have hlen := ok.heap.len
  have hqs : ∀ i ∈ q.drop n, i ∈ q := fun i hi => List.mem_of_mem_drop hi
  have hqr : ∀ i ∈ q, i < r.length := fun i hi => by rw [hlen]; exact hl i hi
  obtain ⟨_, e7, e8⟩ := entH_spec hqr h hE
  have look : ∀ (i B f : Nat), (rn q r)[i]? = some (B, f) → ∃ j, q[i]? = some j ∧ r[j]? = some (B, f) := by
    intro i B f e
    cases hi : q[i]? with
    | none => simp [rn, hi] at e
    | some j => exact ⟨j, rfl, by rw [← rn_get hqr hi]; exact e⟩
  have hdrop : ∀ (i j : Nat), n ≤ i → q[i]? = some j → j ∈ q.drop n := fun i j hi e =>
    List.mem_of_getElem? (i := i - n) (by rw [List.getElem?_drop, show n + (i - n) = i by omega]; exact e)
  have chunk : ∀ j, j < h.length → h[j]? = some (getH h j) := fun j hj => by rw [getH_eq, List.getElem?_eq_getElem hj]; rfl
  have cells : ∀ (i B f : Nat) (ch : List Seg), h0[i]? = some ch → (rn q r)[i]? = some (B, f) → At (Nat.ble n i) (rn q r) w B f (flat ch) := by
    intro i B f ch hi hr j y e
    obtain ⟨j', hq', hr'⟩ := look i B f hr
    obtain ⟨_, h9⟩ := e8 i ch j' hi hq'
    obtain ⟨x, hx, hv⟩ := h9 j y e
    obtain ⟨v, e1, e2, e3⟩ := ok.heap.chunk hr' j x hx
    exact ⟨v, e1, hv v e2, fun hb => e3 (le_ble (hwr j' (hdrop i j' (ble_le hb) hq')))⟩
  have ok0 : HeapOk (cx0 C.P C.T w (rn q r) n h0) h0 (rn q r) w := by
    refine ⟨Ext.refl _ _, RLe.refl _, by simpa [rn] using hnq, by simp [rn, e7], fun i ch B f hi hr => cells i B f ch hi hr, fun i B f ho hr => ?_, fun i B f ho hr => .inl (mem_drop.2 ⟨i, f, ho, hr⟩), fun i B f ho hlv hr => ?_, fun i ch ho hlv hi => ?_, fun i j B f f' ch ch' hij o1 o2 hi hj hri hrj => ?_⟩
    · obtain ⟨j', hq', hr'⟩ := look i B f hr
      exact ok.heap.lt j' B f (hwr j' (hdrop i j' ho hq')) hr'
    · have hi0 : i < h0.length := by
        rw [← e7]
        obtain ⟨j', hq', _⟩ := look i B f hr
        rcases Nat.lt_or_ge i q.length with h | h
        · exact h
        · rw [List.getElem?_eq_none h] at hq'; cases hq'
      have hch : h0[i]? = some (getH h0 i) := by rw [getH_eq, List.getElem?_eq_getElem hi0]; rfl
      have hAt := cells i B f _ hch hr
      refine ⟨fun hc => ?_, hAt.lt hlv⟩
      obtain ⟨j', hq', hr'⟩ := look i B f hr
      obtain ⟨i2, f2, hi2, e2⟩ := mem_drop.1 hc
      obtain ⟨j2, hq2, hr2⟩ := look i2 B f2 e2
      have hj2 := hdrop i2 j2 hi2 hq2
      have hjt : j' ∈ q.take n := List.mem_of_getElem? (i := i) (by rw [List.getElem?_take, if_pos ho]; exact hq')
      have hne2 : j' ≠ j2 := fun e => hdj j2 hj2 (e ▸ hjt)
      have hfl := ok.heap.sep hne2 (hwr j2 hj2) (chunk j' (hl j' (List.mem_of_getElem? hq'))) (chunk j2 (hl j2 (hqs j2 hj2))) hr' hr2 (hne j2 hj2)
      obtain ⟨_, h9⟩ := e8 i _ j' hch hq'
      cases e : flat (getH h0 i) with
      | nil => exact hlv e
      | cons y l =>
        obtain ⟨x, hx, _⟩ := h9 0 y (by rw [e]; rfl)
        rw [hfl] at hx
        cases hx
    · have : getH h0 i = ch := by rw [getH_eq, hi]; rfl
      rw [← this]
      exact Classical.byContradiction hlv
    · have o1 : n ≤ i := o1
      have o2 : n ≤ j := o2
      obtain ⟨i', hqi, hri'⟩ := look i B f hri
      obtain ⟨j', hqj, hrj'⟩ := look j B f' hrj
      have m1 := hdrop i i' o1 hqi
      have m2 := hdrop j j' o2 hqj
      have hne' : i' ≠ j' := by
        intro e
        subst e
        have g1 : (q.drop n)[i - n]? = some i' := by rw [List.getElem?_drop, show n + (i - n) = i by omega]; exact hqi
        have g2 : (q.drop n)[j - n]? = some i' := by rw [List.getElem?_drop, show n + (j - n) = j by omega]; exact hqj
        have hi1 : i - n < (q.drop n).length := by
          rcases Nat.lt_or_ge (i - n) (q.drop n).length with h | h
          · exact h
          · rw [List.getElem?_eq_none h] at g1; cases g1
        have := (List.getElem?_inj hi1 hn).1 (g1.trans g2.symm)
        omega
      have l1 := hl i' (hqs i' m1)
      have l2 := hl j' (hqs j' m2)
      rcases ok.heap.apart i' j' B f f' _ _ hne' (hwr i' m1) (hwr j' m2) (chunk i' l1) (chunk j' l2) hri' hrj' with h | h
      · exact .inl ((e8 i ch i' hi hqi).1 h)
      · exact .inr ((e8 j ch' j' hj hqj).1 h)
  have hcall := hfn w (rn q r) vs ok0 (hA r w vs ok.heap ha) (hraw r w ok.heap)
  have hargs : (#[] : Array Value) ++ vs.toArray ++ #[] = vs.toArray := by simp
  rw [hargs]
  refine hcall.mono ?_
  rintro e w' ⟨v, x, hs, r', rfl, hx, hok, hres⟩
  obtain ⟨o1, o2, o3, o4⟩ := ok.heap.back hnq hn hl hne hwr hok
  have hk' := hk x hs hres
  rw [lenK_eq, Nat.zero_add, backK_eq] at hk'
  exact ⟨v, _, _, _, rfl, hx.mp o3, o2, o1, frm_back hqr hl hne hwr h4 ok.heap hok hnq o4, hk'⟩
/-- Arguments that are the same there. -/
def eqAs (q : List Nat) : List SA → List SA → Prop
  | [], [] => True
  | x :: r, y :: r' => eqA q x y (eqAs q r r')
  | _, _ => False
theorem eqAs_spec {q : List Nat} {r : Rho} (hq : ∀ i ∈ q, i < r.length) : ∀ {l l' : List SA} {vs : List Value}, eqAs q l l' → IsAs r l vs → IsAs (rn q r) l' vs
  | [], [], vs, _, h => ⟨h.1, fun j x e => by simp at e⟩
  | x :: l, y :: l', vs, h, hv => by
    obtain ⟨h, h1⟩ := eqA_spec hq (show eqA q x y (eqAs q l l') from h)
    cases vs with
    | nil => have := hv.1; simp at this
    | cons v vs =>
      have ht := eqAs_spec (vs := vs) hq h ⟨by simpa using hv.1, fun j z e => hv.2 (j + 1) z e⟩
      refine ⟨by simpa using ht.1, fun j z e => ?_⟩
      cases j with
      | zero =>
        simp at e
        subst e
        obtain ⟨u, e1, e2⟩ := hv.2 0 x rfl
        exact ⟨u, e1, h1 u e2⟩
      | succ j => exact ht.2 j z e
  | [], _ :: _, _, h, _ => h.elim
  | _ :: _, [], _, h, _ => h.elim
theorem call_same {qt : Keep} {f : FuncId} {args args0 : List SA} {t : List SV} {h : List (List Seg)} {k : SV → List (List Seg) → Prop} {n : Nat} {h0 : List (List Seg)} {raw : World → Prop} {Res : SV → List (List Seg) → Prop}
    (hfn : FnR C.P C.T f n h0 args0 raw Res) (q : List Nat) (hq : qOk C.ro n qt q h = true)
    (hA : eqAs q args args0) (hE : entH q h q h0 True) (hraw : ∀ w, Ext C.m C.w0 w → raw w)
    (hk : ∀ x hs, Res x hs → lenK h 0 fun N => backK (bk N q) (q.drop n) (hs.drop n) h fun h' => k (x.mp (bk N q)) h') : CallVC C qt f #[] args #[] t h k := by
  refine call_fn hfn q hq hE (fun r w vs ok hv => eqAs_spec (fun i hi => ?_) hA hv) (fun r w ok => hraw w ok.ext) hk
  simp only [qOk, Bool.and_eq_true] at hq
  rw [ok.len]
  exact allLt_spec hq.1.1.1.1.2 i hi
/-- What is returned where a function is called from outside. -/
theorem Fn.calls {P : Program} {T : List (Nat × TD)} {f : FuncId} {args : List SA} {raw : World → Prop} {Res : SV → List (List Seg) → Prop} (h : FnR P T f 0 [] args raw Res) {w : World} {vs : List Value} (ha : IsAs [] args vs) (hr : raw w) :
    Calls P f vs.toArray w fun e w' => ∃ v x hs r', e = .returned v ∧ SV.Is r' x v ∧ HeapOk (cx0 P T w [] 0 []) hs r' w' ∧ Res x hs :=
  h w [] vs ⟨Ext.refl _ _, RLe.refl _, Nat.le_refl _, rfl, fun i ch B f hi => by simp at hi, fun i B f _ hr => by simp at hr, fun i B f _ hr => by simp at hr, fun i B f _ _ hr => by simp at hr, fun i ch _ _ hi => by simp at hi, fun i j B f f' ch ch' _ _ _ hi => by simp at hi⟩ ha hr
end
end Sx
end Go.Proofs.Ytndlhhhebijknaa
