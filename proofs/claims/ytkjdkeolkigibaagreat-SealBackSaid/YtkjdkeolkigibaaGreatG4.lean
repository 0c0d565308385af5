/-
  Texts of this claim, part 4: Sxq, Tds, Frc, Bts, ViM, VsA, VsB, VsC, Sxy, VlA, HpA. No condition of its own.
-/
import Derived.Test.YtkjdkeolkigibaaGreatG3
section
/-
  Functions by their bodies; calls by what the callee keeps to. Over any program. No condition of its own.
-/
namespace Go.Proofs.YtkjdkeolkigibaaGreat
set_option linter.unusedVariables false
namespace Sx
open Go.RowKit

section
variable {C : Cx}
/-- A value and the blocks behind it, said in other words. -/
def Fin (C : Cx) (v : SV) (h : List (List Seg)) (x : SV) (hs : List (List Seg)) : Prop := ∃ q, Ent C q ⟨[v], h⟩ ⟨[x], hs⟩
theorem Fin.ok {v x : SV} {h hs : List (List Seg)} (f : Fin C v h x hs) {r : Rho} {w : World} {u : Value} (hu : v.Is r u) (ok : HeapOk C h r w) : ∃ r', x.Is r' u ∧ HeapOk C hs r' w := by
  obtain ⟨q, e⟩ := f
  have ok1 : Ok C ⟨[v], h⟩ r { tmps := #[u], defers := [] } w := ⟨ok, rfl, fun d y e => by
    cases d with
    | zero => simp at e; subst e; exact hu
    | succ d => simp at e, rfl⟩
  obtain ⟨r', ok2⟩ := e.ok ok1
  exact ⟨r', ok2.slots 0 x rfl, ok2.heap⟩
end
/-- What stands fast for a function that is handed the blocks h0, of which it may not turn the first n. -/
abbrev cx0 (P : Program) (T : List (Nat × TD)) (w : World) (r0 : Rho) (n : Nat) (h0 : List (List Seg)) : Cx := ⟨P, T, w, (r0.drop n).map (·.1), r0, n, fun i => flat (getH h0 i) ≠ []⟩
/-- What a function keeps to: the blocks h0 that it is handed (the first n are only read), its arguments, what the world must bear; what it returns and leaves. -/
def FnR (P : Program) (T : List (Nat × TD)) (f : FuncId) (n : Nat) (h0 : List (List Seg)) (args : List SA) (raw : World → Prop) (Res : SV → List (List Seg) → Prop) : Prop :=
  ∀ (w : World) (r0 : Rho) (vs : List Value), HeapOk (cx0 P T w r0 n h0) h0 r0 w → IsAs r0 args vs → raw w → Calls P f vs.toArray w fun e w' =>
    ∃ v x hs r', e = .returned v ∧ SV.Is r' x v ∧ HeapOk (cx0 P T w r0 n h0) hs r' w' ∧ Res x hs
abbrev Fn (P : Program) (T : List (Nat × TD)) (f : FuncId) (h0 : List (List Seg)) (args : List SA) (raw : World → Prop) (Res : SV → List (List Seg) → Prop) : Prop := FnR P T f 0 h0 args raw Res
def anys : Nat → List SV
  | 0 => []
  | n + 1 => .any :: anys n
theorem anys_len : ∀ n, (anys n).length = n
  | 0 => rfl
  | n + 1 => by simp [anys, anys_len n]
theorem anys_get : ∀ (n d : Nat) (x : SV), (anys n)[d]? = some x → x = .any
  | 0, _, _, e => by simp [anys] at e
  | n + 1, 0, _, e => by simp [anys] at e; exact e.symm
  | n + 1, d + 1, x, e => anys_get n d x (by simpa [anys] using e)
theorem fn_of_body {P : Program} {T : List (Nat × TD)} (hT : AllT P T) (hm : P.follows .mixedOrders = true) {f : FuncId} {fn : Func} {c : Code} (hf : P.funcs[f]? = some fn) (hb : fn.body = some c) {n : Nat} {h0 : List (List Seg)} {args : List SA} {raw : World → Prop} {Res : SV → List (List Seg) → Prop}
    {t : List SV} (ht : t = args.map SV.a ++ anys (fn.ntmps - args.length))
    (h : ∀ (w : World) (r0 : Rho), r0.length = h0.length → raw w → Body (cx0 P T w r0 n h0) fn c ⟨t, h0⟩ fun v h' => ∃ x hs, Fin (cx0 P T w r0 n h0) v h' x hs ∧ Res x hs) : FnR P T f n h0 args raw Res := by
  intro w r0 vs ok ha hraw
  subst ht
  have hlen : vs.toArray.size = args.length := by rw [ha.1]; simp
  refine calls_of_body (C := cx0 P T w r0 n h0) hT hm hf hb (s := ⟨args.map SV.a ++ anys (fn.ntmps - args.length), h0⟩) (r := r0) ⟨ok, ?_, fun d x e => ?_, rfl⟩ (h w r0 ok.len hraw) ?_
  · simp [anys_len, ha.1]
  · by_cases hd : d < args.length
    · rw [List.getElem?_append_left (by simpa using hd), List.getElem?_map] at e
      obtain ⟨y, hy, rfl⟩ := Option.map_eq_some_iff.1 e
      obtain ⟨u, hu, hi⟩ := ha.2 d y hy
      have : (vs.toArray ++ Array.replicate (fn.ntmps - vs.toArray.size) undef).getD d undef = u := by
        rw [Array.getD_eq_getD_getElem?, Array.getElem?_append_left (by rw [hlen]; exact hd)]
        simp [hu]
      rw [this]
      exact hi
    · rw [List.getElem?_append_right (by simpa using Nat.le_of_not_lt hd)] at e
      rw [anys_get _ _ _ e]
      trivial
  · rintro v y h' r' w' ⟨x, hs, hf, hr⟩ hy hok
    obtain ⟨r'', hx, hok'⟩ := hf.ok hy hok
    exact ⟨v, x, hs, r'', rfl, hx, hok', hr⟩

/-! Back at the caller's. -/
def bk (N : Nat) : List Nat → Nat → Nat
  | [], j => N + j
  | x :: _, 0 => x
  | _ :: q, j + 1 => bk N q j
def SC.mp (g : Nat → Nat) : SC → SC
  | .p i b o => .p (g i) b o
  | .sl i b o n c => .sl (g i) b o n c
  | .clo f i b o => .clo f (g i) b o
  | .sn z i b o n c => .sn z (g i) b o n c
  | x => x
def Seg.mp (g : Nat → Nat) : Seg → Seg
  | .one x => .one (x.mp g)
  | .row n f => .row n (fun j => (f j).mp g)
def mpL (g : Nat → Nat) : List Seg → List Seg
  | [] => []
  | x :: r => x.mp g :: mpL g r
def SA.mp (g : Nat → Nat) : SA → SA
  | .c x => .c (x.mp g)
  | .agg l => .agg (mpL g l)
def SV.mp (g : Nat → Nat) : SV → SV
  | .any => .any
  | .a x => .a (x.mp g)
  | .tup l => .tup (l.map (SA.mp g))
theorem flat_mp (g : Nat → Nat) : ∀ l : List Seg, flat (mpL g l) = (flat l).map (SC.mp g)
  | [] => rfl
  | .one x :: r => by simp [mpL, Seg.mp, flat, flat_mp g r]
  | .row n f :: r => by simp [mpL, Seg.mp, flat, flat_mp g r, Function.comp_def]
section
variable {g : Nat → Nat} {r' R : Rho}
theorem SC.Is.mp (hg : ∀ (i : Nat) (x : Nat × Nat), r'[i]? = some x → R[g i]? = some x) {x : SC} {v : Value} (h : x.Is r' v) : (x.mp g).Is R v := by
  cases x <;> first
    | exact h
    | (obtain ⟨B, f, e, rfl⟩ := h; exact ⟨B, f, hg _ _ e, rfl⟩)
    | (rcases h with ⟨h1, h2⟩ | ⟨h1, B, f, e, h2⟩ | h; exact .inl ⟨h1, h2⟩; exact .inr (.inl ⟨h1, B, f, hg _ _ e, h2⟩); exact .inr (.inr h))
theorem SA.Is.mp (hg : ∀ (i : Nat) (x : Nat × Nat), r'[i]? = some x → R[g i]? = some x) {x : SA} {v : Value} (h : x.Is r' v) : (x.mp g).Is R v := by
  cases x with
  | c x => exact SC.Is.mp hg (x := x) h
  | agg l =>
    obtain ⟨vs, e, h1, h2⟩ := h
    refine ⟨vs, e, by rw [flat_mp]; simpa using h1, fun j y e' => ?_⟩
    rw [flat_mp, List.getElem?_map, Option.map_eq_some_iff] at e'
    obtain ⟨z, hz, rfl⟩ := e'
    obtain ⟨u, e1, e2⟩ := h2 j z hz
    exact ⟨u, e1, e2.mp hg⟩
theorem SV.Is.mp (hg : ∀ (i : Nat) (x : Nat × Nat), r'[i]? = some x → R[g i]? = some x) {x : SV} {v : Value} (h : x.Is r' v) : (x.mp g).Is R v := by
  cases x with
  | any => trivial
  | a x => exact SA.Is.mp hg (x := x) h
  | tup l =>
    obtain ⟨vs, e, h1, h2⟩ := h
    refine ⟨vs, e, by simpa using h1, fun j y e' => ?_⟩
    rw [List.getElem?_map, Option.map_eq_some_iff] at e'
    obtain ⟨z, hz, rfl⟩ := e'
    obtain ⟨u, e1, e2⟩ := h2 j z hz
    exact ⟨u, e1, e2.mp hg⟩
theorem At.mp (hg : ∀ (i : Nat) (x : Nat × Nat), r'[i]? = some x → R[g i]? = some x) {w : World} {B off : Nat} {l : List Seg} {z : Bool} (h : At z r' w B off (flat l)) : At z R w B off (flat (mpL g l)) := by
  intro j y e
  rw [flat_mp, List.getElem?_map, Option.map_eq_some_iff] at e
  obtain ⟨z, hz, rfl⟩ := e
  obtain ⟨v, e1, e2, e3⟩ := h j z hz
  exact ⟨v, e1, e2.mp hg, e3⟩
end
/-- The caller's blocks behind the call. -/
def back (g : Nat → Nat) : List Nat → List (List Seg) → List (List Seg) → List (List Seg)
  | [], hs, h => h ++ hs.map (mpL g)
  | i :: q, c :: hs, h => back g q hs (h.set i (mpL g c))
  | _ :: _, [], h => h
theorem back_get (g : Nat → Nat) : ∀ (q : List Nat) (hs h : List (List Seg)), q.Nodup → (∀ i ∈ q, i < h.length) → q.length ≤ hs.length →
    (back g q hs h).length = h.length + (hs.length - q.length) ∧
    (∀ (k i : Nat), q[k]? = some i → (back g q hs h)[i]? = (hs[k]?).map (mpL g)) ∧
    (∀ (j : Nat), j < h.length → j ∉ q → (back g q hs h)[j]? = h[j]?) ∧
    (∀ (j : Nat), (back g q hs h)[h.length + j]? = (hs[q.length + j]?).map (mpL g))
  | [], hs, h, _, _, _ => ⟨by simp [back], fun k i e => by simp at e, fun j hj _ => by simp [back, List.getElem?_append_left hj], fun j => by simp only [back]; rw [List.getElem?_append_right (by omega), List.getElem?_map]; simp⟩
  | i :: q, c :: hs, h, hn, hq, hl => by
    obtain ⟨h1, h2⟩ := List.nodup_cons.1 hn
    obtain ⟨b1, b2, b3, b4⟩ := back_get g q hs (h.set i (mpL g c)) h2 (fun j hj => by simpa using hq j (by simp [hj])) (by simpa using hl)
    simp only [List.length_set] at b1 b3 b4
    refine ⟨by simp only [back, b1, List.length_cons]; omega, fun k j e => ?_, fun j hj hnj => ?_, fun j => ?_⟩
    · cases k with
      | zero =>
        simp at e
        subst e
        simp only [back, List.getElem?_cons_zero, Option.map_some]
        rw [b3 i (hq i (by simp)) h1]
        simp [hq i (by simp)]
      | succ k => simpa [back] using b2 k j (by simpa using e)
    · simp only [List.mem_cons, not_or] at hnj
      simp only [back]
      rw [b3 j hj hnj.2, List.getElem?_set_ne (Ne.symm hnj.1)]
    · simp only [back, b4, List.length_cons]
      congr 1
      rw [show q.length + 1 + j = (q.length + j) + 1 by omega]; rfl
  | _ :: _, [], _, _, _, hl => by simp at hl
theorem bk_get (N : Nat) : ∀ (q : List Nat) (k : Nat), (∀ i, q[k]? = some i → bk N q k = i) ∧ (q.length ≤ k → bk N q k = N + (k - q.length))
  | [], k => ⟨fun i e => by simp at e, fun _ => by simp [bk]⟩
  | x :: q, 0 => ⟨fun i e => by simp at e; simp [bk, e], fun h => by simp at h⟩
  | x :: q, k + 1 => ⟨fun i e => by simpa [bk] using (bk_get N q k).1 i (by simpa using e), fun h => by simp only [bk]; rw [(bk_get N q k).2 (by simpa using h)]; simp⟩
theorem HeapOk.back {C : Cx} {h hs : List (List Seg)} {r r' : Rho} {w w' : World} (ok : HeapOk C h r w) {q : List Nat} {n : Nat} (hnq : n ≤ q.length) (hn : (q.drop n).Nodup) (hq : ∀ i ∈ q, i < h.length) (hne : ∀ i ∈ q.drop n, getH h i ≠ []) (hwr : ∀ i ∈ q.drop n, C.ro ≤ i) {lv : Nat → Prop}
    (ok' : HeapOk ⟨C.P, C.T, w, ((rn q r).drop n).map (·.1), rn q r, n, lv⟩ hs r' w') :
    let R := r ++ r'.drop q.length
    let g := bk h.length q
    HeapOk C (Sx.back g (q.drop n) (hs.drop n) h) R w' ∧ RLe r R ∧ (∀ (i : Nat) (x : Nat × Nat), r'[i]? = some x → R[g i]? = some x) ∧ (q.drop n = [] → Ext [] w w') := by
  intro R g
  have hlen : r.length = h.length := ok.len
  have hlen' : r'.length = hs.length := ok'.len
  have hqr : ∀ i ∈ q, i < r.length := fun i hi => by rw [hlen]; exact hq i hi
  have hqs : ∀ i ∈ q.drop n, i ∈ q := fun i hi => List.mem_of_mem_drop hi
  have hpre : ∀ (k j : Nat), q[k]? = some j → r'[k]? = r[j]? := fun k j e => by
    have hj := hqr j (List.mem_of_getElem? e)
    have e1 := rn_get hqr e
    rw [List.getElem?_eq_getElem hj] at e1 ⊢
    exact ok'.agree k _ e1
  have hql : q.length ≤ r'.length := by
    rcases Nat.lt_or_ge r'.length q.length with hlt | h
    · have e1 := hpre r'.length q[r'.length] (List.getElem?_eq_getElem hlt)
      rw [List.getElem?_eq_none (Nat.le_refl _), List.getElem?_eq_getElem (hqr _ (List.getElem_mem _))] at e1
      cases e1
    · exact h
  obtain ⟨b1, b2, b3, b4⟩ := back_get g (q.drop n) (hs.drop n) h hn (fun i hi => hq i (hqs i hi)) (by simp only [List.length_drop]; omega)
  have hR1 : ∀ j, j < r.length → R[j]? = r[j]? := fun j hj => List.getElem?_append_left hj
  have hR2 : ∀ j, R[r.length + j]? = r'[q.length + j]? := fun j => by
    rw [List.getElem?_append_right (by omega), List.getElem?_drop]; congr 1; omega
  have hg : ∀ (i : Nat) (x : Nat × Nat), r'[i]? = some x → R[g i]? = some x := by
    intro i x e
    by_cases hi : i < q.length
    · have e1 := List.getElem?_eq_getElem hi
      rw [show g i = q[i] from (bk_get h.length q i).1 _ e1, hR1 _ (hqr _ (List.getElem_mem _)), ← hpre i _ e1]
      exact e
    · rw [show g i = h.length + (i - q.length) from (bk_get h.length q i).2 (by omega), ← hlen, hR2, show q.length + (i - q.length) = i by omega]
      exact e
  -- the callee's blocks that it may turn
  have hm' : ∀ B, B ∈ ((rn q r).drop n).map (·.1) → ∃ i, i ∈ q.drop n ∧ ∃ f, r[i]? = some (B, f) := by
    intro B hB
    obtain ⟨k, f, hk, e⟩ := mem_drop.1 hB
    cases hqk : q[k]? with
    | none => simp [rn, hqk] at e
    | some j =>
      rw [rn_get hqr hqk] at e
      exact ⟨j, List.mem_of_getElem? (i := k - n) (by rw [List.getElem?_drop, show n + (k - n) = k by omega]; exact hqk), f, e⟩
  have hext : Ext C.m C.w0 w' := ok.ext.trans2 ok'.ext (fun B hB => by
    obtain ⟨i, hi, f, e⟩ := hm' B hB
    exact ok.own i B f (hwr i hi) e)
  -- a block of the new list: an old one that was not handed over, or one of the callee's
  have cases_ : ∀ (j B f : Nat) (c : List Seg), (Sx.back g (q.drop n) (hs.drop n) h)[j]? = some c → R[j]? = some (B, f) → (j < h.length ∧ j ∉ q.drop n ∧ h[j]? = some c ∧ r[j]? = some (B, f)) ∨ (∃ k c', n ≤ k ∧ g k = j ∧ hs[k]? = some c' ∧ c = mpL g c' ∧ r'[k]? = some (B, f)) := by
    intro j B f c hc hr
    by_cases hj : j < h.length
    · by_cases hjq : j ∈ q.drop n
      · obtain ⟨k, hk, rfl⟩ := List.mem_iff_getElem.1 hjq
        have e1 := List.getElem?_eq_getElem hk
        rw [b2 k _ e1, Option.map_eq_some_iff] at hc
        obtain ⟨c', hc', rfl⟩ := hc
        rw [List.getElem?_drop] at hc' e1
        rw [hR1 _ (hqr _ (hqs _ hjq)), ← hpre (n + k) _ e1] at hr
        exact .inr ⟨n + k, c', by omega, (bk_get h.length q (n + k)).1 _ e1, hc', rfl, hr⟩
      · rw [b3 j hj hjq] at hc
        rw [hR1 j (by omega)] at hr
        exact .inl ⟨hj, hjq, hc, hr⟩
    · obtain ⟨d, rfl⟩ : ∃ d, j = h.length + d := ⟨j - h.length, by omega⟩
      rw [b4, Option.map_eq_some_iff] at hc
      obtain ⟨c', hc', rfl⟩ := hc
      rw [List.getElem?_drop, List.length_drop, show n + (q.length - n + d) = q.length + d by omega] at hc'
      rw [← hlen, hR2] at hr
      exact .inr ⟨q.length + d, c', by omega, by rw [show g (q.length + d) = h.length + (q.length + d - q.length) from (bk_get h.length q _).2 (by omega)]; omega, hc', rfl, hr⟩
  -- where the callee's blocks lie
  have where_ : ∀ (k B f : Nat), n ≤ k → r'[k]? = some (B, f) → (∃ i, i ∈ q.drop n ∧ ∃ f', r[i]? = some (B, f')) ∨ w.heap.size ≤ B := by
    intro k B f hk e
    rcases ok'.own k B f hk e with hm | hm
    · exact .inl (hm' B hm)
    · exact .inr hm
  have hhi : ∀ i ∈ q.drop n, h[i]? = some (getH h i) := fun i hi => by rw [getH_eq, List.getElem?_eq_getElem (hq i (hqs i hi))]; rfl
  -- an old block that was not handed over has nothing of the callee's
  have old : ∀ (j B f : Nat) (c : List Seg), j ∉ q.drop n → h[j]? = some c → r[j]? = some (B, f) → flat c ≠ [] → B ∉ ((rn q r).drop n).map (·.1) := by
    intro j B f c hjq hc hr hf hm
    obtain ⟨i, hi, f', e⟩ := hm' B hm
    exact hf (ok.sep (fun e => hjq (by rw [e]; exact hi)) (hwr i hi) hc (hhi i hi) hr e (hne i hi))
  have old2 : ∀ (j B f : Nat) (c : List Seg), C.ro ≤ j → j ∉ q.drop n → h[j]? = some c → r[j]? = some (B, f) → c = [] ∨ ((∀ i ∈ q.drop n, ∀ f', r[i]? ≠ some (B, f')) ∧ B < w.heap.size) := by
    intro j B f c ho hjq hc hr
    by_cases hex : ∃ i, i ∈ q.drop n ∧ ∃ f', r[i]? = some (B, f')
    · obtain ⟨i, hi, f', hf'⟩ := hex
      rcases ok.apart j i B f f' c _ (fun e => hjq (by rw [e]; exact hi)) ho (hwr i hi) hc (hhi i hi) hr hf' with h1 | h1
      · exact .inl h1
      · exact absurd h1 (hne i hi)
    · exact .inr ⟨fun i hi f' e => hex ⟨i, hi, f', e⟩, ok.lt j B f ho hr⟩
  have hrl := ok.rlen
  have hrl2 := ok.rol
  refine ⟨⟨hext, fun i x e => ?_, ok.rol, ?_, fun j c B f hc hr => ?_, fun j B f ho hr => ?_, fun j B f ho hr => ?_, fun j B f ho hl hr => ?_, fun j c ho hl hc => ?_, fun i j B f f' c c' hij o1 o2 hi hj hri hrj => ?_⟩, fun i x e => ?_, hg, fun e => ?_⟩
  · have e1 := ok.agree i x e
    have hi : i < r.length := by
      rcases Nat.lt_or_ge i r.length with h | h
      · exact h
      · rw [List.getElem?_eq_none h] at e1; cases e1
    rw [hR1 i hi]; exact e1
  · rw [b1]; simp [R, hlen]; omega
  · rcases cases_ j B f c hc hr with ⟨h1, h2, h3, h4⟩ | ⟨k, c', hkn, hk, h3, rfl, h4⟩
    · refine ((ok.chunks j c B f h3 h4).mono ?_).extm ok'.ext (fun hl => old j B f c h2 h3 h4 hl)
      intro i x e
      have hi : i < r.length := by
        rcases Nat.lt_or_ge i r.length with h | h
        · exact h
        · rw [List.getElem?_eq_none h] at e; cases e
      rw [hR1 i hi]; exact e
    · intro d x e
      obtain ⟨v, e1, e2, e3⟩ := (ok'.chunks k c' B f h3 h4).mp hg d x e
      exact ⟨v, e1, e2, fun _ => e3 (le_ble hkn)⟩
  · have hj : j < r.length ∨ ∃ d, j = r.length + d := by
      rcases Nat.lt_or_ge j r.length with h | h
      · exact .inl h
      · exact .inr ⟨j - r.length, by omega⟩
    rcases hj with hj | ⟨d, rfl⟩
    · rw [hR1 j hj] at hr; exact Nat.lt_of_lt_of_le (ok.lt j B f ho hr) ok'.ext.size
    · rw [hR2] at hr; exact ok'.lt _ B f (show n ≤ q.length + d by omega) hr
  · have hj : j < r.length ∨ ∃ d, j = r.length + d := by
      rcases Nat.lt_or_ge j r.length with h | h
      · exact .inl h
      · exact .inr ⟨j - r.length, by omega⟩
    rcases hj with hj | ⟨d, rfl⟩
    · rw [hR1 j hj] at hr; exact ok.own j B f ho hr
    · rw [hR2] at hr
      rcases where_ _ B f (by omega) hr with ⟨i, hi, f', e⟩ | h
      · exact ok.own i B f' (hwr i hi) e
      · exact .inr (Nat.le_trans ok.ext.size h)
  · rw [hR1 j (by omega)] at hr
    exact ok.ros j B f ho hl hr
  · have hjq : j ∉ q.drop n := fun hc' => by have := hwr j hc'; omega
    rw [b3 j (by omega) hjq] at hc
    exact ok.dead j c ho hl hc
  · rcases cases_ i B f c hi hri with ⟨h1, h2, h3, h4⟩ | ⟨k, d, hkn, hk, h3, rfl, h4⟩ <;> rcases cases_ j B f' c' hj hrj with ⟨g1, g2, g3, g4⟩ | ⟨l, d', hln, hl, g3, rfl, g4⟩
    · exact ok.apart i j B f f' c c' hij o1 o2 h3 g3 h4 g4
    · rcases old2 i B f c o1 h2 h3 h4 with h5 | ⟨h5, h6⟩
      · exact .inl h5
      · rcases where_ _ B f' hln g4 with ⟨i', hi', f'', e⟩ | h
        · exact absurd e (h5 i' hi' f'')
        · omega
    · rcases old2 j B f' c' o2 g2 g3 g4 with h5 | ⟨h5, h6⟩
      · exact .inr h5
      · rcases where_ _ B f hkn h4 with ⟨i', hi', f'', e⟩ | h
        · exact absurd e (h5 i' hi' f'')
        · omega
    · rcases ok'.apart k l B f f' d d' (fun e => hij (by rw [← hk, ← hl, e])) hkn hln h3 g3 h4 g4 with h | h
      · left; rw [h]; rfl
      · right; rw [h]; rfl
  · have hi : i < r.length := by
      rcases Nat.lt_or_ge i r.length with h | h
      · exact h
      · rw [List.getElem?_eq_none h] at e; cases e
    rw [hR1 i hi]; exact e
  · refine ok'.ext.mono fun B hB => ?_
    obtain ⟨i, hi, _⟩ := hm' B hB
    rw [e] at hi
    cases hi

/-! Calls. -/
/-- The blocks l, where they are, aren't among q. -/
def apartB (h : List (List Seg)) (q : List Nat) : List Nat → Bool
  | [] => true
  | i :: l => (match Nat.blt i h.length with
    | true => !(memB i q) && (match getH h i with
      | [] => false
      | _ => true)
    | false => true) && apartB h q l
def keepB (k : Keep) (q : List Nat) (h : List (List Seg)) : Bool := match k with
  | .free => true
  | .all => q.isEmpty
  | .only l => apartB h q l
def allNe (h : List (List Seg)) : List Nat → Bool
  | [] => true
  | i :: q => match getH h i with
    | [] => false
    | _ => allNe h q
theorem allNe_spec {h : List (List Seg)} : ∀ {q : List Nat}, allNe h q = true → ∀ i ∈ q, getH h i ≠ []
  | [], _, i, hi => by cases hi
  | x :: q, hh, i, hi => by
    simp only [allNe] at hh
    split at hh
    · cases hh
    · rename_i hne
      cases hi with
      | head => exact fun e => hne e
      | tail _ hi => exact allNe_spec hh i hi
/-- How long a list is, as a number written out. -/
def lenK {α : Type} : List α → Nat → (Nat → Prop) → Prop
  | [], n, k => frcN n k
  | _ :: r, n, k => lenK r (n + 1) k
theorem lenK_eq {α : Type} : ∀ (l : List α) (n : Nat) (k : Nat → Prop), lenK l n k = k (n + l.length)
  | [], n, k => frcN_eq n k
  | _ :: r, n, k => by rw [lenK, lenK_eq r]; simp only [List.length_cons]; congr 1; omega
/-- The caller's blocks behind the call, laid bare. -/
def mapK (g : Nat → Nat) : List (List Seg) → (List (List Seg) → Prop) → Prop
  | [], k => k []
  | x :: r, k => mapK g r fun l => k (mpL g x :: l)
theorem mapK_eq (g : Nat → Nat) : ∀ (l : List (List Seg)) (k : List (List Seg) → Prop), mapK g l k = k (l.map (mpL g))
  | [], _ => rfl
  | x :: r, k => by rw [mapK, mapK_eq g r]; rfl
def appK (g : Nat → Nat) (ys : List (List Seg)) : List (List Seg) → (List (List Seg) → Prop) → Prop
  | [], k => mapK g ys k
  | x :: r, k => appK g ys r fun l => k (x :: l)
theorem appK_eq (g : Nat → Nat) (ys : List (List Seg)) : ∀ (l : List (List Seg)) (k : List (List Seg) → Prop), appK g ys l k = k (l ++ ys.map (mpL g))
  | [], k => mapK_eq g ys k
  | x :: r, k => by rw [appK, appK_eq g ys r]; rfl
def backK (g : Nat → Nat) : List Nat → List (List Seg) → List (List Seg) → (List (List Seg) → Prop) → Prop
  | [], hs, h, k => appK g hs h k
  | i :: q, c :: hs, h, k => setH h i (mpL g c) fun h => backK g q hs h k
  | _ :: _, [], h, k => k h
theorem backK_eq (g : Nat → Nat) : ∀ (q : List Nat) (hs h : List (List Seg)) (k : List (List Seg) → Prop), backK g q hs h k = k (back g q hs h)
  | [], hs, h, k => appK_eq g hs h k
  | i :: q, c :: hs, h, k => by rw [backK, setH_eq, backK_eq g q]; rfl
  | _ :: _, [], _, _ => rfl
section
variable {C : Cx}
theorem apartB_spec {h : List (List Seg)} {q : List Nat} : ∀ {l : List Nat}, apartB h q l = true → ∀ i ∈ l, i < h.length → i ∉ q ∧ getH h i ≠ []
  | [], _, i, hi, _ => by cases hi
  | x :: l, hh, i, hi, hl => by
    simp only [apartB, Bool.and_eq_true] at hh
    cases hi with
    | tail _ hi => exact apartB_spec hh.2 i hi hl
    | head =>
      have h1 := hh.1
      split at h1
      · simp only [Bool.and_eq_true, Bool.not_eq_true'] at h1
        refine ⟨fun hc => ?_, fun e => ?_⟩
        · rw [memB_iff.2 hc] at h1
          exact absurd h1.1 (by simp)
        · rw [e] at h1
          exact absurd h1.2 (by simp)
      · rename_i hb
        have : Nat.blt x h.length = true := Nat.ble_eq_true_of_le hl
        rw [this] at hb
        cases hb
theorem frm_back {k : Keep} {h hs : List (List Seg)} {q : List Nat} {n : Nat} {r r' : Rho} {w w' : World} {lv : Nat → Prop} (hqr : ∀ i ∈ q, i < r.length) (hl : ∀ i ∈ q, i < h.length) (hne : ∀ i ∈ q.drop n, getH h i ≠ []) (hwr : ∀ i ∈ q.drop n, C.ro ≤ i) (h4 : keepB k (q.drop n) h = true) (ok : HeapOk C h r w)
    (hok : HeapOk ⟨C.P, C.T, w, ((rn q r).drop n).map (·.1), rn q r, n, lv⟩ hs r' w') (hnq : n ≤ q.length) (o4 : q.drop n = [] → Ext [] w w') : Frm C k r w (r ++ r'.drop q.length) w' := by
  have hqs : ∀ i ∈ q.drop n, i ∈ q := fun i hi => List.mem_of_mem_drop hi
  have hsub : ∀ B, B ∈ ((rn q r).drop n).map (·.1) → ∃ i, i ∈ q.drop n ∧ ∃ f, r[i]? = some (B, f) := by
    intro B hB
    obtain ⟨k, f, hk, e⟩ := mem_drop.1 hB
    cases hqk : q[k]? with
    | none => simp [rn, hqk] at e
    | some j =>
      rw [rn_get hqr hqk] at e
      exact ⟨j, List.mem_of_getElem? (i := k - n) (by rw [List.getElem?_drop, show n + (k - n) = k by omega]; exact hqk), f, e⟩
  have hmem : ∀ B, B ∈ ((rn q r).drop n).map (·.1) → B ∈ (r.drop C.ro).map (·.1) := fun B hB => by
    obtain ⟨i, hi, f, e⟩ := hsub B hB
    exact mem_drop.2 ⟨i, f, hwr i hi, e⟩
  refine ⟨hok.ext.mono fun i hi => .inl (hmem i hi), fun i B f ho e => ?_, ?_⟩
  · rw [List.getElem?_append] at e
    split at e
    · exact .inl (mem_drop.2 ⟨i, f, ho, e⟩)
    · rw [List.getElem?_drop] at e
      rcases hok.own _ B f (show n ≤ q.length + (i - r.length) by omega) e with h | h
      · exact .inl (hmem B h)
      · exact .inr h
  · cases k with
    | free => trivial
    | all => exact o4 (by simpa [keepB] using h4)
    | only l =>
      refine ⟨?_, fun i hi ho B f hr hB => hok.ext.block B hB fun hc => ?_⟩
      · exact ok.ext.trans2 hok.ext fun B hB => by
          obtain ⟨i, hi, f, e⟩ := hsub B hB
          exact ok.own i B f (hwr i hi) e
      · obtain ⟨j, hjq, f', e2⟩ := hsub B hc
        have hil : i < h.length := by
          rw [← ok.len]
          rcases Nat.lt_or_ge i r.length with h | h
          · exact h
          · rw [List.getElem?_eq_none h] at hr; cases hr
        obtain ⟨a1, a2⟩ := apartB_spec h4 i hi hil
        have hij : i ≠ j := fun e => by subst e; exact a1 hjq
        have ch : ∀ z, z < h.length → h[z]? = some (getH h z) := fun z hz => by rw [getH_eq, List.getElem?_eq_getElem hz]; rfl
        rcases ok.apart i j B f f' _ _ hij ho (hwr j hjq) (ch i hil) (ch j (hl j (hqs j hjq))) hr e2 with h | h
        · exact a2 h
        · exact hne j hjq h
def allGe (n : Nat) : List Nat → Bool
  | [] => true
  | x :: r => match Nat.ble n x with
    | true => allGe n r
    | false => false
theorem allGe_spec {n : Nat} : ∀ {l : List Nat}, allGe n l = true → ∀ i ∈ l, n ≤ i
  | [], _, i, hi => by cases hi
  | x :: l, h, i, hi => by
    simp only [allGe] at h
    split at h
    · rename_i hb
      cases hi with
      | head => exact ble_le hb
      | tail _ hi => exact allGe_spec h i hi
    · cases h
def disj (a : List Nat) : List Nat → Bool
  | [] => true
  | x :: r => match memB x a with
    | true => false
    | false => disj a r
theorem disj_spec {a : List Nat} : ∀ {l : List Nat}, disj a l = true → ∀ i ∈ l, i ∉ a
  | [], _, i, hi => by cases hi
  | x :: l, h, i, hi => by
    simp only [disj] at h
    split at h
    · cases h
    · rename_i hb
      cases hi with
      | head => exact fun hc => by rw [memB_iff.2 hc] at hb; cases hb
      | tail _ hi => exact disj_spec h i hi
/-- Whether blocks may be handed over: the first n to be read, the others to be turned. -/
def qOk (ro n : Nat) (qt : Keep) (q : List Nat) (h : List (List Seg)) : Bool :=
  Nat.ble n q.length && nodup (q.drop n) && allLt q h.length && allNe h (q.drop n) && allGe ro (q.drop n) && disj (q.take n) (q.drop n) && keepB qt (q.drop n) h
/-- A call by what the callee keeps to; q: what the callee's blocks are called here. -/
theorem call_fn {qt : Keep} {f : FuncId} {args args0 : List SA} {t : List SV} {h : List (List Seg)} {k : SV → List (List Seg) → Prop} {n : Nat} {h0 : List (List Seg)} {raw : World → Prop} {Res : SV → List (List Seg) → Prop}
    (hfn : FnR C.P C.T f n h0 args0 raw Res) (q : List Nat) (hq : qOk C.ro n qt q h = true)
    (hE : entH q h q h0 True) (hA : ∀ r w vs, HeapOk C h r w → IsAs r args vs → IsAs (rn q r) args0 vs) (hraw : ∀ r w, HeapOk C h r w → raw w)
    (hk : ∀ x hs, Res x hs → lenK h 0 fun N => backK (bk N q) (q.drop n) (hs.drop n) h fun h' => k (x.mp (bk N q)) h') : CallVC C qt f #[] args #[] t h k := by
  intro r a w vs ok ha
  simp only [qOk, Bool.and_eq_true] at hq
  obtain ⟨⟨⟨⟨⟨⟨h0', h1⟩, h2⟩, h3⟩, h5⟩, h6⟩, h4⟩ := hq
  have hnq := ble_le h0'
  have hn := nodup_spec h1
  have hl := allLt_spec h2
  have hne := allNe_spec h3
  have hwr := allGe_spec h5
  have hdj := disj_spec h6
  have hlen := ok.heap.len
  have hqs : ∀ i ∈ q.drop n, i ∈ q := fun i hi => List.mem_of_mem_drop hi
  have hqr : ∀ i ∈ q, i < r.length := fun i hi => by rw [hlen]; exact hl i hi
  obtain ⟨_, e7, e8⟩ := entH_spec hqr h hE
  have look : ∀ (i B f : Nat), (rn q r)[i]? = some (B, f) → ∃ j, q[i]? = some j ∧ r[j]? = some (B, f) := by
    intro i B f e
    cases hi : q[i]? with
    | none => simp [rn, hi] at e
    | some j => exact ⟨j, rfl, by rw [← rn_get hqr hi]; exact e⟩
  have hdrop : ∀ (i j : Nat), n ≤ i → q[i]? = some j → j ∈ q.drop n := fun i j hi e =>
    List.mem_of_getElem? (i := i - n) (by rw [List.getElem?_drop, show n + (i - n) = i by omega]; exact e)
  have chunk : ∀ j, j < h.length → h[j]? = some (getH h j) := fun j hj => by rw [getH_eq, List.getElem?_eq_getElem hj]; rfl
  have cells : ∀ (i B f : Nat) (ch : List Seg), h0[i]? = some ch → (rn q r)[i]? = some (B, f) → At (Nat.ble n i) (rn q r) w B f (flat ch) := by
    intro i B f ch hi hr j y e
    obtain ⟨j', hq', hr'⟩ := look i B f hr
    obtain ⟨_, h9⟩ := e8 i ch j' hi hq'
    obtain ⟨x, hx, hv⟩ := h9 j y e
    obtain ⟨v, e1, e2, e3⟩ := ok.heap.chunk hr' j x hx
    exact ⟨v, e1, hv v e2, fun hb => e3 (le_ble (hwr j' (hdrop i j' (ble_le hb) hq')))⟩
  have ok0 : HeapOk (cx0 C.P C.T w (rn q r) n h0) h0 (rn q r) w := by
    refine ⟨Ext.refl _ _, RLe.refl _, by simpa [rn] using hnq, by simp [rn, e7], fun i ch B f hi hr => cells i B f ch hi hr, fun i B f ho hr => ?_, fun i B f ho hr => .inl (mem_drop.2 ⟨i, f, ho, hr⟩), fun i B f ho hlv hr => ?_, fun i ch ho hlv hi => ?_, fun i j B f f' ch ch' hij o1 o2 hi hj hri hrj => ?_⟩
    · obtain ⟨j', hq', hr'⟩ := look i B f hr
      exact ok.heap.lt j' B f (hwr j' (hdrop i j' ho hq')) hr'
    · have hi0 : i < h0.length := by
        rw [← e7]
        obtain ⟨j', hq', _⟩ := look i B f hr
        rcases Nat.lt_or_ge i q.length with h | h
        · exact h
        · rw [List.getElem?_eq_none h] at hq'; cases hq'
      have hch : h0[i]? = some (getH h0 i) := by rw [getH_eq, List.getElem?_eq_getElem hi0]; rfl
      have hAt := cells i B f _ hch hr
      refine ⟨fun hc => ?_, hAt.lt hlv⟩
      obtain ⟨j', hq', hr'⟩ := look i B f hr
      obtain ⟨i2, f2, hi2, e2⟩ := mem_drop.1 hc
      obtain ⟨j2, hq2, hr2⟩ := look i2 B f2 e2
      have hj2 := hdrop i2 j2 hi2 hq2
      have hjt : j' ∈ q.take n := List.mem_of_getElem? (i := i) (by rw [List.getElem?_take, if_pos ho]; exact hq')
      have hne2 : j' ≠ j2 := fun e => hdj j2 hj2 (e ▸ hjt)
      have hfl := ok.heap.sep hne2 (hwr j2 hj2) (chunk j' (hl j' (List.mem_of_getElem? hq'))) (chunk j2 (hl j2 (hqs j2 hj2))) hr' hr2 (hne j2 hj2)
      obtain ⟨_, h9⟩ := e8 i _ j' hch hq'
      cases e : flat (getH h0 i) with
      | nil => exact hlv e
      | cons y l =>
        obtain ⟨x, hx, _⟩ := h9 0 y (by rw [e]; rfl)
        rw [hfl] at hx
        cases hx
    · have : getH h0 i = ch := by rw [getH_eq, hi]; rfl
      rw [← this]
      exact Classical.byContradiction hlv
    · have o1 : n ≤ i := o1
      have o2 : n ≤ j := o2
      obtain ⟨i', hqi, hri'⟩ := look i B f hri
      obtain ⟨j', hqj, hrj'⟩ := look j B f' hrj
      have m1 := hdrop i i' o1 hqi
      have m2 := hdrop j j' o2 hqj
      have hne' : i' ≠ j' := by
        intro e
        subst e
        have g1 : (q.drop n)[i - n]? = some i' := by rw [List.getElem?_drop, show n + (i - n) = i by omega]; exact hqi
        have g2 : (q.drop n)[j - n]? = some i' := by rw [List.getElem?_drop, show n + (j - n) = j by omega]; exact hqj
        have hi1 : i - n < (q.drop n).length := by
          rcases Nat.lt_or_ge (i - n) (q.drop n).length with h | h
          · exact h
          · rw [List.getElem?_eq_none h] at g1; cases g1
        have := (List.getElem?_inj hi1 hn).1 (g1.trans g2.symm)
        omega
      have l1 := hl i' (hqs i' m1)
      have l2 := hl j' (hqs j' m2)
      rcases ok.heap.apart i' j' B f f' _ _ hne' (hwr i' m1) (hwr j' m2) (chunk i' l1) (chunk j' l2) hri' hrj' with h | h
      · exact .inl ((e8 i ch i' hi hqi).1 h)
      · exact .inr ((e8 j ch' j' hj hqj).1 h)
  have hcall := hfn w (rn q r) vs ok0 (hA r w vs ok.heap ha) (hraw r w ok.heap)
  have hargs : (#[] : Array Value) ++ vs.toArray ++ #[] = vs.toArray := by simp
  rw [hargs]
  refine hcall.mono ?_
  rintro e w' ⟨v, x, hs, r', rfl, hx, hok, hres⟩
  obtain ⟨o1, o2, o3, o4⟩ := ok.heap.back hnq hn hl hne hwr hok
  have hk' := hk x hs hres
  rw [lenK_eq, Nat.zero_add, backK_eq] at hk'
  exact ⟨v, _, _, _, rfl, hx.mp o3, o2, o1, frm_back hqr hl hne hwr h4 ok.heap hok hnq o4, hk'⟩
/-- Arguments that are the same there. -/
def eqAs (q : List Nat) : List SA → List SA → Prop
  | [], [] => True
  | x :: r, y :: r' => eqA q x y (eqAs q r r')
  | _, _ => False
theorem eqAs_spec {q : List Nat} {r : Rho} (hq : ∀ i ∈ q, i < r.length) : ∀ {l l' : List SA} {vs : List Value}, eqAs q l l' → IsAs r l vs → IsAs (rn q r) l' vs
  | [], [], vs, _, h => ⟨h.1, fun j x e => by simp at e⟩
  | x :: l, y :: l', vs, h, hv => by
    obtain ⟨h, h1⟩ := eqA_spec hq (show eqA q x y (eqAs q l l') from h)
    cases vs with
    | nil => have := hv.1; simp at this
    | cons v vs =>
      have ht := eqAs_spec (vs := vs) hq h ⟨by simpa using hv.1, fun j z e => hv.2 (j + 1) z e⟩
      refine ⟨by simpa using ht.1, fun j z e => ?_⟩
      cases j with
      | zero =>
        simp at e
        subst e
        obtain ⟨u, e1, e2⟩ := hv.2 0 x rfl
        exact ⟨u, e1, h1 u e2⟩
      | succ j => exact ht.2 j z e
  | [], _ :: _, _, h, _ => h.elim
  | _ :: _, [], _, h, _ => h.elim
theorem call_same {qt : Keep} {f : FuncId} {args args0 : List SA} {t : List SV} {h : List (List Seg)} {k : SV → List (List Seg) → Prop} {n : Nat} {h0 : List (List Seg)} {raw : World → Prop} {Res : SV → List (List Seg) → Prop}
    (hfn : FnR C.P C.T f n h0 args0 raw Res) (q : List Nat) (hq : qOk C.ro n qt q h = true)
    (hA : eqAs q args args0) (hE : entH q h q h0 True) (hraw : ∀ w, Ext C.m C.w0 w → raw w)
    (hk : ∀ x hs, Res x hs → lenK h 0 fun N => backK (bk N q) (q.drop n) (hs.drop n) h fun h' => k (x.mp (bk N q)) h') : CallVC C qt f #[] args #[] t h k := by
  refine call_fn hfn q hq hE (fun r w vs ok hv => eqAs_spec (fun i hi => ?_) hA hv) (fun r w ok => hraw w ok.ext) hk
  simp only [qOk, Bool.and_eq_true] at hq
  rw [ok.len]
  exact allLt_spec hq.1.1.1.1.2 i hi
/-- What is returned where a function is called from outside. -/
theorem Fn.calls {P : Program} {T : List (Nat × TD)} {f : FuncId} {args : List SA} {raw : World → Prop} {Res : SV → List (List Seg) → Prop} (h : FnR P T f 0 [] args raw Res) {w : World} {vs : List Value} (ha : IsAs [] args vs) (hr : raw w) :
    Calls P f vs.toArray w fun e w' => ∃ v x hs r', e = .returned v ∧ SV.Is r' x v ∧ HeapOk (cx0 P T w [] 0 []) hs r' w' ∧ Res x hs :=
  h w [] vs ⟨Ext.refl _ _, RLe.refl _, Nat.le_refl _, rfl, fun i ch B f hi => by simp at hi, fun i B f _ hr => by simp at hr, fun i B f _ hr => by simp at hr, fun i B f _ _ hr => by simp at hr, fun i ch _ _ hi => by simp at hi, fun i j B f f' ch ch' _ _ _ hi => by simp at hi⟩ ha hr
end
end Sx
end Go.Proofs.YtkjdkeolkigibaaGreat
end

section
/-
  The table of types. No condition.
-/
namespace Go.Proofs.YtkjdkeolkigibaaGreat
set_option linter.unusedVariables false
namespace Sx
def tds : List (Nat × TD) := [(1, ⟨.fn, 1, 8, [.one (.nilFn)]⟩),
  (2, ⟨.int .i64, 1, 8, [.one (.int .i64 0)]⟩),
  (3, ⟨.int .i64, 1, 8, [.one (.int .i64 0)]⟩),
  (4, ⟨.bool, 1, 1, [.one (.bool false)]⟩),
  (5, ⟨.int .u8, 1, 1, [.one (.w8 0)]⟩),
  (6, ⟨.int .u8, 1, 1, [.one (.w8 0)]⟩),
  (7, ⟨.struct [(2, 0), (3, 1), (4, 2), (6, 3)], 4, 24, [.one (.int .i64 0), .one (.int .i64 0), .one (.bool false), .one (.w8 0)]⟩),
  (8, ⟨.struct [(2, 0), (3, 1), (4, 2), (6, 3)], 4, 24, [.one (.int .i64 0), .one (.int .i64 0), .one (.bool false), .one (.w8 0)]⟩),
  (9, ⟨.str, 1, 16, [.one (.str [])]⟩),
  (10, ⟨.str, 1, 16, [.one (.str [])]⟩),
  (11, ⟨.str, 1, 16, [.one (.str [])]⟩),
  (12, ⟨.int .u64, 1, 8, [.one (.w64 0)]⟩),
  (13, ⟨.struct [(9, 0), (12, 1)], 2, 24, [.one (.str []), .one (.w64 0)]⟩),
  (14, ⟨.struct [(9, 0), (12, 1)], 2, 24, [.one (.str []), .one (.w64 0)]⟩),
  (15, ⟨.ptr 208, 1, 8, [.one (.ptr none)]⟩),
  (16, ⟨.ptr 211, 1, 8, [.one (.ptr none)]⟩),
  (17, ⟨.ptr 219, 1, 8, [.one (.ptr none)]⟩),
  (18, ⟨.struct [(17, 0)], 1, 8, [.one (.ptr none)]⟩),
  (19, ⟨.struct [(17, 0)], 1, 8, [.one (.ptr none)]⟩),
  (20, ⟨.ifc, 1, 16, [.one (.nilIfc)]⟩),
  (21, ⟨.int .i32, 1, 4, [.one (.int .i32 0)]⟩),
  (22, ⟨.array 32 5, 32, 32, [.row 32 (fun _ => .w8 0)]⟩),
  (23, ⟨.array 32 5, 32, 32, [.row 32 (fun _ => .w8 0)]⟩),
  (24, ⟨.slice 5, 1, 24, [.one (.slc none 0 0)]⟩),
  (25, ⟨.fn, 1, 8, [.one (.nilFn)]⟩),
  (26, ⟨.ptr 68, 1, 8, [.one (.ptr none)]⟩),
  (27, ⟨.ptr 62, 1, 8, [.one (.ptr none)]⟩),
  (28, ⟨.fn, 1, 8, [.one (.nilFn)]⟩),
  (29, ⟨.fn, 1, 8, [.one (.nilFn)]⟩),
  (30, ⟨.int .u8, 1, 1, [.one (.w8 0)]⟩),
  (31, ⟨.struct [(30, 0), (24, 1), (24, 2), (24, 3), (4, 4), (24, 5)], 6, 112, [.one (.w8 0), .one (.slc none 0 0), .one (.slc none 0 0), .one (.slc none 0 0), .one (.bool false), .one (.slc none 0 0)]⟩),
  (32, ⟨.struct [(30, 0), (24, 1), (24, 2), (24, 3), (4, 4), (24, 5)], 6, 112, [.one (.w8 0), .one (.slc none 0 0), .one (.slc none 0 0), .one (.slc none 0 0), .one (.bool false), .one (.slc none 0 0)]⟩),
  (33, ⟨.struct [(32, 0), (3, 6), (3, 7)], 8, 128, [.one (.w8 0), .one (.slc none 0 0), .one (.slc none 0 0), .one (.slc none 0 0), .one (.bool false), .one (.slc none 0 0), .one (.int .i64 0), .one (.int .i64 0)]⟩),
  (34, ⟨.struct [(32, 0), (3, 6), (3, 7)], 8, 128, [.one (.w8 0), .one (.slc none 0 0), .one (.slc none 0 0), .one (.slc none 0 0), .one (.bool false), .one (.slc none 0 0), .one (.int .i64 0), .one (.int .i64 0)]⟩),
  (35, ⟨.int .i64, 1, 8, [.one (.int .i64 0)]⟩),
  (37, ⟨.fn, 1, 8, [.one (.nilFn)]⟩),
  (39, ⟨.fn, 1, 8, [.one (.nilFn)]⟩),
  (40, ⟨.int .u64, 1, 8, [.one (.w64 0)]⟩),
  (41, ⟨.struct [(32, 0), (40, 6), (24, 7)], 8, 144, [.one (.w8 0), .one (.slc none 0 0), .one (.slc none 0 0), .one (.slc none 0 0), .one (.bool false), .one (.slc none 0 0), .one (.w64 0), .one (.slc none 0 0)]⟩),
  (42, ⟨.struct [(32, 0), (40, 6), (24, 7)], 8, 144, [.one (.w8 0), .one (.slc none 0 0), .one (.slc none 0 0), .one (.slc none 0 0), .one (.bool false), .one (.slc none 0 0), .one (.w64 0), .one (.slc none 0 0)]⟩),
  (44, ⟨.fn, 1, 8, [.one (.nilFn)]⟩),
  (45, ⟨.fn, 1, 8, [.one (.nilFn)]⟩),
  (46, ⟨.int .u16, 1, 2, [.one (.w16 0)]⟩),
  (47, ⟨.fn, 1, 8, [.one (.nilFn)]⟩),
  (48, ⟨.fn, 1, 8, [.one (.nilFn)]⟩),
  (50, ⟨.fn, 1, 8, [.one (.nilFn)]⟩),
  (51, ⟨.int .u64, 1, 8, [.one (.w64 0)]⟩),
  (52, ⟨.fn, 1, 8, [.one (.nilFn)]⟩),
  (53, ⟨.fn, 1, 8, [.one (.nilFn)]⟩),
  (54, ⟨.fn, 1, 8, [.one (.nilFn)]⟩),
  (55, ⟨.fn, 1, 8, [.one (.nilFn)]⟩),
  (56, ⟨.fn, 1, 8, [.one (.nilFn)]⟩),
  (57, ⟨.ptr 106, 1, 8, [.one (.ptr none)]⟩),
  (58, ⟨.fn, 1, 8, [.one (.nilFn)]⟩),
  (59, ⟨.ptr 112, 1, 8, [.one (.ptr none)]⟩),
  (60, ⟨.fn, 1, 8, [.one (.nilFn)]⟩),
  (61, ⟨.struct [(57, 0), (59, 1)], 2, 16, [.one (.ptr none), .one (.ptr none)]⟩),
  (62, ⟨.struct [(57, 0), (59, 1)], 2, 16, [.one (.ptr none), .one (.ptr none)]⟩),
  (63, ⟨.ptr 118, 1, 8, [.one (.ptr none)]⟩),
  (64, ⟨.array 12 5, 12, 12, [.row 12 (fun _ => .w8 0)]⟩),
  (65, ⟨.array 12 5, 12, 12, [.row 12 (fun _ => .w8 0)]⟩),
  (66, ⟨.ptr 123, 1, 8, [.one (.ptr none)]⟩),
  (67, ⟨.struct [(23, 0), (63, 32), (65, 33), (66, 45)], 46, 64, [.row 32 (fun _ => .w8 0), .one (.ptr none), .row 12 (fun _ => .w8 0), .one (.ptr none)]⟩),
  (68, ⟨.struct [(23, 0), (63, 32), (65, 33), (66, 45)], 46, 64, [.row 32 (fun _ => .w8 0), .one (.ptr none), .row 12 (fun _ => .w8 0), .one (.ptr none)]⟩),
  (69, ⟨.fn, 1, 8, [.one (.nilFn)]⟩),
  (70, ⟨.array 16 5, 16, 16, [.row 16 (fun _ => .w8 0)]⟩),
  (71, ⟨.array 16 5, 16, 16, [.row 16 (fun _ => .w8 0)]⟩),
  (72, ⟨.fn, 1, 8, [.one (.nilFn)]⟩),
  (73, ⟨.fn, 1, 8, [.one (.nilFn)]⟩),
  (74, ⟨.fn, 1, 8, [.one (.nilFn)]⟩),
  (75, ⟨.fn, 1, 8, [.one (.nilFn)]⟩),
  (76, ⟨.fn, 1, 8, [.one (.nilFn)]⟩),
  (77, ⟨.array 5 5, 5, 5, [.row 5 (fun _ => .w8 0)]⟩),
  (78, ⟨.fn, 1, 8, [.one (.nilFn)]⟩),
  (79, ⟨.fn, 1, 8, [.one (.nilFn)]⟩),
  (81, ⟨.fn, 1, 8, [.one (.nilFn)]⟩),
  (83, ⟨.fn, 1, 8, [.one (.nilFn)]⟩),
  (84, ⟨.fn, 1, 8, [.one (.nilFn)]⟩),
  (85, ⟨.fn, 1, 8, [.one (.nilFn)]⟩),
  (86, ⟨.fn, 1, 8, [.one (.nilFn)]⟩),
  (87, ⟨.fn, 1, 8, [.one (.nilFn)]⟩),
  (88, ⟨.fn, 1, 8, [.one (.nilFn)]⟩),
  (89, ⟨.struct [], 0, 0, []⟩),
  (90, ⟨.struct [], 0, 0, []⟩),
  (91, ⟨.struct [], 0, 0, []⟩),
  (92, ⟨.int .u32, 1, 4, [.one (.w32 0)]⟩),
  (93, ⟨.struct [(91, 0), (92, 0)], 1, 4, [.one (.w32 0)]⟩),
  (94, ⟨.struct [(91, 0), (92, 0)], 1, 4, [.one (.w32 0)]⟩),
  (95, ⟨.struct [(21, 0), (92, 1)], 2, 8, [.one (.int .i32 0), .one (.w32 0)]⟩),
  (96, ⟨.struct [(21, 0), (92, 1)], 2, 8, [.one (.int .i32 0), .one (.w32 0)]⟩),
  (97, ⟨.struct [(90, 0), (96, 0)], 2, 8, [.one (.int .i32 0), .one (.w32 0)]⟩),
  (98, ⟨.struct [(90, 0), (96, 0)], 2, 8, [.one (.int .i32 0), .one (.w32 0)]⟩),
  (99, ⟨.struct [(90, 0), (94, 0), (98, 1)], 3, 12, [.one (.w32 0), .one (.int .i32 0), .one (.w32 0)]⟩),
  (100, ⟨.struct [(90, 0), (94, 0), (98, 1)], 3, 12, [.one (.w32 0), .one (.int .i32 0), .one (.w32 0)]⟩),
  (101, ⟨.array 8 92, 8, 32, [.row 8 (fun _ => .w32 0)]⟩),
  (102, ⟨.array 64 92, 64, 256, [.row 64 (fun _ => .w32 0)]⟩),
  (103, ⟨.struct [(100, 0), (101, 3), (102, 11)], 75, 300, [.one (.w32 0), .one (.int .i32 0), .one (.w32 0), .row 8 (fun _ => .w32 0), .row 64 (fun _ => .w32 0)]⟩),
  (104, ⟨.struct [(100, 0), (101, 3), (102, 11)], 75, 300, [.one (.w32 0), .one (.int .i32 0), .one (.w32 0), .row 8 (fun _ => .w32 0), .row 64 (fun _ => .w32 0)]⟩),
  (105, ⟨.struct [(104, 0)], 75, 300, [.one (.w32 0), .one (.int .i32 0), .one (.w32 0), .row 8 (fun _ => .w32 0), .row 64 (fun _ => .w32 0)]⟩),
  (106, ⟨.struct [(104, 0)], 75, 300, [.one (.w32 0), .one (.int .i32 0), .one (.w32 0), .row 8 (fun _ => .w32 0), .row 64 (fun _ => .w32 0)]⟩),
  (107, ⟨.array 256 5, 256, 256, [.row 256 (fun _ => .w8 0)]⟩),
  (108, ⟨.struct [], 0, 0, []⟩),
  (109, ⟨.struct [(91, 0), (108, 0), (2, 0)], 1, 8, [.one (.int .i64 0)]⟩),
  (110, ⟨.struct [(91, 0), (108, 0), (2, 0)], 1, 8, [.one (.int .i64 0)]⟩),
  (111, ⟨.struct [(100, 0), (107, 3), (110, 259)], 260, 280, [.one (.w32 0), .one (.int .i32 0), .one (.w32 0), .row 256 (fun _ => .w8 0), .one (.int .i64 0)]⟩),
  (112, ⟨.struct [(100, 0), (107, 3), (110, 259)], 260, 280, [.one (.w32 0), .one (.int .i32 0), .one (.w32 0), .row 256 (fun _ => .w8 0), .one (.int .i64 0)]⟩),
  (113, ⟨.struct [(40, 0), (40, 1)], 2, 16, [.one (.w64 0), .one (.w64 0)]⟩),
  (114, ⟨.struct [(40, 0), (40, 1)], 2, 16, [.one (.w64 0), .one (.w64 0)]⟩),
  (115, ⟨.fn, 1, 8, [.one (.nilFn)]⟩),
  (116, ⟨.fn, 1, 8, [.one (.nilFn)]⟩),
  (117, ⟨.struct [(66, 0), (114, 1)], 3, 24, [.one (.ptr none), .one (.w64 0), .one (.w64 0)]⟩),
  (118, ⟨.struct [(66, 0), (114, 1)], 3, 24, [.one (.ptr none), .one (.w64 0), .one (.w64 0)]⟩),
  (119, ⟨.fn, 1, 8, [.one (.nilFn)]⟩),
  (120, ⟨.fn, 1, 8, [.one (.nilFn)]⟩),
  (121, ⟨.array 11 71, 176, 176, [.row 176 (fun _ => .w8 0)]⟩),
  (122, ⟨.struct [(59, 0), (121, 1)], 177, 184, [.one (.ptr none), .row 176 (fun _ => .w8 0)]⟩),
  (123, ⟨.struct [(59, 0), (121, 1)], 177, 184, [.one (.ptr none), .row 176 (fun _ => .w8 0)]⟩),
  (124, ⟨.ptr 71, 1, 8, [.one (.ptr none)]⟩),
  (125, ⟨.fn, 1, 8, [.one (.nilFn)]⟩),
  (126, ⟨.ptr 152, 1, 8, [.one (.ptr none)]⟩),
  (127, ⟨.fn, 1, 8, [.one (.nilFn)]⟩),
  (128, ⟨.fn, 1, 8, [.one (.nilFn)]⟩),
  (129, ⟨.fn, 1, 8, [.one (.nilFn)]⟩),
  (130, ⟨.fn, 1, 8, [.one (.nilFn)]⟩),
  (131, ⟨.fn, 1, 8, [.one (.nilFn)]⟩),
  (132, ⟨.fn, 1, 8, [.one (.nilFn)]⟩),
  (133, ⟨.fn, 1, 8, [.one (.nilFn)]⟩),
  (134, ⟨.fn, 1, 8, [.one (.nilFn)]⟩),
  (135, ⟨.fn, 1, 8, [.one (.nilFn)]⟩),
  (136, ⟨.fn, 1, 8, [.one (.nilFn)]⟩),
  (137, ⟨.fn, 1, 8, [.one (.nilFn)]⟩),
  (138, ⟨.struct [(24, 0), (35, 1)], 2, 32, [.one (.slc none 0 0), .one (.int .i64 0)]⟩),
  (139, ⟨.struct [(24, 0), (35, 1)], 2, 32, [.one (.slc none 0 0), .one (.int .i64 0)]⟩),
  (140, ⟨.fn, 1, 8, [.one (.nilFn)]⟩),
  (141, ⟨.fn, 1, 8, [.one (.nilFn)]⟩),
  (142, ⟨.fn, 1, 8, [.one (.nilFn)]⟩),
  (143, ⟨.fn, 1, 8, [.one (.nilFn)]⟩),
  (144, ⟨.fn, 1, 8, [.one (.nilFn)]⟩),
  (145, ⟨.fn, 1, 8, [.one (.nilFn)]⟩),
  (146, ⟨.fn, 1, 8, [.one (.nilFn)]⟩),
  (147, ⟨.fn, 1, 8, [.one (.nilFn)]⟩),
  (148, ⟨.ptr 100, 1, 8, [.one (.ptr none)]⟩),
  (149, ⟨.fn, 1, 8, [.one (.nilFn)]⟩),
  (150, ⟨.fn, 1, 8, [.one (.nilFn)]⟩),
  (151, ⟨.struct [(24, 0), (35, 1)], 2, 32, [.one (.slc none 0 0), .one (.int .i64 0)]⟩),
  (152, ⟨.struct [(24, 0), (35, 1)], 2, 32, [.one (.slc none 0 0), .one (.int .i64 0)]⟩),
  (153, ⟨.fn, 1, 8, [.one (.nilFn)]⟩),
  (155, ⟨.fn, 1, 8, [.one (.nilFn)]⟩),
  (156, ⟨.fn, 1, 8, [.one (.nilFn)]⟩),
  (157, ⟨.fn, 1, 8, [.one (.nilFn)]⟩),
  (158, ⟨.ptr 139, 1, 8, [.one (.ptr none)]⟩),
  (159, ⟨.fn, 1, 8, [.one (.nilFn)]⟩),
  (160, ⟨.fn, 1, 8, [.one (.nilFn)]⟩),
  (162, ⟨.fn, 1, 8, [.one (.nilFn)]⟩),
  (163, ⟨.fn, 1, 8, [.one (.nilFn)]⟩),
  (164, ⟨.ptr 110, 1, 8, [.one (.ptr none)]⟩),
  (165, ⟨.fn, 1, 8, [.one (.nilFn)]⟩),
  (166, ⟨.ptr 2, 1, 8, [.one (.ptr none)]⟩),
  (167, ⟨.ptr 104, 1, 8, [.one (.ptr none)]⟩),
  (168, ⟨.slice 24, 1, 24, [.one (.slc none 0 0)]⟩),
  (169, ⟨.array 64 5, 64, 64, [.row 64 (fun _ => .w8 0)]⟩),
  (170, ⟨.fn, 1, 8, [.one (.nilFn)]⟩),
  (171, ⟨.struct [(167, 0), (101, 1), (169, 9), (3, 73), (40, 74)], 75, 120, [.one (.ptr none), .row 8 (fun _ => .w32 0), .row 64 (fun _ => .w8 0), .one (.int .i64 0), .one (.w64 0)]⟩),
  (172, ⟨.struct [(167, 0), (101, 1), (169, 9), (3, 73), (40, 74)], 75, 120, [.one (.ptr none), .row 8 (fun _ => .w32 0), .row 64 (fun _ => .w8 0), .one (.int .i64 0), .one (.w64 0)]⟩),
  (173, ⟨.fn, 1, 8, [.one (.nilFn)]⟩),
  (174, ⟨.fn, 1, 8, [.one (.nilFn)]⟩),
  (175, ⟨.ptr 94, 1, 8, [.one (.ptr none)]⟩),
  (176, ⟨.fn, 1, 8, [.one (.nilFn)]⟩),
  (177, ⟨.ptr 92, 1, 8, [.one (.ptr none)]⟩),
  (178, ⟨.fn, 1, 8, [.one (.nilFn)]⟩),
  (180, ⟨.fn, 1, 8, [.one (.nilFn)]⟩),
  (181, ⟨.fn, 1, 8, [.one (.nilFn)]⟩),
  (182, ⟨.fn, 1, 8, [.one (.nilFn)]⟩),
  (183, ⟨.fn, 1, 8, [.one (.nilFn)]⟩),
  (184, ⟨.fn, 1, 8, [.one (.nilFn)]⟩),
  (185, ⟨.slice 40, 1, 24, [.one (.slc none 0 0)]⟩),
  (186, ⟨.ptr 172, 1, 8, [.one (.ptr none)]⟩),
  (187, ⟨.ptr 98, 1, 8, [.one (.ptr none)]⟩),
  (188, ⟨.fn, 1, 8, [.one (.nilFn)]⟩),
  (189, ⟨.fn, 1, 8, [.one (.nilFn)]⟩),
  (190, ⟨.fn, 1, 8, [.one (.nilFn)]⟩),
  (191, ⟨.fn, 1, 8, [.one (.nilFn)]⟩),
  (192, ⟨.fn, 1, 8, [.one (.nilFn)]⟩),
  (193, ⟨.ptr 96, 1, 8, [.one (.ptr none)]⟩),
  (194, ⟨.fn, 1, 8, [.one (.nilFn)]⟩),
  (195, ⟨.ptr 21, 1, 8, [.one (.ptr none)]⟩),
  (196, ⟨.fn, 1, 8, [.one (.nilFn)]⟩),
  (198, ⟨.fn, 1, 8, [.one (.nilFn)]⟩),
  (199, ⟨.fn, 1, 8, [.one (.nilFn)]⟩),
  (201, ⟨.fn, 1, 8, [.one (.nilFn)]⟩),
  (202, ⟨.fn, 1, 8, [.one (.nilFn)]⟩),
  (203, ⟨.fn, 1, 8, [.one (.nilFn)]⟩),
  (204, ⟨.fn, 1, 8, [.one (.nilFn)]⟩),
  (205, ⟨.fn, 1, 8, [.one (.nilFn)]⟩),
  (206, ⟨.fn, 1, 8, [.one (.nilFn)]⟩),
  (207, ⟨.struct [(17, 0), (17, 1), (17, 2), (9, 3)], 4, 40, [.one (.ptr none), .one (.ptr none), .one (.ptr none), .one (.str [])]⟩),
  (208, ⟨.struct [(17, 0), (17, 1), (17, 2), (9, 3)], 4, 40, [.one (.ptr none), .one (.ptr none), .one (.ptr none), .one (.str [])]⟩),
  (209, ⟨.array 0 16, 0, 0, [.row 0 (fun _ => .ptr none)]⟩),
  (210, ⟨.struct [(209, 0)], 0, 0, [.row 0 (fun _ => .ptr none)]⟩),
  (211, ⟨.struct [(209, 0)], 0, 0, [.row 0 (fun _ => .ptr none)]⟩),
  (212, ⟨.int .u8, 1, 1, [.one (.w8 0)]⟩),
  (213, ⟨.int .u8, 1, 1, [.one (.w8 0)]⟩),
  (214, ⟨.fn, 1, 8, [.one (.nilFn)]⟩),
  (215, ⟨.ptr 5, 1, 8, [.one (.ptr none)]⟩),
  (216, ⟨.int .i32, 1, 4, [.one (.int .i32 0)]⟩),
  (217, ⟨.int .i32, 1, 4, [.one (.int .i32 0)]⟩),
  (218, ⟨.struct [(12, 0), (12, 1), (92, 2), (212, 3), (5, 4), (5, 5), (213, 6), (214, 7), (215, 8), (216, 9), (217, 10)], 11, 48, [.one (.w64 0), .one (.w64 0), .one (.w32 0), .one (.w8 0), .one (.w8 0), .one (.w8 0), .one (.w8 0), .one (.nilFn), .one (.ptr none), .one (.int .i32 0), .one (.int .i32 0)]⟩),
  (219, ⟨.struct [(12, 0), (12, 1), (92, 2), (212, 3), (5, 4), (5, 5), (213, 6), (214, 7), (215, 8), (216, 9), (217, 10)], 11, 48, [.one (.w64 0), .one (.w64 0), .one (.w32 0), .one (.w8 0), .one (.w8 0), .one (.w8 0), .one (.w8 0), .one (.nilFn), .one (.ptr none), .one (.int .i32 0), .one (.int .i32 0)]⟩),
  (220, ⟨.fn, 1, 8, [.one (.nilFn)]⟩)]
theorem td_1 : TdOk Tryz.prog 1 ⟨.fn, 1, 8, [.one (.nilFn)]⟩ := ⟨by kernel_rfl, show _ = _ by kernel_rfl, by kernel_rfl, by kernel_rfl, by kernel_rfl⟩
theorem td_2 : TdOk Tryz.prog 2 ⟨.int .i64, 1, 8, [.one (.int .i64 0)]⟩ := ⟨by kernel_rfl, show _ = _ by kernel_rfl, by kernel_rfl, by kernel_rfl, by kernel_rfl⟩
theorem td_3 : TdOk Tryz.prog 3 ⟨.int .i64, 1, 8, [.one (.int .i64 0)]⟩ := ⟨by kernel_rfl, show _ = _ by kernel_rfl, by kernel_rfl, by kernel_rfl, by kernel_rfl⟩
theorem td_4 : TdOk Tryz.prog 4 ⟨.bool, 1, 1, [.one (.bool false)]⟩ := ⟨by kernel_rfl, show _ = _ by kernel_rfl, by kernel_rfl, by kernel_rfl, by kernel_rfl⟩
theorem td_5 : TdOk Tryz.prog 5 ⟨.int .u8, 1, 1, [.one (.w8 0)]⟩ := ⟨by kernel_rfl, show _ = _ by kernel_rfl, by kernel_rfl, by kernel_rfl, by kernel_rfl⟩
theorem td_6 : TdOk Tryz.prog 6 ⟨.int .u8, 1, 1, [.one (.w8 0)]⟩ := ⟨by kernel_rfl, show _ = _ by kernel_rfl, by kernel_rfl, by kernel_rfl, by kernel_rfl⟩
theorem td_7 : TdOk Tryz.prog 7 ⟨.struct [(2, 0), (3, 1), (4, 2), (6, 3)], 4, 24, [.one (.int .i64 0), .one (.int .i64 0), .one (.bool false), .one (.w8 0)]⟩ := ⟨by kernel_rfl, show _ = _ by kernel_rfl, by kernel_rfl, by kernel_rfl, by kernel_rfl⟩
theorem td_8 : TdOk Tryz.prog 8 ⟨.struct [(2, 0), (3, 1), (4, 2), (6, 3)], 4, 24, [.one (.int .i64 0), .one (.int .i64 0), .one (.bool false), .one (.w8 0)]⟩ := ⟨by kernel_rfl, show _ = _ by kernel_rfl, by kernel_rfl, by kernel_rfl, by kernel_rfl⟩
theorem td_9 : TdOk Tryz.prog 9 ⟨.str, 1, 16, [.one (.str [])]⟩ := ⟨by kernel_rfl, show _ = _ by kernel_rfl, by kernel_rfl, by kernel_rfl, by kernel_rfl⟩
theorem td_10 : TdOk Tryz.prog 10 ⟨.str, 1, 16, [.one (.str [])]⟩ := ⟨by kernel_rfl, show _ = _ by kernel_rfl, by kernel_rfl, by kernel_rfl, by kernel_rfl⟩
theorem td_11 : TdOk Tryz.prog 11 ⟨.str, 1, 16, [.one (.str [])]⟩ := ⟨by kernel_rfl, show _ = _ by kernel_rfl, by kernel_rfl, by kernel_rfl, by kernel_rfl⟩
theorem td_12 : TdOk Tryz.prog 12 ⟨.int .u64, 1, 8, [.one (.w64 0)]⟩ := ⟨by kernel_rfl, show _ = _ by kernel_rfl, by kernel_rfl, by kernel_rfl, by kernel_rfl⟩
theorem td_13 : TdOk Tryz.prog 13 ⟨.struct [(9, 0), (12, 1)], 2, 24, [.one (.str []), .one (.w64 0)]⟩ := ⟨by kernel_rfl, show _ = _ by kernel_rfl, by kernel_rfl, by kernel_rfl, by kernel_rfl⟩
theorem td_14 : TdOk Tryz.prog 14 ⟨.struct [(9, 0), (12, 1)], 2, 24, [.one (.str []), .one (.w64 0)]⟩ := ⟨by kernel_rfl, show _ = _ by kernel_rfl, by kernel_rfl, by kernel_rfl, by kernel_rfl⟩
theorem td_15 : TdOk Tryz.prog 15 ⟨.ptr 208, 1, 8, [.one (.ptr none)]⟩ := ⟨by kernel_rfl, show _ = _ by kernel_rfl, by kernel_rfl, by kernel_rfl, by kernel_rfl⟩
theorem td_16 : TdOk Tryz.prog 16 ⟨.ptr 211, 1, 8, [.one (.ptr none)]⟩ := ⟨by kernel_rfl, show _ = _ by kernel_rfl, by kernel_rfl, by kernel_rfl, by kernel_rfl⟩
theorem td_17 : TdOk Tryz.prog 17 ⟨.ptr 219, 1, 8, [.one (.ptr none)]⟩ := ⟨by kernel_rfl, show _ = _ by kernel_rfl, by kernel_rfl, by kernel_rfl, by kernel_rfl⟩
theorem td_18 : TdOk Tryz.prog 18 ⟨.struct [(17, 0)], 1, 8, [.one (.ptr none)]⟩ := ⟨by kernel_rfl, show _ = _ by kernel_rfl, by kernel_rfl, by kernel_rfl, by kernel_rfl⟩
theorem td_19 : TdOk Tryz.prog 19 ⟨.struct [(17, 0)], 1, 8, [.one (.ptr none)]⟩ := ⟨by kernel_rfl, show _ = _ by kernel_rfl, by kernel_rfl, by kernel_rfl, by kernel_rfl⟩
theorem td_20 : TdOk Tryz.prog 20 ⟨.ifc, 1, 16, [.one (.nilIfc)]⟩ := ⟨by kernel_rfl, show _ = _ by kernel_rfl, by kernel_rfl, by kernel_rfl, by kernel_rfl⟩
theorem td_21 : TdOk Tryz.prog 21 ⟨.int .i32, 1, 4, [.one (.int .i32 0)]⟩ := ⟨by kernel_rfl, show _ = _ by kernel_rfl, by kernel_rfl, by kernel_rfl, by kernel_rfl⟩
theorem td_22 : TdOk Tryz.prog 22 ⟨.array 32 5, 32, 32, [.row 32 (fun _ => .w8 0)]⟩ := ⟨by kernel_rfl, show _ = _ by kernel_rfl, by kernel_rfl, by kernel_rfl, by kernel_rfl⟩
theorem td_23 : TdOk Tryz.prog 23 ⟨.array 32 5, 32, 32, [.row 32 (fun _ => .w8 0)]⟩ := ⟨by kernel_rfl, show _ = _ by kernel_rfl, by kernel_rfl, by kernel_rfl, by kernel_rfl⟩
theorem td_24 : TdOk Tryz.prog 24 ⟨.slice 5, 1, 24, [.one (.slc none 0 0)]⟩ := ⟨by kernel_rfl, show _ = _ by kernel_rfl, by kernel_rfl, by kernel_rfl, by kernel_rfl⟩
theorem td_25 : TdOk Tryz.prog 25 ⟨.fn, 1, 8, [.one (.nilFn)]⟩ := ⟨by kernel_rfl, show _ = _ by kernel_rfl, by kernel_rfl, by kernel_rfl, by kernel_rfl⟩
theorem td_26 : TdOk Tryz.prog 26 ⟨.ptr 68, 1, 8, [.one (.ptr none)]⟩ := ⟨by kernel_rfl, show _ = _ by kernel_rfl, by kernel_rfl, by kernel_rfl, by kernel_rfl⟩
theorem td_27 : TdOk Tryz.prog 27 ⟨.ptr 62, 1, 8, [.one (.ptr none)]⟩ := ⟨by kernel_rfl, show _ = _ by kernel_rfl, by kernel_rfl, by kernel_rfl, by kernel_rfl⟩
theorem td_28 : TdOk Tryz.prog 28 ⟨.fn, 1, 8, [.one (.nilFn)]⟩ := ⟨by kernel_rfl, show _ = _ by kernel_rfl, by kernel_rfl, by kernel_rfl, by kernel_rfl⟩
theorem td_29 : TdOk Tryz.prog 29 ⟨.fn, 1, 8, [.one (.nilFn)]⟩ := ⟨by kernel_rfl, show _ = _ by kernel_rfl, by kernel_rfl, by kernel_rfl, by kernel_rfl⟩
theorem td_30 : TdOk Tryz.prog 30 ⟨.int .u8, 1, 1, [.one (.w8 0)]⟩ := ⟨by kernel_rfl, show _ = _ by kernel_rfl, by kernel_rfl, by kernel_rfl, by kernel_rfl⟩
theorem td_31 : TdOk Tryz.prog 31 ⟨.struct [(30, 0), (24, 1), (24, 2), (24, 3), (4, 4), (24, 5)], 6, 112, [.one (.w8 0), .one (.slc none 0 0), .one (.slc none 0 0), .one (.slc none 0 0), .one (.bool false), .one (.slc none 0 0)]⟩ := ⟨by kernel_rfl, show _ = _ by kernel_rfl, by kernel_rfl, by kernel_rfl, by kernel_rfl⟩
theorem td_32 : TdOk Tryz.prog 32 ⟨.struct [(30, 0), (24, 1), (24, 2), (24, 3), (4, 4), (24, 5)], 6, 112, [.one (.w8 0), .one (.slc none 0 0), .one (.slc none 0 0), .one (.slc none 0 0), .one (.bool false), .one (.slc none 0 0)]⟩ := ⟨by kernel_rfl, show _ = _ by kernel_rfl, by kernel_rfl, by kernel_rfl, by kernel_rfl⟩
theorem td_33 : TdOk Tryz.prog 33 ⟨.struct [(32, 0), (3, 6), (3, 7)], 8, 128, [.one (.w8 0), .one (.slc none 0 0), .one (.slc none 0 0), .one (.slc none 0 0), .one (.bool false), .one (.slc none 0 0), .one (.int .i64 0), .one (.int .i64 0)]⟩ := ⟨by kernel_rfl, show _ = _ by kernel_rfl, by kernel_rfl, by kernel_rfl, by kernel_rfl⟩
theorem td_34 : TdOk Tryz.prog 34 ⟨.struct [(32, 0), (3, 6), (3, 7)], 8, 128, [.one (.w8 0), .one (.slc none 0 0), .one (.slc none 0 0), .one (.slc none 0 0), .one (.bool false), .one (.slc none 0 0), .one (.int .i64 0), .one (.int .i64 0)]⟩ := ⟨by kernel_rfl, show _ = _ by kernel_rfl, by kernel_rfl, by kernel_rfl, by kernel_rfl⟩
theorem td_35 : TdOk Tryz.prog 35 ⟨.int .i64, 1, 8, [.one (.int .i64 0)]⟩ := ⟨by kernel_rfl, show _ = _ by kernel_rfl, by kernel_rfl, by kernel_rfl, by kernel_rfl⟩
theorem td_37 : TdOk Tryz.prog 37 ⟨.fn, 1, 8, [.one (.nilFn)]⟩ := ⟨by kernel_rfl, show _ = _ by kernel_rfl, by kernel_rfl, by kernel_rfl, by kernel_rfl⟩
theorem td_39 : TdOk Tryz.prog 39 ⟨.fn, 1, 8, [.one (.nilFn)]⟩ := ⟨by kernel_rfl, show _ = _ by kernel_rfl, by kernel_rfl, by kernel_rfl, by kernel_rfl⟩
theorem td_40 : TdOk Tryz.prog 40 ⟨.int .u64, 1, 8, [.one (.w64 0)]⟩ := ⟨by kernel_rfl, show _ = _ by kernel_rfl, by kernel_rfl, by kernel_rfl, by kernel_rfl⟩
theorem td_41 : TdOk Tryz.prog 41 ⟨.struct [(32, 0), (40, 6), (24, 7)], 8, 144, [.one (.w8 0), .one (.slc none 0 0), .one (.slc none 0 0), .one (.slc none 0 0), .one (.bool false), .one (.slc none 0 0), .one (.w64 0), .one (.slc none 0 0)]⟩ := ⟨by kernel_rfl, show _ = _ by kernel_rfl, by kernel_rfl, by kernel_rfl, by kernel_rfl⟩
theorem td_42 : TdOk Tryz.prog 42 ⟨.struct [(32, 0), (40, 6), (24, 7)], 8, 144, [.one (.w8 0), .one (.slc none 0 0), .one (.slc none 0 0), .one (.slc none 0 0), .one (.bool false), .one (.slc none 0 0), .one (.w64 0), .one (.slc none 0 0)]⟩ := ⟨by kernel_rfl, show _ = _ by kernel_rfl, by kernel_rfl, by kernel_rfl, by kernel_rfl⟩
theorem td_44 : TdOk Tryz.prog 44 ⟨.fn, 1, 8, [.one (.nilFn)]⟩ := ⟨by kernel_rfl, show _ = _ by kernel_rfl, by kernel_rfl, by kernel_rfl, by kernel_rfl⟩
theorem td_45 : TdOk Tryz.prog 45 ⟨.fn, 1, 8, [.one (.nilFn)]⟩ := ⟨by kernel_rfl, show _ = _ by kernel_rfl, by kernel_rfl, by kernel_rfl, by kernel_rfl⟩
theorem td_46 : TdOk Tryz.prog 46 ⟨.int .u16, 1, 2, [.one (.w16 0)]⟩ := ⟨by kernel_rfl, show _ = _ by kernel_rfl, by kernel_rfl, by kernel_rfl, by kernel_rfl⟩
theorem td_47 : TdOk Tryz.prog 47 ⟨.fn, 1, 8, [.one (.nilFn)]⟩ := ⟨by kernel_rfl, show _ = _ by kernel_rfl, by kernel_rfl, by kernel_rfl, by kernel_rfl⟩
theorem td_48 : TdOk Tryz.prog 48 ⟨.fn, 1, 8, [.one (.nilFn)]⟩ := ⟨by kernel_rfl, show _ = _ by kernel_rfl, by kernel_rfl, by kernel_rfl, by kernel_rfl⟩
theorem td_50 : TdOk Tryz.prog 50 ⟨.fn, 1, 8, [.one (.nilFn)]⟩ := ⟨by kernel_rfl, show _ = _ by kernel_rfl, by kernel_rfl, by kernel_rfl, by kernel_rfl⟩
theorem td_51 : TdOk Tryz.prog 51 ⟨.int .u64, 1, 8, [.one (.w64 0)]⟩ := ⟨by kernel_rfl, show _ = _ by kernel_rfl, by kernel_rfl, by kernel_rfl, by kernel_rfl⟩
theorem td_52 : TdOk Tryz.prog 52 ⟨.fn, 1, 8, [.one (.nilFn)]⟩ := ⟨by kernel_rfl, show _ = _ by kernel_rfl, by kernel_rfl, by kernel_rfl, by kernel_rfl⟩
theorem td_53 : TdOk Tryz.prog 53 ⟨.fn, 1, 8, [.one (.nilFn)]⟩ := ⟨by kernel_rfl, show _ = _ by kernel_rfl, by kernel_rfl, by kernel_rfl, by kernel_rfl⟩
theorem td_54 : TdOk Tryz.prog 54 ⟨.fn, 1, 8, [.one (.nilFn)]⟩ := ⟨by kernel_rfl, show _ = _ by kernel_rfl, by kernel_rfl, by kernel_rfl, by kernel_rfl⟩
theorem td_55 : TdOk Tryz.prog 55 ⟨.fn, 1, 8, [.one (.nilFn)]⟩ := ⟨by kernel_rfl, show _ = _ by kernel_rfl, by kernel_rfl, by kernel_rfl, by kernel_rfl⟩
theorem td_56 : TdOk Tryz.prog 56 ⟨.fn, 1, 8, [.one (.nilFn)]⟩ := ⟨by kernel_rfl, show _ = _ by kernel_rfl, by kernel_rfl, by kernel_rfl, by kernel_rfl⟩
theorem td_57 : TdOk Tryz.prog 57 ⟨.ptr 106, 1, 8, [.one (.ptr none)]⟩ := ⟨by kernel_rfl, show _ = _ by kernel_rfl, by kernel_rfl, by kernel_rfl, by kernel_rfl⟩
theorem td_58 : TdOk Tryz.prog 58 ⟨.fn, 1, 8, [.one (.nilFn)]⟩ := ⟨by kernel_rfl, show _ = _ by kernel_rfl, by kernel_rfl, by kernel_rfl, by kernel_rfl⟩
theorem td_59 : TdOk Tryz.prog 59 ⟨.ptr 112, 1, 8, [.one (.ptr none)]⟩ := ⟨by kernel_rfl, show _ = _ by kernel_rfl, by kernel_rfl, by kernel_rfl, by kernel_rfl⟩
theorem td_60 : TdOk Tryz.prog 60 ⟨.fn, 1, 8, [.one (.nilFn)]⟩ := ⟨by kernel_rfl, show _ = _ by kernel_rfl, by kernel_rfl, by kernel_rfl, by kernel_rfl⟩
theorem td_61 : TdOk Tryz.prog 61 ⟨.struct [(57, 0), (59, 1)], 2, 16, [.one (.ptr none), .one (.ptr none)]⟩ := ⟨by kernel_rfl, show _ = _ by kernel_rfl, by kernel_rfl, by kernel_rfl, by kernel_rfl⟩
theorem td_62 : TdOk Tryz.prog 62 ⟨.struct [(57, 0), (59, 1)], 2, 16, [.one (.ptr none), .one (.ptr none)]⟩ := ⟨by kernel_rfl, show _ = _ by kernel_rfl, by kernel_rfl, by kernel_rfl, by kernel_rfl⟩
theorem td_63 : TdOk Tryz.prog 63 ⟨.ptr 118, 1, 8, [.one (.ptr none)]⟩ := ⟨by kernel_rfl, show _ = _ by kernel_rfl, by kernel_rfl, by kernel_rfl, by kernel_rfl⟩
theorem td_64 : TdOk Tryz.prog 64 ⟨.array 12 5, 12, 12, [.row 12 (fun _ => .w8 0)]⟩ := ⟨by kernel_rfl, show _ = _ by kernel_rfl, by kernel_rfl, by kernel_rfl, by kernel_rfl⟩
theorem td_65 : TdOk Tryz.prog 65 ⟨.array 12 5, 12, 12, [.row 12 (fun _ => .w8 0)]⟩ := ⟨by kernel_rfl, show _ = _ by kernel_rfl, by kernel_rfl, by kernel_rfl, by kernel_rfl⟩
theorem td_66 : TdOk Tryz.prog 66 ⟨.ptr 123, 1, 8, [.one (.ptr none)]⟩ := ⟨by kernel_rfl, show _ = _ by kernel_rfl, by kernel_rfl, by kernel_rfl, by kernel_rfl⟩
theorem td_67 : TdOk Tryz.prog 67 ⟨.struct [(23, 0), (63, 32), (65, 33), (66, 45)], 46, 64, [.row 32 (fun _ => .w8 0), .one (.ptr none), .row 12 (fun _ => .w8 0), .one (.ptr none)]⟩ := ⟨by kernel_rfl, show _ = _ by kernel_rfl, by kernel_rfl, by kernel_rfl, by kernel_rfl⟩
theorem td_68 : TdOk Tryz.prog 68 ⟨.struct [(23, 0), (63, 32), (65, 33), (66, 45)], 46, 64, [.row 32 (fun _ => .w8 0), .one (.ptr none), .row 12 (fun _ => .w8 0), .one (.ptr none)]⟩ := ⟨by kernel_rfl, show _ = _ by kernel_rfl, by kernel_rfl, by kernel_rfl, by kernel_rfl⟩
theorem td_69 : TdOk Tryz.prog 69 ⟨.fn, 1, 8, [.one (.nilFn)]⟩ := ⟨by kernel_rfl, show _ = _ by kernel_rfl, by kernel_rfl, by kernel_rfl, by kernel_rfl⟩
theorem td_70 : TdOk Tryz.prog 70 ⟨.array 16 5, 16, 16, [.row 16 (fun _ => .w8 0)]⟩ := ⟨by kernel_rfl, show _ = _ by kernel_rfl, by kernel_rfl, by kernel_rfl, by kernel_rfl⟩
theorem td_71 : TdOk Tryz.prog 71 ⟨.array 16 5, 16, 16, [.row 16 (fun _ => .w8 0)]⟩ := ⟨by kernel_rfl, show _ = _ by kernel_rfl, by kernel_rfl, by kernel_rfl, by kernel_rfl⟩
theorem td_72 : TdOk Tryz.prog 72 ⟨.fn, 1, 8, [.one (.nilFn)]⟩ := ⟨by kernel_rfl, show _ = _ by kernel_rfl, by kernel_rfl, by kernel_rfl, by kernel_rfl⟩
theorem td_73 : TdOk Tryz.prog 73 ⟨.fn, 1, 8, [.one (.nilFn)]⟩ := ⟨by kernel_rfl, show _ = _ by kernel_rfl, by kernel_rfl, by kernel_rfl, by kernel_rfl⟩
theorem td_74 : TdOk Tryz.prog 74 ⟨.fn, 1, 8, [.one (.nilFn)]⟩ := ⟨by kernel_rfl, show _ = _ by kernel_rfl, by kernel_rfl, by kernel_rfl, by kernel_rfl⟩
theorem td_75 : TdOk Tryz.prog 75 ⟨.fn, 1, 8, [.one (.nilFn)]⟩ := ⟨by kernel_rfl, show _ = _ by kernel_rfl, by kernel_rfl, by kernel_rfl, by kernel_rfl⟩
theorem td_76 : TdOk Tryz.prog 76 ⟨.fn, 1, 8, [.one (.nilFn)]⟩ := ⟨by kernel_rfl, show _ = _ by kernel_rfl, by kernel_rfl, by kernel_rfl, by kernel_rfl⟩
theorem td_77 : TdOk Tryz.prog 77 ⟨.array 5 5, 5, 5, [.row 5 (fun _ => .w8 0)]⟩ := ⟨by kernel_rfl, show _ = _ by kernel_rfl, by kernel_rfl, by kernel_rfl, by kernel_rfl⟩
theorem td_78 : TdOk Tryz.prog 78 ⟨.fn, 1, 8, [.one (.nilFn)]⟩ := ⟨by kernel_rfl, show _ = _ by kernel_rfl, by kernel_rfl, by kernel_rfl, by kernel_rfl⟩
theorem td_79 : TdOk Tryz.prog 79 ⟨.fn, 1, 8, [.one (.nilFn)]⟩ := ⟨by kernel_rfl, show _ = _ by kernel_rfl, by kernel_rfl, by kernel_rfl, by kernel_rfl⟩
theorem td_81 : TdOk Tryz.prog 81 ⟨.fn, 1, 8, [.one (.nilFn)]⟩ := ⟨by kernel_rfl, show _ = _ by kernel_rfl, by kernel_rfl, by kernel_rfl, by kernel_rfl⟩
theorem td_83 : TdOk Tryz.prog 83 ⟨.fn, 1, 8, [.one (.nilFn)]⟩ := ⟨by kernel_rfl, show _ = _ by kernel_rfl, by kernel_rfl, by kernel_rfl, by kernel_rfl⟩
theorem td_84 : TdOk Tryz.prog 84 ⟨.fn, 1, 8, [.one (.nilFn)]⟩ := ⟨by kernel_rfl, show _ = _ by kernel_rfl, by kernel_rfl, by kernel_rfl, by kernel_rfl⟩
theorem td_85 : TdOk Tryz.prog 85 ⟨.fn, 1, 8, [.one (.nilFn)]⟩ := ⟨by kernel_rfl, show _ = _ by kernel_rfl, by kernel_rfl, by kernel_rfl, by kernel_rfl⟩
theorem td_86 : TdOk Tryz.prog 86 ⟨.fn, 1, 8, [.one (.nilFn)]⟩ := ⟨by kernel_rfl, show _ = _ by kernel_rfl, by kernel_rfl, by kernel_rfl, by kernel_rfl⟩
theorem td_87 : TdOk Tryz.prog 87 ⟨.fn, 1, 8, [.one (.nilFn)]⟩ := ⟨by kernel_rfl, show _ = _ by kernel_rfl, by kernel_rfl, by kernel_rfl, by kernel_rfl⟩
theorem td_88 : TdOk Tryz.prog 88 ⟨.fn, 1, 8, [.one (.nilFn)]⟩ := ⟨by kernel_rfl, show _ = _ by kernel_rfl, by kernel_rfl, by kernel_rfl, by kernel_rfl⟩
theorem td_89 : TdOk Tryz.prog 89 ⟨.struct [], 0, 0, []⟩ := ⟨by kernel_rfl, show _ = _ by kernel_rfl, by kernel_rfl, by kernel_rfl, by kernel_rfl⟩
theorem td_90 : TdOk Tryz.prog 90 ⟨.struct [], 0, 0, []⟩ := ⟨by kernel_rfl, show _ = _ by kernel_rfl, by kernel_rfl, by kernel_rfl, by kernel_rfl⟩
theorem td_91 : TdOk Tryz.prog 91 ⟨.struct [], 0, 0, []⟩ := ⟨by kernel_rfl, show _ = _ by kernel_rfl, by kernel_rfl, by kernel_rfl, by kernel_rfl⟩
theorem td_92 : TdOk Tryz.prog 92 ⟨.int .u32, 1, 4, [.one (.w32 0)]⟩ := ⟨by kernel_rfl, show _ = _ by kernel_rfl, by kernel_rfl, by kernel_rfl, by kernel_rfl⟩
theorem td_93 : TdOk Tryz.prog 93 ⟨.struct [(91, 0), (92, 0)], 1, 4, [.one (.w32 0)]⟩ := ⟨by kernel_rfl, show _ = _ by kernel_rfl, by kernel_rfl, by kernel_rfl, by kernel_rfl⟩
theorem td_94 : TdOk Tryz.prog 94 ⟨.struct [(91, 0), (92, 0)], 1, 4, [.one (.w32 0)]⟩ := ⟨by kernel_rfl, show _ = _ by kernel_rfl, by kernel_rfl, by kernel_rfl, by kernel_rfl⟩
theorem td_95 : TdOk Tryz.prog 95 ⟨.struct [(21, 0), (92, 1)], 2, 8, [.one (.int .i32 0), .one (.w32 0)]⟩ := ⟨by kernel_rfl, show _ = _ by kernel_rfl, by kernel_rfl, by kernel_rfl, by kernel_rfl⟩
theorem td_96 : TdOk Tryz.prog 96 ⟨.struct [(21, 0), (92, 1)], 2, 8, [.one (.int .i32 0), .one (.w32 0)]⟩ := ⟨by kernel_rfl, show _ = _ by kernel_rfl, by kernel_rfl, by kernel_rfl, by kernel_rfl⟩
theorem td_97 : TdOk Tryz.prog 97 ⟨.struct [(90, 0), (96, 0)], 2, 8, [.one (.int .i32 0), .one (.w32 0)]⟩ := ⟨by kernel_rfl, show _ = _ by kernel_rfl, by kernel_rfl, by kernel_rfl, by kernel_rfl⟩
theorem td_98 : TdOk Tryz.prog 98 ⟨.struct [(90, 0), (96, 0)], 2, 8, [.one (.int .i32 0), .one (.w32 0)]⟩ := ⟨by kernel_rfl, show _ = _ by kernel_rfl, by kernel_rfl, by kernel_rfl, by kernel_rfl⟩
theorem td_99 : TdOk Tryz.prog 99 ⟨.struct [(90, 0), (94, 0), (98, 1)], 3, 12, [.one (.w32 0), .one (.int .i32 0), .one (.w32 0)]⟩ := ⟨by kernel_rfl, show _ = _ by kernel_rfl, by kernel_rfl, by kernel_rfl, by kernel_rfl⟩
theorem td_100 : TdOk Tryz.prog 100 ⟨.struct [(90, 0), (94, 0), (98, 1)], 3, 12, [.one (.w32 0), .one (.int .i32 0), .one (.w32 0)]⟩ := ⟨by kernel_rfl, show _ = _ by kernel_rfl, by kernel_rfl, by kernel_rfl, by kernel_rfl⟩
theorem td_101 : TdOk Tryz.prog 101 ⟨.array 8 92, 8, 32, [.row 8 (fun _ => .w32 0)]⟩ := ⟨by kernel_rfl, show _ = _ by kernel_rfl, by kernel_rfl, by kernel_rfl, by kernel_rfl⟩
theorem td_102 : TdOk Tryz.prog 102 ⟨.array 64 92, 64, 256, [.row 64 (fun _ => .w32 0)]⟩ := ⟨by kernel_rfl, show _ = _ by kernel_rfl, by kernel_rfl, by kernel_rfl, by kernel_rfl⟩
theorem td_103 : TdOk Tryz.prog 103 ⟨.struct [(100, 0), (101, 3), (102, 11)], 75, 300, [.one (.w32 0), .one (.int .i32 0), .one (.w32 0), .row 8 (fun _ => .w32 0), .row 64 (fun _ => .w32 0)]⟩ := ⟨by kernel_rfl, show _ = _ by kernel_rfl, by kernel_rfl, by kernel_rfl, by kernel_rfl⟩
theorem td_104 : TdOk Tryz.prog 104 ⟨.struct [(100, 0), (101, 3), (102, 11)], 75, 300, [.one (.w32 0), .one (.int .i32 0), .one (.w32 0), .row 8 (fun _ => .w32 0), .row 64 (fun _ => .w32 0)]⟩ := ⟨by kernel_rfl, show _ = _ by kernel_rfl, by kernel_rfl, by kernel_rfl, by kernel_rfl⟩
theorem td_105 : TdOk Tryz.prog 105 ⟨.struct [(104, 0)], 75, 300, [.one (.w32 0), .one (.int .i32 0), .one (.w32 0), .row 8 (fun _ => .w32 0), .row 64 (fun _ => .w32 0)]⟩ := ⟨by kernel_rfl, show _ = _ by kernel_rfl, by kernel_rfl, by kernel_rfl, by kernel_rfl⟩
theorem td_106 : TdOk Tryz.prog 106 ⟨.struct [(104, 0)], 75, 300, [.one (.w32 0), .one (.int .i32 0), .one (.w32 0), .row 8 (fun _ => .w32 0), .row 64 (fun _ => .w32 0)]⟩ := ⟨by kernel_rfl, show _ = _ by kernel_rfl, by kernel_rfl, by kernel_rfl, by kernel_rfl⟩
theorem td_107 : TdOk Tryz.prog 107 ⟨.array 256 5, 256, 256, [.row 256 (fun _ => .w8 0)]⟩ := ⟨by kernel_rfl, show _ = _ by kernel_rfl, by kernel_rfl, by kernel_rfl, by kernel_rfl⟩
theorem td_108 : TdOk Tryz.prog 108 ⟨.struct [], 0, 0, []⟩ := ⟨by kernel_rfl, show _ = _ by kernel_rfl, by kernel_rfl, by kernel_rfl, by kernel_rfl⟩
theorem td_109 : TdOk Tryz.prog 109 ⟨.struct [(91, 0), (108, 0), (2, 0)], 1, 8, [.one (.int .i64 0)]⟩ := ⟨by kernel_rfl, show _ = _ by kernel_rfl, by kernel_rfl, by kernel_rfl, by kernel_rfl⟩
theorem td_110 : TdOk Tryz.prog 110 ⟨.struct [(91, 0), (108, 0), (2, 0)], 1, 8, [.one (.int .i64 0)]⟩ := ⟨by kernel_rfl, show _ = _ by kernel_rfl, by kernel_rfl, by kernel_rfl, by kernel_rfl⟩
theorem td_111 : TdOk Tryz.prog 111 ⟨.struct [(100, 0), (107, 3), (110, 259)], 260, 280, [.one (.w32 0), .one (.int .i32 0), .one (.w32 0), .row 256 (fun _ => .w8 0), .one (.int .i64 0)]⟩ := ⟨by kernel_rfl, show _ = _ by kernel_rfl, by kernel_rfl, by kernel_rfl, by kernel_rfl⟩
theorem td_112 : TdOk Tryz.prog 112 ⟨.struct [(100, 0), (107, 3), (110, 259)], 260, 280, [.one (.w32 0), .one (.int .i32 0), .one (.w32 0), .row 256 (fun _ => .w8 0), .one (.int .i64 0)]⟩ := ⟨by kernel_rfl, show _ = _ by kernel_rfl, by kernel_rfl, by kernel_rfl, by kernel_rfl⟩
theorem td_113 : TdOk Tryz.prog 113 ⟨.struct [(40, 0), (40, 1)], 2, 16, [.one (.w64 0), .one (.w64 0)]⟩ := ⟨by kernel_rfl, show _ = _ by kernel_rfl, by kernel_rfl, by kernel_rfl, by kernel_rfl⟩
theorem td_114 : TdOk Tryz.prog 114 ⟨.struct [(40, 0), (40, 1)], 2, 16, [.one (.w64 0), .one (.w64 0)]⟩ := ⟨by kernel_rfl, show _ = _ by kernel_rfl, by kernel_rfl, by kernel_rfl, by kernel_rfl⟩
theorem td_115 : TdOk Tryz.prog 115 ⟨.fn, 1, 8, [.one (.nilFn)]⟩ := ⟨by kernel_rfl, show _ = _ by kernel_rfl, by kernel_rfl, by kernel_rfl, by kernel_rfl⟩
theorem td_116 : TdOk Tryz.prog 116 ⟨.fn, 1, 8, [.one (.nilFn)]⟩ := ⟨by kernel_rfl, show _ = _ by kernel_rfl, by kernel_rfl, by kernel_rfl, by kernel_rfl⟩
theorem td_117 : TdOk Tryz.prog 117 ⟨.struct [(66, 0), (114, 1)], 3, 24, [.one (.ptr none), .one (.w64 0), .one (.w64 0)]⟩ := ⟨by kernel_rfl, show _ = _ by kernel_rfl, by kernel_rfl, by kernel_rfl, by kernel_rfl⟩
theorem td_118 : TdOk Tryz.prog 118 ⟨.struct [(66, 0), (114, 1)], 3, 24, [.one (.ptr none), .one (.w64 0), .one (.w64 0)]⟩ := ⟨by kernel_rfl, show _ = _ by kernel_rfl, by kernel_rfl, by kernel_rfl, by kernel_rfl⟩
theorem td_119 : TdOk Tryz.prog 119 ⟨.fn, 1, 8, [.one (.nilFn)]⟩ := ⟨by kernel_rfl, show _ = _ by kernel_rfl, by kernel_rfl, by kernel_rfl, by kernel_rfl⟩
theorem td_120 : TdOk Tryz.prog 120 ⟨.fn, 1, 8, [.one (.nilFn)]⟩ := ⟨by kernel_rfl, show _ = _ by kernel_rfl, by kernel_rfl, by kernel_rfl, by kernel_rfl⟩
theorem td_121 : TdOk Tryz.prog 121 ⟨.array 11 71, 176, 176, [.row 176 (fun _ => .w8 0)]⟩ := ⟨by kernel_rfl, show _ = _ by kernel_rfl, by kernel_rfl, by kernel_rfl, by kernel_rfl⟩
theorem td_122 : TdOk Tryz.prog 122 ⟨.struct [(59, 0), (121, 1)], 177, 184, [.one (.ptr none), .row 176 (fun _ => .w8 0)]⟩ := ⟨by kernel_rfl, show _ = _ by kernel_rfl, by kernel_rfl, by kernel_rfl, by kernel_rfl⟩
theorem td_123 : TdOk Tryz.prog 123 ⟨.struct [(59, 0), (121, 1)], 177, 184, [.one (.ptr none), .row 176 (fun _ => .w8 0)]⟩ := ⟨by kernel_rfl, show _ = _ by kernel_rfl, by kernel_rfl, by kernel_rfl, by kernel_rfl⟩
theorem td_124 : TdOk Tryz.prog 124 ⟨.ptr 71, 1, 8, [.one (.ptr none)]⟩ := ⟨by kernel_rfl, show _ = _ by kernel_rfl, by kernel_rfl, by kernel_rfl, by kernel_rfl⟩
theorem td_125 : TdOk Tryz.prog 125 ⟨.fn, 1, 8, [.one (.nilFn)]⟩ := ⟨by kernel_rfl, show _ = _ by kernel_rfl, by kernel_rfl, by kernel_rfl, by kernel_rfl⟩
theorem td_126 : TdOk Tryz.prog 126 ⟨.ptr 152, 1, 8, [.one (.ptr none)]⟩ := ⟨by kernel_rfl, show _ = _ by kernel_rfl, by kernel_rfl, by kernel_rfl, by kernel_rfl⟩
theorem td_127 : TdOk Tryz.prog 127 ⟨.fn, 1, 8, [.one (.nilFn)]⟩ := ⟨by kernel_rfl, show _ = _ by kernel_rfl, by kernel_rfl, by kernel_rfl, by kernel_rfl⟩
theorem td_128 : TdOk Tryz.prog 128 ⟨.fn, 1, 8, [.one (.nilFn)]⟩ := ⟨by kernel_rfl, show _ = _ by kernel_rfl, by kernel_rfl, by kernel_rfl, by kernel_rfl⟩
theorem td_129 : TdOk Tryz.prog 129 ⟨.fn, 1, 8, [.one (.nilFn)]⟩ := ⟨by kernel_rfl, show _ = _ by kernel_rfl, by kernel_rfl, by kernel_rfl, by kernel_rfl⟩
theorem td_130 : TdOk Tryz.prog 130 ⟨.fn, 1, 8, [.one (.nilFn)]⟩ := ⟨by kernel_rfl, show _ = _ by kernel_rfl, by kernel_rfl, by kernel_rfl, by kernel_rfl⟩
theorem td_131 : TdOk Tryz.prog 131 ⟨.fn, 1, 8, [.one (.nilFn)]⟩ := ⟨by kernel_rfl, show _ = _ by kernel_rfl, by kernel_rfl, by kernel_rfl, by kernel_rfl⟩
theorem td_132 : TdOk Tryz.prog 132 ⟨.fn, 1, 8, [.one (.nilFn)]⟩ := ⟨by kernel_rfl, show _ = _ by kernel_rfl, by kernel_rfl, by kernel_rfl, by kernel_rfl⟩
theorem td_133 : TdOk Tryz.prog 133 ⟨.fn, 1, 8, [.one (.nilFn)]⟩ := ⟨by kernel_rfl, show _ = _ by kernel_rfl, by kernel_rfl, by kernel_rfl, by kernel_rfl⟩
theorem td_134 : TdOk Tryz.prog 134 ⟨.fn, 1, 8, [.one (.nilFn)]⟩ := ⟨by kernel_rfl, show _ = _ by kernel_rfl, by kernel_rfl, by kernel_rfl, by kernel_rfl⟩
theorem td_135 : TdOk Tryz.prog 135 ⟨.fn, 1, 8, [.one (.nilFn)]⟩ := ⟨by kernel_rfl, show _ = _ by kernel_rfl, by kernel_rfl, by kernel_rfl, by kernel_rfl⟩
theorem td_136 : TdOk Tryz.prog 136 ⟨.fn, 1, 8, [.one (.nilFn)]⟩ := ⟨by kernel_rfl, show _ = _ by kernel_rfl, by kernel_rfl, by kernel_rfl, by kernel_rfl⟩
theorem td_137 : TdOk Tryz.prog 137 ⟨.fn, 1, 8, [.one (.nilFn)]⟩ := ⟨by kernel_rfl, show _ = _ by kernel_rfl, by kernel_rfl, by kernel_rfl, by kernel_rfl⟩
theorem td_138 : TdOk Tryz.prog 138 ⟨.struct [(24, 0), (35, 1)], 2, 32, [.one (.slc none 0 0), .one (.int .i64 0)]⟩ := ⟨by kernel_rfl, show _ = _ by kernel_rfl, by kernel_rfl, by kernel_rfl, by kernel_rfl⟩
theorem td_139 : TdOk Tryz.prog 139 ⟨.struct [(24, 0), (35, 1)], 2, 32, [.one (.slc none 0 0), .one (.int .i64 0)]⟩ := ⟨by kernel_rfl, show _ = _ by kernel_rfl, by kernel_rfl, by kernel_rfl, by kernel_rfl⟩
theorem td_140 : TdOk Tryz.prog 140 ⟨.fn, 1, 8, [.one (.nilFn)]⟩ := ⟨by kernel_rfl, show _ = _ by kernel_rfl, by kernel_rfl, by kernel_rfl, by kernel_rfl⟩
theorem td_141 : TdOk Tryz.prog 141 ⟨.fn, 1, 8, [.one (.nilFn)]⟩ := ⟨by kernel_rfl, show _ = _ by kernel_rfl, by kernel_rfl, by kernel_rfl, by kernel_rfl⟩
theorem td_142 : TdOk Tryz.prog 142 ⟨.fn, 1, 8, [.one (.nilFn)]⟩ := ⟨by kernel_rfl, show _ = _ by kernel_rfl, by kernel_rfl, by kernel_rfl, by kernel_rfl⟩
theorem td_143 : TdOk Tryz.prog 143 ⟨.fn, 1, 8, [.one (.nilFn)]⟩ := ⟨by kernel_rfl, show _ = _ by kernel_rfl, by kernel_rfl, by kernel_rfl, by kernel_rfl⟩
theorem td_144 : TdOk Tryz.prog 144 ⟨.fn, 1, 8, [.one (.nilFn)]⟩ := ⟨by kernel_rfl, show _ = _ by kernel_rfl, by kernel_rfl, by kernel_rfl, by kernel_rfl⟩
theorem td_145 : TdOk Tryz.prog 145 ⟨.fn, 1, 8, [.one (.nilFn)]⟩ := ⟨by kernel_rfl, show _ = _ by kernel_rfl, by kernel_rfl, by kernel_rfl, by kernel_rfl⟩
theorem td_146 : TdOk Tryz.prog 146 ⟨.fn, 1, 8, [.one (.nilFn)]⟩ := ⟨by kernel_rfl, show _ = _ by kernel_rfl, by kernel_rfl, by kernel_rfl, by kernel_rfl⟩
theorem td_147 : TdOk Tryz.prog 147 ⟨.fn, 1, 8, [.one (.nilFn)]⟩ := ⟨by kernel_rfl, show _ = _ by kernel_rfl, by kernel_rfl, by kernel_rfl, by kernel_rfl⟩
theorem td_148 : TdOk Tryz.prog 148 ⟨.ptr 100, 1, 8, [.one (.ptr none)]⟩ := ⟨by kernel_rfl, show _ = _ by kernel_rfl, by kernel_rfl, by kernel_rfl, by kernel_rfl⟩
theorem td_149 : TdOk Tryz.prog 149 ⟨.fn, 1, 8, [.one (.nilFn)]⟩ := ⟨by kernel_rfl, show _ = _ by kernel_rfl, by kernel_rfl, by kernel_rfl, by kernel_rfl⟩
theorem td_150 : TdOk Tryz.prog 150 ⟨.fn, 1, 8, [.one (.nilFn)]⟩ := ⟨by kernel_rfl, show _ = _ by kernel_rfl, by kernel_rfl, by kernel_rfl, by kernel_rfl⟩
theorem td_151 : TdOk Tryz.prog 151 ⟨.struct [(24, 0), (35, 1)], 2, 32, [.one (.slc none 0 0), .one (.int .i64 0)]⟩ := ⟨by kernel_rfl, show _ = _ by kernel_rfl, by kernel_rfl, by kernel_rfl, by kernel_rfl⟩
theorem td_152 : TdOk Tryz.prog 152 ⟨.struct [(24, 0), (35, 1)], 2, 32, [.one (.slc none 0 0), .one (.int .i64 0)]⟩ := ⟨by kernel_rfl, show _ = _ by kernel_rfl, by kernel_rfl, by kernel_rfl, by kernel_rfl⟩
theorem td_153 : TdOk Tryz.prog 153 ⟨.fn, 1, 8, [.one (.nilFn)]⟩ := ⟨by kernel_rfl, show _ = _ by kernel_rfl, by kernel_rfl, by kernel_rfl, by kernel_rfl⟩
theorem td_155 : TdOk Tryz.prog 155 ⟨.fn, 1, 8, [.one (.nilFn)]⟩ := ⟨by kernel_rfl, show _ = _ by kernel_rfl, by kernel_rfl, by kernel_rfl, by kernel_rfl⟩
theorem td_156 : TdOk Tryz.prog 156 ⟨.fn, 1, 8, [.one (.nilFn)]⟩ := ⟨by kernel_rfl, show _ = _ by kernel_rfl, by kernel_rfl, by kernel_rfl, by kernel_rfl⟩
theorem td_157 : TdOk Tryz.prog 157 ⟨.fn, 1, 8, [.one (.nilFn)]⟩ := ⟨by kernel_rfl, show _ = _ by kernel_rfl, by kernel_rfl, by kernel_rfl, by kernel_rfl⟩
theorem td_158 : TdOk Tryz.prog 158 ⟨.ptr 139, 1, 8, [.one (.ptr none)]⟩ := ⟨by kernel_rfl, show _ = _ by kernel_rfl, by kernel_rfl, by kernel_rfl, by kernel_rfl⟩
theorem td_159 : TdOk Tryz.prog 159 ⟨.fn, 1, 8, [.one (.nilFn)]⟩ := ⟨by kernel_rfl, show _ = _ by kernel_rfl, by kernel_rfl, by kernel_rfl, by kernel_rfl⟩
theorem td_160 : TdOk Tryz.prog 160 ⟨.fn, 1, 8, [.one (.nilFn)]⟩ := ⟨by kernel_rfl, show _ = _ by kernel_rfl, by kernel_rfl, by kernel_rfl, by kernel_rfl⟩
theorem td_162 : TdOk Tryz.prog 162 ⟨.fn, 1, 8, [.one (.nilFn)]⟩ := ⟨by kernel_rfl, show _ = _ by kernel_rfl, by kernel_rfl, by kernel_rfl, by kernel_rfl⟩
theorem td_163 : TdOk Tryz.prog 163 ⟨.fn, 1, 8, [.one (.nilFn)]⟩ := ⟨by kernel_rfl, show _ = _ by kernel_rfl, by kernel_rfl, by kernel_rfl, by kernel_rfl⟩
theorem td_164 : TdOk Tryz.prog 164 ⟨.ptr 110, 1, 8, [.one (.ptr none)]⟩ := ⟨by kernel_rfl, show _ = _ by kernel_rfl, by kernel_rfl, by kernel_rfl, by kernel_rfl⟩
theorem td_165 : TdOk Tryz.prog 165 ⟨.fn, 1, 8, [.one (.nilFn)]⟩ := ⟨by kernel_rfl, show _ = _ by kernel_rfl, by kernel_rfl, by kernel_rfl, by kernel_rfl⟩
theorem td_166 : TdOk Tryz.prog 166 ⟨.ptr 2, 1, 8, [.one (.ptr none)]⟩ := ⟨by kernel_rfl, show _ = _ by kernel_rfl, by kernel_rfl, by kernel_rfl, by kernel_rfl⟩
theorem td_167 : TdOk Tryz.prog 167 ⟨.ptr 104, 1, 8, [.one (.ptr none)]⟩ := ⟨by kernel_rfl, show _ = _ by kernel_rfl, by kernel_rfl, by kernel_rfl, by kernel_rfl⟩
theorem td_168 : TdOk Tryz.prog 168 ⟨.slice 24, 1, 24, [.one (.slc none 0 0)]⟩ := ⟨by kernel_rfl, show _ = _ by kernel_rfl, by kernel_rfl, by kernel_rfl, by kernel_rfl⟩
theorem td_169 : TdOk Tryz.prog 169 ⟨.array 64 5, 64, 64, [.row 64 (fun _ => .w8 0)]⟩ := ⟨by kernel_rfl, show _ = _ by kernel_rfl, by kernel_rfl, by kernel_rfl, by kernel_rfl⟩
theorem td_170 : TdOk Tryz.prog 170 ⟨.fn, 1, 8, [.one (.nilFn)]⟩ := ⟨by kernel_rfl, show _ = _ by kernel_rfl, by kernel_rfl, by kernel_rfl, by kernel_rfl⟩
theorem td_171 : TdOk Tryz.prog 171 ⟨.struct [(167, 0), (101, 1), (169, 9), (3, 73), (40, 74)], 75, 120, [.one (.ptr none), .row 8 (fun _ => .w32 0), .row 64 (fun _ => .w8 0), .one (.int .i64 0), .one (.w64 0)]⟩ := ⟨by kernel_rfl, show _ = _ by kernel_rfl, by kernel_rfl, by kernel_rfl, by kernel_rfl⟩
theorem td_172 : TdOk Tryz.prog 172 ⟨.struct [(167, 0), (101, 1), (169, 9), (3, 73), (40, 74)], 75, 120, [.one (.ptr none), .row 8 (fun _ => .w32 0), .row 64 (fun _ => .w8 0), .one (.int .i64 0), .one (.w64 0)]⟩ := ⟨by kernel_rfl, show _ = _ by kernel_rfl, by kernel_rfl, by kernel_rfl, by kernel_rfl⟩
theorem td_173 : TdOk Tryz.prog 173 ⟨.fn, 1, 8, [.one (.nilFn)]⟩ := ⟨by kernel_rfl, show _ = _ by kernel_rfl, by kernel_rfl, by kernel_rfl, by kernel_rfl⟩
theorem td_174 : TdOk Tryz.prog 174 ⟨.fn, 1, 8, [.one (.nilFn)]⟩ := ⟨by kernel_rfl, show _ = _ by kernel_rfl, by kernel_rfl, by kernel_rfl, by kernel_rfl⟩
theorem td_175 : TdOk Tryz.prog 175 ⟨.ptr 94, 1, 8, [.one (.ptr none)]⟩ := ⟨by kernel_rfl, show _ = _ by kernel_rfl, by kernel_rfl, by kernel_rfl, by kernel_rfl⟩
theorem td_176 : TdOk Tryz.prog 176 ⟨.fn, 1, 8, [.one (.nilFn)]⟩ := ⟨by kernel_rfl, show _ = _ by kernel_rfl, by kernel_rfl, by kernel_rfl, by kernel_rfl⟩
theorem td_177 : TdOk Tryz.prog 177 ⟨.ptr 92, 1, 8, [.one (.ptr none)]⟩ := ⟨by kernel_rfl, show _ = _ by kernel_rfl, by kernel_rfl, by kernel_rfl, by kernel_rfl⟩
theorem td_178 : TdOk Tryz.prog 178 ⟨.fn, 1, 8, [.one (.nilFn)]⟩ := ⟨by kernel_rfl, show _ = _ by kernel_rfl, by kernel_rfl, by kernel_rfl, by kernel_rfl⟩
theorem td_180 : TdOk Tryz.prog 180 ⟨.fn, 1, 8, [.one (.nilFn)]⟩ := ⟨by kernel_rfl, show _ = _ by kernel_rfl, by kernel_rfl, by kernel_rfl, by kernel_rfl⟩
theorem td_181 : TdOk Tryz.prog 181 ⟨.fn, 1, 8, [.one (.nilFn)]⟩ := ⟨by kernel_rfl, show _ = _ by kernel_rfl, by kernel_rfl, by kernel_rfl, by kernel_rfl⟩
theorem td_182 : TdOk Tryz.prog 182 ⟨.fn, 1, 8, [.one (.nilFn)]⟩ := ⟨by kernel_rfl, show _ = _ by kernel_rfl, by kernel_rfl, by kernel_rfl, by kernel_rfl⟩
theorem td_183 : TdOk Tryz.prog 183 ⟨.fn, 1, 8, [.one (.nilFn)]⟩ := ⟨by kernel_rfl, show _ = _ by kernel_rfl, by kernel_rfl, by kernel_rfl, by kernel_rfl⟩
theorem td_184 : TdOk Tryz.prog 184 ⟨.fn, 1, 8, [.one (.nilFn)]⟩ := ⟨by kernel_rfl, show _ = _ by kernel_rfl, by kernel_rfl, by kernel_rfl, by kernel_rfl⟩
theorem td_185 : TdOk Tryz.prog 185 ⟨.slice 40, 1, 24, [.one (.slc none 0 0)]⟩ := ⟨by kernel_rfl, show _ = _ by kernel_rfl, by kernel_rfl, by kernel_rfl, by kernel_rfl⟩
theorem td_186 : TdOk Tryz.prog 186 ⟨.ptr 172, 1, 8, [.one (.ptr none)]⟩ := ⟨by kernel_rfl, show _ = _ by kernel_rfl, by kernel_rfl, by kernel_rfl, by kernel_rfl⟩
theorem td_187 : TdOk Tryz.prog 187 ⟨.ptr 98, 1, 8, [.one (.ptr none)]⟩ := ⟨by kernel_rfl, show _ = _ by kernel_rfl, by kernel_rfl, by kernel_rfl, by kernel_rfl⟩
theorem td_188 : TdOk Tryz.prog 188 ⟨.fn, 1, 8, [.one (.nilFn)]⟩ := ⟨by kernel_rfl, show _ = _ by kernel_rfl, by kernel_rfl, by kernel_rfl, by kernel_rfl⟩
theorem td_189 : TdOk Tryz.prog 189 ⟨.fn, 1, 8, [.one (.nilFn)]⟩ := ⟨by kernel_rfl, show _ = _ by kernel_rfl, by kernel_rfl, by kernel_rfl, by kernel_rfl⟩
theorem td_190 : TdOk Tryz.prog 190 ⟨.fn, 1, 8, [.one (.nilFn)]⟩ := ⟨by kernel_rfl, show _ = _ by kernel_rfl, by kernel_rfl, by kernel_rfl, by kernel_rfl⟩
theorem td_191 : TdOk Tryz.prog 191 ⟨.fn, 1, 8, [.one (.nilFn)]⟩ := ⟨by kernel_rfl, show _ = _ by kernel_rfl, by kernel_rfl, by kernel_rfl, by kernel_rfl⟩
theorem td_192 : TdOk Tryz.prog 192 ⟨.fn, 1, 8, [.one (.nilFn)]⟩ := ⟨by kernel_rfl, show _ = _ by kernel_rfl, by kernel_rfl, by kernel_rfl, by kernel_rfl⟩
theorem td_193 : TdOk Tryz.prog 193 ⟨.ptr 96, 1, 8, [.one (.ptr none)]⟩ := ⟨by kernel_rfl, show _ = _ by kernel_rfl, by kernel_rfl, by kernel_rfl, by kernel_rfl⟩
theorem td_194 : TdOk Tryz.prog 194 ⟨.fn, 1, 8, [.one (.nilFn)]⟩ := ⟨by kernel_rfl, show _ = _ by kernel_rfl, by kernel_rfl, by kernel_rfl, by kernel_rfl⟩
theorem td_195 : TdOk Tryz.prog 195 ⟨.ptr 21, 1, 8, [.one (.ptr none)]⟩ := ⟨by kernel_rfl, show _ = _ by kernel_rfl, by kernel_rfl, by kernel_rfl, by kernel_rfl⟩
theorem td_196 : TdOk Tryz.prog 196 ⟨.fn, 1, 8, [.one (.nilFn)]⟩ := ⟨by kernel_rfl, show _ = _ by kernel_rfl, by kernel_rfl, by kernel_rfl, by kernel_rfl⟩
theorem td_198 : TdOk Tryz.prog 198 ⟨.fn, 1, 8, [.one (.nilFn)]⟩ := ⟨by kernel_rfl, show _ = _ by kernel_rfl, by kernel_rfl, by kernel_rfl, by kernel_rfl⟩
theorem td_199 : TdOk Tryz.prog 199 ⟨.fn, 1, 8, [.one (.nilFn)]⟩ := ⟨by kernel_rfl, show _ = _ by kernel_rfl, by kernel_rfl, by kernel_rfl, by kernel_rfl⟩
theorem td_201 : TdOk Tryz.prog 201 ⟨.fn, 1, 8, [.one (.nilFn)]⟩ := ⟨by kernel_rfl, show _ = _ by kernel_rfl, by kernel_rfl, by kernel_rfl, by kernel_rfl⟩
theorem td_202 : TdOk Tryz.prog 202 ⟨.fn, 1, 8, [.one (.nilFn)]⟩ := ⟨by kernel_rfl, show _ = _ by kernel_rfl, by kernel_rfl, by kernel_rfl, by kernel_rfl⟩
theorem td_203 : TdOk Tryz.prog 203 ⟨.fn, 1, 8, [.one (.nilFn)]⟩ := ⟨by kernel_rfl, show _ = _ by kernel_rfl, by kernel_rfl, by kernel_rfl, by kernel_rfl⟩
theorem td_204 : TdOk Tryz.prog 204 ⟨.fn, 1, 8, [.one (.nilFn)]⟩ := ⟨by kernel_rfl, show _ = _ by kernel_rfl, by kernel_rfl, by kernel_rfl, by kernel_rfl⟩
theorem td_205 : TdOk Tryz.prog 205 ⟨.fn, 1, 8, [.one (.nilFn)]⟩ := ⟨by kernel_rfl, show _ = _ by kernel_rfl, by kernel_rfl, by kernel_rfl, by kernel_rfl⟩
theorem td_206 : TdOk Tryz.prog 206 ⟨.fn, 1, 8, [.one (.nilFn)]⟩ := ⟨by kernel_rfl, show _ = _ by kernel_rfl, by kernel_rfl, by kernel_rfl, by kernel_rfl⟩
theorem td_207 : TdOk Tryz.prog 207 ⟨.struct [(17, 0), (17, 1), (17, 2), (9, 3)], 4, 40, [.one (.ptr none), .one (.ptr none), .one (.ptr none), .one (.str [])]⟩ := ⟨by kernel_rfl, show _ = _ by kernel_rfl, by kernel_rfl, by kernel_rfl, by kernel_rfl⟩
theorem td_208 : TdOk Tryz.prog 208 ⟨.struct [(17, 0), (17, 1), (17, 2), (9, 3)], 4, 40, [.one (.ptr none), .one (.ptr none), .one (.ptr none), .one (.str [])]⟩ := ⟨by kernel_rfl, show _ = _ by kernel_rfl, by kernel_rfl, by kernel_rfl, by kernel_rfl⟩
theorem td_209 : TdOk Tryz.prog 209 ⟨.array 0 16, 0, 0, [.row 0 (fun _ => .ptr none)]⟩ := ⟨by kernel_rfl, show _ = _ by kernel_rfl, by kernel_rfl, by kernel_rfl, by kernel_rfl⟩
theorem td_210 : TdOk Tryz.prog 210 ⟨.struct [(209, 0)], 0, 0, [.row 0 (fun _ => .ptr none)]⟩ := ⟨by kernel_rfl, show _ = _ by kernel_rfl, by kernel_rfl, by kernel_rfl, by kernel_rfl⟩
theorem td_211 : TdOk Tryz.prog 211 ⟨.struct [(209, 0)], 0, 0, [.row 0 (fun _ => .ptr none)]⟩ := ⟨by kernel_rfl, show _ = _ by kernel_rfl, by kernel_rfl, by kernel_rfl, by kernel_rfl⟩
theorem td_212 : TdOk Tryz.prog 212 ⟨.int .u8, 1, 1, [.one (.w8 0)]⟩ := ⟨by kernel_rfl, show _ = _ by kernel_rfl, by kernel_rfl, by kernel_rfl, by kernel_rfl⟩
theorem td_213 : TdOk Tryz.prog 213 ⟨.int .u8, 1, 1, [.one (.w8 0)]⟩ := ⟨by kernel_rfl, show _ = _ by kernel_rfl, by kernel_rfl, by kernel_rfl, by kernel_rfl⟩
theorem td_214 : TdOk Tryz.prog 214 ⟨.fn, 1, 8, [.one (.nilFn)]⟩ := ⟨by kernel_rfl, show _ = _ by kernel_rfl, by kernel_rfl, by kernel_rfl, by kernel_rfl⟩
theorem td_215 : TdOk Tryz.prog 215 ⟨.ptr 5, 1, 8, [.one (.ptr none)]⟩ := ⟨by kernel_rfl, show _ = _ by kernel_rfl, by kernel_rfl, by kernel_rfl, by kernel_rfl⟩
theorem td_216 : TdOk Tryz.prog 216 ⟨.int .i32, 1, 4, [.one (.int .i32 0)]⟩ := ⟨by kernel_rfl, show _ = _ by kernel_rfl, by kernel_rfl, by kernel_rfl, by kernel_rfl⟩
theorem td_217 : TdOk Tryz.prog 217 ⟨.int .i32, 1, 4, [.one (.int .i32 0)]⟩ := ⟨by kernel_rfl, show _ = _ by kernel_rfl, by kernel_rfl, by kernel_rfl, by kernel_rfl⟩
theorem td_218 : TdOk Tryz.prog 218 ⟨.struct [(12, 0), (12, 1), (92, 2), (212, 3), (5, 4), (5, 5), (213, 6), (214, 7), (215, 8), (216, 9), (217, 10)], 11, 48, [.one (.w64 0), .one (.w64 0), .one (.w32 0), .one (.w8 0), .one (.w8 0), .one (.w8 0), .one (.w8 0), .one (.nilFn), .one (.ptr none), .one (.int .i32 0), .one (.int .i32 0)]⟩ := ⟨by kernel_rfl, show _ = _ by kernel_rfl, by kernel_rfl, by kernel_rfl, by kernel_rfl⟩
theorem td_219 : TdOk Tryz.prog 219 ⟨.struct [(12, 0), (12, 1), (92, 2), (212, 3), (5, 4), (5, 5), (213, 6), (214, 7), (215, 8), (216, 9), (217, 10)], 11, 48, [.one (.w64 0), .one (.w64 0), .one (.w32 0), .one (.w8 0), .one (.w8 0), .one (.w8 0), .one (.w8 0), .one (.nilFn), .one (.ptr none), .one (.int .i32 0), .one (.int .i32 0)]⟩ := ⟨by kernel_rfl, show _ = _ by kernel_rfl, by kernel_rfl, by kernel_rfl, by kernel_rfl⟩
theorem td_220 : TdOk Tryz.prog 220 ⟨.fn, 1, 8, [.one (.nilFn)]⟩ := ⟨by kernel_rfl, show _ = _ by kernel_rfl, by kernel_rfl, by kernel_rfl, by kernel_rfl⟩
theorem tds_ok : AllT Tryz.prog tds := ⟨td_1, td_2, td_3, td_4, td_5, td_6, td_7, td_8, td_9, td_10, td_11, td_12, td_13, td_14, td_15, td_16, td_17, td_18, td_19, td_20, td_21, td_22, td_23, td_24, td_25, td_26, td_27, td_28, td_29, td_30, td_31, td_32, td_33, td_34, td_35, td_37, td_39, td_40, td_41, td_42, td_44, td_45, td_46, td_47, td_48, td_50, td_51, td_52, td_53, td_54, td_55, td_56, td_57, td_58, td_59, td_60, td_61, td_62, td_63, td_64, td_65, td_66, td_67, td_68, td_69, td_70, td_71, td_72, td_73, td_74, td_75, td_76, td_77, td_78, td_79, td_81, td_83, td_84, td_85, td_86, td_87, td_88, td_89, td_90, td_91, td_92, td_93, td_94, td_95, td_96, td_97, td_98, td_99, td_100, td_101, td_102, td_103, td_104, td_105, td_106, td_107, td_108, td_109, td_110, td_111, td_112, td_113, td_114, td_115, td_116, td_117, td_118, td_119, td_120, td_121, td_122, td_123, td_124, td_125, td_126, td_127, td_128, td_129, td_130, td_131, td_132, td_133, td_134, td_135, td_136, td_137, td_138, td_139, td_140, td_141, td_142, td_143, td_144, td_145, td_146, td_147, td_148, td_149, td_150, td_151, td_152, td_153, td_155, td_156, td_157, td_158, td_159, td_160, td_162, td_163, td_164, td_165, td_166, td_167, td_168, td_169, td_170, td_171, td_172, td_173, td_174, td_175, td_176, td_177, td_178, td_180, td_181, td_182, td_183, td_184, td_185, td_186, td_187, td_188, td_189, td_190, td_191, td_192, td_193, td_194, td_195, td_196, td_198, td_199, td_201, td_202, td_203, td_204, td_205, td_206, td_207, td_208, td_209, td_210, td_211, td_212, td_213, td_214, td_215, td_216, td_217, td_218, td_219, td_220, trivial⟩
end Sx
end Go.Proofs.YtkjdkeolkigibaaGreat
end

section
/-
  Forms laid bare by an equation. Over any program. No condition of its own.
-/
namespace Go.Proofs.YtkjdkeolkigibaaGreat
set_option linter.unusedVariables false
namespace Sx

theorem frcN_of {n m : Nat} {k : Nat → Prop} (h : n = m) (hk : k m) : frcN n k := by subst h; exact hk
end Sx
end Go.Proofs.YtkjdkeolkigibaaGreat
end

section
/-
  Bytes as lists, and as rows of cells. No condition.
-/
namespace Go.Proofs.YtkjdkeolkigibaaGreat
set_option linter.unusedVariables false
namespace Sha
abbrev Bs := List (BitVec 8)
def L (l : Bs) (i : Nat) : BitVec 8 := l.getD i 0#8
theorem L_lt {l : Bs} {i : Nat} (h : i < l.length) : L l i = l[i] := by
  unfold L; rw [List.getD_eq_getElem?_getD, List.getElem?_eq_getElem h]; rfl
theorem L_app1 {l m : Bs} {i : Nat} (h : i < l.length) : L (l ++ m) i = L l i := by
  unfold L; rw [List.getD_eq_getElem?_getD, List.getD_eq_getElem?_getD, List.getElem?_append_left h]
theorem L_app2 {l m : Bs} {i : Nat} : L (l ++ m) (l.length + i) = L m i := by
  unfold L; rw [List.getD_eq_getElem?_getD, List.getD_eq_getElem?_getD, List.getElem?_append_right (by omega), Nat.add_sub_cancel_left]
theorem L_app {l m : Bs} {i : Nat} : L (l ++ m) i = if i < l.length then L l i else L m (i - l.length) := by
  split
  · rename_i h; exact L_app1 h
  · rename_i h
    have := @L_app2 l m (i - l.length)
    rwa [show l.length + (i - l.length) = i by omega] at this
theorem L_sub (l : Bs) (o n i : Nat) (h : i < n) : L ((l.drop o).take n) i = L l (o + i) := by
  unfold L; rw [List.getD_eq_getElem?_getD, List.getD_eq_getElem?_getD, List.getElem?_take, if_pos h, List.getElem?_drop]
theorem L_drop (l : Bs) (o i : Nat) : L (l.drop o) i = L l (o + i) := by
  unfold L; rw [List.getD_eq_getElem?_getD, List.getD_eq_getElem?_getD, List.getElem?_drop]
theorem L_take (l : Bs) (n i : Nat) (h : i < n) : L (l.take n) i = L l i := by
  unfold L; rw [List.getD_eq_getElem?_getD, List.getD_eq_getElem?_getD, List.getElem?_take, if_pos h]
/-- The list of some bytes. -/
def tab (n : Nat) (b : Nat → BitVec 8) : Bs := (List.range n).map b
@[simp] theorem tab_len (n : Nat) (b : Nat → BitVec 8) : (tab n b).length = n := by simp [tab]
theorem L_tab {n : Nat} {b : Nat → BitVec 8} {i : Nat} (h : i < n) : L (tab n b) i = b i := by
  unfold L tab; rw [List.getD_eq_getElem?_getD]; simp [h]
theorem ext_L {l m : Bs} (h : l.length = m.length) (k : ∀ i, i < l.length → L l i = L m i) : l = m := by
  apply List.ext_getElem h
  intro i h1 h2
  have := k i h1
  rwa [L_lt h1, L_lt h2] at this
theorem tab_L {l : Bs} : tab l.length (L l) = l := ext_L (by simp) fun i hi => L_tab (by simpa using hi)
/-- Bytes as the model's strings have them. -/
def U8 (l : Bs) : List UInt8 := l.map UInt8.ofBitVec
@[simp] theorem U8_len (l : Bs) : (U8 l).length = l.length := by simp [U8]
theorem U8_get (l : Bs) (q : Nat) (h : q < l.length) : ((U8 l).getD q 0).toBitVec = L l q := by
  rw [L_lt h, List.getD_eq_getElem?_getD, U8, List.getElem?_map, List.getElem?_eq_getElem h]
  rfl
theorem U8_inj {l m : Bs} (h : U8 l = U8 m) : l = m := by
  have : (U8 l).map UInt8.toBitVec = (U8 m).map UInt8.toBitVec := congrArg _ h
  simpa [U8, Function.comp_def] using this
def BS (l : List UInt8) : Bs := l.map UInt8.toBitVec
@[simp] theorem BS_len (l : List UInt8) : (BS l).length = l.length := by simp [BS]
theorem L_BS (l : List UInt8) (i : Nat) (hi : i < l.length) : L (BS l) i = (l.getD i 0).toBitVec := by
  rw [L_lt (by simpa using hi), List.getD_eq_getElem?_getD, List.getElem?_eq_getElem hi]
  simp [BS]
end Sha
namespace Sx
open Sha

theorem follows_ : Tryz.prog.follows .mixedOrders = true := by kernel_rfl
theorem cast64 {k : Nat} (h : k < 64) : (BitVec.ofInt 64 (k : Int)).toNat = k := by
  rw [BitVec.ofInt_natCast, BitVec.toNat_ofNat, Nat.mod_eq_of_lt (by omega)]
theorem eqC_w8 {q : List Nat} {x : SC} {b : BitVec 8} (h : x = .w8 b) : eqC q x (.w8 b) True := by subst h; exact ⟨rfl, trivial⟩
/-- Loads out of rows, by cases on the place. -/
theorem upd_w8 {f g : Nat → SC} {k : Nat} {v : SC} (hv : v = g k) (hf : ∀ j, j ≠ k → f j = g j) (j : Nat) : upd f k v j = g j := by
  unfold upd
  split
  · rename_i h; rw [h, hv]
  · rename_i h; exact hf j h
theorem ofIntN (k : Nat) : BitVec.ofInt 8 (k : Int) = BitVec.ofNat 8 k := BitVec.ofInt_natCast _ _
/-- n bytes, and room behind them. -/
def bytesF (n : Nat) (b : Nat → BitVec 8) : Nat → SC := fun j => if j < n then .w8 (b j) else .any
theorem bytesF_lt {n : Nat} {b : Nat → BitVec 8} {j : Nat} (h : j < n) : bytesF n b j = .w8 (b j) := if_pos h
theorem eqC_bytes {q : List Nat} {n : Nat} {f : Nat → SC} {b : Nat → BitVec 8} (h : ∀ j, j < n → f j = .w8 (b j)) (j : Nat) : eqC q (f j) (bytesF n b j) True := by
  unfold bytesF
  split
  · rename_i hj; exact eqC_w8 (h j hj)
  · trivial
theorem idx8 (x : BitVec 8) : 0 ≤ (x.toNat : Int) ∧ (x.toNat : Int) < ((256 : Nat) : Int) := by have := x.isLt; omega
theorem lt8 {c : Nat} (h : 256 ≤ c) (x : BitVec 8) : ((x.toNat : Int)).toNat + 0 < c := by have := x.isLt; omega
theorem upd_bytes {n k : Nat} {f g : Nat → BitVec 8} {v : SC} (hk : k < n) (hv : v = .w8 (g k)) (hf : ∀ j, j ≠ k → f j = g j) (j : Nat) (hj : j < n) : upd (bytesF n f) k v j = .w8 (g j) := by
  unfold upd
  split
  · rename_i h; rw [h, hv]
  · rename_i h; rw [bytesF_lt hj, hf j h]
theorem len2' {α : Type} : ∀ {l : List α}, l.length = 2 → ∃ a b, l = [a, b]
  | [a, b], _ => ⟨a, b, rfl⟩
theorem len3' {α : Type} : ∀ {l : List α}, l.length = 3 → ∃ a b c, l = [a, b, c]
  | [a, b, c], _ => ⟨a, b, c, rfl⟩
theorem len4' {α : Type} : ∀ {l : List α}, l.length = 4 → ∃ a b c d, l = [a, b, c, d]
  | [a, b, c, d], _ => ⟨a, b, c, d, rfl⟩
theorem len5' {α : Type} : ∀ {l : List α}, l.length = 5 → ∃ a b c d e, l = [a, b, c, d, e]
  | [a, b, c, d, e], _ => ⟨a, b, c, d, e, rfl⟩
/-- n bytes from place o on. -/
def winF (o n : Nat) (b : Nat → BitVec 8) : Nat → SC := fun j => if o ≤ j ∧ j < o + n then .w8 (b (j - o)) else .any
theorem winF_at (o n : Nat) (b : Nat → BitVec 8) {i : Nat} (h : i < n) : winF o n b (o + i) = .w8 (b i) := by
  unfold winF
  rw [if_pos ⟨by omega, by omega⟩, show o + i - o = i by omega]
theorem eqC_win {q : List Nat} {o n : Nat} {f : Nat → SC} {b : Nat → BitVec 8} (h : ∀ i, i < n → f (o + i) = .w8 (b i)) (j : Nat) : eqC q (f j) (winF o n b j) True := by
  unfold winF
  split
  · rename_i hj
    have := h (j - o) (by omega)
    rw [show o + (j - o) = j by omega] at this
    exact eqC_w8 this
  · trivial
theorem eqC_winS {q : List Nat} {o n : Nat} {b : Nat → BitVec 8} {j : Nat} : eqC q (winF o n b j) (winF o n b j) True := eqC_win (fun _ h => winF_at _ _ _ h) j
theorem eqC_winM {q : List Nat} {g : Nat → Nat} {o n : Nat} {b : Nat → BitVec 8} {j : Nat} : eqC q (SC.mp g (winF o n b j)) (winF o n b j) True :=
  eqC_win (f := fun j => SC.mp g (winF o n b j)) (fun _ h => by rw [winF_at _ _ _ h]; rfl) j
theorem eqC_selfB {q : List Nat} {n : Nat} {b : Nat → BitVec 8} {j : Nat} : eqC q (bytesF n b j) (bytesF n b j) True := eqC_bytes (fun _ h => bytesF_lt h) j
theorem eqC_mpB {q : List Nat} {g : Nat → Nat} {n : Nat} {b : Nat → BitVec 8} {j : Nat} : eqC q (SC.mp g (bytesF n b j)) (bytesF n b j) True :=
  eqC_bytes (f := fun j => SC.mp g (bytesF n b j)) (fun j h => by rw [bytesF_lt h]; rfl) j
theorem eqC_winB {q : List Nat} {n : Nat} {b : Nat → BitVec 8} {j : Nat} : eqC q (bytesF n b j) (winF 0 n b j) True :=
  eqC_win (fun i h => by rw [Nat.zero_add]; exact bytesF_lt h) j
/-- Bytes of a slice that may be nil. -/
def bts : Bool → Nat → Nat → Nat → (Nat → BitVec 8) → List Seg
  | true, _, _, _, _ => []
  | false, N, o, n, b => [.row N (winF o n b)]
/-- Bytes of a slice that may be nil, taken as they are. -/
theorem sn_bts {h : List (List Seg)} {z : Bool} {j N o n : Nat} {b : Nat → BitVec 8} {k : (Nat → SC) → Prop} (hj : getH h j = bts z N o n b) (hN : o + n ≤ N) (hz : z = true → n = 0)
    (hk : ∀ g : Nat → SC, (∀ i, i < n → g i = .w8 (b i)) → k g) : ∃ f : Nat → SC, ((z = true → n = 0) ∧ (z = false → SnAt h j 0 o n 1 f)) ∧ k f := by
  refine ⟨fun i => .w8 (b i), ⟨hz, ?_⟩, hk _ fun _ _ => rfl⟩
  rintro rfl
  exact ⟨N, winF o n b, [], by rw [hj]; rfl, hN, fun q hq => by rw [Nat.add_comm]; exact (winF_at _ _ _ hq).symm⟩
/-- Things of which only the first m are known. -/
def partsF (m : Nat) (g : Nat → SC) : Nat → SC := fun i => if i < m then g i else .any
theorem frc_parts {m : Nat} {g : Nat → SC} {i : Nat} {k : SC → Prop} (h : i < m) (hk : frcSC (g i) k) : frcSC (partsF m g i) k := by
  unfold partsF; rw [if_pos h]; exact hk
theorem eqC_parts {q : List Nat} {m : Nat} {f g : Nat → SC} (h : ∀ i, i < m → eqC q (f i) (g i) True) (j : Nat) : eqC q (f j) (partsF m g j) True := by
  unfold partsF
  split
  · exact h j ‹_›
  · trivial
theorem eqC_partsS {q : List Nat} {m : Nat} {g : Nat → SC} (h : ∀ i, i < m → eqC q (g i) (g i) True) {j : Nat} : eqC q (partsF m g j) (partsF m g j) True :=
  eqC_parts (fun i hi => by unfold partsF; rw [if_pos hi]; exact h i hi) j
/-- A part of some bytes. -/
def sub (l : Bs) (o n : Nat) : Bs := (l.drop o).take n
theorem eqC_bts {q : List Nat} {z : Bool} {N o n : Nat} {b : Nat → BitVec 8} {k : Prop} (hk : k) : eqSegs q (bts z N o n b) (bts z N o n b) k := by
  cases z
  · exact ⟨rfl, fun j hj => eqC_winS, hk⟩
  · exact hk
theorem eqC_btsM {q : List Nat} {g : Nat → Nat} {z : Bool} {N o n : Nat} {b : Nat → BitVec 8} {k : Prop} (hk : k) : eqSegs q (mpL g (bts z N o n b)) (bts z N o n b) k := by
  cases z
  · exact ⟨rfl, fun j hj => eqC_winM, hk⟩
  · exact hk
theorem len6' {α : Type} : ∀ {l : List α}, l.length = 6 → ∃ a b c d e g, l = [a, b, c, d, e, g]
  | [a, b, c, d, e, g], _ => ⟨a, b, c, d, e, g, rfl⟩
theorem eqC_win8 {q : List Nat} {n : Nat} {b b' : Nat → BitVec 8} (h : ∀ i, i < n → b i = b' i) (j : Nat) : eqC q (SC.w8 (b j)) (winF 0 n b' j) True :=
  eqC_win (f := fun j => SC.w8 (b j)) (fun i hi => congrArg SC.w8 (by rw [Nat.zero_add]; exact h i hi)) j
theorem frc_bytesL {n : Nat} {b : Nat → BitVec 8} {j : Nat} {k : SC → Prop} (h : j < n) (hk : k (.w8 (b j))) : frcSC (bytesF n b j) k := by
  rw [bytesF_lt h]; exact hk
theorem eqC_win0 {q : List Nat} {n : Nat} {f : Nat → SC} {b : Nat → BitVec 8} (h : ∀ i, i < n → f i = .w8 (b i)) (j : Nat) : eqC q (f j) (winF 0 n b j) True :=
  eqC_win (fun i hi => by rw [Nat.zero_add]; exact h i hi) j
theorem frc_win {o n i : Nat} {b : Nat → BitVec 8} {k : SC → Prop} (h : i < n) (hk : k (.w8 (b i))) : frcSC (winF o n b (i + o)) k := by
  rw [Nat.add_comm, winF_at _ _ _ h]; exact hk
theorem eqSegs_nil {q : List Nat} {x : List Seg} {k : Prop} (h : k) : eqSegs q x [] k := by
  cases x with
  | nil => exact h
  | cons a r => cases a <;> exact h
/-- Bytes of a string. -/
theorem str_of {g : Nat → SC} {n : Nat} {M : Bs} (hn : M.length = n) (h : ∀ q, q < n → g q = .w8 (L M q)) : (U8 M).length = n ∧ ∀ q, q < n → g q = .w8 ((U8 M).getD q 0).toBitVec :=
  ⟨by rw [U8_len, hn], fun q hq => by rw [h q hq, U8_get M q (by omega)]⟩
theorem nthC_w8 : ∀ (l : Bs) (j : Nat), j < l.length → nthC (l.map SC.w8) j = .w8 (L l j)
  | [], _, h => absurd h (by simp)
  | x :: l, 0, _ => rfl
  | x :: l, j + 1, h => nthC_w8 l j (by simpa using h)
theorem eqC_lit {q : List Nat} (l : Bs) {j : Nat} (h : j < l.length) : eqC q (nthC (l.map SC.w8) j) (winF 0 l.length (L l) j) True :=
  eqC_win0 (f := nthC (l.map SC.w8)) (fun i hi => nthC_w8 l i hi) j
theorem app_row {f g : Nat → SC} {l m : Bs} {n k : Nat} (hn : l.length = n) (hk : m.length = k) (hf : ∀ i, i < n → f i = .w8 (L l i)) (hg : ∀ i, i < k → g i = .w8 (L m i)) (i : Nat) (hi : i < n + k) :
    appF f 0 (scale n (0 + 1)) (scale k (0 + 1)) g i = .w8 (L (l ++ m) i) := by
  have e1 : scale n (0 + 1) = n := by rw [scale_eq, Nat.zero_add, Nat.mul_one]
  have e2 : scale k (0 + 1) = k := by rw [scale_eq, Nat.zero_add, Nat.mul_one]
  unfold appF
  rw [e1, e2, L_app, hn]
  by_cases h : i < n
  · rw [if_pos h, if_pos h]; exact hf i h
  · rw [if_neg h, if_pos hi, if_neg h]; exact hg _ (by omega)
theorem new_row {g : Nat → SC} {m : Bs} {k : Nat} (hg : ∀ i, i < k → g i = .w8 (L m i)) (i : Nat) (hi : i < k) : newF (scale k (0 + 1)) g i = .w8 (L m i) := by
  have e2 : scale k (0 + 1) = k := by rw [scale_eq, Nat.zero_add, Nat.mul_one]
  unfold newF
  rw [e2, if_pos hi]; exact hg i hi
theorem one_row {x y : BitVec 8} (h : x = y) (i : Nat) (hi : i < 1) : nthC [.w8 x] i = .w8 (L [y] i) := by
  obtain rfl : i = 0 := by omega
  subst h; rfl
theorem BS_row (l : List UInt8) (i : Nat) (hi : i < l.length) : SC.w8 (l.getD i 0).toBitVec = .w8 (L (BS l) i) := congrArg SC.w8 (L_BS l i hi).symm
theorem sn_btsM {h : List (List Seg)} {g : Nat → Nat} {z : Bool} {j N o n : Nat} {b : Nat → BitVec 8} {k : (Nat → SC) → Prop} (hj : getH h j = mpL g (bts z N o n b)) (hN : o + n ≤ N) (hz : z = true → n = 0)
    (hk : ∀ g : Nat → SC, (∀ i, i < n → g i = .w8 (b i)) → k g) : ∃ f : Nat → SC, ((z = true → n = 0) ∧ (z = false → SnAt h j 0 o n 1 f)) ∧ k f := by
  refine ⟨fun i => .w8 (b i), ⟨hz, ?_⟩, hk _ fun _ _ => rfl⟩
  rintro rfl
  refine ⟨N, fun j => SC.mp g (winF o n b j), [], by rw [hj]; rfl, hN, fun q hq => ?_⟩
  show SC.w8 (b q) = SC.mp g (winF o n b (q + o))
  rw [Nat.add_comm, winF_at _ _ _ (show q < n from hq)]
  rfl
theorem eqC_winBM {q : List Nat} {g : Nat → Nat} {n m : Nat} {b : Nat → BitVec 8} {j : Nat} (h : m ≤ n) : eqC q (SC.mp g (bytesF n b j)) (winF 0 m b j) True :=
  eqC_win0 (f := fun j => SC.mp g (bytesF n b j)) (fun i hi => by rw [bytesF_lt (by omega)]; rfl) j
theorem frc_bytesM {n : Nat} {g : Nat → Nat} {b : Nat → BitVec 8} {j : Nat} {k : SC → Prop} (h : j < n) (hk : k (.w8 (b j))) : frcSC (SC.mp g (bytesF n b j)) k := by
  rw [bytesF_lt h]; exact hk
theorem frc_winA {o n x : Nat} {b : Nat → BitVec 8} {k : SC → Prop} (i : Nat) (hx : x = i + o) (h : i < n) (hk : k (.w8 (b i))) : frcSC (winF o n b x) k := by
  rw [hx]; exact frc_win h hk
theorem frc_winM {o n x : Nat} {g : Nat → Nat} {b : Nat → BitVec 8} {k : SC → Prop} (i : Nat) (hx : x = i + o) (h : i < n) (hk : k (.w8 (b i))) : frcSC (SC.mp g (winF o n b x)) k := by
  have := winF_at o n b h
  rw [hx, Nat.add_comm, this]; exact hk
/-- A plain part of an entailment, found by itself. -/
theorem ent1 {a b : Prop} (k : b) (h : a := by first | exact rfl | exact fun _ _ => ⟨rfl, trivial⟩ | exact fun _ _ => trivial | omega | exact fun _ _ => eqC_winS | exact fun _ _ => eqC_winM | exact fun _ _ => eqC_winB | exact fun _ _ => eqC_selfB | exact fun _ _ => eqC_mpB) : a ∧ b := ⟨h, k⟩
end Sx
end Go.Proofs.YtkjdkeolkigibaaGreat
end

section
/-
  Numbers of one, two, four or eight bytes, as lists of bytes: put and taken. Plain. No condition.
-/
namespace Go.Proofs.YtkjdkeolkigibaaGreat
set_option linter.unusedVariables false
namespace Vi
open Sha

def lenN (n : BitVec 64) : Nat := if n < 64#64 then 1 else if n < 16384#64 then 2 else if n < 1073741824#64 then 4 else if n < 4611686018427387904#64 then 8 else 0
def okSz (k : Nat) : Prop := k = 1 ∨ k = 2 ∨ k = 4 ∨ k = 8
def markB (k : Nat) : BitVec 8 := if k = 2 then 64#8 else if k = 4 then 128#8 else if k = 8 then 192#8 else 0#8
def byteN (n : BitVec 64) (j : Nat) : BitVec 8 := (n >>> (8 * j)).setWidth 8
/-- A number's bytes, so many. -/
def wideL (n : BitVec 64) (k : Nat) : Bs := tab k fun i => if i = 0 then byteN n (k - 1) ||| markB k else byteN n (k - 1 - i)
/-- With the fewest. -/
def putL (n : BitVec 64) : Bs := wideL n (lenN n)
@[simp] theorem wideL_len (n : BitVec 64) (k : Nat) : (wideL n k).length = k := tab_len _ _
def sizeT (c : BitVec 8) : Nat := 2 ^ (c >>> 6).toNat
/-- What is taken: the first byte and i more. -/
def numT (l : Bs) : Nat → BitVec 64
  | 0 => (L l 0 &&& 63#8).setWidth 64
  | i + 1 => numT l i <<< 8 ||| (L l (i + 1)).setWidth 64
theorem lenN_spec (n : BitVec 64) : (n.toNat < 64 ∧ lenN n = 1) ∨ (64 ≤ n.toNat ∧ n.toNat < 16384 ∧ lenN n = 2) ∨ (16384 ≤ n.toNat ∧ n.toNat < 1073741824 ∧ lenN n = 4) ∨
    (1073741824 ≤ n.toNat ∧ n.toNat < 4611686018427387904 ∧ lenN n = 8) ∨ (4611686018427387904 ≤ n.toNat ∧ lenN n = 0) := by
  unfold lenN
  simp only [BitVec.lt_def, BitVec.toNat_ofNat]
  split <;> (try split) <;> (try split) <;> (try split) <;> omega
theorem lenN_ok {n : BitVec 64} (h : lenN n ≠ 0) : okSz (lenN n) := by
  have := lenN_spec n
  unfold okSz
  omega
theorem byteN_toNat (n : BitVec 64) (j : Nat) : (byteN n j).toNat = n.toNat / 256 ^ j % 256 := by
  unfold byteN
  rw [BitVec.toNat_setWidth, BitVec.toNat_ushiftRight, Nat.shiftRight_eq_div_pow, Nat.pow_mul]
theorem step_toNat (a : BitVec 64) (c : BitVec 8) (h : a.toNat < 2 ^ 56) : (a <<< 8 ||| c.setWidth 64).toNat = a.toNat * 256 + c.toNat := by
  have hc := c.isLt
  rw [BitVec.toNat_or, BitVec.toNat_shiftLeft, BitVec.toNat_setWidth, Nat.shiftLeft_eq, Nat.mod_eq_of_lt (by omega), Nat.mod_eq_of_lt (by omega : c.toNat < 2 ^ 64), Nat.mul_comm]
  exact (Nat.two_pow_add_eq_or_of_lt (by omega) _).symm
theorem mark_and : ∀ c : BitVec 8, c < 64#8 → (c ||| 0#8) &&& 63#8 = c ∧ (c ||| 64#8) &&& 63#8 = c ∧ (c ||| 128#8) &&& 63#8 = c ∧ (c ||| 192#8) &&& 63#8 = c := by decide +kernel
theorem mark_shr : ∀ c : BitVec 8, c < 64#8 → ((c ||| 0#8) >>> 6) = 0#8 ∧ ((c ||| 64#8) >>> 6) = 1#8 ∧ ((c ||| 128#8) >>> 6) = 2#8 ∧ ((c ||| 192#8) >>> 6) = 3#8 := by decide +kernel
theorem head_lt {n : BitVec 64} {k : Nat} (hk : okSz k) (h0 : lenN n ≠ 0) (h1 : lenN n ≤ k) : byteN n (k - 1) < 64#8 ∧ n.toNat < 64 * 256 ^ (k - 1) := by
  have hs := lenN_spec n
  rw [BitVec.lt_def, byteN_toNat]
  rcases hk with rfl | rfl | rfl | rfl <;> simp <;> omega
theorem take_wide {n : BitVec 64} {k : Nat} (hk : okSz k) (h0 : lenN n ≠ 0) (h1 : lenN n ≤ k) (r : Bs) : sizeT (L (wideL n k ++ r) 0) = k ∧ numT (wideL n k ++ r) (k - 1) = n := by
  obtain ⟨hb, hn⟩ := head_lt hk h0 h1
  have e0 : ∀ i, i < k → L (wideL n k ++ r) i = if i = 0 then byteN n (k - 1) ||| markB k else byteN n (k - 1 - i) := fun i hi => by
    rw [L_app1 (by simpa using hi)]
    exact L_tab hi
  have a0 := mark_and _ hb
  have a1 := mark_shr _ hb
  have z : (L (wideL n k ++ r) 0 &&& 63#8) = byteN n (k - 1) ∧ sizeT (L (wideL n k ++ r) 0) = k := by
    rw [e0 0 (by rcases hk with rfl | rfl | rfl | rfl <;> omega), if_pos rfl]
    unfold sizeT
    rcases hk with rfl | rfl | rfl | rfl
    · exact ⟨a0.1, by show 2 ^ ((byteN n 0 ||| 0#8) >>> 6).toNat = 1; rw [a1.1]; rfl⟩
    · exact ⟨a0.2.1, by show 2 ^ ((byteN n 1 ||| 64#8) >>> 6).toNat = 2; rw [a1.2.1]; rfl⟩
    · exact ⟨a0.2.2.1, by show 2 ^ ((byteN n 3 ||| 128#8) >>> 6).toNat = 4; rw [a1.2.2.1]; rfl⟩
    · exact ⟨a0.2.2.2, by show 2 ^ ((byteN n 7 ||| 192#8) >>> 6).toNat = 8; rw [a1.2.2.2]; rfl⟩
  refine ⟨z.2, ?_⟩
  have key : ∀ i, i < k → (numT (wideL n k ++ r) i).toNat = n.toNat / 256 ^ (k - 1 - i) := by
    intro i hi
    induction i with
    | zero =>
      simp only [numT]
      rw [z.1, BitVec.toNat_setWidth, byteN_toNat, Nat.sub_zero]
      have hq : n.toNat / 256 ^ (k - 1) < 64 := Nat.div_lt_of_lt_mul (by rw [Nat.mul_comm]; exact hn)
      rw [Nat.mod_eq_of_lt (by omega : n.toNat / 256 ^ (k - 1) < 256), Nat.mod_eq_of_lt (by omega)]
    | succ i ih =>
      have ih := ih (by omega)
      have hlt : n.toNat / 256 ^ (k - 1 - i) < 2 ^ 56 := by
        have hn2 := n.isLt
        have hs : 256 ≤ 256 ^ (k - 1 - i) := by
          have : 256 ^ 1 ≤ 256 ^ (k - 1 - i) := Nat.pow_le_pow_right (by omega) (by omega)
          simpa using this
        have := Nat.div_le_div_left hs (by omega : 0 < 256) (a := n.toNat)
        omega
      simp only [numT]
      rw [step_toNat _ _ (by rw [ih]; exact hlt), ih, e0 (i + 1) hi, if_neg (by omega), byteN_toNat]
      have e : k - 1 - i = (k - 1 - (i + 1)) + 1 := by omega
      rw [e, Nat.pow_succ, ← Nat.div_div_eq_div_mul]
      omega
  apply BitVec.eq_of_toNat_eq
  have := key (k - 1) (by rcases hk with rfl | rfl | rfl | rfl <;> omega)
  simpa using this
end Vi
end Go.Proofs.YtkjdkeolkigibaaGreat
end

section
/-
  Numbers of one, two, four or eight bytes, taken: the program's Take, Len, mark. No condition.
-/
namespace Go.Proofs.YtkjdkeolkigibaaGreat
set_option linter.unusedVariables false
namespace Vi
open Sha
/-- What Take answers. -/
def takeM (l : Bs) : BitVec 64 × Nat × Int := if l.length = 0 ∨ l.length < sizeT (L l 0) then (0#64, 0, 3) else (numT l (sizeT (L l 0) - 1), sizeT (L l 0), 0)
theorem shr6 : ∀ c : BitVec 8, (c >>> 6).toNat < 4 := by decide +kernel
theorem sizeT_le (c : BitVec 8) : 1 ≤ sizeT c ∧ sizeT c ≤ 8 := by
  unfold sizeT
  have := shr6 c
  have : (c >>> 6).toNat = 0 ∨ (c >>> 6).toNat = 1 ∨ (c >>> 6).toNat = 2 ∨ (c >>> 6).toNat = 3 := by omega
  rcases this with h | h | h | h <;> rw [h] <;> decide
end Vi
namespace Sx
open Sha Vi

/-- A slice of bytes that may be nil: where it lies in its block, how far that goes, its bytes. -/
structure Sl where
  z : Bool
  N : Nat
  o : Nat
  c : Nat
  l : Bs
structure Sl.Ok (s : Sl) : Prop where
  fit : s.o + s.l.length ≤ s.N
  cap : s.l.length ≤ s.c
  nil : s.z = true → s.l = []
  small : s.l.length ≤ 1000000
abbrev svC (i : Nat) (s : Sl) : SC := .sn s.z i 0 s.o s.l.length s.c
abbrev svB (s : Sl) : List Seg := bts s.z s.N s.o s.l.length (L s.l)
theorem svB_row {s : Sl} (h : s.z = false) : svB s = [.row s.N (winF s.o s.l.length (L s.l))] := by unfold svB; rw [h]; rfl
theorem sn_cut {s : Sl} (hs : s.Ok) {h : List (List Seg)} {j m : Nat} {k : (Nat → SC) → Prop} (hj : getH h j = svB s) (hm : m ≤ s.l.length)
    (hk : ∀ g : Nat → SC, (∀ i, i < m → g i = .w8 (L s.l i)) → k g) : ∃ f : Nat → SC, ((s.z = true → m = 0) ∧ (s.z = false → SnAt h j 0 s.o m 1 f)) ∧ k f := by
  refine ⟨fun i => .w8 (L s.l i), ⟨fun hz => by have := hs.nil hz; rw [this] at hm; simpa using hm, fun hz => ?_⟩, hk _ fun _ _ => rfl⟩
  have hf := hs.fit
  exact ⟨s.N, winF s.o s.l.length (L s.l), [], by rw [hj, svB_row hz]; rfl, by show s.o + m ≤ s.N; omega, fun q hq => by
    have hq : q < m := hq
    rw [Nat.add_comm]; exact (winF_at _ _ _ (by omega)).symm⟩
theorem frc_eq {x y : SC} {k : SC → Prop} (h : x = y) (hk : frcSC y k) : frcSC x k := by rw [h]; exact hk
/-- A slice within another one. -/
structure Sub (s s' : Sl) : Prop where
  z : s'.z = false → s.z = false
  N : s'.z = false → s.N = s'.N
  lo : s'.l ≠ [] → s.o ≤ s'.o ∧ s'.o + s'.l.length ≤ s.o + s.l.length
  at_ : ∀ i, i < s'.l.length → L s.l (s'.o - s.o + i) = L s'.l i
theorem Sub.ent {s s' : Sl} (h : Sub s s') {q : List Nat} {k : Prop} (hk : k) : eqSegs q (svB s) (svB s') k := by
  cases hz : s'.z with
  | true => unfold svB; rw [hz]; exact eqSegs_nil hk
  | false =>
    rw [svB_row (h.z hz), svB_row hz]
    refine ⟨h.N hz, fun j hj => eqC_win (fun i hi => ?_) j, hk⟩
    have hne : s'.l ≠ [] := fun e => by rw [e] at hi; simp at hi
    have h1 := h.lo hne
    rw [show s'.o + i = s.o + (s'.o - s.o + i) by omega, winF_at _ _ _ (by omega), h.at_ i hi]
theorem Sub.refl (s : Sl) : Sub s s := ⟨id, fun _ => rfl, fun _ => ⟨Nat.le_refl _, Nat.le_refl _⟩, fun i _ => by rw [Nat.sub_self, Nat.zero_add]⟩
theorem Sub.nil (s : Sl) {n o c : Nat} : Sub s ⟨true, n, o, c, []⟩ := ⟨fun h => Bool.noConfusion h, fun h => Bool.noConfusion h, fun h => absurd rfl h, fun i hi => by simp at hi⟩
theorem eqSegs_sub {q : List Nat} {z0 z : Bool} {N n0 o n : Nat} {B b : Nat → BitVec 8} {k : Prop} (h : z = false → z0 = false ∧ ∀ i, i < n → o + i < n0 ∧ B (o + i) = b i) (hk : k) : eqSegs q (bts z0 N 0 n0 B) (bts z N o n b) k := by
  cases z with
  | true => exact eqSegs_nil hk
  | false =>
    obtain ⟨rfl, h1⟩ := h rfl
    refine ⟨rfl, fun j hj => eqC_win (fun i hi => ?_) j, hk⟩
    have := winF_at 0 n0 B (h1 i hi).1
    rw [Nat.zero_add] at this
    rw [this, (h1 i hi).2]
theorem fn_vlen (n : BitVec 64) : Fn Tryz.prog tds 78 [] [.c (.w64 n)] (fun _ => True) (fun x hs => x = .a (.c (.int .i64 (lenN n : Nat))) ∧ hs = []) := by
  refine fn_of_body tds_ok follows_ Tryz.func78 rfl (t := .a (.c (.w64 n)) :: anys (Tryz.f78.ntmps - 1)) rfl (fun w r0 hr _ => ?_)
  obtain rfl : r0 = [] := List.eq_nil_of_length_eq_zero hr
  unfold lenN
  refine ⟨fun h => ?_, fun h => ?_⟩
  · rw [if_pos (of_decide_eq_true h)]
    exact ⟨.a (.c (.int .i64 1)), [], ⟨[], ⟨rfl, rfl, rfl⟩, rfl, trivial⟩, rfl, rfl⟩
  rw [if_neg (of_decide_eq_false h)]
  refine ⟨fun h => ?_, fun h => ?_⟩
  · rw [if_pos (of_decide_eq_true h)]
    exact ⟨.a (.c (.int .i64 2)), [], ⟨[], ⟨rfl, rfl, rfl⟩, rfl, trivial⟩, rfl, rfl⟩
  rw [if_neg (of_decide_eq_false h)]
  refine ⟨fun h => ?_, fun h => ?_⟩
  · rw [if_pos (of_decide_eq_true h)]
    exact ⟨.a (.c (.int .i64 4)), [], ⟨[], ⟨rfl, rfl, rfl⟩, rfl, trivial⟩, rfl, rfl⟩
  rw [if_neg (of_decide_eq_false h)]
  refine ⟨fun h => ?_, fun h => ?_⟩
  · rw [if_pos (of_decide_eq_true h)]
    exact ⟨.a (.c (.int .i64 8)), [], ⟨[], ⟨rfl, rfl, rfl⟩, rfl, trivial⟩, rfl, rfl⟩
  rw [if_neg (of_decide_eq_false h)]
  exact ⟨.a (.c (.int .i64 0)), [], ⟨[], ⟨rfl, rfl, rfl⟩, rfl, trivial⟩, rfl, rfl⟩
set_option maxRecDepth 20000 in
theorem fn_vtake (s : Sl) (hs : s.Ok) : FnR Tryz.prog tds 90 1 [svB s] [.c (svC 0 s)] (fun _ => True)
    (fun x hs => ∃ n k e, takeM s.l = (n, k, e) ∧ x = .tup [.c (.w64 n), .c (.int .i64 (k : Nat)), .c (.int .i64 e)] ∧ hs = [svB s]) := by
  obtain ⟨z, N, o, c, l⟩ := s
  obtain ⟨hN, hc, hz, _⟩ := hs
  dsimp only at hN hc hz
  show FnR _ _ _ 1 [bts z N o l.length (L l)] [.c (.sn z 0 0 o l.length c)] _ (fun x hs => ∃ n k e, takeM l = (n, k, e) ∧ x = .tup [.c (.w64 n), .c (.int .i64 (k : Nat)), .c (.int .i64 e)] ∧ hs = [bts z N o l.length (L l)])
  refine fn_of_body tds_ok follows_ Tryz.func90 rfl (t := .a (.c (.sn z 0 0 o l.length c)) :: anys (Tryz.f90.ntmps - 1)) rfl (fun w r0 hr _ => ?_)
  obtain ⟨x0, rfl⟩ := List.length_eq_one_iff.1 hr
  by_cases h0 : l.length = 0
  · have e0 : decide ((l.length : Int) = 0) = true := decide_eq_true (by omega)
    (repeat first | refine And.intro (by omega) ?_ | refine And.intro (by decide) ?_ | refine And.intro rfl ?_ | refine And.intro (fun _ => ?_) (fun h => Bool.noConfusion h) | refine And.intro (fun h => Bool.noConfusion h) (fun _ => ?_) | refine And.intro (fun _ => ?_) (fun h => absurd h (by rw [e0]; decide)) | refine And.intro (fun h => absurd h (by rw [e0]; decide)) (fun _ => ?_))
    refine ⟨_, _, ⟨[0], ⟨rfl, rfl, rfl⟩, ?_⟩, 0#64, 0, 3, by unfold takeM; rw [if_pos (.inl h0)], rfl, rfl⟩
    (repeat first | exact trivial | refine ent1 ?_)
    refine eqC_bts ?_
    (repeat first | exact trivial | refine ent1 ?_)
  have e0 : decide ((l.length : Int) = 0) = false := decide_eq_false (by omega)
  cases z with
  | true => exact absurd (by rw [hz rfl]; rfl) h0
  | false =>
  (repeat first | refine And.intro (by omega) ?_ | refine And.intro (by decide) ?_ | refine And.intro rfl ?_ | refine And.intro (fun _ => ?_) (fun h => Bool.noConfusion h) | refine And.intro (fun h => Bool.noConfusion h) (fun _ => ?_) | refine And.intro (fun _ => ?_) (fun h => absurd h (by rw [e0]; decide)) | refine And.intro (fun h => absurd h (by rw [e0]; decide)) (fun _ => ?_))
  have hp : 0 < l.length := by omega
  with_reducible refine frc_winA 0 rfl hp ?_
  obtain ⟨k, hk⟩ : ∃ k, sizeT (L l 0) = k := ⟨_, rfl⟩
  have hk1 := sizeT_le (L l 0)
  rw [hk] at hk1
  have ek : (1 : Int) * (2 : Int) ^ (L l 0 >>> 6).toNat = (k : Int) := by rw [← hk]; simp [sizeT]
  have h6 := shr6 (L l 0)
  have hb : (L l 0 >>> 6).toNat < 64 ∧ (-9223372036854775808 : Int) ≤ (1 : Int) * (2 : Int) ^ (L l 0 >>> 6).toNat ∧ (1 : Int) * (2 : Int) ^ (L l 0 >>> 6).toNat ≤ 9223372036854775807 := by rw [ek]; omega
  refine And.intro hb ?_
  rw [ek]
  by_cases h1 : l.length < k
  · have e1 : decide ((l.length : Int) < (k : Nat)) = true := decide_eq_true (by omega)
    (repeat first | refine And.intro (by omega) ?_ | refine And.intro (by decide) ?_ | refine And.intro rfl ?_ | refine And.intro (fun _ => ?_) (fun h => Bool.noConfusion h) | refine And.intro (fun h => Bool.noConfusion h) (fun _ => ?_) | refine And.intro (fun _ => ?_) (fun h => absurd h (by rw [e1]; decide)) | refine And.intro (fun h => absurd h (by rw [e1]; decide)) (fun _ => ?_))
    refine ⟨_, _, ⟨[0], ⟨rfl, rfl, rfl⟩, ?_⟩, 0#64, 0, 3, by unfold takeM; rw [hk, if_pos (.inr h1)], rfl, rfl⟩
    (repeat first | exact trivial | refine ent1 ?_)
  have e1 : decide ((l.length : Int) < (k : Nat)) = false := decide_eq_false (by omega)
  (repeat first | refine And.intro (by omega) ?_ | refine And.intro (by decide) ?_ | refine And.intro rfl ?_ | refine And.intro (fun _ => ?_) (fun h => Bool.noConfusion h) | refine And.intro (fun h => Bool.noConfusion h) (fun _ => ?_) | refine And.intro (fun _ => ?_) (fun h => absurd h (by rw [e1]; decide)) | refine And.intro (fun h => absurd h (by rw [e1]; decide)) (fun _ => ?_))
  with_reducible refine frc_winA 0 rfl hp ?_
  (repeat first | refine And.intro (by omega) ?_ | refine And.intro (by decide) ?_ | (with_reducible refine frc_parts (by first | omega | decide) ?_) | (with_reducible refine frc_bytesL (by first | omega | decide) ?_) | refine And.intro rfl ?_)
  obtain ⟨oo, hoo⟩ : ∃ oo, (if c = 1 then o else o + 1) = oo := ⟨_, rfl⟩
  refine frcN_of (m := 1) rfl ?_
  refine frcN_of (m := k) (by omega) ?_
  refine frcN_of (m := oo) hoo ?_
  refine frcN_of (m := k - 1) (by omega) ?_
  refine frcN_of (m := c - 1) (by omega) ?_
  refine .inl ⟨Nat, fun i => ⟨[.a (.c (.sn false 0 0 o l.length c)), .any, .a (.c (.w64 ((numT l i)))), .any, .any, .a (.c (.int .i64 ((k : Int)))), .any, .any, .any, .any, .any, .any, .any, .any, .any, .any, .any, .any, .any, .any, .any, .any, .any, .any, .any, .any, .any, .a (.c (.sn false 0 0 oo (k - 1) (c - 1))), .a (.c (.int .i64 (((k - 1 : Nat) : Int)))), .a (.c (.int .i64 (↑i))), .any, .any, .any, .any, .any, .any, .any, .any, .any, .any, .any], [bts false N o l.length (L l)]⟩, fun i => i ≤ k - 1, fun i => k - i, ⟨0, [0], ⟨⟨rfl, rfl, rfl⟩, ?_⟩, by omega⟩, fun i hi => ⟨fun h => ?_, fun h => ?_⟩⟩
  · (repeat first | exact trivial | refine ent1 ?_)
  · have hlt : (i : Int) < ((k - 1 : Nat) : Int) := of_decide_eq_true h
    have ho2 : oo = o + 1 := by rw [← hoo, if_neg (by omega)]
    (repeat first | refine And.intro (by omega) ?_ | refine And.intro (by decide) ?_ | (with_reducible refine frc_parts (by first | omega | decide) ?_) | (with_reducible refine frc_bytesL (by first | omega | decide) ?_) | refine And.intro rfl ?_)
    with_reducible refine frc_winA (i + 1) (by rw [ho2]; show ((i : Nat) : Int).toNat + (o + 1) = _; omega) (by omega) ?_
    refine ⟨⟨by omega, by omega⟩, i + 1, [0], ⟨⟨rfl, rfl, rfl⟩, ?_⟩, by omega, by dsimp only; omega⟩
    (repeat first | exact trivial | refine ent1 ?_)
  · have hi2 : i ≤ k - 1 := hi
    obtain rfl : i = k - 1 := by have : ¬ (i : Int) < ((k - 1 : Nat) : Int) := of_decide_eq_false h; omega
    (repeat first | refine And.intro (by omega) ?_ | refine And.intro (by decide) ?_ | (with_reducible refine frc_parts (by first | omega | decide) ?_) | (with_reducible refine frc_bytesL (by first | omega | decide) ?_) | refine And.intro rfl ?_)
    refine ⟨_, _, ⟨[0], ⟨rfl, rfl, rfl⟩, ?_⟩, numT l (k - 1), k, 0, by unfold takeM; rw [hk, if_neg (by omega)], rfl, rfl⟩
    (repeat first | exact trivial | refine ent1 ?_)
end Sx
end Go.Proofs.YtkjdkeolkigibaaGreat
end

section
/-
  The program's reader of numbers and bytes. No condition.
-/
namespace Go.Proofs.YtkjdkeolkigibaaGreat
set_option linter.unusedVariables false
namespace Vi
open Sha
def failM (l : Bs) (e x : Int) : Bs × Int := if x = 0 ∨ e ≠ 0 then (l, e) else ([], x)
/-- The next number; what is left. -/
def nextM (l : Bs) (e : Int) : (BitVec 64 × Nat × Bool) × Bs × Int :=
  if e ≠ 0 then ((0#64, 0, false), l, e) else
  if (takeM l).2.2 ≠ 0 then ((0#64, 0, false), [], (takeM l).2.2) else (((takeM l).1, (takeM l).2.1, true), l.drop (takeM l).2.1, 0)
def bytesM (l : Bs) (e many : Int) : Bs × Bs × Int :=
  if e ≠ 0 then ([], l, e) else if many < 0 ∨ (l.length : Int) < many then ([], [], 3) else (l.take many.toNat, l.drop many.toNat, 0)
theorem takeM_le {l : Bs} {n : BitVec 64} {k : Nat} {e : Int} (h : takeM l = (n, k, e)) : k ≤ l.length ∧ (e = 0 → 1 ≤ k) := by
  have := sizeT_le (L l 0)
  unfold takeM at h
  split at h
  · simp only [Prod.mk.injEq] at h
    obtain ⟨_, rfl, rfl⟩ := h
    exact ⟨Nat.zero_le _, fun h => by omega⟩
  · simp only [Prod.mk.injEq] at h
    obtain ⟨_, rfl, rfl⟩ := h
    exact ⟨by omega, fun _ => by omega⟩
end Vi
namespace Sx
open Sha Vi

/-- A reader: what is left of its bytes, how it ended. -/
structure RS where
  z : Bool
  o : Nat
  n : Nat
  c : Nat
  e : Int
abbrev rdCi (i : Nat) (s : RS) : List Seg := [.one (.sn s.z i 0 s.o s.n s.c), .one (.int .i64 s.e)]
abbrev rdC (s : RS) : List Seg := rdCi 0 s
/-- A reader of the bytes A of which l are left, ended by e. -/
structure RdI (A : Sl) (s : RS) (l : Bs) (e : Int) : Prop where
  ok : A.Ok
  o0 : A.o = 0
  len : s.n = l.length
  at_ : ∀ i, i < l.length → s.o + i < A.l.length ∧ L A.l (s.o + i) = L l i
  fit : s.o + l.length ≤ A.l.length
  cap : s.n ≤ s.c
  nil : s.z = true → l = []
  z0 : s.z = false → A.z = false
  err : s.e = e
  ended : e ≠ 0 → l = []
theorem RdI.drop {A : Sl} {s : RS} {l : Bs} {e : Int} (h : RdI A s l e) {k : Nat} (hk : k ≤ l.length) : RdI A ⟨s.z, if s.c = k then s.o else s.o + k, s.n - k, s.c - k, s.e⟩ (l.drop k) e := by
  have hl := h.len
  have hc := h.cap
  have hf := h.fit
  refine ⟨h.ok, h.o0, ?_, fun i hi => ?_, ?_, ?_, fun hz => ?_, h.z0, h.err, fun he => ?_⟩
  · simp [hl]
  · simp at hi
    have h1 := h.at_ (k + i) (by omega)
    have e1 : (if s.c = k then s.o else s.o + k) = s.o + k := if_neg (by omega)
    show (if s.c = k then s.o else s.o + k) + i < _ ∧ L A.l ((if s.c = k then s.o else s.o + k) + i) = _
    rw [e1, L_drop, Nat.add_assoc]
    exact h1
  · show (if s.c = k then s.o else s.o + k) + _ ≤ _
    simp
    split <;> omega
  · show s.n - k ≤ s.c - k
    omega
  · rw [h.nil hz, List.drop_nil]
  · rw [h.ended he, List.drop_nil]
theorem RdI.gone {A : Sl} {s : RS} {l : Bs} {e : Int} (h : RdI A s l e) (x : Int) : RdI A ⟨true, 0, 0, 0, x⟩ [] x :=
  ⟨h.ok, h.o0, rfl, fun i hi => by simp at hi, by simp, Nat.le_refl _, fun _ => rfl, fun h => Bool.noConfusion h, rfl, fun _ => rfl⟩
/-- The bytes that are left, as a slice of their own. -/
theorem RdI.sl {A : Sl} {s : RS} {l : Bs} {e : Int} (h : RdI A s l e) : Sl.Ok ⟨s.z, A.N, s.o, s.c, l⟩ :=
  ⟨by have h1 := h.ok.fit; have h2 := h.fit; have h3 := h.o0; show s.o + l.length ≤ A.N; omega, by have h1 := h.len; have h2 := h.cap; show l.length ≤ s.c; omega, h.nil, by have h1 := h.ok.small; have h2 := h.fit; show l.length ≤ _; omega⟩
theorem RdI.ent {A : Sl} {s : RS} {l : Bs} {e : Int} (h : RdI A s l e) {q : List Nat} {k : Prop} (hk : k) : eqSegs q (svB A) (svB ⟨s.z, A.N, s.o, s.c, l⟩) k := by
  have h0 := h.o0
  show eqSegs q (bts A.z A.N A.o A.l.length (L A.l)) _ k
  rw [h0]
  exact eqSegs_sub (fun hz => ⟨h.z0 hz, h.at_⟩) hk
theorem RdI.sn {A : Sl} {s : RS} {l : Bs} {e : Int} (h : RdI A s l e) {hp : List (List Seg)} {j m : Nat} {k : (Nat → SC) → Prop} (hj : getH hp j = svB A) (hm : m ≤ l.length)
    (hk : ∀ g : Nat → SC, (∀ i, i < m → g i = .w8 (L l i)) → k g) : ∃ f : Nat → SC, ((s.z = true → m = 0) ∧ (s.z = false → SnAt hp j 0 s.o m 1 f)) ∧ k f := by
  refine ⟨fun i => .w8 (L l i), ⟨fun hz => ?_, fun hz => ?_⟩, hk _ fun _ _ => rfl⟩
  · have := h.nil hz; subst this; simpa using hm
  · have hz' := h.z0 hz
    have hf := h.fit
    have hN := h.ok.fit
    have ho := h.o0
    refine ⟨A.N, winF A.o A.l.length (L A.l), [], by rw [hj]; unfold svB; rw [hz']; rfl, by show s.o + m ≤ A.N; omega, fun q hq => ?_⟩
    have hq : q < m := hq
    have h1 := h.at_ q (by omega)
    show SC.w8 (L l q) = _
    rw [ho, ← h1.2, Nat.add_comm q s.o]
    have := winF_at 0 A.l.length (L A.l) h1.1
    rw [Nat.zero_add] at this
    exact this.symm
set_option maxRecDepth 20000 in
theorem fn_rfail (A : Sl) (s : RS) (x : Int) {l : Bs} {e : Int} (hr : RdI A s l e) : FnR Tryz.prog tds 49 1 [svB A, rdC s] [.c (.p 1 0 0), .c (.int .i64 x)] (fun _ => True)
    (fun y hs => ∃ s' l' e', failM l e x = (l', e') ∧ RdI A s' l' e' ∧ y = .tup [] ∧ hs = [svB A, rdC s']) := by
  refine fn_of_body tds_ok follows_ Tryz.func49 rfl (t := .a (.c (.p 1 0 0)) :: .a (.c (.int .i64 x)) :: anys (Tryz.f49.ntmps - 2)) rfl (fun w r0 hr0 _ => ?_)
  obtain ⟨x0, x1, rfl⟩ := len2' hr0
  have he := hr.err
  by_cases h1 : x = 0
  · have e1 : decide (x = 0) = true := decide_eq_true h1
    (repeat first | refine And.intro (by omega) ?_ | refine And.intro (by decide) ?_ | refine And.intro rfl ?_ | refine And.intro (fun _ => ?_) (fun h => Bool.noConfusion h) | refine And.intro (fun h => Bool.noConfusion h) (fun _ => ?_) | refine And.intro (fun _ => ?_) (fun h => absurd h (by rw [e1]; decide)) | refine And.intro (fun h => absurd h (by rw [e1]; decide)) (fun _ => ?_))
    refine ⟨.tup [], _, ⟨[0, 1], ⟨rfl, rfl, rfl⟩, ?_⟩, s, l, e, by unfold failM; rw [if_pos (.inl h1)], hr, rfl, rfl⟩
    refine eqC_bts ?_
    (repeat first | exact trivial | refine ent1 ?_)
  have e1 : decide (x = 0) = false := decide_eq_false h1
  by_cases h2 : s.e = 0
  · have e2 : decide (s.e ≠ 0) = false := decide_eq_false (by omega)
    (repeat first | refine And.intro (by omega) ?_ | refine And.intro (by decide) ?_ | refine And.intro rfl ?_ | refine And.intro (fun _ => ?_) (fun h => Bool.noConfusion h) | refine And.intro (fun h => Bool.noConfusion h) (fun _ => ?_) | refine And.intro (fun _ => ?_) (fun h => absurd h (by rw [e1]; decide)) | refine And.intro (fun h => absurd h (by rw [e1]; decide)) (fun _ => ?_) | refine And.intro (fun _ => ?_) (fun h => absurd h (by rw [e2]; decide)) | refine And.intro (fun h => absurd h (by rw [e2]; decide)) (fun _ => ?_))
    refine ⟨.tup [], _, ⟨[0, 1], ⟨rfl, rfl, rfl⟩, ?_⟩, _, [], x, by unfold failM; rw [if_neg (by omega)], hr.gone x, rfl, rfl⟩
    refine eqC_bts ?_
    (repeat first | exact trivial | refine ent1 ?_)
  · have e2 : decide (s.e ≠ 0) = true := decide_eq_true h2
    (repeat first | refine And.intro (by omega) ?_ | refine And.intro (by decide) ?_ | refine And.intro rfl ?_ | refine And.intro (fun _ => ?_) (fun h => Bool.noConfusion h) | refine And.intro (fun h => Bool.noConfusion h) (fun _ => ?_) | refine And.intro (fun _ => ?_) (fun h => absurd h (by rw [e1]; decide)) | refine And.intro (fun h => absurd h (by rw [e1]; decide)) (fun _ => ?_) | refine And.intro (fun _ => ?_) (fun h => absurd h (by rw [e2]; decide)) | refine And.intro (fun h => absurd h (by rw [e2]; decide)) (fun _ => ?_))
    refine ⟨.tup [], _, ⟨[0, 1], ⟨rfl, rfl, rfl⟩, ?_⟩, s, l, e, by unfold failM; rw [if_pos (.inr (by omega))], hr, rfl, rfl⟩
    refine eqC_bts ?_
    (repeat first | exact trivial | refine ent1 ?_)
theorem fn_rerr (A : Sl) (s : RS) {l : Bs} {e : Int} (hr : RdI A s l e) : FnR Tryz.prog tds 50 1 [svB A, rdC s] [.c (.p 1 0 0)] (fun _ => True)
    (fun y hs => y = .a (.c (.int .i64 e)) ∧ hs = [svB A, rdC s]) := by
  refine fn_of_body tds_ok follows_ Tryz.func50 rfl (t := .a (.c (.p 1 0 0)) :: anys (Tryz.f50.ntmps - 1)) rfl (fun w r0 hr0 _ => ?_)
  obtain ⟨x0, x1, rfl⟩ := len2' hr0
  (repeat first | refine And.intro (by omega) ?_ | refine And.intro (by decide) ?_ | refine And.intro rfl ?_ | refine And.intro (fun _ => ?_) (fun h => Bool.noConfusion h) | refine And.intro (fun h => Bool.noConfusion h) (fun _ => ?_))
  refine ⟨.a (.c (.int .i64 e)), _, ⟨[0, 1], ⟨rfl, rfl, rfl⟩, ?_⟩, rfl, rfl⟩
  refine ⟨hr.err, ?_⟩
  refine eqC_bts ?_
  (repeat first | exact trivial | refine ent1 ?_)
theorem fn_rleft (A : Sl) (s : RS) {l : Bs} {e : Int} (hr : RdI A s l e) : FnR Tryz.prog tds 48 1 [svB A, rdC s] [.c (.p 1 0 0)] (fun _ => True)
    (fun y hs => y = .a (.c (.int .i64 (l.length : Nat))) ∧ hs = [svB A, rdC s]) := by
  refine fn_of_body tds_ok follows_ Tryz.func48 rfl (t := .a (.c (.p 1 0 0)) :: anys (Tryz.f48.ntmps - 1)) rfl (fun w r0 hr0 _ => ?_)
  obtain ⟨x0, x1, rfl⟩ := len2' hr0
  (repeat first | refine And.intro (by omega) ?_ | refine And.intro (by decide) ?_ | refine And.intro rfl ?_ | refine And.intro (fun _ => ?_) (fun h => Bool.noConfusion h) | refine And.intro (fun h => Bool.noConfusion h) (fun _ => ?_))
  refine ⟨.a (.c (.int .i64 (l.length : Nat))), _, ⟨[0, 1], ⟨rfl, rfl, rfl⟩, ?_⟩, rfl, rfl⟩
  refine ⟨congrArg (fun n : Nat => (n : Int)) hr.len, ?_⟩
  refine eqC_bts ?_
  (repeat first | exact trivial | refine ent1 ?_)
set_option maxRecDepth 20000 in
theorem fn_rnext (A : Sl) (s : RS) {l : Bs} {e : Int} (hr : RdI A s l e) : FnR Tryz.prog tds 74 1 [svB A, rdC s] [.c (.p 1 0 0)] (fun _ => True)
    (fun y hs => ∃ n k b s' l' e', nextM l e = ((n, k, b), l', e') ∧ RdI A s' l' e' ∧ y = .tup [.c (.w64 n), .c (.int .i64 (k : Nat)), .c (.bool b)] ∧ hs = [svB A, rdC s']) := by
  refine fn_of_body tds_ok follows_ Tryz.func74 rfl (t := .a (.c (.p 1 0 0)) :: anys (Tryz.f74.ntmps - 1)) rfl (fun w r0 hr0 _ => ?_)
  obtain ⟨x0, x1, rfl⟩ := len2' hr0
  have he := hr.err
  by_cases h2 : s.e = 0
  · have e2 : decide (s.e ≠ 0) = false := decide_eq_false (by omega)
    (repeat first | refine And.intro (by omega) ?_ | refine And.intro (by decide) ?_ | refine And.intro rfl ?_ | refine And.intro (fun _ => ?_) (fun h => Bool.noConfusion h) | refine And.intro (fun h => Bool.noConfusion h) (fun _ => ?_) | refine And.intro (fun _ => ?_) (fun h => absurd h (by rw [e2]; decide)) | refine And.intro (fun h => absurd h (by rw [e2]; decide)) (fun _ => ?_))
    have hlen := hr.len
    have hcap := hr.cap
    refine call_same (fn_vtake _ hr.sl) [0] rfl ⟨rfl, rfl, hlen, rfl, trivial⟩ (hr.ent trivial) (fun _ _ => trivial) ?_
    rintro x hs ⟨n, k, f, ht, rfl, rfl⟩
    have ht : takeM l = (n, k, f) := ht
    have hk := takeM_le ht
    by_cases h3 : f = 0
    · have e3 : decide (f ≠ 0) = false := decide_eq_false (by omega)
      (repeat first | refine And.intro (by omega) ?_ | refine And.intro (by decide) ?_ | refine And.intro rfl ?_ | refine And.intro (fun _ => ?_) (fun h => Bool.noConfusion h) | refine And.intro (fun h => Bool.noConfusion h) (fun _ => ?_) | refine And.intro (fun _ => ?_) (fun h => absurd h (by rw [e3]; decide)) | refine And.intro (fun h => absurd h (by rw [e3]; decide)) (fun _ => ?_))
      refine ⟨.tup [.c (.w64 n), .c (.int .i64 (k : Nat)), .c (.bool true)], _, ⟨[0, 1], ⟨rfl, rfl, rfl⟩, ?_⟩, n, k, true, _, l.drop k, e, ?_, hr.drop hk.1, rfl, rfl⟩
      · (repeat first | exact trivial | refine ent1 ?_)
        refine eqC_bts ?_
        refine ⟨rfl, ?_, ?_⟩
        rotate_left
        · (repeat first | exact trivial | refine ent1 ?_)
        show (if s.c = k then s.o else s.o + k * 1) = (if s.c = k then s.o else s.o + k)
        rw [Nat.mul_one]
      · unfold nextM
        rw [if_neg (by omega), ht, if_neg (by simpa using h3)]
        simp; omega
    have e3 : decide (f ≠ 0) = true := decide_eq_true h3
    (repeat first | refine And.intro (by omega) ?_ | refine And.intro (by decide) ?_ | refine And.intro rfl ?_ | refine And.intro (fun _ => ?_) (fun h => Bool.noConfusion h) | refine And.intro (fun h => Bool.noConfusion h) (fun _ => ?_) | refine And.intro (fun _ => ?_) (fun h => absurd h (by rw [e3]; decide)) | refine And.intro (fun h => absurd h (by rw [e3]; decide)) (fun _ => ?_))
    refine call_same (fn_rfail A s f hr) [0, 1] rfl (by (repeat first | exact trivial | refine ent1 ?_)) ?_ (fun _ _ => trivial) ?_
    · refine eqC_bts ?_
      (repeat first | exact trivial | refine ent1 ?_)
    rintro x hs ⟨s', l', e', hf, hr', rfl, rfl⟩
    refine ⟨.tup [.c (.w64 0#64), .c (.int .i64 0), .c (.bool false)], _, ⟨[0, 1], ⟨rfl, rfl, rfl⟩, ?_⟩, 0#64, 0, false, s', l', e', ?_, hr', rfl, rfl⟩
    · (repeat first | exact trivial | refine ent1 ?_)
      refine eqC_bts ?_
      (repeat first | exact trivial | refine ent1 ?_)
    · unfold failM at hf
      rw [if_neg (by omega)] at hf
      unfold nextM
      rw [if_neg (by omega), ht, if_pos h3]
      simp only [Prod.mk.injEq] at hf
      obtain ⟨rfl, rfl⟩ := hf
      rfl
  · have e2 : decide (s.e ≠ 0) = true := decide_eq_true h2
    (repeat first | refine And.intro (by omega) ?_ | refine And.intro (by decide) ?_ | refine And.intro rfl ?_ | refine And.intro (fun _ => ?_) (fun h => Bool.noConfusion h) | refine And.intro (fun h => Bool.noConfusion h) (fun _ => ?_) | refine And.intro (fun _ => ?_) (fun h => absurd h (by rw [e2]; decide)) | refine And.intro (fun h => absurd h (by rw [e2]; decide)) (fun _ => ?_))
    refine ⟨.tup [.c (.w64 0#64), .c (.int .i64 0), .c (.bool false)], _, ⟨[0, 1], ⟨rfl, rfl, rfl⟩, ?_⟩, 0#64, 0, false, s, l, e, by unfold nextM; rw [if_pos (by omega)], hr, rfl, rfl⟩
    (repeat first | exact trivial | refine ent1 ?_)
    refine eqC_bts ?_
    (repeat first | exact trivial | refine ent1 ?_)
set_option maxRecDepth 20000 in
theorem fn_rbytes (A : Sl) (s : RS) (many : Int) {l : Bs} {e : Int} (hr : RdI A s l e) : FnR Tryz.prog tds 44 1 [svB A, rdC s] [.c (.p 1 0 0), .c (.int .i64 many)] (fun _ => True)
    (fun y hs => ∃ t s' l' e', bytesM l e many = (t.l, l', e') ∧ RdI A s' l' e' ∧ t.Ok ∧ y = .a (.c (svC 2 t)) ∧ hs = [svB A, rdC s', svB t]) := by
  refine fn_of_body tds_ok follows_ Tryz.func44 rfl (t := .a (.c (.p 1 0 0)) :: .a (.c (.int .i64 many)) :: anys (Tryz.f44.ntmps - 2)) rfl (fun w r0 hr0 _ => ?_)
  obtain ⟨x0, x1, rfl⟩ := len2' hr0
  have he := hr.err
  by_cases h2 : s.e = 0
  · have e2 : decide (s.e ≠ 0) = false := decide_eq_false (by omega)
    have hlen := hr.len
    have hcap := hr.cap
    by_cases h3 : many < 0
    · have e3 : decide (many < 0) = true := decide_eq_true h3
      (repeat first | refine And.intro (by omega) ?_ | refine And.intro (by decide) ?_ | refine And.intro rfl ?_ | refine And.intro (fun _ => ?_) (fun h => Bool.noConfusion h) | refine And.intro (fun h => Bool.noConfusion h) (fun _ => ?_) | refine And.intro (fun _ => ?_) (fun h => absurd h (by rw [e2]; decide)) | refine And.intro (fun h => absurd h (by rw [e2]; decide)) (fun _ => ?_) | refine And.intro (fun _ => ?_) (fun h => absurd h (by rw [e3]; decide)) | refine And.intro (fun h => absurd h (by rw [e3]; decide)) (fun _ => ?_))
      refine call_same (fn_rfail A s 3 hr) [0, 1] rfl (by (repeat first | exact trivial | refine ent1 ?_)) ?_ (fun _ _ => trivial) ?_
      · refine eqC_bts ?_
        (repeat first | exact trivial | refine ent1 ?_)
      rintro x hs ⟨s', l', e', hf, hr', rfl, rfl⟩
      refine ⟨.a (.c (svC 2 ⟨true, 0, 0, 0, []⟩)), _, ⟨[0, 1, 1], ⟨rfl, rfl, rfl⟩, ?_⟩, ⟨true, 0, 0, 0, []⟩, s', l', e', ?_, hr', ⟨Nat.le_refl _, Nat.le_refl _, fun _ => rfl, Nat.zero_le _⟩, rfl, rfl⟩
      · (repeat first | exact trivial | refine ent1 ?_)
        refine eqC_bts ?_
        (repeat first | exact trivial | refine ent1 ?_)
      · unfold failM at hf
        rw [if_neg (by omega)] at hf
        simp only [Prod.mk.injEq] at hf
        obtain ⟨rfl, rfl⟩ := hf
        unfold bytesM
        rw [if_neg (by omega), if_pos (by omega)]
    have e3 : decide (many < 0) = false := decide_eq_false h3
    by_cases h4 : (s.n : Int) < many
    · have e4 : decide ((s.n : Int) < many) = true := decide_eq_true h4
      (repeat first | refine And.intro (by omega) ?_ | refine And.intro (by decide) ?_ | refine And.intro rfl ?_ | refine And.intro (fun _ => ?_) (fun h => Bool.noConfusion h) | refine And.intro (fun h => Bool.noConfusion h) (fun _ => ?_) | refine And.intro (fun _ => ?_) (fun h => absurd h (by rw [e2]; decide)) | refine And.intro (fun h => absurd h (by rw [e2]; decide)) (fun _ => ?_) | refine And.intro (fun _ => ?_) (fun h => absurd h (by rw [e3]; decide)) | refine And.intro (fun h => absurd h (by rw [e3]; decide)) (fun _ => ?_) | refine And.intro (fun _ => ?_) (fun h => absurd h (by rw [e4]; decide)) | refine And.intro (fun h => absurd h (by rw [e4]; decide)) (fun _ => ?_))
      refine call_same (fn_rfail A s 3 hr) [0, 1] rfl (by (repeat first | exact trivial | refine ent1 ?_)) ?_ (fun _ _ => trivial) ?_
      · refine eqC_bts ?_
        (repeat first | exact trivial | refine ent1 ?_)
      rintro x hs ⟨s', l', e', hf, hr', rfl, rfl⟩
      refine ⟨.a (.c (svC 2 ⟨true, 0, 0, 0, []⟩)), _, ⟨[0, 1, 1], ⟨rfl, rfl, rfl⟩, ?_⟩, ⟨true, 0, 0, 0, []⟩, s', l', e', ?_, hr', ⟨Nat.le_refl _, Nat.le_refl _, fun _ => rfl, Nat.zero_le _⟩, rfl, rfl⟩
      · (repeat first | exact trivial | refine ent1 ?_)
        refine eqC_bts ?_
        (repeat first | exact trivial | refine ent1 ?_)
      · unfold failM at hf
        rw [if_neg (by omega)] at hf
        simp only [Prod.mk.injEq] at hf
        obtain ⟨rfl, rfl⟩ := hf
        unfold bytesM
        rw [if_neg (by omega), if_pos (by omega)]
    have e4 : decide ((s.n : Int) < many) = false := decide_eq_false h4
    obtain ⟨m, rfl⟩ : ∃ m : Nat, many = m := ⟨many.toNat, by omega⟩
    (repeat first | refine And.intro (by omega) ?_ | refine And.intro (by decide) ?_ | refine And.intro rfl ?_ | refine And.intro (fun _ => ?_) (fun h => Bool.noConfusion h) | refine And.intro (fun h => Bool.noConfusion h) (fun _ => ?_) | refine And.intro (fun _ => ?_) (fun h => absurd h (by rw [e2]; decide)) | refine And.intro (fun h => absurd h (by rw [e2]; decide)) (fun _ => ?_) | refine And.intro (fun _ => ?_) (fun h => absurd h (by rw [e3]; decide)) | refine And.intro (fun h => absurd h (by rw [e3]; decide)) (fun _ => ?_) | refine And.intro (fun _ => ?_) (fun h => absurd h (by rw [e4]; decide)) | refine And.intro (fun h => absurd h (by rw [e4]; decide)) (fun _ => ?_))
    refine frcN_of (m := 0) rfl ?_
    refine frcN_of (m := m) rfl ?_
    refine frcN_of (m := s.o) (by split <;> simp) ?_
    refine frcN_of (m := m) rfl ?_
    refine frcN_of (m := s.c) rfl ?_
    refine hr.sn rfl (by omega) (fun g hg => ?_)
    have hsm := hr.ok.small
    have hft := hr.fit
    refine ⟨⟨rfl, rfl⟩, by show m * 1 ≤ 140737488355328; omega, fun hm0 => ?_, fun hm0 c' hc' => ?_⟩
    · subst hm0
      (repeat first | refine And.intro (by omega) ?_ | refine And.intro (by decide) ?_ | refine And.intro rfl ?_ | refine And.intro (fun _ => ?_) (fun h => Bool.noConfusion h) | refine And.intro (fun h => Bool.noConfusion h) (fun _ => ?_))
      refine ⟨.a (.c (svC 2 ⟨true, 0, 0, 0, []⟩)), _, ⟨[0, 1, 1], ⟨rfl, rfl, rfl⟩, ?_⟩, ⟨true, 0, 0, 0, []⟩, _, l.drop 0, e, ?_, hr.drop (Nat.zero_le _), ⟨Nat.le_refl _, Nat.le_refl _, fun _ => rfl, Nat.zero_le _⟩, rfl, rfl⟩
      · (repeat first | exact trivial | refine ent1 ?_)
        refine eqC_bts ?_
        (repeat first | exact trivial | refine ent1 ?_)
      · unfold bytesM
        rw [if_neg (by omega), if_neg (by omega)]
        simp; omega
    · (repeat first | refine And.intro (by omega) ?_ | refine And.intro (by decide) ?_ | refine And.intro rfl ?_ | refine And.intro (fun _ => ?_) (fun h => Bool.noConfusion h) | refine And.intro (fun h => Bool.noConfusion h) (fun _ => ?_))
      refine ⟨.a (.c (svC 2 ⟨false, c', 0, c', l.take m⟩)), _, ⟨[0, 1, 2], ⟨rfl, rfl, rfl⟩, ?_⟩, ⟨false, c', 0, c', l.take m⟩, _, l.drop m, e, ?_, hr.drop (by omega), ⟨by simp; omega, by simp; omega, fun h => Bool.noConfusion h, by simp; omega⟩, rfl, rfl⟩
      · (repeat first | exact trivial | refine ent1 ?_)
        refine ⟨by simp; omega, rfl, ?_⟩
        refine eqC_bts ?_
        refine ⟨rfl, ?_, ?_⟩
        · show (if s.c = m then s.o else s.o + m * 1) = (if s.c = m then s.o else s.o + m)
          rw [Nat.mul_one]
        (repeat first | exact trivial | refine ent1 ?_)
        refine ⟨fun j hj => eqC_win0 (fun i hi => ?_) j, trivial⟩
        have hi : i < m := by have : i < (l.take m).length := hi; simp at this; omega
        exact new_row (fun i hi => by rw [hg i hi, L_take _ _ _ hi]) i hi
      · unfold bytesM
        rw [if_neg (by omega), if_neg (by omega)]
        simp; omega
  · have e2 : decide (s.e ≠ 0) = true := decide_eq_true h2
    (repeat first | refine And.intro (by omega) ?_ | refine And.intro (by decide) ?_ | refine And.intro rfl ?_ | refine And.intro (fun _ => ?_) (fun h => Bool.noConfusion h) | refine And.intro (fun h => Bool.noConfusion h) (fun _ => ?_) | refine And.intro (fun _ => ?_) (fun h => absurd h (by rw [e2]; decide)) | refine And.intro (fun h => absurd h (by rw [e2]; decide)) (fun _ => ?_))
    refine ⟨.a (.c (svC 2 ⟨true, 0, 0, 0, []⟩)), _, ⟨[0, 1, 1], ⟨rfl, rfl, rfl⟩, ?_⟩, ⟨true, 0, 0, 0, []⟩, s, l, e, by unfold bytesM; rw [if_pos (by omega)], hr, ⟨Nat.le_refl _, Nat.le_refl _, fun _ => rfl, Nat.zero_le _⟩, rfl, rfl⟩
    (repeat first | exact trivial | refine ent1 ?_)
    refine eqC_bts ?_
    (repeat first | exact trivial | refine ent1 ?_)
end Sx
end Go.Proofs.YtkjdkeolkigibaaGreat
end

section
/-
  The program's reader of numbers and bytes: made; counts, single bytes, its end. No condition.
-/
namespace Go.Proofs.YtkjdkeolkigibaaGreat
set_option linter.unusedVariables false
namespace Vi
open Sha
def countM (l : Bs) (e : Int) (most : Nat) : Nat × Bs × Int := match nextM l e with
  | ((n, _, b), l', e') => if b = false then (0, l', e') else if most < n.toNat then (0, [], 2) else (n.toNat, l', e')
def byteM (l : Bs) (e : Int) : BitVec 8 × Bs × Int := match bytesM l e 1 with
  | (t, l', e') => (L t 0, l', e')
def longM (l : Bs) (e : Int) (most : Nat) : Bs × Bs × Int := match countM l e most with
  | (n, l', e') => bytesM l' e' (n : Int)
theorem nextM_e {l l' : Bs} {e e' : Int} {n : BitVec 64} {k : Nat} {b : Bool} (h : nextM l e = ((n, k, b), l', e')) : (b = true → e' = 0) ∧ (b = false → e' ≠ 0 ∧ n = 0#64) := by
  unfold nextM at h
  split at h
  · simp only [Prod.mk.injEq] at h
    obtain ⟨⟨rfl, rfl, rfl⟩, rfl, rfl⟩ := h
    exact ⟨fun h => Bool.noConfusion h, fun _ => ⟨by assumption, rfl⟩⟩
  · split at h
    · simp only [Prod.mk.injEq] at h
      obtain ⟨⟨rfl, rfl, rfl⟩, rfl, rfl⟩ := h
      exact ⟨fun h => Bool.noConfusion h, fun _ => ⟨by assumption, rfl⟩⟩
    · simp only [Prod.mk.injEq] at h
      obtain ⟨⟨rfl, rfl, rfl⟩, rfl, rfl⟩ := h
      exact ⟨fun _ => rfl, fun h => Bool.noConfusion h⟩
theorem countM_le {l l' : Bs} {e e' : Int} {most n : Nat} (h : countM l e most = (n, l', e')) : n ≤ most := by
  unfold countM at h
  split at h
  split at h
  · simp only [Prod.mk.injEq] at h; omega
  · split at h <;> simp only [Prod.mk.injEq] at h <;> omega
end Vi
namespace Sx
open Sha Vi

set_option maxRecDepth 20000 in
theorem fn_vread (s : Sl) (hs : s.Ok) : FnR Tryz.prog tds 43 1 [svB s] [.c (svC 0 s)] (fun _ => True)
    (fun y hs => ∃ A r, A.l = s.l ∧ RdI A r s.l 0 ∧ y = .a (.c (.p 1 0 0)) ∧ hs = [svB s, rdCi 2 r, svB A]) := by
  obtain ⟨z, N, o, c, l⟩ := s
  obtain ⟨hN, hc, hz, hsm⟩ := hs
  dsimp only at hN hc hz hsm
  show FnR _ _ _ 1 [bts z N o l.length (L l)] [.c (.sn z 0 0 o l.length c)] _ (fun y hs => ∃ A r, A.l = l ∧ RdI A r l 0 ∧ y = .a (.c (.p 1 0 0)) ∧ hs = [bts z N o l.length (L l), rdCi 2 r, svB A])
  refine fn_of_body tds_ok follows_ Tryz.func43 rfl (t := .a (.c (.sn z 0 0 o l.length c)) :: anys (Tryz.f43.ntmps - 1)) rfl (fun w r0 hr _ => ?_)
  obtain ⟨x0, rfl⟩ := List.length_eq_one_iff.1 hr
  refine sn_bts rfl hN (fun h => by rw [hz h]; rfl) (fun g hg => ?_)
  refine ⟨⟨rfl, rfl⟩, by show l.length * 1 ≤ 140737488355328; omega, fun hm0 => ?_, fun hm0 c' hc' => ?_⟩
  · obtain rfl : l = [] := List.eq_nil_of_length_eq_zero hm0
    (repeat first | refine And.intro (by omega) ?_ | refine And.intro (by decide) ?_ | refine And.intro rfl ?_ | refine And.intro (fun _ => ?_) (fun h => Bool.noConfusion h) | refine And.intro (fun h => Bool.noConfusion h) (fun _ => ?_))
    refine ⟨.a (.c (.p 1 0 0)), _, ⟨[0, 1, 1], ⟨rfl, rfl, rfl⟩, ?_⟩, ⟨true, 0, 0, 0, []⟩, ⟨true, 0, 0, 0, 0⟩, rfl, ⟨⟨Nat.le_refl _, Nat.le_refl _, fun _ => rfl, Nat.zero_le _⟩, rfl, rfl, fun i hi => by simp at hi, Nat.le_refl _, Nat.le_refl _, fun _ => rfl, fun h => Bool.noConfusion h, rfl, fun _ => rfl⟩, rfl, rfl⟩
    (repeat first | exact trivial | refine ent1 ?_)
    refine eqC_bts ?_
    (repeat first | exact trivial | refine ent1 ?_)
  · (repeat first | refine And.intro (by omega) ?_ | refine And.intro (by decide) ?_ | refine And.intro rfl ?_ | refine And.intro (fun _ => ?_) (fun h => Bool.noConfusion h) | refine And.intro (fun h => Bool.noConfusion h) (fun _ => ?_))
    refine ⟨.a (.c (.p 1 0 0)), _, ⟨[0, 2, 1], ⟨rfl, rfl, rfl⟩, ?_⟩, ⟨false, c', 0, c', l⟩, ⟨false, 0, l.length, c', 0⟩, rfl, ⟨⟨by dsimp only; omega, hc', fun h => Bool.noConfusion h, hsm⟩, rfl, rfl, fun i hi => by simp; omega, by simp, hc', fun h => Bool.noConfusion h, fun _ => rfl, rfl, fun h => absurd rfl h⟩, rfl, rfl⟩
    (repeat first | exact trivial | refine ent1 ?_)
    refine eqC_bts ?_
    (repeat first | exact trivial | refine ent1 ?_)
    exact ⟨fun j hj => eqC_win0 (fun i hi => new_row hg i hi) j, trivial⟩
set_option maxRecDepth 20000 in
theorem fn_rcount (A : Sl) (s : RS) (most : Nat) {l : Bs} {e : Int} (hr : RdI A s l e) (hm : most ≤ 1000000) : FnR Tryz.prog tds 47 1 [svB A, rdC s] [.c (.p 1 0 0), .c (.int .i64 (most : Nat))] (fun _ => True)
    (fun y hs => ∃ n s' l' e', countM l e most = (n, l', e') ∧ RdI A s' l' e' ∧ y = .a (.c (.int .i64 (n : Nat))) ∧ hs = [svB A, rdC s']) := by
  refine fn_of_body tds_ok follows_ Tryz.func47 rfl (t := .a (.c (.p 1 0 0)) :: .a (.c (.int .i64 (most : Nat))) :: anys (Tryz.f47.ntmps - 2)) rfl (fun w r0 hr0 _ => ?_)
  obtain ⟨x0, x1, rfl⟩ := len2' hr0
  (repeat first | refine And.intro (by omega) ?_ | refine And.intro (by decide) ?_ | (with_reducible refine frc_parts (by first | omega | decide) ?_) | (with_reducible refine frc_bytesL (by first | omega | decide) ?_) | refine And.intro rfl ?_)
  refine call_same (fn_rnext A s hr) [0, 1] rfl (by (repeat first | exact trivial | refine ent1 ?_)) ?_ (fun _ _ => trivial) ?_
  · refine eqC_bts ?_
    (repeat first | exact trivial | refine ent1 ?_)
  rintro x hs ⟨n, k, b, s', l', e', hx, hr', rfl, rfl⟩
  have he := nextM_e hx
  cases b with
  | false =>
    (repeat first | refine And.intro (by omega) ?_ | refine And.intro (by decide) ?_ | refine And.intro rfl ?_ | refine And.intro (fun _ => ?_) (fun h => Bool.noConfusion h) | refine And.intro (fun h => Bool.noConfusion h) (fun _ => ?_))
    refine ⟨.a (.c (.int .i64 (0 : Nat))), _, ⟨[0, 1], ⟨rfl, rfl, rfl⟩, ?_⟩, 0, s', l', e', by unfold countM; rw [hx]; rfl, hr', rfl, rfl⟩
    (repeat first | exact trivial | refine ent1 ?_)
    refine eqC_bts ?_
    (repeat first | exact trivial | refine ent1 ?_)
  | true =>
  have ew : (BitVec.ofInt 64 (if (most : Int) < 0 then 0 else (most : Int))).toNat = most := by
    rw [if_neg (by omega), BitVec.ofInt_natCast, BitVec.toNat_ofNat, Nat.mod_eq_of_lt (by omega)]
  by_cases h1 : most < n.toNat
  · have e1 : decide (BitVec.ofInt 64 (if (most : Int) < 0 then 0 else (most : Int)) < n) = true := decide_eq_true (by rw [BitVec.lt_def, ew]; exact h1)
    (repeat first | refine And.intro (by omega) ?_ | refine And.intro (by decide) ?_ | refine And.intro rfl ?_ | refine And.intro (fun _ => ?_) (fun h => Bool.noConfusion h) | refine And.intro (fun h => Bool.noConfusion h) (fun _ => ?_) | refine And.intro (fun _ => ?_) (fun h => absurd h (by rw [e1]; decide)) | refine And.intro (fun h => absurd h (by rw [e1]; decide)) (fun _ => ?_))
    refine call_same (fn_rfail A s' 2 hr') [0, 1] rfl (by (repeat first | exact trivial | refine ent1 ?_)) ?_ (fun _ _ => trivial) ?_
    · refine eqC_bts ?_
      (repeat first | exact trivial | refine ent1 ?_)
    rintro x hs ⟨s2, l2, e2, hf, hr2, rfl, rfl⟩
    refine ⟨.a (.c (.int .i64 (0 : Nat))), _, ⟨[0, 1], ⟨rfl, rfl, rfl⟩, ?_⟩, 0, s2, l2, e2, ?_, hr2, rfl, rfl⟩
    · (repeat first | exact trivial | refine ent1 ?_)
      refine eqC_bts ?_
      (repeat first | exact trivial | refine ent1 ?_)
    · unfold failM at hf
      rw [if_neg (by have := he.1 rfl; omega)] at hf
      simp only [Prod.mk.injEq] at hf
      obtain ⟨rfl, rfl⟩ := hf
      unfold countM
      rw [hx]
      show (if true = false then _ else if most < n.toNat then _ else _) = _
      rw [if_neg (by decide), if_pos h1]
  · have e1 : decide (BitVec.ofInt 64 (if (most : Int) < 0 then 0 else (most : Int)) < n) = false := decide_eq_false (by rw [BitVec.lt_def, ew]; exact h1)
    (repeat first | refine And.intro (by omega) ?_ | refine And.intro (by decide) ?_ | refine And.intro rfl ?_ | refine And.intro (fun _ => ?_) (fun h => Bool.noConfusion h) | refine And.intro (fun h => Bool.noConfusion h) (fun _ => ?_) | refine And.intro (fun _ => ?_) (fun h => absurd h (by rw [e1]; decide)) | refine And.intro (fun h => absurd h (by rw [e1]; decide)) (fun _ => ?_))
    refine ⟨.a (.c (.int .i64 (n.toNat : Nat))), _, ⟨[0, 1], ⟨rfl, rfl, rfl⟩, ?_⟩, n.toNat, s', l', e', ?_, hr', rfl, rfl⟩
    · (repeat first | exact trivial | refine ent1 ?_)
      refine eqC_bts ?_
      (repeat first | exact trivial | refine ent1 ?_)
    · unfold countM
      rw [hx]
      show (if true = false then _ else if most < n.toNat then _ else _) = _
      rw [if_neg (by decide), if_neg h1]
set_option maxRecDepth 20000 in
theorem fn_rbyte (A : Sl) (s : RS) {l : Bs} {e : Int} (hr : RdI A s l e) : FnR Tryz.prog tds 73 1 [svB A, rdC s] [.c (.p 1 0 0)] (fun _ => True)
    (fun y hs => ∃ n s' l' e', byteM l e = (n, l', e') ∧ RdI A s' l' e' ∧ y = .a (.c (.w8 n)) ∧ hs = [svB A, rdC s']) := by
  refine fn_of_body tds_ok follows_ Tryz.func73 rfl (t := .a (.c (.p 1 0 0)) :: anys (Tryz.f73.ntmps - 1)) rfl (fun w r0 hr0 _ => ?_)
  obtain ⟨x0, x1, rfl⟩ := len2' hr0
  (repeat first | refine And.intro (by omega) ?_ | refine And.intro (by decide) ?_ | (with_reducible refine frc_parts (by first | omega | decide) ?_) | (with_reducible refine frc_bytesL (by first | omega | decide) ?_) | refine And.intro rfl ?_)
  refine call_same (fn_rbytes A s 1 hr) [0, 1] rfl (by (repeat first | exact trivial | refine ent1 ?_)) ?_ (fun _ _ => trivial) ?_
  · refine eqC_bts ?_
    (repeat first | exact trivial | refine ent1 ?_)
  rintro x hs ⟨t, s', l', e', hx, hr', ht, rfl, rfl⟩
  by_cases h1 : t.l.length = 0
  · have e1 : decide ((t.l.length : Int) = 0) = true := decide_eq_true (by omega)
    (repeat first | refine And.intro (by omega) ?_ | refine And.intro (by decide) ?_ | refine And.intro rfl ?_ | refine And.intro (fun _ => ?_) (fun h => Bool.noConfusion h) | refine And.intro (fun h => Bool.noConfusion h) (fun _ => ?_) | refine And.intro (fun _ => ?_) (fun h => absurd h (by rw [e1]; decide)) | refine And.intro (fun h => absurd h (by rw [e1]; decide)) (fun _ => ?_))
    refine ⟨.a (.c (.w8 0#8)), _, ⟨[0, 1], ⟨rfl, rfl, rfl⟩, ?_⟩, 0#8, s', l', e', ?_, hr', rfl, rfl⟩
    · (repeat first | exact trivial | refine ent1 ?_)
      refine eqC_bts ?_
      (repeat first | exact trivial | refine ent1 ?_)
    · unfold byteM
      rw [hx, List.eq_nil_of_length_eq_zero h1]
      rfl
  · have e1 : decide ((t.l.length : Int) = 0) = false := decide_eq_false (by omega)
    have hz : t.z = false := by
      cases e : t.z with
      | false => rfl
      | true => exact absurd (by rw [ht.nil e]; rfl) h1
    have hN := ht.fit
    rw [svB_row hz]
    (repeat first | refine And.intro (by omega) ?_ | refine And.intro (by decide) ?_ | refine And.intro rfl ?_ | refine And.intro (fun _ => ?_) (fun h => Bool.noConfusion h) | refine And.intro (fun h => Bool.noConfusion h) (fun _ => ?_) | refine And.intro (fun _ => ?_) (fun h => absurd h (by rw [e1]; decide)) | refine And.intro (fun h => absurd h (by rw [e1]; decide)) (fun _ => ?_))
    with_reducible refine frc_winM 0 rfl (show 0 < t.l.length by omega) ?_
    refine ⟨.a (.c (.w8 (L t.l 0))), _, ⟨[0, 1], ⟨rfl, rfl, rfl⟩, ?_⟩, L t.l 0, s', l', e', ?_, hr', rfl, rfl⟩
    · (repeat first | exact trivial | refine ent1 ?_)
      refine eqC_bts ?_
      (repeat first | exact trivial | refine ent1 ?_)
    · unfold byteM
      rw [hx]
set_option maxRecDepth 20000 in
theorem fn_rlong (A : Sl) (s : RS) (most : Nat) {l : Bs} {e : Int} (hr : RdI A s l e) (hm : most ≤ 1000000) : FnR Tryz.prog tds 46 1 [svB A, rdC s] [.c (.p 1 0 0), .c (.int .i64 (most : Nat))] (fun _ => True)
    (fun y hs => ∃ t s' l' e', longM l e most = (t.l, l', e') ∧ RdI A s' l' e' ∧ t.Ok ∧ y = .a (.c (svC 2 t)) ∧ hs = [svB A, rdC s', svB t]) := by
  refine fn_of_body tds_ok follows_ Tryz.func46 rfl (t := .a (.c (.p 1 0 0)) :: .a (.c (.int .i64 (most : Nat))) :: anys (Tryz.f46.ntmps - 2)) rfl (fun w r0 hr0 _ => ?_)
  obtain ⟨x0, x1, rfl⟩ := len2' hr0
  (repeat first | refine And.intro (by omega) ?_ | refine And.intro (by decide) ?_ | (with_reducible refine frc_parts (by first | omega | decide) ?_) | (with_reducible refine frc_bytesL (by first | omega | decide) ?_) | refine And.intro rfl ?_)
  refine call_same (fn_rcount A s most hr hm) [0, 1] rfl (by (repeat first | exact trivial | refine ent1 ?_)) ?_ (fun _ _ => trivial) ?_
  · refine eqC_bts ?_
    (repeat first | exact trivial | refine ent1 ?_)
  rintro x hs ⟨n, s', l', e', hx, hr', rfl, rfl⟩
  (repeat first | refine And.intro (by omega) ?_ | refine And.intro (by decide) ?_ | (with_reducible refine frc_parts (by first | omega | decide) ?_) | (with_reducible refine frc_bytesL (by first | omega | decide) ?_) | refine And.intro rfl ?_)
  refine call_same (fn_rbytes A s' (n : Nat) hr') [0, 1] rfl (by (repeat first | exact trivial | refine ent1 ?_)) ?_ (fun _ _ => trivial) ?_
  · refine eqC_bts ?_
    (repeat first | exact trivial | refine ent1 ?_)
  rintro x hs ⟨t, s2, l2, e2, hy, hr2, ht, rfl, rfl⟩
  refine ⟨.a (.c (svC 2 t)), _, ⟨[0, 1, 2], ⟨rfl, rfl, rfl⟩, ?_⟩, t, s2, l2, e2, by unfold longM; rw [hx]; exact hy, hr2, ht, rfl, rfl⟩
  (repeat first | exact trivial | refine ent1 ?_)
  refine eqC_bts ?_
  (repeat first | exact trivial | refine ent1 ?_)
  refine eqC_btsM ?_
  (repeat first | exact trivial | refine ent1 ?_)
end Sx
end Go.Proofs.YtkjdkeolkigibaaGreat
end

section
/-
  Calls of functions that may hand back fewer blocks than is said: what is not there is dead. Over any program. No condition of its own.
-/
namespace Go.Proofs.YtkjdkeolkigibaaGreat
set_option linter.unusedVariables false
namespace Sx
open Go.RowKit

/-- hs' is hs with dead blocks behind it. -/
def PadTo (hs hs' : List (List Seg)) : Prop := ∃ p, hs' = hs ++ List.replicate p []
theorem PadTo.refl (hs : List (List Seg)) : PadTo hs hs := ⟨0, by simp⟩
section
variable {C : Cx}
theorem HeapOk.dup {h : List (List Seg)} {r : Rho} {w : World} (ok : HeapOk C h r w) {j B f : Nat} (hj : C.ro ≤ j) (hr : r[j]? = some (B, f)) : HeapOk C (h ++ [[]]) (r ++ [(B, f)]) w := by
  have hlen := ok.len
  have hrl := ok.rlen
  have hrl2 := ok.rol
  have hr2 : ∀ (i B' f' : Nat), (r ++ [(B, f)])[i]? = some (B', f') → (i < h.length ∧ r[i]? = some (B', f')) ∨ (i = h.length ∧ B' = B ∧ f' = f) := by
    intro i B' f' e
    rcases Nat.lt_trichotomy i h.length with hi | hi | hi
    · rw [List.getElem?_append_left (by omega)] at e; exact .inl ⟨hi, e⟩
    · subst hi
      rw [← hlen] at e
      simp at e
      exact .inr ⟨rfl, e.1.symm, e.2.symm⟩
    · rw [List.getElem?_eq_none (by simp; omega)] at e; cases e
  have hh2 : ∀ (i : Nat) c, (h ++ [[]])[i]? = some c → (i < h.length ∧ h[i]? = some c) ∨ (i = h.length ∧ c = []) := by
    intro i c e
    rcases Nat.lt_trichotomy i h.length with hi | hi | hi
    · rw [List.getElem?_append_left hi] at e; exact .inl ⟨hi, e⟩
    · subst hi
      simp at e
      exact .inr ⟨rfl, e⟩
    · rw [List.getElem?_eq_none (by simp; omega)] at e; cases e
  refine ⟨ok.ext, ok.agree.trans (RLe.snoc _ _), ok.rol, by simp [hlen], fun i c B' f' hi hri => ?_, fun i B' f' ho hri => ?_, fun i B' f' ho hri => ?_, fun i B' f' ho hl hri => ?_, fun i c ho hl hi => ?_, fun i k B' f1 f2 c c' hik o1 o2 hi hk hri hrk => ?_⟩
  · rcases hh2 i c hi with ⟨h1, h2⟩ | ⟨h1, rfl⟩
    · rcases hr2 i B' f' hri with ⟨_, h4⟩ | ⟨h4, _⟩
      · exact (ok.chunks i c B' f' h2 h4).mono (RLe.snoc _ _)
      · omega
    · intro q y e; simp [flat] at e
  · rcases hr2 i B' f' hri with ⟨_, h4⟩ | ⟨_, rfl, rfl⟩
    · exact ok.lt i B' f' ho h4
    · exact ok.lt j B' f' hj hr
  · rcases hr2 i B' f' hri with ⟨_, h4⟩ | ⟨_, rfl, rfl⟩
    · exact ok.own i B' f' ho h4
    · exact ok.own j B' f' hj hr
  · rcases hr2 i B' f' hri with ⟨_, h4⟩ | ⟨h4, _, _⟩
    · exact ok.ros i B' f' ho hl h4
    · omega
  · rcases hh2 i c hi with ⟨h1, h2⟩ | ⟨h1, rfl⟩
    · exact ok.dead i c ho hl h2
    · rfl
  · rcases hh2 i c hi with ⟨h1, h2⟩ | ⟨h1, rfl⟩
    · rcases hh2 k c' hk with ⟨h3, h4⟩ | ⟨h3, rfl⟩
      · rcases hr2 i B' f1 hri with ⟨_, a1⟩ | ⟨a1, _, _⟩
        · rcases hr2 k B' f2 hrk with ⟨_, a2⟩ | ⟨a2, _, _⟩
          · exact ok.apart i k B' f1 f2 c c' hik o1 o2 h2 h4 a1 a2
          · omega
        · omega
      · exact .inr rfl
    · exact .inl rfl
theorem HeapOk.dups {h : List (List Seg)} {r : Rho} {w : World} (ok : HeapOk C h r w) {j B f : Nat} (hj : C.ro ≤ j) (hr : r[j]? = some (B, f)) : ∀ p, HeapOk C (h ++ List.replicate p []) (r ++ List.replicate p (B, f)) w
  | 0 => by simpa using ok
  | p + 1 => by
    have ih := HeapOk.dups ok hj hr p
    rw [List.replicate_succ', List.replicate_succ', ← List.append_assoc, ← List.append_assoc]
    refine ih.dup hj ?_
    have : j < r.length := by
      rcases Nat.lt_or_ge j r.length with h | h
      · exact h
      · rw [List.getElem?_eq_none h] at hr; cases hr
    rw [List.getElem?_append_left this]
    exact hr
theorem back_pad (g : Nat → Nat) (p : Nat) : ∀ (q : List Nat) (hs h : List (List Seg)), q.length ≤ hs.length → back g q (hs ++ List.replicate p []) h = back g q hs h ++ List.replicate p []
  | [], hs, h, _ => by simp [back, mpL]
  | i :: q, c :: hs, h, hl => by
    simp only [List.cons_append, back]
    exact back_pad g p q hs _ (by simpa using hl)
  | _ :: _, [], _, hl => by simp at hl
/-- A call; what the callee may leave out is dead. -/
theorem call_pad {qt : Keep} {f : FuncId} {args args0 : List SA} {t : List SV} {h : List (List Seg)} {k : SV → List (List Seg) → Prop} {n : Nat} {h0 : List (List Seg)} {raw : World → Prop} {Res : SV → List (List Seg) → Prop}
    (hfn : FnR C.P C.T f n h0 args0 raw fun x hs => ∃ hs', PadTo hs hs' ∧ Res x hs') (q : List Nat) (hq : (qOk C.ro n qt q h && Nat.blt C.ro h.length) = true)
    (hA : eqAs q args args0) (hE : entH q h q h0 True) (hraw : ∀ w, Ext C.m C.w0 w → raw w)
    (hk : ∀ x hs, Res x hs → lenK h 0 fun N => backK (bk N q) (q.drop n) (hs.drop n) h fun h' => k (x.mp (bk N q)) h') : CallVC C qt f #[] args #[] t h k := by
  simp only [Bool.and_eq_true] at hq
  obtain ⟨hq, hro⟩ := hq
  have hro : C.ro < h.length := by simpa using (Nat.blt_eq ▸ hro)
  intro r a w vs ok hv
  have hr0 : C.ro < r.length := by rw [ok.heap.len]; exact hro
  obtain ⟨⟨B0, f0⟩, hB⟩ : ∃ x, r[C.ro]? = some x := ⟨_, List.getElem?_eq_getElem hr0⟩
  -- the call itself, whatever it is that comes back
  have hcall := call_same (C := C) (qt := qt) (t := t) (k := fun x h' => ∃ v' hs, ∃ hs', PadTo hs hs' ∧ Res v' hs' ∧ (q.drop n).length ≤ (hs.drop n).length ∧ n ≤ hs.length ∧ x = v'.mp (bk h.length q) ∧ h' = back (bk h.length q) (q.drop n) (hs.drop n) h) (Res := fun x hs => (∃ hs', PadTo hs hs' ∧ Res x hs') ∧ q.length ≤ hs.length) (fun w' r0' vs' ok' ha' hraw' => (hfn w' r0' vs' ok' ha' hraw').mono (by
    rintro e w'' ⟨v, x, hs, r', rfl, hx, hok, hres⟩
    refine ⟨v, x, hs, r', rfl, hx, hok, hres, ?_⟩
    have h1 := hok.rlen
    have h2 := hok.len
    have h3 : r0'.length = h0.length := ok'.len
    have h4 : q.length = h0.length := (entH_spec (r := r) (fun i hi => by
      simp only [qOk, Bool.and_eq_true] at hq
      rw [ok.heap.len]
      exact allLt_spec hq.1.1.1.1.2 i hi) h hE).2.1
    have h1 : r0'.length ≤ r'.length := h1
    omega)) q hq hA hE hraw (by
    rintro x hs ⟨⟨hs', hp, hres⟩, hl⟩
    simp only [qOk, Bool.and_eq_true] at hq
    have hnq := ble_le hq.1.1.1.1.1.1
    rw [lenK_eq, Nat.zero_add, backK_eq]
    exact ⟨x, hs, hs', hp, hres, by simp only [List.length_drop]; omega, by omega, rfl, rfl⟩)
  refine (hcall r a w vs ok hv).mono ?_
  rintro e w' ⟨v, x, h', r', rfl, hx, hle, hok, hfr, v', hs, hs', ⟨p, rfl⟩, hres, hl1, hl2, rfl, rfl⟩
  have hB' : r'[C.ro]? = some (B0, f0) := hle _ _ hB
  have hk' := hk v' _ hres
  rw [lenK_eq, Nat.zero_add, backK_eq, List.drop_append_of_le_length hl2, back_pad _ _ _ _ _ hl1] at hk'
  have hle2 : RLe r' (r' ++ List.replicate p (B0, f0)) := fun i y e => by
    have : i < r'.length := by
      rcases Nat.lt_or_ge i r'.length with h | h
      · exact h
      · rw [List.getElem?_eq_none h] at e; cases e
    rw [List.getElem?_append_left this]; exact e
  refine ⟨v, _, _, _, rfl, hx.mono hle2, hle.trans hle2, hok.dups (Nat.le_refl _) hB' p, ⟨hfr.ext, fun i B f ho e => ?_, hfr.stand⟩, hk'⟩
  rcases Nat.lt_or_ge i r'.length with hi | hi
  · rw [List.getElem?_append_left hi] at e
    exact hfr.fresh i B f ho e
  · rw [List.getElem?_append_right hi, List.getElem?_replicate] at e
    split at e
    · injection e with e
      injection e with e1 e2
      subst e1; subst e2
      exact .inl (mem_drop.2 ⟨C.ro, f0, Nat.le_refl _, hB⟩)
    · cases e
end
end Sx
end Go.Proofs.YtkjdkeolkigibaaGreat
end

section
/-
  The library's slices.Clone, bytes.Equal, bytes.Clone. No condition.
-/
namespace Go.Proofs.YtkjdkeolkigibaaGreat
set_option linter.unusedVariables false
namespace Sx
open Sha Vi

theorem Sl.Ok.pos {s : Sl} (h : s.Ok) (h0 : 0 < s.l.length) : s.z = false := by
  cases e : s.z with
  | false => rfl
  | true => rw [h.nil e] at h0; simp at h0
theorem nil_ok : Sl.Ok ⟨true, 0, 0, 0, []⟩ := ⟨Nat.le_refl _, Nat.le_refl _, fun _ => rfl, Nat.zero_le _⟩
theorem own_ok {l : Bs} {c : Nat} (h : l.length ≤ c) (hs : l.length ≤ 1000000) : Sl.Ok ⟨false, c, 0, c, l⟩ := ⟨by simpa using h, h, fun h => Bool.noConfusion h, hs⟩
set_option maxRecDepth 20000 in
theorem fn_clone (s : Sl) (hs : s.Ok) : FnR Tryz.prog tds 25 1 [svB s] [.c (svC 0 s)] (fun _ => True)
    (fun y hs => ∃ hs', PadTo hs hs' ∧ ∃ t : Sl, t.Ok ∧ t.l = s.l ∧ y = .a (.c (svC 1 t)) ∧ hs' = [svB s, svB t]) := by
  refine fn_of_body tds_ok follows_ Tryz.func25 rfl (t := .a (.c (svC 0 s)) :: anys (Tryz.f25.ntmps - 1)) rfl (fun w r0 hr _ => ?_)
  obtain ⟨x0, rfl⟩ := List.length_eq_one_iff.1 hr
  have hsm := hs.small
  cases hz : s.z with
  | true =>
    have hl := hs.nil hz
    (repeat first | refine And.intro (by omega) ?_ | refine And.intro (by decide) ?_ | refine And.intro rfl ?_ | refine And.intro (fun _ => ?_) (fun h => Bool.noConfusion h) | refine And.intro (fun h => Bool.noConfusion h) (fun _ => ?_) | refine And.intro (fun _ => ?_) (fun h => absurd h (by rw [hz]; decide)) | refine And.intro (fun h => absurd h (by rw [hz]; decide)) (fun _ => ?_))
    refine ⟨.a (.c (svC 1 ⟨true, 0, 0, 0, []⟩)), [svB s], ⟨[0], ⟨rfl, rfl, rfl⟩, ?_⟩, [svB s, []], ⟨1, rfl⟩, ⟨true, 0, 0, 0, []⟩, nil_ok, hl.symm, rfl, rfl⟩
    (repeat first | exact trivial | refine ent1 ?_)
    refine eqC_bts ?_
    (repeat first | exact trivial | refine ent1 ?_)
  | false =>
    (repeat first | refine And.intro (by omega) ?_ | refine And.intro (by decide) ?_ | refine And.intro rfl ?_ | refine And.intro (fun _ => ?_) (fun h => Bool.noConfusion h) | refine And.intro (fun h => Bool.noConfusion h) (fun _ => ?_) | refine And.intro (fun _ => ?_) (fun h => absurd h (by rw [hz]; decide)) | refine And.intro (fun h => absurd h (by rw [hz]; decide)) (fun _ => ?_))
    refine sn_bts rfl hs.fit (fun h => by rw [hs.nil h]; rfl) (fun g hg => ?_)
    refine ⟨⟨Nat.le_refl _, Nat.le_refl _, by show (0 + s.l.length) * 1 ≤ 140737488355328; omega⟩, fun c' hc' => ?_⟩
    refine ⟨.a (.c (svC 1 ⟨false, c', 0, c', s.l⟩)), [svB s, svB ⟨false, c', 0, c', s.l⟩], ⟨[0, 2], ⟨rfl, rfl, rfl⟩, ?_⟩, _, PadTo.refl _, ⟨false, c', 0, c', s.l⟩, own_ok (by omega) hsm, rfl, rfl, rfl⟩
    (repeat first | exact trivial | refine ent1 ?_)
    refine ⟨Nat.zero_add _, rfl, ?_⟩
    refine eqC_bts ?_
    (repeat first | exact trivial | refine ent1 ?_)
    refine ⟨fun j hj => eqC_win0 (fun i hi => ?_) j, trivial⟩
    have := app_row (l := []) (m := s.l) (f := nthC []) rfl rfl (fun i hi => absurd hi (by simp)) hg i (by simpa using hi)
    exact this
theorem U8_dec (a b : Bs) : decide (U8 a = U8 b) = decide (a = b) := by
  by_cases h : a = b
  · rw [h]; simp
  · rw [decide_eq_false h, decide_eq_false fun e => h (U8_inj e)]
set_option maxRecDepth 20000 in
theorem fn_equal (s t : Sl) (hs : s.Ok) (ht : t.Ok) : FnR Tryz.prog tds 36 2 [svB s, svB t] [.c (svC 0 s), .c (svC 1 t)] (fun _ => True)
    (fun y hs => y = .a (.c (.bool (decide (s.l = t.l)))) ∧ hs = [svB s, svB t]) := by
  refine fn_of_body tds_ok follows_ Tryz.func36 rfl (t := .a (.c (svC 0 s)) :: .a (.c (svC 1 t)) :: anys (Tryz.f36.ntmps - 2)) rfl (fun w r0 hr _ => ?_)
  obtain ⟨x0, x1, rfl⟩ := len2' hr
  refine sn_bts rfl hs.fit (fun h => by rw [hs.nil h]; rfl) (fun g hg => ?_)
  refine ⟨U8 s.l, str_of rfl hg, ?_⟩
  refine sn_bts rfl ht.fit (fun h => by rw [ht.nil h]; rfl) (fun g2 hg2 => ?_)
  refine ⟨U8 t.l, str_of rfl hg2, ?_⟩
  refine ⟨.a (.c (.bool (decide (s.l = t.l)))), _, ⟨[0, 1], ⟨rfl, rfl, rfl⟩, ?_⟩, rfl, rfl⟩
  refine ⟨U8_dec _ _, ?_⟩
  refine eqC_bts (eqC_bts ?_)
  (repeat first | exact trivial | refine ent1 ?_)
end Sx
end Go.Proofs.YtkjdkeolkigibaaGreat
end

section
/-
  Headers taken: ids, long ones. No condition.
-/
namespace Go.Proofs.YtkjdkeolkigibaaGreat
set_option linter.unusedVariables false
namespace Vi
open Sha
/-- An id, its length ahead. -/
def idM (l : Bs) (e : Int) : Bs × Bs × Int := match byteM l e with
  | (many, l1, e1) => match (if 20 < many.toNat then failM l1 e1 6 else (l1, e1)) with
    | (l2, e2) => bytesM l2 e2 (many.toNat : Int)
/-- The end of a long header: how many bytes there are behind, what is left. -/
def lenM (l : Bs) (e : Int) : Nat × Bs × Int := match countM l e 1204 with
  | (n, l1, e1) => match (if l1.length < n then failM l1 e1 3 else (l1, e1)) with
    | (l2, e2) => (n, l2, e2)
/-- What is taken behind the first five bytes: to whom, from whom, the token, how many bytes there are behind, what is left. -/
def partsM (sp : BitVec 8) (l : Bs) (e : Int) : (Bs × Bs × Bs × Nat) × Bs × Int := match idM l e with
  | (t, l1, e1) => match idM l1 e1 with
    | (f, l2, e2) => match (if sp = 0#8 then longM l2 e2 64 else ([], l2, e2)) with
      | (k, l3, e3) => match lenM l3 e3 with
        | (n, l4, e4) => ((t, f, k, n), l4, e4)
end Vi
namespace Sx
open Sha Vi

set_option maxRecDepth 20000 in
theorem fn_takeId (A : Sl) (s : RS) {l : Bs} {e : Int} (hr : RdI A s l e) : FnR Tryz.prog tds 45 1 [svB A, rdC s] [.c (.p 1 0 0)] (fun _ => True)
    (fun y hs => ∃ t s' l' e', idM l e = (t.l, l', e') ∧ RdI A s' l' e' ∧ t.Ok ∧ y = .a (.c (svC 2 t)) ∧ hs = [svB A, rdC s', svB t]) := by
  refine fn_of_body tds_ok follows_ Tryz.func45 rfl (t := .a (.c (.p 1 0 0)) :: anys (Tryz.f45.ntmps - 1)) rfl (fun w r0 hr0 _ => ?_)
  obtain ⟨x0, x1, rfl⟩ := len2' hr0
  (repeat first | refine And.intro (by omega) ?_ | refine And.intro (by decide) ?_ | (with_reducible refine frc_parts (by first | omega | decide) ?_) | (with_reducible refine frc_bytesL (by first | omega | decide) ?_) | refine And.intro rfl ?_)
  refine call_same (fn_rbyte A s hr) [0, 1] rfl (by (repeat first | exact trivial | refine ent1 ?_)) ?_ (fun _ _ => trivial) ?_
  · refine eqC_bts ?_
    (repeat first | exact trivial | refine ent1 ?_)
  rintro x hs ⟨n, s1, l1, e1, hx, hr1, rfl, rfl⟩
  by_cases h1 : 20 < n.toNat
  · have e1' : decide ((20 : Int) < (n.toNat : Int)) = true := decide_eq_true (by omega)
    (repeat first | refine And.intro (by omega) ?_ | refine And.intro (by decide) ?_ | refine And.intro rfl ?_ | refine And.intro (fun _ => ?_) (fun h => Bool.noConfusion h) | refine And.intro (fun h => Bool.noConfusion h) (fun _ => ?_) | refine And.intro (fun _ => ?_) (fun h => absurd h (by rw [e1']; decide)) | refine And.intro (fun h => absurd h (by rw [e1']; decide)) (fun _ => ?_))
    refine call_same (fn_rfail A s1 6 hr1) [0, 1] rfl (by (repeat first | exact trivial | refine ent1 ?_)) ?_ (fun _ _ => trivial) ?_
    · refine eqC_bts ?_
      (repeat first | exact trivial | refine ent1 ?_)
    rintro x hs ⟨s2, l2, e2, hy, hr2, rfl, rfl⟩
    (repeat first | refine And.intro (by omega) ?_ | refine And.intro (by decide) ?_ | (with_reducible refine frc_parts (by first | omega | decide) ?_) | (with_reducible refine frc_bytesL (by first | omega | decide) ?_) | refine And.intro rfl ?_)
    refine call_same (fn_rbytes A s2 (n.toNat : Nat) hr2) [0, 1] rfl (by (repeat first | exact trivial | refine ent1 ?_)) ?_ (fun _ _ => trivial) ?_
    · refine eqC_bts ?_
      (repeat first | exact trivial | refine ent1 ?_)
    rintro x hs ⟨t, s3, l3, e3, hz, hr3, ht, rfl, rfl⟩
    refine ⟨.a (.c (svC 2 t)), _, ⟨[0, 1, 2], ⟨rfl, rfl, rfl⟩, ?_⟩, t, s3, l3, e3, ?_, hr3, ht, rfl, rfl⟩
    · (repeat first | exact trivial | refine ent1 ?_)
      refine eqC_bts ?_
      (repeat first | exact trivial | refine ent1 ?_)
      refine eqC_btsM ?_
      (repeat first | exact trivial | refine ent1 ?_)
    · unfold idM
      rw [hx]
      show (match (if 20 < n.toNat then failM l1 e1 6 else (l1, e1)) with | (l2, e2) => bytesM l2 e2 (n.toNat : Int)) = _
      rw [if_pos h1, hy]
      exact hz
  · have e1' : decide ((20 : Int) < (n.toNat : Int)) = false := decide_eq_false (by omega)
    (repeat first | refine And.intro (by omega) ?_ | refine And.intro (by decide) ?_ | refine And.intro rfl ?_ | refine And.intro (fun _ => ?_) (fun h => Bool.noConfusion h) | refine And.intro (fun h => Bool.noConfusion h) (fun _ => ?_) | refine And.intro (fun _ => ?_) (fun h => absurd h (by rw [e1']; decide)) | refine And.intro (fun h => absurd h (by rw [e1']; decide)) (fun _ => ?_))
    refine call_same (fn_rbytes A s1 (n.toNat : Nat) hr1) [0, 1] rfl (by (repeat first | exact trivial | refine ent1 ?_)) ?_ (fun _ _ => trivial) ?_
    · refine eqC_bts ?_
      (repeat first | exact trivial | refine ent1 ?_)
    rintro x hs ⟨t, s3, l3, e3, hz, hr3, ht, rfl, rfl⟩
    refine ⟨.a (.c (svC 2 t)), _, ⟨[0, 1, 2], ⟨rfl, rfl, rfl⟩, ?_⟩, t, s3, l3, e3, ?_, hr3, ht, rfl, rfl⟩
    · (repeat first | exact trivial | refine ent1 ?_)
      refine eqC_bts ?_
      (repeat first | exact trivial | refine ent1 ?_)
      refine eqC_btsM ?_
      (repeat first | exact trivial | refine ent1 ?_)
    · unfold idM
      rw [hx]
      show (match (if 20 < n.toNat then failM l1 e1 6 else (l1, e1)) with | (l2, e2) => bytesM l2 e2 (n.toNat : Int)) = _
      rw [if_neg h1]
      exact hz
end Sx
end Go.Proofs.YtkjdkeolkigibaaGreat
end
