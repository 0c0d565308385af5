/-
  Texts of this claim, part 4: Sxq, Tds, Once, Once2, Sxr, AesM, AesA, ShaM, ShaA, ShaN, ShaB, ShaC, ShaP, AesR, AesR2, ShaD. No condition of its own.
-/
import Derived.Tactics
import Derived.Tactics2
import Derived.Defers
import Derived.Laws.Pointers
import Derived.Laws.LoneSync
import Derived.RegionTactic
import Derived.RegionCalls
import Derived.ChangeAlike
import Derived.Test.YtndlhhhebijknaaG3
section
/-
  Functions by their bodies; calls by what the callee keeps to. Over any program. No condition of its own.
-/
namespace Go.Proofs.Ytndlhhhebijknaa
set_option linter.unusedVariables false
namespace Sx
open Go.RowKit

section
variable {C : Cx}
/-- A value and the blocks behind it, said in other words. -/
def Fin (C : Cx) (v : SV) (h : List (List Seg)) (x : SV) (hs : List (List Seg)) : Prop := ∃ q, Ent C q ⟨[v], h⟩ ⟨[x], hs⟩
theorem Fin.ok {v x : SV} {h hs : List (List Seg)} (f : Fin C v h x hs) {r : Rho} {w : World} {u : Value} (hu : v.Is r u) (ok : HeapOk C h r w) : ∃ r', x.Is r' u ∧ HeapOk C hs r' w := by
  obtain ⟨q, e⟩ := f
  have ok1 : Ok C ⟨[v], h⟩ r { tmps := #[u], defers := [] } w := ⟨ok, rfl, fun d y e => by
    cases d with
    | zero => simp at e; subst e; exact hu
    | succ d => simp at e, rfl⟩
  obtain ⟨r', ok2⟩ := e.ok ok1
  exact ⟨r', ok2.slots 0 x rfl, ok2.heap⟩
end
/-- What stands fast for a function that is handed the blocks h0, of which it may not turn the first n. -/
abbrev cx0 (P : Program) (T : List (Nat × TD)) (w : World) (r0 : Rho) (n : Nat) (h0 : List (List Seg)) : Cx := ⟨P, T, w, (r0.drop n).map (·.1), r0, n, fun i => flat (getH h0 i) ≠ []⟩
/-- What a function keeps to: the blocks h0 that it is handed (the first n are only read), its arguments, what the world must bear; what it returns and leaves. -/
def FnR (P : Program) (T : List (Nat × TD)) (f : FuncId) (n : Nat) (h0 : List (List Seg)) (args : List SA) (raw : World → Prop) (Res : SV → List (List Seg) → Prop) : Prop :=
  ∀ (w : World) (r0 : Rho) (vs : List Value), HeapOk (cx0 P T w r0 n h0) h0 r0 w → IsAs r0 args vs → raw w → Calls P f vs.toArray w fun e w' =>
    ∃ v x hs r', e = .returned v ∧ SV.Is r' x v ∧ HeapOk (cx0 P T w r0 n h0) hs r' w' ∧ Res x hs
abbrev Fn (P : Program) (T : List (Nat × TD)) (f : FuncId) (h0 : List (List Seg)) (args : List SA) (raw : World → Prop) (Res : SV → List (List Seg) → Prop) : Prop := FnR P T f 0 h0 args raw Res
def anys : Nat → List SV
  | 0 => []
  | n + 1 => .any :: anys n
theorem anys_len : ∀ n, (anys n).length = n
  | 0 => rfl
  | n + 1 => by simp [anys, anys_len n]
theorem anys_get : ∀ (n d : Nat) (x : SV), (anys n)[d]? = some x → x = .any
  | 0, _, _, e => by simp [anys] at e
  | n + 1, 0, _, e => by simp [anys] at e; exact e.symm
  | n + 1, d + 1, x, e => anys_get n d x (by simpa [anys] using e)
theorem fn_of_body {P : Program} {T : List (Nat × TD)} (hT : AllT P T) (hm : P.follows .mixedOrders = true) {f : FuncId} {fn : Func} {c : Code} (hf : P.funcs[f]? = some fn) (hb : fn.body = some c) {n : Nat} {h0 : List (List Seg)} {args : List SA} {raw : World → Prop} {Res : SV → List (List Seg) → Prop}
    {t : List SV} (ht : t = args.map SV.a ++ anys (fn.ntmps - args.length))
    (h : ∀ (w : World) (r0 : Rho), r0.length = h0.length → raw w → Body (cx0 P T w r0 n h0) fn c ⟨t, h0⟩ fun v h' => ∃ x hs, Fin (cx0 P T w r0 n h0) v h' x hs ∧ Res x hs) : FnR P T f n h0 args raw Res := by
  intro w r0 vs ok ha hraw
  subst ht
  have hlen : vs.toArray.size = args.length := by rw [ha.1]; simp
  refine calls_of_body (C := cx0 P T w r0 n h0) hT hm hf hb (s := ⟨args.map SV.a ++ anys (fn.ntmps - args.length), h0⟩) (r := r0) ⟨ok, ?_, fun d x e => ?_, rfl⟩ (h w r0 ok.len hraw) ?_
  · simp [anys_len, ha.1]
  · by_cases hd : d < args.length
    · rw [List.getElem?_append_left (by simpa using hd), List.getElem?_map] at e
      obtain ⟨y, hy, rfl⟩ := Option.map_eq_some_iff.1 e
      obtain ⟨u, hu, hi⟩ := ha.2 d y hy
      have : (vs.toArray ++ Array.replicate (fn.ntmps - vs.toArray.size) undef).getD d undef = u := by
        rw [Array.getD_eq_getD_getElem?, Array.getElem?_append_left (by rw [hlen]; exact hd)]
        simp [hu]
      rw [this]
      exact hi
    · rw [List.getElem?_append_right (by simpa using Nat.le_of_not_lt hd)] at e
      rw [anys_get _ _ _ e]
      trivial
  · rintro v y h' r' w' ⟨x, hs, hf, hr⟩ hy hok
    obtain ⟨r'', hx, hok'⟩ := hf.ok hy hok
    exact ⟨v, x, hs, r'', rfl, hx, hok', hr⟩

/-! Back at the caller's. -/
def bk (N : Nat) : List Nat → Nat → Nat
  | [], j => N + j
  | x :: _, 0 => x
  | _ :: q, j + 1 => bk N q j
def SC.mp (g : Nat → Nat) : SC → SC
  | .p i b o => .p (g i) b o
  | .sl i b o n c => .sl (g i) b o n c
  | .clo f i b o => .clo f (g i) b o
  | .sn z i b o n c => .sn z (g i) b o n c
  | x => x
def Seg.mp (g : Nat → Nat) : Seg → Seg
  | .one x => .one (x.mp g)
  | .row n f => .row n (fun j => (f j).mp g)
def mpL (g : Nat → Nat) : List Seg → List Seg
  | [] => []
  | x :: r => x.mp g :: mpL g r
def SA.mp (g : Nat → Nat) : SA → SA
  | .c x => .c (x.mp g)
  | .agg l => .agg (mpL g l)
def SV.mp (g : Nat → Nat) : SV → SV
  | .any => .any
  | .a x => .a (x.mp g)
  | .tup l => .tup (l.map (SA.mp g))
theorem flat_mp (g : Nat → Nat) : ∀ l : List Seg, flat (mpL g l) = (flat l).map (SC.mp g)
  | [] => rfl
  | .one x :: r => by simp [mpL, Seg.mp, flat, flat_mp g r]
  | .row n f :: r => by simp [mpL, Seg.mp, flat, flat_mp g r, Function.comp_def]
section
variable {g : Nat → Nat} {r' R : Rho}
theorem SC.Is.mp (hg : ∀ (i : Nat) (x : Nat × Nat), r'[i]? = some x → R[g i]? = some x) {x : SC} {v : Value} (h : x.Is r' v) : (x.mp g).Is R v := by
  cases x <;> first
    | exact h
    | (obtain ⟨B, f, e, rfl⟩ := h; exact ⟨B, f, hg _ _ e, rfl⟩)
    | (rcases h with ⟨h1, h2⟩ | ⟨h1, B, f, e, h2⟩; exact .inl ⟨h1, h2⟩; exact .inr ⟨h1, B, f, hg _ _ e, h2⟩)
theorem SA.Is.mp (hg : ∀ (i : Nat) (x : Nat × Nat), r'[i]? = some x → R[g i]? = some x) {x : SA} {v : Value} (h : x.Is r' v) : (x.mp g).Is R v := by
  cases x with
  | c x => exact SC.Is.mp hg (x := x) h
  | agg l =>
    obtain ⟨vs, e, h1, h2⟩ := h
    refine ⟨vs, e, by rw [flat_mp]; simpa using h1, fun j y e' => ?_⟩
    rw [flat_mp, List.getElem?_map, Option.map_eq_some_iff] at e'
    obtain ⟨z, hz, rfl⟩ := e'
    obtain ⟨u, e1, e2⟩ := h2 j z hz
    exact ⟨u, e1, e2.mp hg⟩
theorem SV.Is.mp (hg : ∀ (i : Nat) (x : Nat × Nat), r'[i]? = some x → R[g i]? = some x) {x : SV} {v : Value} (h : x.Is r' v) : (x.mp g).Is R v := by
  cases x with
  | any => trivial
  | a x => exact SA.Is.mp hg (x := x) h
  | tup l =>
    obtain ⟨vs, e, h1, h2⟩ := h
    refine ⟨vs, e, by simpa using h1, fun j y e' => ?_⟩
    rw [List.getElem?_map, Option.map_eq_some_iff] at e'
    obtain ⟨z, hz, rfl⟩ := e'
    obtain ⟨u, e1, e2⟩ := h2 j z hz
    exact ⟨u, e1, e2.mp hg⟩
theorem At.mp (hg : ∀ (i : Nat) (x : Nat × Nat), r'[i]? = some x → R[g i]? = some x) {w : World} {B off : Nat} {l : List Seg} {z : Bool} (h : At z r' w B off (flat l)) : At z R w B off (flat (mpL g l)) := by
  intro j y e
  rw [flat_mp, List.getElem?_map, Option.map_eq_some_iff] at e
  obtain ⟨z, hz, rfl⟩ := e
  obtain ⟨v, e1, e2, e3⟩ := h j z hz
  exact ⟨v, e1, e2.mp hg, e3⟩
end
/-- The caller's blocks behind the call. -/
def back (g : Nat → Nat) : List Nat → List (List Seg) → List (List Seg) → List (List Seg)
  | [], hs, h => h ++ hs.map (mpL g)
  | i :: q, c :: hs, h => back g q hs (h.set i (mpL g c))
  | _ :: _, [], h => h
theorem mpL_nil {g : Nat → Nat} {l : List Seg} (h : mpL g l = []) : l = [] := by cases l <;> first | rfl | cases h
theorem back_get (g : Nat → Nat) : ∀ (q : List Nat) (hs h : List (List Seg)), q.Nodup → (∀ i ∈ q, i < h.length) → q.length ≤ hs.length →
    (back g q hs h).length = h.length + (hs.length - q.length) ∧
    (∀ (k i : Nat), q[k]? = some i → (back g q hs h)[i]? = (hs[k]?).map (mpL g)) ∧
    (∀ (j : Nat), j < h.length → j ∉ q → (back g q hs h)[j]? = h[j]?) ∧
    (∀ (j : Nat), (back g q hs h)[h.length + j]? = (hs[q.length + j]?).map (mpL g))
  | [], hs, h, _, _, _ => ⟨by simp [back], fun k i e => by simp at e, fun j hj _ => by simp [back, List.getElem?_append_left hj], fun j => by simp only [back]; rw [List.getElem?_append_right (by omega), List.getElem?_map]; simp⟩
  | i :: q, c :: hs, h, hn, hq, hl => by
    obtain ⟨h1, h2⟩ := List.nodup_cons.1 hn
    obtain ⟨b1, b2, b3, b4⟩ := back_get g q hs (h.set i (mpL g c)) h2 (fun j hj => by simpa using hq j (by simp [hj])) (by simpa using hl)
    simp only [List.length_set] at b1 b3 b4
    refine ⟨by simp only [back, b1, List.length_cons]; omega, fun k j e => ?_, fun j hj hnj => ?_, fun j => ?_⟩
    · cases k with
      | zero =>
        simp at e
        subst e
        simp only [back, List.getElem?_cons_zero, Option.map_some]
        rw [b3 i (hq i (by simp)) h1]
        simp [hq i (by simp)]
      | succ k => simpa [back] using b2 k j (by simpa using e)
    · simp only [List.mem_cons, not_or] at hnj
      simp only [back]
      rw [b3 j hj hnj.2, List.getElem?_set_ne (Ne.symm hnj.1)]
    · simp only [back, b4, List.length_cons]
      congr 1
      rw [show q.length + 1 + j = (q.length + j) + 1 by omega]; rfl
  | _ :: _, [], _, _, _, hl => by simp at hl
theorem bk_get (N : Nat) : ∀ (q : List Nat) (k : Nat), (∀ i, q[k]? = some i → bk N q k = i) ∧ (q.length ≤ k → bk N q k = N + (k - q.length))
  | [], k => ⟨fun i e => by simp at e, fun _ => by simp [bk]⟩
  | x :: q, 0 => ⟨fun i e => by simp at e; simp [bk, e], fun h => by simp at h⟩
  | x :: q, k + 1 => ⟨fun i e => by simpa [bk] using (bk_get N q k).1 i (by simpa using e), fun h => by simp only [bk]; rw [(bk_get N q k).2 (by simpa using h)]; simp⟩
theorem HeapOk.back {C : Cx} {h hs : List (List Seg)} {r r' : Rho} {w w' : World} (ok : HeapOk C h r w) {q : List Nat} {n : Nat} (hnq : n ≤ q.length) (hn : (q.drop n).Nodup) (hq : ∀ i ∈ q, i < h.length) (hne : ∀ i ∈ q.drop n, getH h i ≠ []) (hwr : ∀ i ∈ q.drop n, C.ro ≤ i) {lv : Nat → Prop}
    (ok' : HeapOk ⟨C.P, C.T, w, ((rn q r).drop n).map (·.1), rn q r, n, lv⟩ hs r' w') :
    let R := r ++ r'.drop q.length
    let g := bk h.length q
    HeapOk C (Sx.back g (q.drop n) (hs.drop n) h) R w' ∧ RLe r R ∧ (∀ (i : Nat) (x : Nat × Nat), r'[i]? = some x → R[g i]? = some x) ∧ (q.drop n = [] → Ext [] w w') := by
  intro R g
  have hlen : r.length = h.length := ok.len
  have hlen' : r'.length = hs.length := ok'.len
  have hqr : ∀ i ∈ q, i < r.length := fun i hi => by rw [hlen]; exact hq i hi
  have hqs : ∀ i ∈ q.drop n, i ∈ q := fun i hi => List.mem_of_mem_drop hi
  have hpre : ∀ (k j : Nat), q[k]? = some j → r'[k]? = r[j]? := fun k j e => by
    have hj := hqr j (List.mem_of_getElem? e)
    have e1 := rn_get hqr e
    rw [List.getElem?_eq_getElem hj] at e1 ⊢
    exact ok'.agree k _ e1
  have hql : q.length ≤ r'.length := by
    rcases Nat.lt_or_ge r'.length q.length with hlt | h
    · have e1 := hpre r'.length q[r'.length] (List.getElem?_eq_getElem hlt)
      rw [List.getElem?_eq_none (Nat.le_refl _), List.getElem?_eq_getElem (hqr _ (List.getElem_mem _))] at e1
      cases e1
    · exact h
  obtain ⟨b1, b2, b3, b4⟩ := back_get g (q.drop n) (hs.drop n) h hn (fun i hi => hq i (hqs i hi)) (by simp only [List.length_drop]; omega)
  have hR1 : ∀ j, j < r.length → R[j]? = r[j]? := fun j hj => List.getElem?_append_left hj
  have hR2 : ∀ j, R[r.length + j]? = r'[q.length + j]? := fun j => by
    rw [List.getElem?_append_right (by omega), List.getElem?_drop]; congr 1; omega
  have hg : ∀ (i : Nat) (x : Nat × Nat), r'[i]? = some x → R[g i]? = some x := by
    intro i x e
    by_cases hi : i < q.length
    · have e1 := List.getElem?_eq_getElem hi
      rw [show g i = q[i] from (bk_get h.length q i).1 _ e1, hR1 _ (hqr _ (List.getElem_mem _)), ← hpre i _ e1]
      exact e
    · rw [show g i = h.length + (i - q.length) from (bk_get h.length q i).2 (by omega), ← hlen, hR2, show q.length + (i - q.length) = i by omega]
      exact e
  -- the callee's blocks that it may turn
  have hm' : ∀ B, B ∈ ((rn q r).drop n).map (·.1) → ∃ i, i ∈ q.drop n ∧ ∃ f, r[i]? = some (B, f) := by
    intro B hB
    obtain ⟨k, f, hk, e⟩ := mem_drop.1 hB
    cases hqk : q[k]? with
    | none => simp [rn, hqk] at e
    | some j =>
      rw [rn_get hqr hqk] at e
      exact ⟨j, List.mem_of_getElem? (i := k - n) (by rw [List.getElem?_drop, show n + (k - n) = k by omega]; exact hqk), f, e⟩
  have hext : Ext C.m C.w0 w' := ok.ext.trans2 ok'.ext (fun B hB => by
    obtain ⟨i, hi, f, e⟩ := hm' B hB
    exact ok.own i B f (hwr i hi) e)
  -- a block of the new list: an old one that was not handed over, or one of the callee's
  have cases_ : ∀ (j B f : Nat) (c : List Seg), (Sx.back g (q.drop n) (hs.drop n) h)[j]? = some c → R[j]? = some (B, f) → (j < h.length ∧ j ∉ q.drop n ∧ h[j]? = some c ∧ r[j]? = some (B, f)) ∨ (∃ k c', n ≤ k ∧ g k = j ∧ hs[k]? = some c' ∧ c = mpL g c' ∧ r'[k]? = some (B, f)) := by
    intro j B f c hc hr
    by_cases hj : j < h.length
    · by_cases hjq : j ∈ q.drop n
      · obtain ⟨k, hk, rfl⟩ := List.mem_iff_getElem.1 hjq
        have e1 := List.getElem?_eq_getElem hk
        rw [b2 k _ e1, Option.map_eq_some_iff] at hc
        obtain ⟨c', hc', rfl⟩ := hc
        rw [List.getElem?_drop] at hc' e1
        rw [hR1 _ (hqr _ (hqs _ hjq)), ← hpre (n + k) _ e1] at hr
        exact .inr ⟨n + k, c', by omega, (bk_get h.length q (n + k)).1 _ e1, hc', rfl, hr⟩
      · rw [b3 j hj hjq] at hc
        rw [hR1 j (by omega)] at hr
        exact .inl ⟨hj, hjq, hc, hr⟩
    · obtain ⟨d, rfl⟩ : ∃ d, j = h.length + d := ⟨j - h.length, by omega⟩
      rw [b4, Option.map_eq_some_iff] at hc
      obtain ⟨c', hc', rfl⟩ := hc
      rw [List.getElem?_drop, List.length_drop, show n + (q.length - n + d) = q.length + d by omega] at hc'
      rw [← hlen, hR2] at hr
      exact .inr ⟨q.length + d, c', by omega, by rw [show g (q.length + d) = h.length + (q.length + d - q.length) from (bk_get h.length q _).2 (by omega)]; omega, hc', rfl, hr⟩
  -- where the callee's blocks lie
  have where_ : ∀ (k B f : Nat), n ≤ k → r'[k]? = some (B, f) → (∃ i, i ∈ q.drop n ∧ ∃ f', r[i]? = some (B, f')) ∨ w.heap.size ≤ B := by
    intro k B f hk e
    rcases ok'.own k B f hk e with hm | hm
    · exact .inl (hm' B hm)
    · exact .inr hm
  have hhi : ∀ i ∈ q.drop n, h[i]? = some (getH h i) := fun i hi => by rw [getH_eq, List.getElem?_eq_getElem (hq i (hqs i hi))]; rfl
  -- an old block that was not handed over has nothing of the callee's
  have old : ∀ (j B f : Nat) (c : List Seg), j ∉ q.drop n → h[j]? = some c → r[j]? = some (B, f) → flat c ≠ [] → B ∉ ((rn q r).drop n).map (·.1) := by
    intro j B f c hjq hc hr hf hm
    obtain ⟨i, hi, f', e⟩ := hm' B hm
    exact hf (ok.sep (fun e => hjq (by rw [e]; exact hi)) (hwr i hi) hc (hhi i hi) hr e (hne i hi))
  have old2 : ∀ (j B f : Nat) (c : List Seg), C.ro ≤ j → j ∉ q.drop n → h[j]? = some c → r[j]? = some (B, f) → c = [] ∨ ((∀ i ∈ q.drop n, ∀ f', r[i]? ≠ some (B, f')) ∧ B < w.heap.size) := by
    intro j B f c ho hjq hc hr
    by_cases hex : ∃ i, i ∈ q.drop n ∧ ∃ f', r[i]? = some (B, f')
    · obtain ⟨i, hi, f', hf'⟩ := hex
      rcases ok.apart j i B f f' c _ (fun e => hjq (by rw [e]; exact hi)) ho (hwr i hi) hc (hhi i hi) hr hf' with h1 | h1
      · exact .inl h1
      · exact absurd h1 (hne i hi)
    · exact .inr ⟨fun i hi f' e => hex ⟨i, hi, f', e⟩, ok.lt j B f ho hr⟩
  have hrl := ok.rlen
  have hrl2 := ok.rol
  refine ⟨⟨hext, fun i x e => ?_, ok.rol, ?_, fun j c B f hc hr => ?_, fun j B f ho hr => ?_, fun j B f ho hr => ?_, fun j B f ho hl hr => ?_, fun j c ho hl hc => ?_, fun i j B f f' c c' hij o1 o2 hi hj hri hrj => ?_⟩, fun i x e => ?_, hg, fun e => ?_⟩
  · have e1 := ok.agree i x e
    have hi : i < r.length := by
      rcases Nat.lt_or_ge i r.length with h | h
      · exact h
      · rw [List.getElem?_eq_none h] at e1; cases e1
    rw [hR1 i hi]; exact e1
  · rw [b1]; simp [R, hlen]; omega
  · rcases cases_ j B f c hc hr with ⟨h1, h2, h3, h4⟩ | ⟨k, c', hkn, hk, h3, rfl, h4⟩
    · refine ((ok.chunks j c B f h3 h4).mono ?_).extm ok'.ext (fun hl => old j B f c h2 h3 h4 hl)
      intro i x e
      have hi : i < r.length := by
        rcases Nat.lt_or_ge i r.length with h | h
        · exact h
        · rw [List.getElem?_eq_none h] at e; cases e
      rw [hR1 i hi]; exact e
    · intro d x e
      obtain ⟨v, e1, e2, e3⟩ := (ok'.chunks k c' B f h3 h4).mp hg d x e
      exact ⟨v, e1, e2, fun _ => e3 (le_ble hkn)⟩
  · have hj : j < r.length ∨ ∃ d, j = r.length + d := by
      rcases Nat.lt_or_ge j r.length with h | h
      · exact .inl h
      · exact .inr ⟨j - r.length, by omega⟩
    rcases hj with hj | ⟨d, rfl⟩
    · rw [hR1 j hj] at hr; exact Nat.lt_of_lt_of_le (ok.lt j B f ho hr) ok'.ext.size
    · rw [hR2] at hr; exact ok'.lt _ B f (show n ≤ q.length + d by omega) hr
  · have hj : j < r.length ∨ ∃ d, j = r.length + d := by
      rcases Nat.lt_or_ge j r.length with h | h
      · exact .inl h
      · exact .inr ⟨j - r.length, by omega⟩
    rcases hj with hj | ⟨d, rfl⟩
    · rw [hR1 j hj] at hr; exact ok.own j B f ho hr
    · rw [hR2] at hr
      rcases where_ _ B f (by omega) hr with ⟨i, hi, f', e⟩ | h
      · exact ok.own i B f' (hwr i hi) e
      · exact .inr (Nat.le_trans ok.ext.size h)
  · rw [hR1 j (by omega)] at hr
    exact ok.ros j B f ho hl hr
  · have hjq : j ∉ q.drop n := fun hc' => by have := hwr j hc'; omega
    rw [b3 j (by omega) hjq] at hc
    exact ok.dead j c ho hl hc
  · rcases cases_ i B f c hi hri with ⟨h1, h2, h3, h4⟩ | ⟨k, d, hkn, hk, h3, rfl, h4⟩ <;> rcases cases_ j B f' c' hj hrj with ⟨g1, g2, g3, g4⟩ | ⟨l, d', hln, hl, g3, rfl, g4⟩
    · exact ok.apart i j B f f' c c' hij o1 o2 h3 g3 h4 g4
    · rcases old2 i B f c o1 h2 h3 h4 with h5 | ⟨h5, h6⟩
      · exact .inl h5
      · rcases where_ _ B f' hln g4 with ⟨i', hi', f'', e⟩ | h
        · exact absurd e (h5 i' hi' f'')
        · omega
    · rcases old2 j B f' c' o2 g2 g3 g4 with h5 | ⟨h5, h6⟩
      · exact .inr h5
      · rcases where_ _ B f hkn h4 with ⟨i', hi', f'', e⟩ | h
        · exact absurd e (h5 i' hi' f'')
        · omega
    · rcases ok'.apart k l B f f' d d' (fun e => hij (by rw [← hk, ← hl, e])) hkn hln h3 g3 h4 g4 with h | h
      · left; rw [h]; rfl
      · right; rw [h]; rfl
  · have hi : i < r.length := by
      rcases Nat.lt_or_ge i r.length with h | h
      · exact h
      · rw [List.getElem?_eq_none h] at e; cases e
    rw [hR1 i hi]; exact e
  · refine ok'.ext.mono fun B hB => ?_
    obtain ⟨i, hi, _⟩ := hm' B hB
    rw [e] at hi
    cases hi

/-! Calls. -/
/-- The blocks l, where they are, aren't among q. -/
def apartB (h : List (List Seg)) (q : List Nat) : List Nat → Bool
  | [] => true
  | i :: l => (match Nat.blt i h.length with
    | true => !(memB i q) && (match getH h i with
      | [] => false
      | _ => true)
    | false => true) && apartB h q l
def keepB (k : Keep) (q : List Nat) (h : List (List Seg)) : Bool := match k with
  | .free => true
  | .all => q.isEmpty
  | .only l => apartB h q l
def allNe (h : List (List Seg)) : List Nat → Bool
  | [] => true
  | i :: q => match getH h i with
    | [] => false
    | _ => allNe h q
theorem allNe_spec {h : List (List Seg)} : ∀ {q : List Nat}, allNe h q = true → ∀ i ∈ q, getH h i ≠ []
  | [], _, i, hi => by cases hi
  | x :: q, hh, i, hi => by
    simp only [allNe] at hh
    split at hh
    · cases hh
    · rename_i hne
      cases hi with
      | head => exact fun e => hne e
      | tail _ hi => exact allNe_spec hh i hi
/-- How long a list is, as a number written out. -/
def lenK {α : Type} : List α → Nat → (Nat → Prop) → Prop
  | [], n, k => frcN n k
  | _ :: r, n, k => lenK r (n + 1) k
theorem lenK_eq {α : Type} : ∀ (l : List α) (n : Nat) (k : Nat → Prop), lenK l n k = k (n + l.length)
  | [], n, k => frcN_eq n k
  | _ :: r, n, k => by rw [lenK, lenK_eq r]; simp only [List.length_cons]; congr 1; omega
/-- The caller's blocks behind the call, laid bare. -/
def mapK (g : Nat → Nat) : List (List Seg) → (List (List Seg) → Prop) → Prop
  | [], k => k []
  | x :: r, k => mapK g r fun l => k (mpL g x :: l)
theorem mapK_eq (g : Nat → Nat) : ∀ (l : List (List Seg)) (k : List (List Seg) → Prop), mapK g l k = k (l.map (mpL g))
  | [], _ => rfl
  | x :: r, k => by rw [mapK, mapK_eq g r]; rfl
def appK (g : Nat → Nat) (ys : List (List Seg)) : List (List Seg) → (List (List Seg) → Prop) → Prop
  | [], k => mapK g ys k
  | x :: r, k => appK g ys r fun l => k (x :: l)
theorem appK_eq (g : Nat → Nat) (ys : List (List Seg)) : ∀ (l : List (List Seg)) (k : List (List Seg) → Prop), appK g ys l k = k (l ++ ys.map (mpL g))
  | [], k => mapK_eq g ys k
  | x :: r, k => by rw [appK, appK_eq g ys r]; rfl
def backK (g : Nat → Nat) : List Nat → List (List Seg) → List (List Seg) → (List (List Seg) → Prop) → Prop
  | [], hs, h, k => appK g hs h k
  | i :: q, c :: hs, h, k => setH h i (mpL g c) fun h => backK g q hs h k
  | _ :: _, [], h, k => k h
theorem backK_eq (g : Nat → Nat) : ∀ (q : List Nat) (hs h : List (List Seg)) (k : List (List Seg) → Prop), backK g q hs h k = k (back g q hs h)
  | [], hs, h, k => appK_eq g hs h k
  | i :: q, c :: hs, h, k => by rw [backK, setH_eq, backK_eq g q]; rfl
  | _ :: _, [], _, _ => rfl
section
variable {C : Cx}
theorem apartB_spec {h : List (List Seg)} {q : List Nat} : ∀ {l : List Nat}, apartB h q l = true → ∀ i ∈ l, i < h.length → i ∉ q ∧ getH h i ≠ []
  | [], _, i, hi, _ => by cases hi
  | x :: l, hh, i, hi, hl => by
    simp only [apartB, Bool.and_eq_true] at hh
    cases hi with
    | tail _ hi => exact apartB_spec hh.2 i hi hl
    | head =>
      have h1 := hh.1
      split at h1
      · simp only [Bool.and_eq_true, Bool.not_eq_true'] at h1
        refine ⟨fun hc => ?_, fun e => ?_⟩
        · rw [memB_iff.2 hc] at h1
          exact absurd h1.1 (by simp)
        · rw [e] at h1
          exact absurd h1.2 (by simp)
      · rename_i hb
        have : Nat.blt x h.length = true := Nat.ble_eq_true_of_le hl
        rw [this] at hb
        cases hb
theorem frm_back {k : Keep} {h hs : List (List Seg)} {q : List Nat} {n : Nat} {r r' : Rho} {w w' : World} {lv : Nat → Prop} (hqr : ∀ i ∈ q, i < r.length) (hl : ∀ i ∈ q, i < h.length) (hne : ∀ i ∈ q.drop n, getH h i ≠ []) (hwr : ∀ i ∈ q.drop n, C.ro ≤ i) (h4 : keepB k (q.drop n) h = true) (ok : HeapOk C h r w)
    (hok : HeapOk ⟨C.P, C.T, w, ((rn q r).drop n).map (·.1), rn q r, n, lv⟩ hs r' w') (hnq : n ≤ q.length) (o4 : q.drop n = [] → Ext [] w w') : Frm C k r w (r ++ r'.drop q.length) w' := by
  have hqs : ∀ i ∈ q.drop n, i ∈ q := fun i hi => List.mem_of_mem_drop hi
  have hsub : ∀ B, B ∈ ((rn q r).drop n).map (·.1) → ∃ i, i ∈ q.drop n ∧ ∃ f, r[i]? = some (B, f) := by
    intro B hB
    obtain ⟨k, f, hk, e⟩ := mem_drop.1 hB
    cases hqk : q[k]? with
    | none => simp [rn, hqk] at e
    | some j =>
      rw [rn_get hqr hqk] at e
      exact ⟨j, List.mem_of_getElem? (i := k - n) (by rw [List.getElem?_drop, show n + (k - n) = k by omega]; exact hqk), f, e⟩
  have hmem : ∀ B, B ∈ ((rn q r).drop n).map (·.1) → B ∈ (r.drop C.ro).map (·.1) := fun B hB => by
    obtain ⟨i, hi, f, e⟩ := hsub B hB
    exact mem_drop.2 ⟨i, f, hwr i hi, e⟩
  refine ⟨hok.ext.mono fun i hi => .inl (hmem i hi), fun i B f ho e => ?_, ?_⟩
  · rw [List.getElem?_append] at e
    split at e
    · exact .inl (mem_drop.2 ⟨i, f, ho, e⟩)
    · rw [List.getElem?_drop] at e
      rcases hok.own _ B f (show n ≤ q.length + (i - r.length) by omega) e with h | h
      · exact .inl (hmem B h)
      · exact .inr h
  · cases k with
    | free => trivial
    | all => exact o4 (by simpa [keepB] using h4)
    | only l =>
      refine ⟨?_, fun i hi ho B f hr hB => hok.ext.block B hB fun hc => ?_⟩
      · exact ok.ext.trans2 hok.ext fun B hB => by
          obtain ⟨i, hi, f, e⟩ := hsub B hB
          exact ok.own i B f (hwr i hi) e
      · obtain ⟨j, hjq, f', e2⟩ := hsub B hc
        have hil : i < h.length := by
          rw [← ok.len]
          rcases Nat.lt_or_ge i r.length with h | h
          · exact h
          · rw [List.getElem?_eq_none h] at hr; cases hr
        obtain ⟨a1, a2⟩ := apartB_spec h4 i hi hil
        have hij : i ≠ j := fun e => by subst e; exact a1 hjq
        have ch : ∀ z, z < h.length → h[z]? = some (getH h z) := fun z hz => by rw [getH_eq, List.getElem?_eq_getElem hz]; rfl
        rcases ok.apart i j B f f' _ _ hij ho (hwr j hjq) (ch i hil) (ch j (hl j (hqs j hjq))) hr e2 with h | h
        · exact a2 h
        · exact hne j hjq h
def allGe (n : Nat) : List Nat → Bool
  | [] => true
  | x :: r => match Nat.ble n x with
    | true => allGe n r
    | false => false
theorem allGe_spec {n : Nat} : ∀ {l : List Nat}, allGe n l = true → ∀ i ∈ l, n ≤ i
  | [], _, i, hi => by cases hi
  | x :: l, h, i, hi => by
    simp only [allGe] at h
    split at h
    · rename_i hb
      cases hi with
      | head => exact ble_le hb
      | tail _ hi => exact allGe_spec h i hi
    · cases h
def disj (a : List Nat) : List Nat → Bool
  | [] => true
  | x :: r => match memB x a with
    | true => false
    | false => disj a r
theorem disj_spec {a : List Nat} : ∀ {l : List Nat}, disj a l = true → ∀ i ∈ l, i ∉ a
  | [], _, i, hi => by cases hi
  | x :: l, h, i, hi => by
    simp only [disj] at h
    split at h
    · cases h
    · rename_i hb
      cases hi with
      | head => exact fun hc => by rw [memB_iff.2 hc] at hb; cases hb
      | tail _ hi => exact disj_spec h i hi
/-- Whether blocks may be handed over: the first n to be read, the others to be turned. -/
def qOk (ro n : Nat) (qt : Keep) (q : List Nat) (h : List (List Seg)) : Bool :=
  Nat.ble n q.length && nodup (q.drop n) && allLt q h.length && allNe h (q.drop n) && allGe ro (q.drop n) && disj (q.take n) (q.drop n) && keepB qt (q.drop n) h
/-- A call by what the callee keeps to; q: what the callee's blocks are called here. -/
theorem call_fn {qt : Keep} {f : FuncId} {args args0 : List SA} {t : List SV} {h : List (List Seg)} {k : SV → List (List Seg) → Prop} {n : Nat} {h0 : List (List Seg)} {raw : World → Prop} {Res : SV → List (List Seg) → Prop}
    (hfn : FnR C.P C.T f n h0 args0 raw Res) (q : List Nat) (hq : qOk C.ro n qt q h = true)
    (hE : entH q h q h0 True) (hA : ∀ r w vs, HeapOk C h r w → IsAs r args vs → IsAs (rn q r) args0 vs) (hraw : ∀ r w, HeapOk C h r w → raw w)
    (hk : ∀ x hs, Res x hs → lenK h 0 fun N => backK (bk N q) (q.drop n) (hs.drop n) h fun h' => k (x.mp (bk N q)) h') : CallVC C qt f #[] args #[] t h k := by
  intro r a w vs ok ha
  simp only [qOk, Bool.and_eq_true] at hq
  obtain ⟨⟨⟨⟨⟨⟨h0', h1⟩, h2⟩, h3⟩, h5⟩, h6⟩, h4⟩ := hq
  have hnq := ble_le h0'
  have hn := nodup_spec h1
  have hl := allLt_spec h2
  have hne := allNe_spec h3
  have hwr := allGe_spec h5
  have hdj := disj_spec h6
  have hlen := ok.heap.len
  have hqs : ∀ i ∈ q.drop n, i ∈ q := fun i hi => List.mem_of_mem_drop hi
  have hqr : ∀ i ∈ q, i < r.length := fun i hi => by rw [hlen]; exact hl i hi
  obtain ⟨_, e7, e8⟩ := entH_spec hqr h hE
  have look : ∀ (i B f : Nat), (rn q r)[i]? = some (B, f) → ∃ j, q[i]? = some j ∧ r[j]? = some (B, f) := by
    intro i B f e
    cases hi : q[i]? with
    | none => simp [rn, hi] at e
    | some j => exact ⟨j, rfl, by rw [← rn_get hqr hi]; exact e⟩
  have hdrop : ∀ (i j : Nat), n ≤ i → q[i]? = some j → j ∈ q.drop n := fun i j hi e =>
    List.mem_of_getElem? (i := i - n) (by rw [List.getElem?_drop, show n + (i - n) = i by omega]; exact e)
  have chunk : ∀ j, j < h.length → h[j]? = some (getH h j) := fun j hj => by rw [getH_eq, List.getElem?_eq_getElem hj]; rfl
  have cells : ∀ (i B f : Nat) (ch : List Seg), h0[i]? = some ch → (rn q r)[i]? = some (B, f) → At (Nat.ble n i) (rn q r) w B f (flat ch) := by
    intro i B f ch hi hr j y e
    obtain ⟨j', hq', hr'⟩ := look i B f hr
    obtain ⟨_, h9⟩ := e8 i ch j' hi hq'
    obtain ⟨x, hx, hv⟩ := h9 j y e
    obtain ⟨v, e1, e2, e3⟩ := ok.heap.chunk hr' j x hx
    exact ⟨v, e1, hv v e2, fun hb => e3 (le_ble (hwr j' (hdrop i j' (ble_le hb) hq')))⟩
  have ok0 : HeapOk (cx0 C.P C.T w (rn q r) n h0) h0 (rn q r) w := by
    refine ⟨Ext.refl _ _, RLe.refl _, by simpa [rn] using hnq, by simp [rn, e7], fun i ch B f hi hr => cells i B f ch hi hr, fun i B f ho hr => ?_, fun i B f ho hr => .inl (mem_drop.2 ⟨i, f, ho, hr⟩), fun i B f ho hlv hr => ?_, fun i ch ho hlv hi => ?_, fun i j B f f' ch ch' hij o1 o2 hi hj hri hrj => ?_⟩
    · obtain ⟨j', hq', hr'⟩ := look i B f hr
      exact ok.heap.lt j' B f (hwr j' (hdrop i j' ho hq')) hr'
    · have hi0 : i < h0.length := by
        rw [← e7]
        obtain ⟨j', hq', _⟩ := look i B f hr
        rcases Nat.lt_or_ge i q.length with h | h
        · exact h
        · rw [List.getElem?_eq_none h] at hq'; cases hq'
      have hch : h0[i]? = some (getH h0 i) := by rw [getH_eq, List.getElem?_eq_getElem hi0]; rfl
      have hAt := cells i B f _ hch hr
      refine ⟨fun hc => ?_, hAt.lt hlv⟩
      obtain ⟨j', hq', hr'⟩ := look i B f hr
      obtain ⟨i2, f2, hi2, e2⟩ := mem_drop.1 hc
      obtain ⟨j2, hq2, hr2⟩ := look i2 B f2 e2
      have hj2 := hdrop i2 j2 hi2 hq2
      have hjt : j' ∈ q.take n := List.mem_of_getElem? (i := i) (by rw [List.getElem?_take, if_pos ho]; exact hq')
      have hne2 : j' ≠ j2 := fun e => hdj j2 hj2 (e ▸ hjt)
      have hfl := ok.heap.sep hne2 (hwr j2 hj2) (chunk j' (hl j' (List.mem_of_getElem? hq'))) (chunk j2 (hl j2 (hqs j2 hj2))) hr' hr2 (hne j2 hj2)
      obtain ⟨_, h9⟩ := e8 i _ j' hch hq'
      cases e : flat (getH h0 i) with
      | nil => exact hlv e
      | cons y l =>
        obtain ⟨x, hx, _⟩ := h9 0 y (by rw [e]; rfl)
        rw [hfl] at hx
        cases hx
    · have : getH h0 i = ch := by rw [getH_eq, hi]; rfl
      rw [← this]
      exact Classical.byContradiction hlv
    · have o1 : n ≤ i := o1
      have o2 : n ≤ j := o2
      obtain ⟨i', hqi, hri'⟩ := look i B f hri
      obtain ⟨j', hqj, hrj'⟩ := look j B f' hrj
      have m1 := hdrop i i' o1 hqi
      have m2 := hdrop j j' o2 hqj
      have hne' : i' ≠ j' := by
        intro e
        subst e
        have g1 : (q.drop n)[i - n]? = some i' := by rw [List.getElem?_drop, show n + (i - n) = i by omega]; exact hqi
        have g2 : (q.drop n)[j - n]? = some i' := by rw [List.getElem?_drop, show n + (j - n) = j by omega]; exact hqj
        have hi1 : i - n < (q.drop n).length := by
          rcases Nat.lt_or_ge (i - n) (q.drop n).length with h | h
          · exact h
          · rw [List.getElem?_eq_none h] at g1; cases g1
        have := (List.getElem?_inj hi1 hn).1 (g1.trans g2.symm)
        omega
      have l1 := hl i' (hqs i' m1)
      have l2 := hl j' (hqs j' m2)
      rcases ok.heap.apart i' j' B f f' _ _ hne' (hwr i' m1) (hwr j' m2) (chunk i' l1) (chunk j' l2) hri' hrj' with h | h
      · exact .inl ((e8 i ch i' hi hqi).1 h)
      · exact .inr ((e8 j ch' j' hj hqj).1 h)
  have hcall := hfn w (rn q r) vs ok0 (hA r w vs ok.heap ha) (hraw r w ok.heap)
  have hargs : (#[] : Array Value) ++ vs.toArray ++ #[] = vs.toArray := by simp
  rw [hargs]
  refine hcall.mono ?_
  rintro e w' ⟨v, x, hs, r', rfl, hx, hok, hres⟩
  obtain ⟨o1, o2, o3, o4⟩ := ok.heap.back hnq hn hl hne hwr hok
  have hk' := hk x hs hres
  rw [lenK_eq, Nat.zero_add, backK_eq] at hk'
  exact ⟨v, _, _, _, rfl, hx.mp o3, o2, o1, frm_back hqr hl hne hwr h4 ok.heap hok hnq o4, hk'⟩
/-- Arguments that are the same there. -/
def eqAs (q : List Nat) : List SA → List SA → Prop
  | [], [] => True
  | x :: r, y :: r' => eqA q x y (eqAs q r r')
  | _, _ => False
theorem eqAs_spec {q : List Nat} {r : Rho} (hq : ∀ i ∈ q, i < r.length) : ∀ {l l' : List SA} {vs : List Value}, eqAs q l l' → IsAs r l vs → IsAs (rn q r) l' vs
  | [], [], vs, _, h => ⟨h.1, fun j x e => by simp at e⟩
  | x :: l, y :: l', vs, h, hv => by
    obtain ⟨h, h1⟩ := eqA_spec hq (show eqA q x y (eqAs q l l') from h)
    cases vs with
    | nil => have := hv.1; simp at this
    | cons v vs =>
      have ht := eqAs_spec (vs := vs) hq h ⟨by simpa using hv.1, fun j z e => hv.2 (j + 1) z e⟩
      refine ⟨by simpa using ht.1, fun j z e => ?_⟩
      cases j with
      | zero =>
        simp at e
        subst e
        obtain ⟨u, e1, e2⟩ := hv.2 0 x rfl
        exact ⟨u, e1, h1 u e2⟩
      | succ j => exact ht.2 j z e
  | [], _ :: _, _, h, _ => h.elim
  | _ :: _, [], _, h, _ => h.elim
theorem call_same {qt : Keep} {f : FuncId} {args args0 : List SA} {t : List SV} {h : List (List Seg)} {k : SV → List (List Seg) → Prop} {n : Nat} {h0 : List (List Seg)} {raw : World → Prop} {Res : SV → List (List Seg) → Prop}
    (hfn : FnR C.P C.T f n h0 args0 raw Res) (q : List Nat) (hq : qOk C.ro n qt q h = true)
    (hA : eqAs q args args0) (hE : entH q h q h0 True) (hraw : ∀ w, Ext C.m C.w0 w → raw w)
    (hk : ∀ x hs, Res x hs → lenK h 0 fun N => backK (bk N q) (q.drop n) (hs.drop n) h fun h' => k (x.mp (bk N q)) h') : CallVC C qt f #[] args #[] t h k := by
  refine call_fn hfn q hq hE (fun r w vs ok hv => eqAs_spec (fun i hi => ?_) hA hv) (fun r w ok => hraw w ok.ext) hk
  simp only [qOk, Bool.and_eq_true] at hq
  rw [ok.len]
  exact allLt_spec hq.1.1.1.1.2 i hi
/-- What is returned where a function is called from outside. -/
theorem Fn.calls {P : Program} {T : List (Nat × TD)} {f : FuncId} {args : List SA} {raw : World → Prop} {Res : SV → List (List Seg) → Prop} (h : FnR P T f 0 [] args raw Res) {w : World} {vs : List Value} (ha : IsAs [] args vs) (hr : raw w) :
    Calls P f vs.toArray w fun e w' => ∃ v x hs r', e = .returned v ∧ SV.Is r' x v ∧ HeapOk (cx0 P T w [] 0 []) hs r' w' ∧ Res x hs :=
  h w [] vs ⟨Ext.refl _ _, RLe.refl _, Nat.le_refl _, rfl, fun i ch B f hi => by simp at hi, fun i B f _ hr => by simp at hr, fun i B f _ hr => by simp at hr, fun i B f _ _ hr => by simp at hr, fun i ch _ _ hi => by simp at hi, fun i j B f f' ch ch' _ _ _ hi => by simp at hi⟩ ha hr
end
end Sx
end Go.Proofs.Ytndlhhhebijknaa
end

section
/-
  The table of types. No condition.
-/
namespace Go.Proofs.Ytndlhhhebijknaa
set_option linter.unusedVariables false
namespace Sx
def tds : List (Nat × TD) := [(1, ⟨.fn, 1, 8, [.one (.nilFn)]⟩),
  (2, ⟨.int .i64, 1, 8, [.one (.int .i64 0)]⟩),
  (3, ⟨.int .i64, 1, 8, [.one (.int .i64 0)]⟩),
  (4, ⟨.bool, 1, 1, [.one (.bool false)]⟩),
  (5, ⟨.int .u8, 1, 1, [.one (.w8 0)]⟩),
  (6, ⟨.int .u8, 1, 1, [.one (.w8 0)]⟩),
  (7, ⟨.struct [(2, 0), (3, 1), (4, 2), (6, 3)], 4, 24, [.one (.int .i64 0), .one (.int .i64 0), .one (.bool false), .one (.w8 0)]⟩),
  (8, ⟨.struct [(2, 0), (3, 1), (4, 2), (6, 3)], 4, 24, [.one (.int .i64 0), .one (.int .i64 0), .one (.bool false), .one (.w8 0)]⟩),
  (9, ⟨.str, 1, 16, [.one (.str [])]⟩),
  (10, ⟨.str, 1, 16, [.one (.str [])]⟩),
  (11, ⟨.str, 1, 16, [.one (.str [])]⟩),
  (12, ⟨.int .u64, 1, 8, [.one (.w64 0)]⟩),
  (13, ⟨.struct [(9, 0), (12, 1)], 2, 24, [.one (.str []), .one (.w64 0)]⟩),
  (14, ⟨.struct [(9, 0), (12, 1)], 2, 24, [.one (.str []), .one (.w64 0)]⟩),
  (15, ⟨.ptr 176, 1, 8, [.one (.ptr none)]⟩),
  (16, ⟨.ptr 179, 1, 8, [.one (.ptr none)]⟩),
  (17, ⟨.ptr 188, 1, 8, [.one (.ptr none)]⟩),
  (18, ⟨.struct [(17, 0)], 1, 8, [.one (.ptr none)]⟩),
  (19, ⟨.struct [(17, 0)], 1, 8, [.one (.ptr none)]⟩),
  (20, ⟨.ifc, 1, 16, [.one (.nilIfc)]⟩),
  (21, ⟨.int .i32, 1, 4, [.one (.int .i32 0)]⟩),
  (22, ⟨.slice 5, 1, 24, [.one (.slc none 0 0)]⟩),
  (23, ⟨.int .u16, 1, 2, [.one (.w16 0)]⟩),
  (24, ⟨.fn, 1, 8, [.one (.nilFn)]⟩),
  (25, ⟨.ptr 98, 1, 8, [.one (.ptr none)]⟩),
  (26, ⟨.fn, 1, 8, [.one (.nilFn)]⟩),
  (27, ⟨.fn, 1, 8, [.one (.nilFn)]⟩),
  (28, ⟨.array 32 5, 32, 32, [.row 32 (fun _ => .w8 0)]⟩),
  (29, ⟨.fn, 1, 8, [.one (.nilFn)]⟩),
  (30, ⟨.slice 22, 1, 24, [.one (.slc none 0 0)]⟩),
  (31, ⟨.fn, 1, 8, [.one (.nilFn)]⟩),
  (32, ⟨.fn, 1, 8, [.one (.nilFn)]⟩),
  (33, ⟨.fn, 1, 8, [.one (.nilFn)]⟩),
  (34, ⟨.fn, 1, 8, [.one (.nilFn)]⟩),
  (35, ⟨.fn, 1, 8, [.one (.nilFn)]⟩),
  (36, ⟨.array 32 5, 32, 32, [.row 32 (fun _ => .w8 0)]⟩),
  (37, ⟨.ptr 110, 1, 8, [.one (.ptr none)]⟩),
  (38, ⟨.fn, 1, 8, [.one (.nilFn)]⟩),
  (39, ⟨.int .i64, 1, 8, [.one (.int .i64 0)]⟩),
  (41, ⟨.fn, 1, 8, [.one (.nilFn)]⟩),
  (42, ⟨.fn, 1, 8, [.one (.nilFn)]⟩),
  (43, ⟨.fn, 1, 8, [.one (.nilFn)]⟩),
  (44, ⟨.fn, 1, 8, [.one (.nilFn)]⟩),
  (45, ⟨.fn, 1, 8, [.one (.nilFn)]⟩),
  (46, ⟨.fn, 1, 8, [.one (.nilFn)]⟩),
  (47, ⟨.fn, 1, 8, [.one (.nilFn)]⟩),
  (48, ⟨.fn, 1, 8, [.one (.nilFn)]⟩),
  (49, ⟨.fn, 1, 8, [.one (.nilFn)]⟩),
  (50, ⟨.fn, 1, 8, [.one (.nilFn)]⟩),
  (51, ⟨.fn, 1, 8, [.one (.nilFn)]⟩),
  (52, ⟨.array 16 5, 16, 16, [.row 16 (fun _ => .w8 0)]⟩),
  (53, ⟨.array 16 5, 16, 16, [.row 16 (fun _ => .w8 0)]⟩),
  (54, ⟨.array 12 5, 12, 12, [.row 12 (fun _ => .w8 0)]⟩),
  (55, ⟨.array 12 5, 12, 12, [.row 12 (fun _ => .w8 0)]⟩),
  (56, ⟨.ptr 117, 1, 8, [.one (.ptr none)]⟩),
  (57, ⟨.fn, 1, 8, [.one (.nilFn)]⟩),
  (58, ⟨.ptr 123, 1, 8, [.one (.ptr none)]⟩),
  (59, ⟨.fn, 1, 8, [.one (.nilFn)]⟩),
  (60, ⟨.fn, 1, 8, [.one (.nilFn)]⟩),
  (61, ⟨.fn, 1, 8, [.one (.nilFn)]⟩),
  (62, ⟨.fn, 1, 8, [.one (.nilFn)]⟩),
  (63, ⟨.fn, 1, 8, [.one (.nilFn)]⟩),
  (64, ⟨.fn, 1, 8, [.one (.nilFn)]⟩),
  (65, ⟨.ptr 72, 1, 8, [.one (.ptr none)]⟩),
  (67, ⟨.ptr 129, 1, 8, [.one (.ptr none)]⟩),
  (68, ⟨.fn, 1, 8, [.one (.nilFn)]⟩),
  (69, ⟨.fn, 1, 8, [.one (.nilFn)]⟩),
  (70, ⟨.ptr 137, 1, 8, [.one (.ptr none)]⟩),
  (71, ⟨.struct [(36, 0), (56, 32), (55, 33), (70, 45)], 46, 64, [.row 32 (fun _ => .w8 0), .one (.ptr none), .row 12 (fun _ => .w8 0), .one (.ptr none)]⟩),
  (72, ⟨.struct [(36, 0), (56, 32), (55, 33), (70, 45)], 46, 64, [.row 32 (fun _ => .w8 0), .one (.ptr none), .row 12 (fun _ => .w8 0), .one (.ptr none)]⟩),
  (73, ⟨.fn, 1, 8, [.one (.nilFn)]⟩),
  (74, ⟨.int .u64, 1, 8, [.one (.w64 0)]⟩),
  (75, ⟨.fn, 1, 8, [.one (.nilFn)]⟩),
  (76, ⟨.fn, 1, 8, [.one (.nilFn)]⟩),
  (77, ⟨.fn, 1, 8, [.one (.nilFn)]⟩),
  (78, ⟨.fn, 1, 8, [.one (.nilFn)]⟩),
  (79, ⟨.fn, 1, 8, [.one (.nilFn)]⟩),
  (80, ⟨.array 5 5, 5, 5, [.row 5 (fun _ => .w8 0)]⟩),
  (81, ⟨.fn, 1, 8, [.one (.nilFn)]⟩),
  (82, ⟨.fn, 1, 8, [.one (.nilFn)]⟩),
  (83, ⟨.struct [], 0, 0, []⟩),
  (84, ⟨.struct [], 0, 0, []⟩),
  (85, ⟨.struct [], 0, 0, []⟩),
  (86, ⟨.int .u32, 1, 4, [.one (.w32 0)]⟩),
  (87, ⟨.struct [(85, 0), (86, 0)], 1, 4, [.one (.w32 0)]⟩),
  (88, ⟨.struct [(85, 0), (86, 0)], 1, 4, [.one (.w32 0)]⟩),
  (89, ⟨.struct [(21, 0), (86, 1)], 2, 8, [.one (.int .i32 0), .one (.w32 0)]⟩),
  (90, ⟨.struct [(21, 0), (86, 1)], 2, 8, [.one (.int .i32 0), .one (.w32 0)]⟩),
  (91, ⟨.struct [(84, 0), (90, 0)], 2, 8, [.one (.int .i32 0), .one (.w32 0)]⟩),
  (92, ⟨.struct [(84, 0), (90, 0)], 2, 8, [.one (.int .i32 0), .one (.w32 0)]⟩),
  (93, ⟨.struct [(84, 0), (88, 0), (92, 1)], 3, 12, [.one (.w32 0), .one (.int .i32 0), .one (.w32 0)]⟩),
  (94, ⟨.struct [(84, 0), (88, 0), (92, 1)], 3, 12, [.one (.w32 0), .one (.int .i32 0), .one (.w32 0)]⟩),
  (95, ⟨.array 8 86, 8, 32, [.row 8 (fun _ => .w32 0)]⟩),
  (96, ⟨.array 64 86, 64, 256, [.row 64 (fun _ => .w32 0)]⟩),
  (97, ⟨.struct [(94, 0), (95, 3), (96, 11)], 75, 300, [.one (.w32 0), .one (.int .i32 0), .one (.w32 0), .row 8 (fun _ => .w32 0), .row 64 (fun _ => .w32 0)]⟩),
  (98, ⟨.struct [(94, 0), (95, 3), (96, 11)], 75, 300, [.one (.w32 0), .one (.int .i32 0), .one (.w32 0), .row 8 (fun _ => .w32 0), .row 64 (fun _ => .w32 0)]⟩),
  (99, ⟨.slice 86, 1, 24, [.one (.slc none 0 0)]⟩),
  (100, ⟨.fn, 1, 8, [.one (.nilFn)]⟩),
  (101, ⟨.fn, 1, 8, [.one (.nilFn)]⟩),
  (102, ⟨.int .u64, 1, 8, [.one (.w64 0)]⟩),
  (103, ⟨.array 64 5, 64, 64, [.row 64 (fun _ => .w8 0)]⟩),
  (104, ⟨.struct [(25, 0), (95, 1), (103, 9), (3, 73), (74, 74)], 75, 120, [.one (.ptr none), .row 8 (fun _ => .w32 0), .row 64 (fun _ => .w8 0), .one (.int .i64 0), .one (.w64 0)]⟩),
  (105, ⟨.struct [(25, 0), (95, 1), (103, 9), (3, 73), (74, 74)], 75, 120, [.one (.ptr none), .row 8 (fun _ => .w32 0), .row 64 (fun _ => .w8 0), .one (.int .i64 0), .one (.w64 0)]⟩),
  (106, ⟨.fn, 1, 8, [.one (.nilFn)]⟩),
  (107, ⟨.fn, 1, 8, [.one (.nilFn)]⟩),
  (108, ⟨.fn, 1, 8, [.one (.nilFn)]⟩),
  (109, ⟨.struct [(98, 0)], 75, 300, [.one (.w32 0), .one (.int .i32 0), .one (.w32 0), .row 8 (fun _ => .w32 0), .row 64 (fun _ => .w32 0)]⟩),
  (110, ⟨.struct [(98, 0)], 75, 300, [.one (.w32 0), .one (.int .i32 0), .one (.w32 0), .row 8 (fun _ => .w32 0), .row 64 (fun _ => .w32 0)]⟩),
  (111, ⟨.fn, 1, 8, [.one (.nilFn)]⟩),
  (112, ⟨.struct [(74, 0), (74, 1)], 2, 16, [.one (.w64 0), .one (.w64 0)]⟩),
  (113, ⟨.struct [(74, 0), (74, 1)], 2, 16, [.one (.w64 0), .one (.w64 0)]⟩),
  (114, ⟨.fn, 1, 8, [.one (.nilFn)]⟩),
  (115, ⟨.fn, 1, 8, [.one (.nilFn)]⟩),
  (116, ⟨.struct [(70, 0), (113, 1)], 3, 24, [.one (.ptr none), .one (.w64 0), .one (.w64 0)]⟩),
  (117, ⟨.struct [(70, 0), (113, 1)], 3, 24, [.one (.ptr none), .one (.w64 0), .one (.w64 0)]⟩),
  (118, ⟨.array 256 5, 256, 256, [.row 256 (fun _ => .w8 0)]⟩),
  (119, ⟨.struct [], 0, 0, []⟩),
  (120, ⟨.struct [(85, 0), (119, 0), (2, 0)], 1, 8, [.one (.int .i64 0)]⟩),
  (121, ⟨.struct [(85, 0), (119, 0), (2, 0)], 1, 8, [.one (.int .i64 0)]⟩),
  (122, ⟨.struct [(94, 0), (118, 3), (121, 259)], 260, 280, [.one (.w32 0), .one (.int .i32 0), .one (.w32 0), .row 256 (fun _ => .w8 0), .one (.int .i64 0)]⟩),
  (123, ⟨.struct [(94, 0), (118, 3), (121, 259)], 260, 280, [.one (.w32 0), .one (.int .i32 0), .one (.w32 0), .row 256 (fun _ => .w8 0), .one (.int .i64 0)]⟩),
  (124, ⟨.fn, 1, 8, [.one (.nilFn)]⟩),
  (125, ⟨.fn, 1, 8, [.one (.nilFn)]⟩),
  (126, ⟨.fn, 1, 8, [.one (.nilFn)]⟩),
  (127, ⟨.fn, 1, 8, [.one (.nilFn)]⟩),
  (128, ⟨.struct [(37, 0), (58, 1)], 2, 16, [.one (.ptr none), .one (.ptr none)]⟩),
  (129, ⟨.struct [(37, 0), (58, 1)], 2, 16, [.one (.ptr none), .one (.ptr none)]⟩),
  (130, ⟨.fn, 1, 8, [.one (.nilFn)]⟩),
  (131, ⟨.fn, 1, 8, [.one (.nilFn)]⟩),
  (132, ⟨.fn, 1, 8, [.one (.nilFn)]⟩),
  (133, ⟨.fn, 1, 8, [.one (.nilFn)]⟩),
  (134, ⟨.ptr 105, 1, 8, [.one (.ptr none)]⟩),
  (135, ⟨.array 11 53, 176, 176, [.row 176 (fun _ => .w8 0)]⟩),
  (136, ⟨.struct [(58, 0), (135, 1)], 177, 184, [.one (.ptr none), .row 176 (fun _ => .w8 0)]⟩),
  (137, ⟨.struct [(58, 0), (135, 1)], 177, 184, [.one (.ptr none), .row 176 (fun _ => .w8 0)]⟩),
  (138, ⟨.ptr 53, 1, 8, [.one (.ptr none)]⟩),
  (139, ⟨.fn, 1, 8, [.one (.nilFn)]⟩),
  (140, ⟨.fn, 1, 8, [.one (.nilFn)]⟩),
  (141, ⟨.fn, 1, 8, [.one (.nilFn)]⟩),
  (142, ⟨.fn, 1, 8, [.one (.nilFn)]⟩),
  (143, ⟨.fn, 1, 8, [.one (.nilFn)]⟩),
  (144, ⟨.fn, 1, 8, [.one (.nilFn)]⟩),
  (145, ⟨.fn, 1, 8, [.one (.nilFn)]⟩),
  (146, ⟨.ptr 94, 1, 8, [.one (.ptr none)]⟩),
  (147, ⟨.fn, 1, 8, [.one (.nilFn)]⟩),
  (148, ⟨.fn, 1, 8, [.one (.nilFn)]⟩),
  (149, ⟨.fn, 1, 8, [.one (.nilFn)]⟩),
  (150, ⟨.ptr 121, 1, 8, [.one (.ptr none)]⟩),
  (151, ⟨.fn, 1, 8, [.one (.nilFn)]⟩),
  (152, ⟨.ptr 2, 1, 8, [.one (.ptr none)]⟩),
  (153, ⟨.fn, 1, 8, [.one (.nilFn)]⟩),
  (154, ⟨.ptr 88, 1, 8, [.one (.ptr none)]⟩),
  (155, ⟨.fn, 1, 8, [.one (.nilFn)]⟩),
  (156, ⟨.ptr 86, 1, 8, [.one (.ptr none)]⟩),
  (157, ⟨.fn, 1, 8, [.one (.nilFn)]⟩),
  (159, ⟨.fn, 1, 8, [.one (.nilFn)]⟩),
  (160, ⟨.ptr 92, 1, 8, [.one (.ptr none)]⟩),
  (161, ⟨.fn, 1, 8, [.one (.nilFn)]⟩),
  (162, ⟨.fn, 1, 8, [.one (.nilFn)]⟩),
  (163, ⟨.ptr 90, 1, 8, [.one (.ptr none)]⟩),
  (164, ⟨.fn, 1, 8, [.one (.nilFn)]⟩),
  (165, ⟨.ptr 21, 1, 8, [.one (.ptr none)]⟩),
  (166, ⟨.fn, 1, 8, [.one (.nilFn)]⟩),
  (168, ⟨.fn, 1, 8, [.one (.nilFn)]⟩),
  (169, ⟨.fn, 1, 8, [.one (.nilFn)]⟩),
  (170, ⟨.fn, 1, 8, [.one (.nilFn)]⟩),
  (171, ⟨.fn, 1, 8, [.one (.nilFn)]⟩),
  (172, ⟨.fn, 1, 8, [.one (.nilFn)]⟩),
  (173, ⟨.fn, 1, 8, [.one (.nilFn)]⟩),
  (174, ⟨.fn, 1, 8, [.one (.nilFn)]⟩),
  (175, ⟨.struct [(17, 0), (17, 1), (17, 2), (9, 3)], 4, 40, [.one (.ptr none), .one (.ptr none), .one (.ptr none), .one (.str [])]⟩),
  (176, ⟨.struct [(17, 0), (17, 1), (17, 2), (9, 3)], 4, 40, [.one (.ptr none), .one (.ptr none), .one (.ptr none), .one (.str [])]⟩),
  (177, ⟨.array 0 16, 0, 0, [.row 0 (fun _ => .ptr none)]⟩),
  (178, ⟨.struct [(177, 0)], 0, 0, [.row 0 (fun _ => .ptr none)]⟩),
  (179, ⟨.struct [(177, 0)], 0, 0, [.row 0 (fun _ => .ptr none)]⟩),
  (180, ⟨.fn, 1, 8, [.one (.nilFn)]⟩),
  (181, ⟨.int .u8, 1, 1, [.one (.w8 0)]⟩),
  (182, ⟨.int .u8, 1, 1, [.one (.w8 0)]⟩),
  (183, ⟨.fn, 1, 8, [.one (.nilFn)]⟩),
  (184, ⟨.ptr 5, 1, 8, [.one (.ptr none)]⟩),
  (185, ⟨.int .i32, 1, 4, [.one (.int .i32 0)]⟩),
  (186, ⟨.int .i32, 1, 4, [.one (.int .i32 0)]⟩),
  (187, ⟨.struct [(12, 0), (12, 1), (86, 2), (181, 3), (5, 4), (5, 5), (182, 6), (183, 7), (184, 8), (185, 9), (186, 10)], 11, 48, [.one (.w64 0), .one (.w64 0), .one (.w32 0), .one (.w8 0), .one (.w8 0), .one (.w8 0), .one (.w8 0), .one (.nilFn), .one (.ptr none), .one (.int .i32 0), .one (.int .i32 0)]⟩),
  (188, ⟨.struct [(12, 0), (12, 1), (86, 2), (181, 3), (5, 4), (5, 5), (182, 6), (183, 7), (184, 8), (185, 9), (186, 10)], 11, 48, [.one (.w64 0), .one (.w64 0), .one (.w32 0), .one (.w8 0), .one (.w8 0), .one (.w8 0), .one (.w8 0), .one (.nilFn), .one (.ptr none), .one (.int .i32 0), .one (.int .i32 0)]⟩)]
theorem td_1 : TdOk Try.prog 1 ⟨.fn, 1, 8, [.one (.nilFn)]⟩ := ⟨by kernel_rfl, show _ = _ by kernel_rfl, by kernel_rfl, by kernel_rfl, by kernel_rfl⟩
theorem td_2 : TdOk Try.prog 2 ⟨.int .i64, 1, 8, [.one (.int .i64 0)]⟩ := ⟨by kernel_rfl, show _ = _ by kernel_rfl, by kernel_rfl, by kernel_rfl, by kernel_rfl⟩
theorem td_3 : TdOk Try.prog 3 ⟨.int .i64, 1, 8, [.one (.int .i64 0)]⟩ := ⟨by kernel_rfl, show _ = _ by kernel_rfl, by kernel_rfl, by kernel_rfl, by kernel_rfl⟩
theorem td_4 : TdOk Try.prog 4 ⟨.bool, 1, 1, [.one (.bool false)]⟩ := ⟨by kernel_rfl, show _ = _ by kernel_rfl, by kernel_rfl, by kernel_rfl, by kernel_rfl⟩
theorem td_5 : TdOk Try.prog 5 ⟨.int .u8, 1, 1, [.one (.w8 0)]⟩ := ⟨by kernel_rfl, show _ = _ by kernel_rfl, by kernel_rfl, by kernel_rfl, by kernel_rfl⟩
theorem td_6 : TdOk Try.prog 6 ⟨.int .u8, 1, 1, [.one (.w8 0)]⟩ := ⟨by kernel_rfl, show _ = _ by kernel_rfl, by kernel_rfl, by kernel_rfl, by kernel_rfl⟩
theorem td_7 : TdOk Try.prog 7 ⟨.struct [(2, 0), (3, 1), (4, 2), (6, 3)], 4, 24, [.one (.int .i64 0), .one (.int .i64 0), .one (.bool false), .one (.w8 0)]⟩ := ⟨by kernel_rfl, show _ = _ by kernel_rfl, by kernel_rfl, by kernel_rfl, by kernel_rfl⟩
theorem td_8 : TdOk Try.prog 8 ⟨.struct [(2, 0), (3, 1), (4, 2), (6, 3)], 4, 24, [.one (.int .i64 0), .one (.int .i64 0), .one (.bool false), .one (.w8 0)]⟩ := ⟨by kernel_rfl, show _ = _ by kernel_rfl, by kernel_rfl, by kernel_rfl, by kernel_rfl⟩
theorem td_9 : TdOk Try.prog 9 ⟨.str, 1, 16, [.one (.str [])]⟩ := ⟨by kernel_rfl, show _ = _ by kernel_rfl, by kernel_rfl, by kernel_rfl, by kernel_rfl⟩
theorem td_10 : TdOk Try.prog 10 ⟨.str, 1, 16, [.one (.str [])]⟩ := ⟨by kernel_rfl, show _ = _ by kernel_rfl, by kernel_rfl, by kernel_rfl, by kernel_rfl⟩
theorem td_11 : TdOk Try.prog 11 ⟨.str, 1, 16, [.one (.str [])]⟩ := ⟨by kernel_rfl, show _ = _ by kernel_rfl, by kernel_rfl, by kernel_rfl, by kernel_rfl⟩
theorem td_12 : TdOk Try.prog 12 ⟨.int .u64, 1, 8, [.one (.w64 0)]⟩ := ⟨by kernel_rfl, show _ = _ by kernel_rfl, by kernel_rfl, by kernel_rfl, by kernel_rfl⟩
theorem td_13 : TdOk Try.prog 13 ⟨.struct [(9, 0), (12, 1)], 2, 24, [.one (.str []), .one (.w64 0)]⟩ := ⟨by kernel_rfl, show _ = _ by kernel_rfl, by kernel_rfl, by kernel_rfl, by kernel_rfl⟩
theorem td_14 : TdOk Try.prog 14 ⟨.struct [(9, 0), (12, 1)], 2, 24, [.one (.str []), .one (.w64 0)]⟩ := ⟨by kernel_rfl, show _ = _ by kernel_rfl, by kernel_rfl, by kernel_rfl, by kernel_rfl⟩
theorem td_15 : TdOk Try.prog 15 ⟨.ptr 176, 1, 8, [.one (.ptr none)]⟩ := ⟨by kernel_rfl, show _ = _ by kernel_rfl, by kernel_rfl, by kernel_rfl, by kernel_rfl⟩
theorem td_16 : TdOk Try.prog 16 ⟨.ptr 179, 1, 8, [.one (.ptr none)]⟩ := ⟨by kernel_rfl, show _ = _ by kernel_rfl, by kernel_rfl, by kernel_rfl, by kernel_rfl⟩
theorem td_17 : TdOk Try.prog 17 ⟨.ptr 188, 1, 8, [.one (.ptr none)]⟩ := ⟨by kernel_rfl, show _ = _ by kernel_rfl, by kernel_rfl, by kernel_rfl, by kernel_rfl⟩
theorem td_18 : TdOk Try.prog 18 ⟨.struct [(17, 0)], 1, 8, [.one (.ptr none)]⟩ := ⟨by kernel_rfl, show _ = _ by kernel_rfl, by kernel_rfl, by kernel_rfl, by kernel_rfl⟩
theorem td_19 : TdOk Try.prog 19 ⟨.struct [(17, 0)], 1, 8, [.one (.ptr none)]⟩ := ⟨by kernel_rfl, show _ = _ by kernel_rfl, by kernel_rfl, by kernel_rfl, by kernel_rfl⟩
theorem td_20 : TdOk Try.prog 20 ⟨.ifc, 1, 16, [.one (.nilIfc)]⟩ := ⟨by kernel_rfl, show _ = _ by kernel_rfl, by kernel_rfl, by kernel_rfl, by kernel_rfl⟩
theorem td_21 : TdOk Try.prog 21 ⟨.int .i32, 1, 4, [.one (.int .i32 0)]⟩ := ⟨by kernel_rfl, show _ = _ by kernel_rfl, by kernel_rfl, by kernel_rfl, by kernel_rfl⟩
theorem td_22 : TdOk Try.prog 22 ⟨.slice 5, 1, 24, [.one (.slc none 0 0)]⟩ := ⟨by kernel_rfl, show _ = _ by kernel_rfl, by kernel_rfl, by kernel_rfl, by kernel_rfl⟩
theorem td_23 : TdOk Try.prog 23 ⟨.int .u16, 1, 2, [.one (.w16 0)]⟩ := ⟨by kernel_rfl, show _ = _ by kernel_rfl, by kernel_rfl, by kernel_rfl, by kernel_rfl⟩
theorem td_24 : TdOk Try.prog 24 ⟨.fn, 1, 8, [.one (.nilFn)]⟩ := ⟨by kernel_rfl, show _ = _ by kernel_rfl, by kernel_rfl, by kernel_rfl, by kernel_rfl⟩
theorem td_25 : TdOk Try.prog 25 ⟨.ptr 98, 1, 8, [.one (.ptr none)]⟩ := ⟨by kernel_rfl, show _ = _ by kernel_rfl, by kernel_rfl, by kernel_rfl, by kernel_rfl⟩
theorem td_26 : TdOk Try.prog 26 ⟨.fn, 1, 8, [.one (.nilFn)]⟩ := ⟨by kernel_rfl, show _ = _ by kernel_rfl, by kernel_rfl, by kernel_rfl, by kernel_rfl⟩
theorem td_27 : TdOk Try.prog 27 ⟨.fn, 1, 8, [.one (.nilFn)]⟩ := ⟨by kernel_rfl, show _ = _ by kernel_rfl, by kernel_rfl, by kernel_rfl, by kernel_rfl⟩
theorem td_28 : TdOk Try.prog 28 ⟨.array 32 5, 32, 32, [.row 32 (fun _ => .w8 0)]⟩ := ⟨by kernel_rfl, show _ = _ by kernel_rfl, by kernel_rfl, by kernel_rfl, by kernel_rfl⟩
theorem td_29 : TdOk Try.prog 29 ⟨.fn, 1, 8, [.one (.nilFn)]⟩ := ⟨by kernel_rfl, show _ = _ by kernel_rfl, by kernel_rfl, by kernel_rfl, by kernel_rfl⟩
theorem td_30 : TdOk Try.prog 30 ⟨.slice 22, 1, 24, [.one (.slc none 0 0)]⟩ := ⟨by kernel_rfl, show _ = _ by kernel_rfl, by kernel_rfl, by kernel_rfl, by kernel_rfl⟩
theorem td_31 : TdOk Try.prog 31 ⟨.fn, 1, 8, [.one (.nilFn)]⟩ := ⟨by kernel_rfl, show _ = _ by kernel_rfl, by kernel_rfl, by kernel_rfl, by kernel_rfl⟩
theorem td_32 : TdOk Try.prog 32 ⟨.fn, 1, 8, [.one (.nilFn)]⟩ := ⟨by kernel_rfl, show _ = _ by kernel_rfl, by kernel_rfl, by kernel_rfl, by kernel_rfl⟩
theorem td_33 : TdOk Try.prog 33 ⟨.fn, 1, 8, [.one (.nilFn)]⟩ := ⟨by kernel_rfl, show _ = _ by kernel_rfl, by kernel_rfl, by kernel_rfl, by kernel_rfl⟩
theorem td_34 : TdOk Try.prog 34 ⟨.fn, 1, 8, [.one (.nilFn)]⟩ := ⟨by kernel_rfl, show _ = _ by kernel_rfl, by kernel_rfl, by kernel_rfl, by kernel_rfl⟩
theorem td_35 : TdOk Try.prog 35 ⟨.fn, 1, 8, [.one (.nilFn)]⟩ := ⟨by kernel_rfl, show _ = _ by kernel_rfl, by kernel_rfl, by kernel_rfl, by kernel_rfl⟩
theorem td_36 : TdOk Try.prog 36 ⟨.array 32 5, 32, 32, [.row 32 (fun _ => .w8 0)]⟩ := ⟨by kernel_rfl, show _ = _ by kernel_rfl, by kernel_rfl, by kernel_rfl, by kernel_rfl⟩
theorem td_37 : TdOk Try.prog 37 ⟨.ptr 110, 1, 8, [.one (.ptr none)]⟩ := ⟨by kernel_rfl, show _ = _ by kernel_rfl, by kernel_rfl, by kernel_rfl, by kernel_rfl⟩
theorem td_38 : TdOk Try.prog 38 ⟨.fn, 1, 8, [.one (.nilFn)]⟩ := ⟨by kernel_rfl, show _ = _ by kernel_rfl, by kernel_rfl, by kernel_rfl, by kernel_rfl⟩
theorem td_39 : TdOk Try.prog 39 ⟨.int .i64, 1, 8, [.one (.int .i64 0)]⟩ := ⟨by kernel_rfl, show _ = _ by kernel_rfl, by kernel_rfl, by kernel_rfl, by kernel_rfl⟩
theorem td_41 : TdOk Try.prog 41 ⟨.fn, 1, 8, [.one (.nilFn)]⟩ := ⟨by kernel_rfl, show _ = _ by kernel_rfl, by kernel_rfl, by kernel_rfl, by kernel_rfl⟩
theorem td_42 : TdOk Try.prog 42 ⟨.fn, 1, 8, [.one (.nilFn)]⟩ := ⟨by kernel_rfl, show _ = _ by kernel_rfl, by kernel_rfl, by kernel_rfl, by kernel_rfl⟩
theorem td_43 : TdOk Try.prog 43 ⟨.fn, 1, 8, [.one (.nilFn)]⟩ := ⟨by kernel_rfl, show _ = _ by kernel_rfl, by kernel_rfl, by kernel_rfl, by kernel_rfl⟩
theorem td_44 : TdOk Try.prog 44 ⟨.fn, 1, 8, [.one (.nilFn)]⟩ := ⟨by kernel_rfl, show _ = _ by kernel_rfl, by kernel_rfl, by kernel_rfl, by kernel_rfl⟩
theorem td_45 : TdOk Try.prog 45 ⟨.fn, 1, 8, [.one (.nilFn)]⟩ := ⟨by kernel_rfl, show _ = _ by kernel_rfl, by kernel_rfl, by kernel_rfl, by kernel_rfl⟩
theorem td_46 : TdOk Try.prog 46 ⟨.fn, 1, 8, [.one (.nilFn)]⟩ := ⟨by kernel_rfl, show _ = _ by kernel_rfl, by kernel_rfl, by kernel_rfl, by kernel_rfl⟩
theorem td_47 : TdOk Try.prog 47 ⟨.fn, 1, 8, [.one (.nilFn)]⟩ := ⟨by kernel_rfl, show _ = _ by kernel_rfl, by kernel_rfl, by kernel_rfl, by kernel_rfl⟩
theorem td_48 : TdOk Try.prog 48 ⟨.fn, 1, 8, [.one (.nilFn)]⟩ := ⟨by kernel_rfl, show _ = _ by kernel_rfl, by kernel_rfl, by kernel_rfl, by kernel_rfl⟩
theorem td_49 : TdOk Try.prog 49 ⟨.fn, 1, 8, [.one (.nilFn)]⟩ := ⟨by kernel_rfl, show _ = _ by kernel_rfl, by kernel_rfl, by kernel_rfl, by kernel_rfl⟩
theorem td_50 : TdOk Try.prog 50 ⟨.fn, 1, 8, [.one (.nilFn)]⟩ := ⟨by kernel_rfl, show _ = _ by kernel_rfl, by kernel_rfl, by kernel_rfl, by kernel_rfl⟩
theorem td_51 : TdOk Try.prog 51 ⟨.fn, 1, 8, [.one (.nilFn)]⟩ := ⟨by kernel_rfl, show _ = _ by kernel_rfl, by kernel_rfl, by kernel_rfl, by kernel_rfl⟩
theorem td_52 : TdOk Try.prog 52 ⟨.array 16 5, 16, 16, [.row 16 (fun _ => .w8 0)]⟩ := ⟨by kernel_rfl, show _ = _ by kernel_rfl, by kernel_rfl, by kernel_rfl, by kernel_rfl⟩
theorem td_53 : TdOk Try.prog 53 ⟨.array 16 5, 16, 16, [.row 16 (fun _ => .w8 0)]⟩ := ⟨by kernel_rfl, show _ = _ by kernel_rfl, by kernel_rfl, by kernel_rfl, by kernel_rfl⟩
theorem td_54 : TdOk Try.prog 54 ⟨.array 12 5, 12, 12, [.row 12 (fun _ => .w8 0)]⟩ := ⟨by kernel_rfl, show _ = _ by kernel_rfl, by kernel_rfl, by kernel_rfl, by kernel_rfl⟩
theorem td_55 : TdOk Try.prog 55 ⟨.array 12 5, 12, 12, [.row 12 (fun _ => .w8 0)]⟩ := ⟨by kernel_rfl, show _ = _ by kernel_rfl, by kernel_rfl, by kernel_rfl, by kernel_rfl⟩
theorem td_56 : TdOk Try.prog 56 ⟨.ptr 117, 1, 8, [.one (.ptr none)]⟩ := ⟨by kernel_rfl, show _ = _ by kernel_rfl, by kernel_rfl, by kernel_rfl, by kernel_rfl⟩
theorem td_57 : TdOk Try.prog 57 ⟨.fn, 1, 8, [.one (.nilFn)]⟩ := ⟨by kernel_rfl, show _ = _ by kernel_rfl, by kernel_rfl, by kernel_rfl, by kernel_rfl⟩
theorem td_58 : TdOk Try.prog 58 ⟨.ptr 123, 1, 8, [.one (.ptr none)]⟩ := ⟨by kernel_rfl, show _ = _ by kernel_rfl, by kernel_rfl, by kernel_rfl, by kernel_rfl⟩
theorem td_59 : TdOk Try.prog 59 ⟨.fn, 1, 8, [.one (.nilFn)]⟩ := ⟨by kernel_rfl, show _ = _ by kernel_rfl, by kernel_rfl, by kernel_rfl, by kernel_rfl⟩
theorem td_60 : TdOk Try.prog 60 ⟨.fn, 1, 8, [.one (.nilFn)]⟩ := ⟨by kernel_rfl, show _ = _ by kernel_rfl, by kernel_rfl, by kernel_rfl, by kernel_rfl⟩
theorem td_61 : TdOk Try.prog 61 ⟨.fn, 1, 8, [.one (.nilFn)]⟩ := ⟨by kernel_rfl, show _ = _ by kernel_rfl, by kernel_rfl, by kernel_rfl, by kernel_rfl⟩
theorem td_62 : TdOk Try.prog 62 ⟨.fn, 1, 8, [.one (.nilFn)]⟩ := ⟨by kernel_rfl, show _ = _ by kernel_rfl, by kernel_rfl, by kernel_rfl, by kernel_rfl⟩
theorem td_63 : TdOk Try.prog 63 ⟨.fn, 1, 8, [.one (.nilFn)]⟩ := ⟨by kernel_rfl, show _ = _ by kernel_rfl, by kernel_rfl, by kernel_rfl, by kernel_rfl⟩
theorem td_64 : TdOk Try.prog 64 ⟨.fn, 1, 8, [.one (.nilFn)]⟩ := ⟨by kernel_rfl, show _ = _ by kernel_rfl, by kernel_rfl, by kernel_rfl, by kernel_rfl⟩
theorem td_65 : TdOk Try.prog 65 ⟨.ptr 72, 1, 8, [.one (.ptr none)]⟩ := ⟨by kernel_rfl, show _ = _ by kernel_rfl, by kernel_rfl, by kernel_rfl, by kernel_rfl⟩
theorem td_67 : TdOk Try.prog 67 ⟨.ptr 129, 1, 8, [.one (.ptr none)]⟩ := ⟨by kernel_rfl, show _ = _ by kernel_rfl, by kernel_rfl, by kernel_rfl, by kernel_rfl⟩
theorem td_68 : TdOk Try.prog 68 ⟨.fn, 1, 8, [.one (.nilFn)]⟩ := ⟨by kernel_rfl, show _ = _ by kernel_rfl, by kernel_rfl, by kernel_rfl, by kernel_rfl⟩
theorem td_69 : TdOk Try.prog 69 ⟨.fn, 1, 8, [.one (.nilFn)]⟩ := ⟨by kernel_rfl, show _ = _ by kernel_rfl, by kernel_rfl, by kernel_rfl, by kernel_rfl⟩
theorem td_70 : TdOk Try.prog 70 ⟨.ptr 137, 1, 8, [.one (.ptr none)]⟩ := ⟨by kernel_rfl, show _ = _ by kernel_rfl, by kernel_rfl, by kernel_rfl, by kernel_rfl⟩
theorem td_71 : TdOk Try.prog 71 ⟨.struct [(36, 0), (56, 32), (55, 33), (70, 45)], 46, 64, [.row 32 (fun _ => .w8 0), .one (.ptr none), .row 12 (fun _ => .w8 0), .one (.ptr none)]⟩ := ⟨by kernel_rfl, show _ = _ by kernel_rfl, by kernel_rfl, by kernel_rfl, by kernel_rfl⟩
theorem td_72 : TdOk Try.prog 72 ⟨.struct [(36, 0), (56, 32), (55, 33), (70, 45)], 46, 64, [.row 32 (fun _ => .w8 0), .one (.ptr none), .row 12 (fun _ => .w8 0), .one (.ptr none)]⟩ := ⟨by kernel_rfl, show _ = _ by kernel_rfl, by kernel_rfl, by kernel_rfl, by kernel_rfl⟩
theorem td_73 : TdOk Try.prog 73 ⟨.fn, 1, 8, [.one (.nilFn)]⟩ := ⟨by kernel_rfl, show _ = _ by kernel_rfl, by kernel_rfl, by kernel_rfl, by kernel_rfl⟩
theorem td_74 : TdOk Try.prog 74 ⟨.int .u64, 1, 8, [.one (.w64 0)]⟩ := ⟨by kernel_rfl, show _ = _ by kernel_rfl, by kernel_rfl, by kernel_rfl, by kernel_rfl⟩
theorem td_75 : TdOk Try.prog 75 ⟨.fn, 1, 8, [.one (.nilFn)]⟩ := ⟨by kernel_rfl, show _ = _ by kernel_rfl, by kernel_rfl, by kernel_rfl, by kernel_rfl⟩
theorem td_76 : TdOk Try.prog 76 ⟨.fn, 1, 8, [.one (.nilFn)]⟩ := ⟨by kernel_rfl, show _ = _ by kernel_rfl, by kernel_rfl, by kernel_rfl, by kernel_rfl⟩
theorem td_77 : TdOk Try.prog 77 ⟨.fn, 1, 8, [.one (.nilFn)]⟩ := ⟨by kernel_rfl, show _ = _ by kernel_rfl, by kernel_rfl, by kernel_rfl, by kernel_rfl⟩
theorem td_78 : TdOk Try.prog 78 ⟨.fn, 1, 8, [.one (.nilFn)]⟩ := ⟨by kernel_rfl, show _ = _ by kernel_rfl, by kernel_rfl, by kernel_rfl, by kernel_rfl⟩
theorem td_79 : TdOk Try.prog 79 ⟨.fn, 1, 8, [.one (.nilFn)]⟩ := ⟨by kernel_rfl, show _ = _ by kernel_rfl, by kernel_rfl, by kernel_rfl, by kernel_rfl⟩
theorem td_80 : TdOk Try.prog 80 ⟨.array 5 5, 5, 5, [.row 5 (fun _ => .w8 0)]⟩ := ⟨by kernel_rfl, show _ = _ by kernel_rfl, by kernel_rfl, by kernel_rfl, by kernel_rfl⟩
theorem td_81 : TdOk Try.prog 81 ⟨.fn, 1, 8, [.one (.nilFn)]⟩ := ⟨by kernel_rfl, show _ = _ by kernel_rfl, by kernel_rfl, by kernel_rfl, by kernel_rfl⟩
theorem td_82 : TdOk Try.prog 82 ⟨.fn, 1, 8, [.one (.nilFn)]⟩ := ⟨by kernel_rfl, show _ = _ by kernel_rfl, by kernel_rfl, by kernel_rfl, by kernel_rfl⟩
theorem td_83 : TdOk Try.prog 83 ⟨.struct [], 0, 0, []⟩ := ⟨by kernel_rfl, show _ = _ by kernel_rfl, by kernel_rfl, by kernel_rfl, by kernel_rfl⟩
theorem td_84 : TdOk Try.prog 84 ⟨.struct [], 0, 0, []⟩ := ⟨by kernel_rfl, show _ = _ by kernel_rfl, by kernel_rfl, by kernel_rfl, by kernel_rfl⟩
theorem td_85 : TdOk Try.prog 85 ⟨.struct [], 0, 0, []⟩ := ⟨by kernel_rfl, show _ = _ by kernel_rfl, by kernel_rfl, by kernel_rfl, by kernel_rfl⟩
theorem td_86 : TdOk Try.prog 86 ⟨.int .u32, 1, 4, [.one (.w32 0)]⟩ := ⟨by kernel_rfl, show _ = _ by kernel_rfl, by kernel_rfl, by kernel_rfl, by kernel_rfl⟩
theorem td_87 : TdOk Try.prog 87 ⟨.struct [(85, 0), (86, 0)], 1, 4, [.one (.w32 0)]⟩ := ⟨by kernel_rfl, show _ = _ by kernel_rfl, by kernel_rfl, by kernel_rfl, by kernel_rfl⟩
theorem td_88 : TdOk Try.prog 88 ⟨.struct [(85, 0), (86, 0)], 1, 4, [.one (.w32 0)]⟩ := ⟨by kernel_rfl, show _ = _ by kernel_rfl, by kernel_rfl, by kernel_rfl, by kernel_rfl⟩
theorem td_89 : TdOk Try.prog 89 ⟨.struct [(21, 0), (86, 1)], 2, 8, [.one (.int .i32 0), .one (.w32 0)]⟩ := ⟨by kernel_rfl, show _ = _ by kernel_rfl, by kernel_rfl, by kernel_rfl, by kernel_rfl⟩
theorem td_90 : TdOk Try.prog 90 ⟨.struct [(21, 0), (86, 1)], 2, 8, [.one (.int .i32 0), .one (.w32 0)]⟩ := ⟨by kernel_rfl, show _ = _ by kernel_rfl, by kernel_rfl, by kernel_rfl, by kernel_rfl⟩
theorem td_91 : TdOk Try.prog 91 ⟨.struct [(84, 0), (90, 0)], 2, 8, [.one (.int .i32 0), .one (.w32 0)]⟩ := ⟨by kernel_rfl, show _ = _ by kernel_rfl, by kernel_rfl, by kernel_rfl, by kernel_rfl⟩
theorem td_92 : TdOk Try.prog 92 ⟨.struct [(84, 0), (90, 0)], 2, 8, [.one (.int .i32 0), .one (.w32 0)]⟩ := ⟨by kernel_rfl, show _ = _ by kernel_rfl, by kernel_rfl, by kernel_rfl, by kernel_rfl⟩
theorem td_93 : TdOk Try.prog 93 ⟨.struct [(84, 0), (88, 0), (92, 1)], 3, 12, [.one (.w32 0), .one (.int .i32 0), .one (.w32 0)]⟩ := ⟨by kernel_rfl, show _ = _ by kernel_rfl, by kernel_rfl, by kernel_rfl, by kernel_rfl⟩
theorem td_94 : TdOk Try.prog 94 ⟨.struct [(84, 0), (88, 0), (92, 1)], 3, 12, [.one (.w32 0), .one (.int .i32 0), .one (.w32 0)]⟩ := ⟨by kernel_rfl, show _ = _ by kernel_rfl, by kernel_rfl, by kernel_rfl, by kernel_rfl⟩
theorem td_95 : TdOk Try.prog 95 ⟨.array 8 86, 8, 32, [.row 8 (fun _ => .w32 0)]⟩ := ⟨by kernel_rfl, show _ = _ by kernel_rfl, by kernel_rfl, by kernel_rfl, by kernel_rfl⟩
theorem td_96 : TdOk Try.prog 96 ⟨.array 64 86, 64, 256, [.row 64 (fun _ => .w32 0)]⟩ := ⟨by kernel_rfl, show _ = _ by kernel_rfl, by kernel_rfl, by kernel_rfl, by kernel_rfl⟩
theorem td_97 : TdOk Try.prog 97 ⟨.struct [(94, 0), (95, 3), (96, 11)], 75, 300, [.one (.w32 0), .one (.int .i32 0), .one (.w32 0), .row 8 (fun _ => .w32 0), .row 64 (fun _ => .w32 0)]⟩ := ⟨by kernel_rfl, show _ = _ by kernel_rfl, by kernel_rfl, by kernel_rfl, by kernel_rfl⟩
theorem td_98 : TdOk Try.prog 98 ⟨.struct [(94, 0), (95, 3), (96, 11)], 75, 300, [.one (.w32 0), .one (.int .i32 0), .one (.w32 0), .row 8 (fun _ => .w32 0), .row 64 (fun _ => .w32 0)]⟩ := ⟨by kernel_rfl, show _ = _ by kernel_rfl, by kernel_rfl, by kernel_rfl, by kernel_rfl⟩
theorem td_99 : TdOk Try.prog 99 ⟨.slice 86, 1, 24, [.one (.slc none 0 0)]⟩ := ⟨by kernel_rfl, show _ = _ by kernel_rfl, by kernel_rfl, by kernel_rfl, by kernel_rfl⟩
theorem td_100 : TdOk Try.prog 100 ⟨.fn, 1, 8, [.one (.nilFn)]⟩ := ⟨by kernel_rfl, show _ = _ by kernel_rfl, by kernel_rfl, by kernel_rfl, by kernel_rfl⟩
theorem td_101 : TdOk Try.prog 101 ⟨.fn, 1, 8, [.one (.nilFn)]⟩ := ⟨by kernel_rfl, show _ = _ by kernel_rfl, by kernel_rfl, by kernel_rfl, by kernel_rfl⟩
theorem td_102 : TdOk Try.prog 102 ⟨.int .u64, 1, 8, [.one (.w64 0)]⟩ := ⟨by kernel_rfl, show _ = _ by kernel_rfl, by kernel_rfl, by kernel_rfl, by kernel_rfl⟩
theorem td_103 : TdOk Try.prog 103 ⟨.array 64 5, 64, 64, [.row 64 (fun _ => .w8 0)]⟩ := ⟨by kernel_rfl, show _ = _ by kernel_rfl, by kernel_rfl, by kernel_rfl, by kernel_rfl⟩
theorem td_104 : TdOk Try.prog 104 ⟨.struct [(25, 0), (95, 1), (103, 9), (3, 73), (74, 74)], 75, 120, [.one (.ptr none), .row 8 (fun _ => .w32 0), .row 64 (fun _ => .w8 0), .one (.int .i64 0), .one (.w64 0)]⟩ := ⟨by kernel_rfl, show _ = _ by kernel_rfl, by kernel_rfl, by kernel_rfl, by kernel_rfl⟩
theorem td_105 : TdOk Try.prog 105 ⟨.struct [(25, 0), (95, 1), (103, 9), (3, 73), (74, 74)], 75, 120, [.one (.ptr none), .row 8 (fun _ => .w32 0), .row 64 (fun _ => .w8 0), .one (.int .i64 0), .one (.w64 0)]⟩ := ⟨by kernel_rfl, show _ = _ by kernel_rfl, by kernel_rfl, by kernel_rfl, by kernel_rfl⟩
theorem td_106 : TdOk Try.prog 106 ⟨.fn, 1, 8, [.one (.nilFn)]⟩ := ⟨by kernel_rfl, show _ = _ by kernel_rfl, by kernel_rfl, by kernel_rfl, by kernel_rfl⟩
theorem td_107 : TdOk Try.prog 107 ⟨.fn, 1, 8, [.one (.nilFn)]⟩ := ⟨by kernel_rfl, show _ = _ by kernel_rfl, by kernel_rfl, by kernel_rfl, by kernel_rfl⟩
theorem td_108 : TdOk Try.prog 108 ⟨.fn, 1, 8, [.one (.nilFn)]⟩ := ⟨by kernel_rfl, show _ = _ by kernel_rfl, by kernel_rfl, by kernel_rfl, by kernel_rfl⟩
theorem td_109 : TdOk Try.prog 109 ⟨.struct [(98, 0)], 75, 300, [.one (.w32 0), .one (.int .i32 0), .one (.w32 0), .row 8 (fun _ => .w32 0), .row 64 (fun _ => .w32 0)]⟩ := ⟨by kernel_rfl, show _ = _ by kernel_rfl, by kernel_rfl, by kernel_rfl, by kernel_rfl⟩
theorem td_110 : TdOk Try.prog 110 ⟨.struct [(98, 0)], 75, 300, [.one (.w32 0), .one (.int .i32 0), .one (.w32 0), .row 8 (fun _ => .w32 0), .row 64 (fun _ => .w32 0)]⟩ := ⟨by kernel_rfl, show _ = _ by kernel_rfl, by kernel_rfl, by kernel_rfl, by kernel_rfl⟩
theorem td_111 : TdOk Try.prog 111 ⟨.fn, 1, 8, [.one (.nilFn)]⟩ := ⟨by kernel_rfl, show _ = _ by kernel_rfl, by kernel_rfl, by kernel_rfl, by kernel_rfl⟩
theorem td_112 : TdOk Try.prog 112 ⟨.struct [(74, 0), (74, 1)], 2, 16, [.one (.w64 0), .one (.w64 0)]⟩ := ⟨by kernel_rfl, show _ = _ by kernel_rfl, by kernel_rfl, by kernel_rfl, by kernel_rfl⟩
theorem td_113 : TdOk Try.prog 113 ⟨.struct [(74, 0), (74, 1)], 2, 16, [.one (.w64 0), .one (.w64 0)]⟩ := ⟨by kernel_rfl, show _ = _ by kernel_rfl, by kernel_rfl, by kernel_rfl, by kernel_rfl⟩
theorem td_114 : TdOk Try.prog 114 ⟨.fn, 1, 8, [.one (.nilFn)]⟩ := ⟨by kernel_rfl, show _ = _ by kernel_rfl, by kernel_rfl, by kernel_rfl, by kernel_rfl⟩
theorem td_115 : TdOk Try.prog 115 ⟨.fn, 1, 8, [.one (.nilFn)]⟩ := ⟨by kernel_rfl, show _ = _ by kernel_rfl, by kernel_rfl, by kernel_rfl, by kernel_rfl⟩
theorem td_116 : TdOk Try.prog 116 ⟨.struct [(70, 0), (113, 1)], 3, 24, [.one (.ptr none), .one (.w64 0), .one (.w64 0)]⟩ := ⟨by kernel_rfl, show _ = _ by kernel_rfl, by kernel_rfl, by kernel_rfl, by kernel_rfl⟩
theorem td_117 : TdOk Try.prog 117 ⟨.struct [(70, 0), (113, 1)], 3, 24, [.one (.ptr none), .one (.w64 0), .one (.w64 0)]⟩ := ⟨by kernel_rfl, show _ = _ by kernel_rfl, by kernel_rfl, by kernel_rfl, by kernel_rfl⟩
theorem td_118 : TdOk Try.prog 118 ⟨.array 256 5, 256, 256, [.row 256 (fun _ => .w8 0)]⟩ := ⟨by kernel_rfl, show _ = _ by kernel_rfl, by kernel_rfl, by kernel_rfl, by kernel_rfl⟩
theorem td_119 : TdOk Try.prog 119 ⟨.struct [], 0, 0, []⟩ := ⟨by kernel_rfl, show _ = _ by kernel_rfl, by kernel_rfl, by kernel_rfl, by kernel_rfl⟩
theorem td_120 : TdOk Try.prog 120 ⟨.struct [(85, 0), (119, 0), (2, 0)], 1, 8, [.one (.int .i64 0)]⟩ := ⟨by kernel_rfl, show _ = _ by kernel_rfl, by kernel_rfl, by kernel_rfl, by kernel_rfl⟩
theorem td_121 : TdOk Try.prog 121 ⟨.struct [(85, 0), (119, 0), (2, 0)], 1, 8, [.one (.int .i64 0)]⟩ := ⟨by kernel_rfl, show _ = _ by kernel_rfl, by kernel_rfl, by kernel_rfl, by kernel_rfl⟩
theorem td_122 : TdOk Try.prog 122 ⟨.struct [(94, 0), (118, 3), (121, 259)], 260, 280, [.one (.w32 0), .one (.int .i32 0), .one (.w32 0), .row 256 (fun _ => .w8 0), .one (.int .i64 0)]⟩ := ⟨by kernel_rfl, show _ = _ by kernel_rfl, by kernel_rfl, by kernel_rfl, by kernel_rfl⟩
theorem td_123 : TdOk Try.prog 123 ⟨.struct [(94, 0), (118, 3), (121, 259)], 260, 280, [.one (.w32 0), .one (.int .i32 0), .one (.w32 0), .row 256 (fun _ => .w8 0), .one (.int .i64 0)]⟩ := ⟨by kernel_rfl, show _ = _ by kernel_rfl, by kernel_rfl, by kernel_rfl, by kernel_rfl⟩
theorem td_124 : TdOk Try.prog 124 ⟨.fn, 1, 8, [.one (.nilFn)]⟩ := ⟨by kernel_rfl, show _ = _ by kernel_rfl, by kernel_rfl, by kernel_rfl, by kernel_rfl⟩
theorem td_125 : TdOk Try.prog 125 ⟨.fn, 1, 8, [.one (.nilFn)]⟩ := ⟨by kernel_rfl, show _ = _ by kernel_rfl, by kernel_rfl, by kernel_rfl, by kernel_rfl⟩
theorem td_126 : TdOk Try.prog 126 ⟨.fn, 1, 8, [.one (.nilFn)]⟩ := ⟨by kernel_rfl, show _ = _ by kernel_rfl, by kernel_rfl, by kernel_rfl, by kernel_rfl⟩
theorem td_127 : TdOk Try.prog 127 ⟨.fn, 1, 8, [.one (.nilFn)]⟩ := ⟨by kernel_rfl, show _ = _ by kernel_rfl, by kernel_rfl, by kernel_rfl, by kernel_rfl⟩
theorem td_128 : TdOk Try.prog 128 ⟨.struct [(37, 0), (58, 1)], 2, 16, [.one (.ptr none), .one (.ptr none)]⟩ := ⟨by kernel_rfl, show _ = _ by kernel_rfl, by kernel_rfl, by kernel_rfl, by kernel_rfl⟩
theorem td_129 : TdOk Try.prog 129 ⟨.struct [(37, 0), (58, 1)], 2, 16, [.one (.ptr none), .one (.ptr none)]⟩ := ⟨by kernel_rfl, show _ = _ by kernel_rfl, by kernel_rfl, by kernel_rfl, by kernel_rfl⟩
theorem td_130 : TdOk Try.prog 130 ⟨.fn, 1, 8, [.one (.nilFn)]⟩ := ⟨by kernel_rfl, show _ = _ by kernel_rfl, by kernel_rfl, by kernel_rfl, by kernel_rfl⟩
theorem td_131 : TdOk Try.prog 131 ⟨.fn, 1, 8, [.one (.nilFn)]⟩ := ⟨by kernel_rfl, show _ = _ by kernel_rfl, by kernel_rfl, by kernel_rfl, by kernel_rfl⟩
theorem td_132 : TdOk Try.prog 132 ⟨.fn, 1, 8, [.one (.nilFn)]⟩ := ⟨by kernel_rfl, show _ = _ by kernel_rfl, by kernel_rfl, by kernel_rfl, by kernel_rfl⟩
theorem td_133 : TdOk Try.prog 133 ⟨.fn, 1, 8, [.one (.nilFn)]⟩ := ⟨by kernel_rfl, show _ = _ by kernel_rfl, by kernel_rfl, by kernel_rfl, by kernel_rfl⟩
theorem td_134 : TdOk Try.prog 134 ⟨.ptr 105, 1, 8, [.one (.ptr none)]⟩ := ⟨by kernel_rfl, show _ = _ by kernel_rfl, by kernel_rfl, by kernel_rfl, by kernel_rfl⟩
theorem td_135 : TdOk Try.prog 135 ⟨.array 11 53, 176, 176, [.row 176 (fun _ => .w8 0)]⟩ := ⟨by kernel_rfl, show _ = _ by kernel_rfl, by kernel_rfl, by kernel_rfl, by kernel_rfl⟩
theorem td_136 : TdOk Try.prog 136 ⟨.struct [(58, 0), (135, 1)], 177, 184, [.one (.ptr none), .row 176 (fun _ => .w8 0)]⟩ := ⟨by kernel_rfl, show _ = _ by kernel_rfl, by kernel_rfl, by kernel_rfl, by kernel_rfl⟩
theorem td_137 : TdOk Try.prog 137 ⟨.struct [(58, 0), (135, 1)], 177, 184, [.one (.ptr none), .row 176 (fun _ => .w8 0)]⟩ := ⟨by kernel_rfl, show _ = _ by kernel_rfl, by kernel_rfl, by kernel_rfl, by kernel_rfl⟩
theorem td_138 : TdOk Try.prog 138 ⟨.ptr 53, 1, 8, [.one (.ptr none)]⟩ := ⟨by kernel_rfl, show _ = _ by kernel_rfl, by kernel_rfl, by kernel_rfl, by kernel_rfl⟩
theorem td_139 : TdOk Try.prog 139 ⟨.fn, 1, 8, [.one (.nilFn)]⟩ := ⟨by kernel_rfl, show _ = _ by kernel_rfl, by kernel_rfl, by kernel_rfl, by kernel_rfl⟩
theorem td_140 : TdOk Try.prog 140 ⟨.fn, 1, 8, [.one (.nilFn)]⟩ := ⟨by kernel_rfl, show _ = _ by kernel_rfl, by kernel_rfl, by kernel_rfl, by kernel_rfl⟩
theorem td_141 : TdOk Try.prog 141 ⟨.fn, 1, 8, [.one (.nilFn)]⟩ := ⟨by kernel_rfl, show _ = _ by kernel_rfl, by kernel_rfl, by kernel_rfl, by kernel_rfl⟩
theorem td_142 : TdOk Try.prog 142 ⟨.fn, 1, 8, [.one (.nilFn)]⟩ := ⟨by kernel_rfl, show _ = _ by kernel_rfl, by kernel_rfl, by kernel_rfl, by kernel_rfl⟩
theorem td_143 : TdOk Try.prog 143 ⟨.fn, 1, 8, [.one (.nilFn)]⟩ := ⟨by kernel_rfl, show _ = _ by kernel_rfl, by kernel_rfl, by kernel_rfl, by kernel_rfl⟩
theorem td_144 : TdOk Try.prog 144 ⟨.fn, 1, 8, [.one (.nilFn)]⟩ := ⟨by kernel_rfl, show _ = _ by kernel_rfl, by kernel_rfl, by kernel_rfl, by kernel_rfl⟩
theorem td_145 : TdOk Try.prog 145 ⟨.fn, 1, 8, [.one (.nilFn)]⟩ := ⟨by kernel_rfl, show _ = _ by kernel_rfl, by kernel_rfl, by kernel_rfl, by kernel_rfl⟩
theorem td_146 : TdOk Try.prog 146 ⟨.ptr 94, 1, 8, [.one (.ptr none)]⟩ := ⟨by kernel_rfl, show _ = _ by kernel_rfl, by kernel_rfl, by kernel_rfl, by kernel_rfl⟩
theorem td_147 : TdOk Try.prog 147 ⟨.fn, 1, 8, [.one (.nilFn)]⟩ := ⟨by kernel_rfl, show _ = _ by kernel_rfl, by kernel_rfl, by kernel_rfl, by kernel_rfl⟩
theorem td_148 : TdOk Try.prog 148 ⟨.fn, 1, 8, [.one (.nilFn)]⟩ := ⟨by kernel_rfl, show _ = _ by kernel_rfl, by kernel_rfl, by kernel_rfl, by kernel_rfl⟩
theorem td_149 : TdOk Try.prog 149 ⟨.fn, 1, 8, [.one (.nilFn)]⟩ := ⟨by kernel_rfl, show _ = _ by kernel_rfl, by kernel_rfl, by kernel_rfl, by kernel_rfl⟩
theorem td_150 : TdOk Try.prog 150 ⟨.ptr 121, 1, 8, [.one (.ptr none)]⟩ := ⟨by kernel_rfl, show _ = _ by kernel_rfl, by kernel_rfl, by kernel_rfl, by kernel_rfl⟩
theorem td_151 : TdOk Try.prog 151 ⟨.fn, 1, 8, [.one (.nilFn)]⟩ := ⟨by kernel_rfl, show _ = _ by kernel_rfl, by kernel_rfl, by kernel_rfl, by kernel_rfl⟩
theorem td_152 : TdOk Try.prog 152 ⟨.ptr 2, 1, 8, [.one (.ptr none)]⟩ := ⟨by kernel_rfl, show _ = _ by kernel_rfl, by kernel_rfl, by kernel_rfl, by kernel_rfl⟩
theorem td_153 : TdOk Try.prog 153 ⟨.fn, 1, 8, [.one (.nilFn)]⟩ := ⟨by kernel_rfl, show _ = _ by kernel_rfl, by kernel_rfl, by kernel_rfl, by kernel_rfl⟩
theorem td_154 : TdOk Try.prog 154 ⟨.ptr 88, 1, 8, [.one (.ptr none)]⟩ := ⟨by kernel_rfl, show _ = _ by kernel_rfl, by kernel_rfl, by kernel_rfl, by kernel_rfl⟩
theorem td_155 : TdOk Try.prog 155 ⟨.fn, 1, 8, [.one (.nilFn)]⟩ := ⟨by kernel_rfl, show _ = _ by kernel_rfl, by kernel_rfl, by kernel_rfl, by kernel_rfl⟩
theorem td_156 : TdOk Try.prog 156 ⟨.ptr 86, 1, 8, [.one (.ptr none)]⟩ := ⟨by kernel_rfl, show _ = _ by kernel_rfl, by kernel_rfl, by kernel_rfl, by kernel_rfl⟩
theorem td_157 : TdOk Try.prog 157 ⟨.fn, 1, 8, [.one (.nilFn)]⟩ := ⟨by kernel_rfl, show _ = _ by kernel_rfl, by kernel_rfl, by kernel_rfl, by kernel_rfl⟩
theorem td_159 : TdOk Try.prog 159 ⟨.fn, 1, 8, [.one (.nilFn)]⟩ := ⟨by kernel_rfl, show _ = _ by kernel_rfl, by kernel_rfl, by kernel_rfl, by kernel_rfl⟩
theorem td_160 : TdOk Try.prog 160 ⟨.ptr 92, 1, 8, [.one (.ptr none)]⟩ := ⟨by kernel_rfl, show _ = _ by kernel_rfl, by kernel_rfl, by kernel_rfl, by kernel_rfl⟩
theorem td_161 : TdOk Try.prog 161 ⟨.fn, 1, 8, [.one (.nilFn)]⟩ := ⟨by kernel_rfl, show _ = _ by kernel_rfl, by kernel_rfl, by kernel_rfl, by kernel_rfl⟩
theorem td_162 : TdOk Try.prog 162 ⟨.fn, 1, 8, [.one (.nilFn)]⟩ := ⟨by kernel_rfl, show _ = _ by kernel_rfl, by kernel_rfl, by kernel_rfl, by kernel_rfl⟩
theorem td_163 : TdOk Try.prog 163 ⟨.ptr 90, 1, 8, [.one (.ptr none)]⟩ := ⟨by kernel_rfl, show _ = _ by kernel_rfl, by kernel_rfl, by kernel_rfl, by kernel_rfl⟩
theorem td_164 : TdOk Try.prog 164 ⟨.fn, 1, 8, [.one (.nilFn)]⟩ := ⟨by kernel_rfl, show _ = _ by kernel_rfl, by kernel_rfl, by kernel_rfl, by kernel_rfl⟩
theorem td_165 : TdOk Try.prog 165 ⟨.ptr 21, 1, 8, [.one (.ptr none)]⟩ := ⟨by kernel_rfl, show _ = _ by kernel_rfl, by kernel_rfl, by kernel_rfl, by kernel_rfl⟩
theorem td_166 : TdOk Try.prog 166 ⟨.fn, 1, 8, [.one (.nilFn)]⟩ := ⟨by kernel_rfl, show _ = _ by kernel_rfl, by kernel_rfl, by kernel_rfl, by kernel_rfl⟩
theorem td_168 : TdOk Try.prog 168 ⟨.fn, 1, 8, [.one (.nilFn)]⟩ := ⟨by kernel_rfl, show _ = _ by kernel_rfl, by kernel_rfl, by kernel_rfl, by kernel_rfl⟩
theorem td_169 : TdOk Try.prog 169 ⟨.fn, 1, 8, [.one (.nilFn)]⟩ := ⟨by kernel_rfl, show _ = _ by kernel_rfl, by kernel_rfl, by kernel_rfl, by kernel_rfl⟩
theorem td_170 : TdOk Try.prog 170 ⟨.fn, 1, 8, [.one (.nilFn)]⟩ := ⟨by kernel_rfl, show _ = _ by kernel_rfl, by kernel_rfl, by kernel_rfl, by kernel_rfl⟩
theorem td_171 : TdOk Try.prog 171 ⟨.fn, 1, 8, [.one (.nilFn)]⟩ := ⟨by kernel_rfl, show _ = _ by kernel_rfl, by kernel_rfl, by kernel_rfl, by kernel_rfl⟩
theorem td_172 : TdOk Try.prog 172 ⟨.fn, 1, 8, [.one (.nilFn)]⟩ := ⟨by kernel_rfl, show _ = _ by kernel_rfl, by kernel_rfl, by kernel_rfl, by kernel_rfl⟩
theorem td_173 : TdOk Try.prog 173 ⟨.fn, 1, 8, [.one (.nilFn)]⟩ := ⟨by kernel_rfl, show _ = _ by kernel_rfl, by kernel_rfl, by kernel_rfl, by kernel_rfl⟩
theorem td_174 : TdOk Try.prog 174 ⟨.fn, 1, 8, [.one (.nilFn)]⟩ := ⟨by kernel_rfl, show _ = _ by kernel_rfl, by kernel_rfl, by kernel_rfl, by kernel_rfl⟩
theorem td_175 : TdOk Try.prog 175 ⟨.struct [(17, 0), (17, 1), (17, 2), (9, 3)], 4, 40, [.one (.ptr none), .one (.ptr none), .one (.ptr none), .one (.str [])]⟩ := ⟨by kernel_rfl, show _ = _ by kernel_rfl, by kernel_rfl, by kernel_rfl, by kernel_rfl⟩
theorem td_176 : TdOk Try.prog 176 ⟨.struct [(17, 0), (17, 1), (17, 2), (9, 3)], 4, 40, [.one (.ptr none), .one (.ptr none), .one (.ptr none), .one (.str [])]⟩ := ⟨by kernel_rfl, show _ = _ by kernel_rfl, by kernel_rfl, by kernel_rfl, by kernel_rfl⟩
theorem td_177 : TdOk Try.prog 177 ⟨.array 0 16, 0, 0, [.row 0 (fun _ => .ptr none)]⟩ := ⟨by kernel_rfl, show _ = _ by kernel_rfl, by kernel_rfl, by kernel_rfl, by kernel_rfl⟩
theorem td_178 : TdOk Try.prog 178 ⟨.struct [(177, 0)], 0, 0, [.row 0 (fun _ => .ptr none)]⟩ := ⟨by kernel_rfl, show _ = _ by kernel_rfl, by kernel_rfl, by kernel_rfl, by kernel_rfl⟩
theorem td_179 : TdOk Try.prog 179 ⟨.struct [(177, 0)], 0, 0, [.row 0 (fun _ => .ptr none)]⟩ := ⟨by kernel_rfl, show _ = _ by kernel_rfl, by kernel_rfl, by kernel_rfl, by kernel_rfl⟩
theorem td_180 : TdOk Try.prog 180 ⟨.fn, 1, 8, [.one (.nilFn)]⟩ := ⟨by kernel_rfl, show _ = _ by kernel_rfl, by kernel_rfl, by kernel_rfl, by kernel_rfl⟩
theorem td_181 : TdOk Try.prog 181 ⟨.int .u8, 1, 1, [.one (.w8 0)]⟩ := ⟨by kernel_rfl, show _ = _ by kernel_rfl, by kernel_rfl, by kernel_rfl, by kernel_rfl⟩
theorem td_182 : TdOk Try.prog 182 ⟨.int .u8, 1, 1, [.one (.w8 0)]⟩ := ⟨by kernel_rfl, show _ = _ by kernel_rfl, by kernel_rfl, by kernel_rfl, by kernel_rfl⟩
theorem td_183 : TdOk Try.prog 183 ⟨.fn, 1, 8, [.one (.nilFn)]⟩ := ⟨by kernel_rfl, show _ = _ by kernel_rfl, by kernel_rfl, by kernel_rfl, by kernel_rfl⟩
theorem td_184 : TdOk Try.prog 184 ⟨.ptr 5, 1, 8, [.one (.ptr none)]⟩ := ⟨by kernel_rfl, show _ = _ by kernel_rfl, by kernel_rfl, by kernel_rfl, by kernel_rfl⟩
theorem td_185 : TdOk Try.prog 185 ⟨.int .i32, 1, 4, [.one (.int .i32 0)]⟩ := ⟨by kernel_rfl, show _ = _ by kernel_rfl, by kernel_rfl, by kernel_rfl, by kernel_rfl⟩
theorem td_186 : TdOk Try.prog 186 ⟨.int .i32, 1, 4, [.one (.int .i32 0)]⟩ := ⟨by kernel_rfl, show _ = _ by kernel_rfl, by kernel_rfl, by kernel_rfl, by kernel_rfl⟩
theorem td_187 : TdOk Try.prog 187 ⟨.struct [(12, 0), (12, 1), (86, 2), (181, 3), (5, 4), (5, 5), (182, 6), (183, 7), (184, 8), (185, 9), (186, 10)], 11, 48, [.one (.w64 0), .one (.w64 0), .one (.w32 0), .one (.w8 0), .one (.w8 0), .one (.w8 0), .one (.w8 0), .one (.nilFn), .one (.ptr none), .one (.int .i32 0), .one (.int .i32 0)]⟩ := ⟨by kernel_rfl, show _ = _ by kernel_rfl, by kernel_rfl, by kernel_rfl, by kernel_rfl⟩
theorem td_188 : TdOk Try.prog 188 ⟨.struct [(12, 0), (12, 1), (86, 2), (181, 3), (5, 4), (5, 5), (182, 6), (183, 7), (184, 8), (185, 9), (186, 10)], 11, 48, [.one (.w64 0), .one (.w64 0), .one (.w32 0), .one (.w8 0), .one (.w8 0), .one (.w8 0), .one (.w8 0), .one (.nilFn), .one (.ptr none), .one (.int .i32 0), .one (.int .i32 0)]⟩ := ⟨by kernel_rfl, show _ = _ by kernel_rfl, by kernel_rfl, by kernel_rfl, by kernel_rfl⟩
theorem tds_ok : AllT Try.prog tds := ⟨td_1, td_2, td_3, td_4, td_5, td_6, td_7, td_8, td_9, td_10, td_11, td_12, td_13, td_14, td_15, td_16, td_17, td_18, td_19, td_20, td_21, td_22, td_23, td_24, td_25, td_26, td_27, td_28, td_29, td_30, td_31, td_32, td_33, td_34, td_35, td_36, td_37, td_38, td_39, td_41, td_42, td_43, td_44, td_45, td_46, td_47, td_48, td_49, td_50, td_51, td_52, td_53, td_54, td_55, td_56, td_57, td_58, td_59, td_60, td_61, td_62, td_63, td_64, td_65, td_67, td_68, td_69, td_70, td_71, td_72, td_73, td_74, td_75, td_76, td_77, td_78, td_79, td_80, td_81, td_82, td_83, td_84, td_85, td_86, td_87, td_88, td_89, td_90, td_91, td_92, td_93, td_94, td_95, td_96, td_97, td_98, td_99, td_100, td_101, td_102, td_103, td_104, td_105, td_106, td_107, td_108, td_109, td_110, td_111, td_112, td_113, td_114, td_115, td_116, td_117, td_118, td_119, td_120, td_121, td_122, td_123, td_124, td_125, td_126, td_127, td_128, td_129, td_130, td_131, td_132, td_133, td_134, td_135, td_136, td_137, td_138, td_139, td_140, td_141, td_142, td_143, td_144, td_145, td_146, td_147, td_148, td_149, td_150, td_151, td_152, td_153, td_154, td_155, td_156, td_157, td_159, td_160, td_161, td_162, td_163, td_164, td_165, td_166, td_168, td_169, td_170, td_171, td_172, td_173, td_174, td_175, td_176, td_177, td_178, td_179, td_180, td_181, td_182, td_183, td_184, td_185, td_186, td_187, td_188, trivial⟩
end Sx
end Go.Proofs.Ytndlhhhebijknaa
end

section
/-
  sync.Once of one goroutine, its lock free: what is called, once; atomic numbers. No condition.
-/
namespace Go.Proofs.Ytndlhhhebijknaa
set_option linter.unusedVariables false
open Go.RowKit

theorem run_enter {P : Program} {g : FuncId} (h : ((P.funcs[g]?).any fun fn => fn.body.isSome && fn.name != "runtime.NumGoroutine") = true) (vs : Array Value) (w : World) : (callFunc g vs).run P w = .ok (.enter g vs) w := by
  obtain ⟨fn, hfn, hb⟩ : ∃ fn, P.funcs[g]? = some fn ∧ (fn.body.isSome && fn.name != "runtime.NumGoroutine") = true := by
    cases e : P.funcs[g]? with
    | none => rw [e] at h; cases h
    | some fn => rw [e] at h; exact ⟨fn, rfl, h⟩
  simp only [Bool.and_eq_true, bne_iff_ne] at hb
  have h1 : (fn.name == "runtime.NumGoroutine") = false := by simpa using hb.2
  have h2 : fn.body.isNone = false := by
    cases e : fn.body with
    | none => rw [e] at hb; exact absurd hb.1 (by simp)
    | some b => rfl
  simp only [callFunc, Sem.run_bind, run_program, hfn, Result.andThen_ok, h1, h2, Bool.false_eq_true, if_false]
  rfl
theorem wrap64 {n : Int} (h : -9223372036854775808 ≤ n ∧ n ≤ 9223372036854775807) : IntKind.i64.wrap n = n := by
  unfold IntKind.wrap IntKind.bits IntKind.signed
  simp only [Bool.true_and, decide_eq_true_eq]
  have h2 : ((2 : Int) ^ 64) = 18446744073709551616 := by decide
  have h3 : ((2 : Int) ^ (64 - 1)) = 9223372036854775808 := by decide
  rw [h2, h3]
  split <;> omega
theorem run_add_i64 {P : Program} {n : Int} (h : -9223372036854775808 ≤ n + 1 ∧ n + 1 ≤ 9223372036854775807) (w : World) : (Op.intArith .add .i64 n 1).run P w = .ok (.int .i64 (n + 1)) w := by
  simp [Op.intArith, pure, wrap64 h]
theorem disable (w : World) : (callFunc 100 #[]).run Try.prog w = .ok (.value (.tuple #[])) w := run_call_mark0 Try.func100 (by kernel_rfl) (by kernel_rfl) (by kernel_rfl) .disable (by kernel_rfl) w
theorem enable (w : World) : (callFunc 102 #[]).run Try.prog w = .ok (.value (.tuple #[])) w := run_call_mark0 Try.func102 (by kernel_rfl) (by kernel_rfl) (by kernel_rfl) .enable (by kernel_rfl) w
theorem acquire (a : Addr) (w : World) : (callFunc 103 #[.pointer (some a)]).run Try.prog w = .ok (.value (.tuple #[])) w := run_call_marked Try.func103 (by kernel_rfl) (by kernel_rfl) (by kernel_rfl) .acquire (by kernel_rfl) a w
theorem releaseMerge (a : Addr) (w : World) : (callFunc 105 #[.pointer (some a)]).run Try.prog w = .ok (.value (.tuple #[])) w := run_call_marked Try.func105 (by kernel_rfl) (by kernel_rfl) (by kernel_rfl) .releaseMerge (by kernel_rfl) a w

theorem store_deferred (a : Addr) (x : Value) (u : FrameMode) (w : World) (hc : w.cell? a = some x) (hz : w.frozen? a = false) :
    CallsD Try.prog 94 #[.pointer (some a), .bool true] u w fun e u' w' => u' = u ∧ (e = .returned (.tuple #[]) ∧ w' = w.drew.setCell a (.int .u32 1)) := by
  have hc' : w.drew.cell? a = some x := by go_simp
  have hz' : w.drew.frozen? a = false := by go_simp
  have hst := run_call_store (P := Try.prog) Try.func98 (by kernel_rfl) (by kernel_rfl) (by kernel_rfl) (by kernel_rfl) (k := .u32) (y := 1) hc' hz'
  go_enter_d Try.func94, Try.ntmps94
  go_wp2
  go_region_calls
  all_goals (go_end0; exact ⟨rfl, rfl⟩)

set_option maxRecDepth 100000 in
theorem unlock_deferred (a : Addr) (u : FrameMode) (w : World) (hc : w.cell? a = some (.int .i32 1)) (hz : w.frozen? a = false) :
    CallsD Try.prog 93 #[.pointer (some a)] u w fun e u' w' => u' = u ∧ (e = .returned (.tuple #[]) ∧ w' = w.setCell a (.int .i32 0)) := by
  have hd := disable
  have he := enable
  have hr := releaseMerge
  have hadd := run_call_add (P := Try.prog) Try.func106 (by kernel_rfl) (by kernel_rfl) (by kernel_rfl) .i32 (by kernel_rfl) (y := -1) (s := 0) hc hz (by simp [go_sem]; rfl)
  have hcv := run_convert_to_unsafe (P := Try.prog) (src := 163) (dst := 167) Try.underlying163 Try.underlying167 (by kernel_rfl) hc
  go_enter_d Try.func93, Try.ntmps93
  go_wp2
  go_end0
  exact ⟨rfl, rfl⟩
set_option maxRecDepth 100000 in
theorem lock_free (a : Addr) (w : World) (hc : w.cell? a = some (.int .i32 0)) (hz : w.frozen? a = false) :
    Calls Try.prog 92 #[.pointer (some a)] w fun e w' => e = .returned (.tuple #[]) ∧ w' = w.setCell a (.int .i32 1) := by
  have hd := disable
  have he := enable
  have ha := acquire
  have hcas := run_call_cas_hit (P := Try.prog) Try.func101 (by kernel_rfl) (by kernel_rfl) (by kernel_rfl) .i32 (by kernel_rfl) (y := 1) hc hz
  have hc' : (w.setCell a (.int .i32 1)).cell? a = some (.int .i32 1) := World.cell?_setCell_same w a _ hc
  have hcv := run_convert_to_unsafe (P := Try.prog) (src := 163) (dst := 167) Try.underlying163 Try.underlying167 (by kernel_rfl) hc'
  go_enter Try.func92, Try.ntmps92
  go_wp2
  go_end0
  exact ⟨rfl, rfl⟩
theorem bool_load (a : Addr) (x : Int) (w : World) (hc : w.cell? a = some (.int .u32 x)) :
    Calls Try.prog 80 #[.pointer (some a)] w fun e w' => e = .returned (.bool (x != 0)) ∧ w' = w := by
  have hl := run_call_load (P := Try.prog) Try.func91 (by kernel_rfl) (by kernel_rfl) (by kernel_rfl) .u32 (by kernel_rfl) (w := w) (a := a) (x := x) hc
  go_enter Try.func80, Try.ntmps80
  go_wp2
  refine bodyPost_ret (results_tmp rfl _ _ _) rfl ?_
  exact ⟨rfl, rfl⟩
set_option maxRecDepth 100000 in
set_option maxHeartbeats 1600000 in
/-- What is handed to Do is called, the lock held; then the Once is done. -/
theorem slow_any (b off : Nat) (fv : Go.Fn) (x y : Array Value) (g : FuncId) (vs : Array Value) (R : World → Prop) (w : World) (hfv : fv = .func g) (hgb : ((Try.prog.funcs[g]?).any fun fn => fn.body.isSome && fn.name != "runtime.NumGoroutine") = true) (hvs : x ++ y = vs)
    (h0 : w.cell? ⟨b, off, none⟩ = some (.int .u32 0)) (h1 : w.cell? ⟨b, off + 1, none⟩ = some (.int .i32 0))
    (f0 : w.frozen? ⟨b, off, none⟩ = false) (f1 : w.frozen? ⟨b, off + 1, none⟩ = false)
    (hg : Calls Try.prog g vs (w.setCell ⟨b, off + 1, none⟩ (.int .i32 1)) fun e w1 => e = .returned (.tuple #[]) ∧ R w1)
    (hR : ∀ w1, R w1 → w1.cell? ⟨b, off, none⟩ = some (.int .u32 0) ∧ w1.cell? ⟨b, off + 1, none⟩ = some (.int .i32 1) ∧ w1.frozen? ⟨b, off, none⟩ = false ∧ w1.frozen? ⟨b, off + 1, none⟩ = false) :
    Calls Try.prog 81 #[.pointer (some ⟨b, off, none⟩), .func fv x y] w fun e w' => e = .returned (.tuple #[]) ∧
      ∃ w1, R w1 ∧ w' = (w1.drew.setCell ⟨b, off, none⟩ (.int .u32 1)).setCell ⟨b, off + 1, none⟩ (.int .i32 0) := by
  subst hfv
  subst hvs
  have hl := run_call_load (P := Try.prog) Try.func91 (by kernel_rfl) (by kernel_rfl) (by kernel_rfl) .u32 (by kernel_rfl) (w := w.setCell ⟨b, off + 1, none⟩ (.int .i32 1)) (a := ⟨b, off, none⟩) (x := 0) ((World.cell?_setCell_other _ ⟨b, off + 1, none⟩ ⟨b, off, none⟩ _ (by simp)).trans h0)
  have hnot : ∀ (x : Bool) (w : World), (Op.unary .not (.bool x)).run Try.prog w = .ok (.bool (!x)) w := fun _ _ => rfl
  go_enter_defers Try.func81, Try.ntmps81
  go_wp2_with (go_at_call 92; refine (lock_free ⟨b, off + 1, none⟩ _ (by go_simp) (by go_simp)).mono ?_; rintro e w' ⟨rfl, rfl⟩)
  go_at_call 80
  refine (bool_load ⟨b, off, none⟩ 0 _ ((World.cell?_setCell_other _ ⟨b, off + 1, none⟩ ⟨b, off, none⟩ _ (by simp)).trans h0)).mono ?_
  rintro e w' ⟨rfl, rfl⟩
  go_wp2
  rw [run_enter hgb, Oper.upon_enter]
  refine hg.mono ?_
  rintro e w1 ⟨rfl, hw1⟩
  obtain ⟨r0, r1, r2, r3⟩ := hR w1 hw1
  dsimp only
  go_wp2
  refine leaves_cons (f := 94) (args := #[.pointer (some ⟨b, off, none⟩), .bool true]) (by simp) (by simp [go_sem]) ?_
  refine (store_deferred ⟨b, off, none⟩ (.int .u32 0) .returning _ r0 r2).mono ?_
  rintro e u' w'' ⟨rfl, rfl, rfl⟩
  refine leaves_cons (f := 93) (args := #[.pointer (some ⟨b, off + 1, none⟩)]) (by simp [settle]) (by simp [go_sem]) ?_
  refine (unlock_deferred ⟨b, off + 1, none⟩ _ _ ?_ (by simp [r3])).mono ?_
  · refine (World.cell?_setCell_other _ ⟨b, off, none⟩ ⟨b, off + 1, none⟩ _ (by simp)).trans ?_
    rw [World.cell?_drew]
    exact r1
  rintro e u' w'' ⟨rfl, rfl, rfl⟩
  simp [Leaves, settle, results, Try.results81]
  exact ⟨w1, hw1, rfl⟩
end Go.Proofs.Ytndlhhhebijknaa
end

section
/-
  sync.Once's Do; a counter. No condition.
-/
namespace Go.Proofs.Ytndlhhhebijknaa
set_option linter.unusedVariables false
open Go.RowKit

set_option maxRecDepth 100000 in
theorem once_slow (b off : Nat) (v : Value) (w : World) (Post : Ending → World → Prop) (h0 : w.cell? ⟨b, off, none⟩ = some (.int .u32 0)) (h : Calls Try.prog 81 #[.pointer (some ⟨b, off, none⟩), v] w Post)
    (hp : ∀ e w', Post e w' → e = .returned (.tuple #[])) : Calls Try.prog 63 #[.pointer (some ⟨b, off, none⟩), v] w Post := by
  have hnot : ∀ (x : Bool) (w : World), (Op.unary .not (.bool x)).run Try.prog w = .ok (.bool (!x)) w := fun _ _ => rfl
  go_enter Try.func63, Try.ntmps63
  go_wp2_with fail
  refine (bool_load ⟨b, off, none⟩ 0 _ h0).mono ?_
  rintro e w' ⟨rfl, rfl⟩
  go_wp2_with fail
  refine h.mono ?_
  intro e w1 hw1
  obtain rfl := hp e w1 hw1
  dsimp only
  go_wp2_with fail
  go_end0
  exact hw1
set_option maxRecDepth 100000 in
theorem once_done (b off : Nat) (v : Value) (w : World) (h0 : w.cell? ⟨b, off, none⟩ = some (.int .u32 1)) :
    Calls Try.prog 63 #[.pointer (some ⟨b, off, none⟩), v] w fun e w' => e = .returned (.tuple #[]) ∧ w' = w := by
  have hnot : ∀ (x : Bool) (w : World), (Op.unary .not (.bool x)).run Try.prog w = .ok (.bool (!x)) w := fun _ _ => rfl
  go_enter Try.func63, Try.ntmps63
  go_wp2_with fail
  go_at_call 80
  refine (bool_load ⟨b, off, none⟩ 1 _ h0).mono ?_
  rintro e w' ⟨rfl, rfl⟩
  go_wp2_with fail
  go_end0
  exact ⟨rfl, rfl⟩
set_option maxRecDepth 100000 in
theorem i64_add (a : Addr) (n : Int) (w : World) (hc : w.cell? a = some (.int .i64 n)) (hz : w.frozen? a = false) (h : -9223372036854775808 ≤ n + 1 ∧ n + 1 ≤ 9223372036854775807) :
    Calls Try.prog 68 #[.pointer (some a), .int .i64 1] w fun e w' => e = .returned (.int .i64 (n + 1)) ∧ w' = w.setCell a (.int .i64 (n + 1)) := by
  have hadd := run_call_add (P := Try.prog) Try.func89 (by kernel_rfl) (by kernel_rfl) (by kernel_rfl) .i64 (by kernel_rfl) (y := 1) (s := n + 1) hc hz (run_add_i64 h w)
  go_enter Try.func68, Try.ntmps68
  go_wp2
  refine bodyPost_ret (results_tmp rfl _ _ _) rfl ?_
  exact ⟨rfl, rfl⟩
end Go.Proofs.Ytndlhhhebijknaa
end

section
/-
  sync.Once's Do as a function over blocks; counters. No condition.
-/
namespace Go.Proofs.Ytndlhhhebijknaa
set_option linter.unusedVariables false
namespace Sx
open Go.RowKit

section
variable {C : Cx} {r : Rho} {w : World} {B f : Nat}
theorem put_first {x y : SC} {l : List Seg} {v : Value} (ok : HeapOk C [.one x :: l] r w) (hr : r[0]? = some (B, f)) (hv : y.Is r v) (h0 : C.ro = 0) : HeapOk C [.one y :: l] r (w.setCell ⟨B, f, none⟩ v) := by
  obtain ⟨l', e, hp⟩ := putS_spec (new := [.one y]) (l := .one x :: l) (b := 0) (o := 0) (k := fun l' => l' = .one y :: l) rfl
  subst e
  exact ok.put hr (i := 0) rfl (by simp) hp (vs := [v]) ⟨rfl, fun j z e => by
    cases j with
    | zero => simp [flat] at e; subst e; exact ⟨v, rfl, hv⟩
    | succ j => simp [flat] at e⟩ (by omega)
theorem put_second {x y z : SC} {l : List Seg} {v : Value} (ok : HeapOk C [.one z :: .one x :: l] r w) (hr : r[0]? = some (B, f)) (hv : y.Is r v) (h0 : C.ro = 0) : HeapOk C [.one z :: .one y :: l] r (w.setCell ⟨B, f + 1, none⟩ v) := by
  obtain ⟨l', e, hp⟩ := putS_spec (new := [.one y]) (l := .one z :: .one x :: l) (b := 1) (o := 0) (k := fun l' => l' = .one z :: .one y :: l) rfl
  subst e
  exact ok.put hr (i := 0) rfl (by simp) hp (vs := [v]) ⟨rfl, fun j z e => by
    cases j with
    | zero => simp [flat] at e; subst e; exact ⟨v, rfl, hv⟩
    | succ j => simp [flat] at e⟩ (by omega)
end
/-- From another world on. -/
theorem HeapOk.rebase {P : Program} {T : List (Nat × TD)} {w w1 : World} {h h0 h1 : List (List Seg)} {r : Rho} (ok : HeapOk (cx0 P T w r 0 h0) h r w1) : HeapOk (cx0 P T w1 r 0 h1) h r w1 :=
  ⟨Ext.refl _ _, RLe.refl _, Nat.zero_le _, ok.len, ok.chunks, ok.lt, fun i B f ho h => .inl (mem_drop.2 ⟨i, f, ho, h⟩), fun i B f ho => absurd ho (Nat.not_lt_zero i), fun i ch ho => absurd ho (Nat.not_lt_zero i), ok.apart⟩
theorem HeapOk.onto {P : Program} {T : List (Nat × TD)} {w w1 w2 : World} {h h0 h1 : List (List Seg)} {r : Rho} (e : Ext (r.map (·.1)) w w1) (ok : HeapOk (cx0 P T w1 r 0 h1) h r w2) : HeapOk (cx0 P T w r 0 h0) h r w2 :=
  ⟨e.trans ok.ext, ok.agree, Nat.zero_le _, ok.len, ok.chunks, ok.lt, fun i B f ho h => .inl (mem_drop.2 ⟨i, f, ho, h⟩), fun i B f ho => absurd ho (Nat.not_lt_zero i), fun i ch ho => absurd ho (Nat.not_lt_zero i), ok.apart⟩
theorem is_at {C : Cx} {h : List (List Seg)} {r : Rho} {w : World} {B f : Nat} {l : List Seg} {x : SC} {j : Nat} (ok : HeapOk C h r w) (hr : r[0]? = some (B, f)) (hh : h[0]? = some l) (hx : (flat l)[j]? = some x) (h0 : C.ro = 0) :
    ∃ v, w.cell? ⟨B, f + j, none⟩ = some v ∧ x.Is r v ∧ w.frozen? ⟨B, f + j, none⟩ = false := by
  obtain ⟨v, e1, e2, e3⟩ := ok.chunks 0 l B f hh hr j x hx
  exact ⟨v, e1, e2, (e3 (by rw [h0]; rfl)).fr e1⟩
theorem len2' {α : Type} : ∀ {l : List α}, l.length = 2 → ∃ a b, l = [a, b]
  | [a, b], _ => ⟨a, b, rfl⟩
theorem fn_once {g : FuncId} (hgb : ((Try.prog.funcs[g]?).any fun fn => fn.body.isSome && fn.name != "runtime.NumGoroutine") = true) {rest rest' : List Seg}
    (hF : Go.Proofs.Ytndlhhhebijknaa.Sx.Fn Try.prog tds g [.one (.w32 0) :: .one (.int .i32 1) :: rest] [.c (.p 0 0 0)] (fun _ => True) (fun x hs => x = .tup [] ∧ hs = [.one (.w32 0) :: .one (.int .i32 1) :: rest'])) :
    Go.Proofs.Ytndlhhhebijknaa.Sx.Fn Try.prog tds 63 [.one (.w32 0) :: .one (.int .i32 0) :: rest] [.c (.p 0 0 0), .c (.clo g 0 0 0)] (fun _ => True) (fun x hs => x = .tup [] ∧ hs = [.one (.w32 1) :: .one (.int .i32 0) :: rest']) := by
  intro w r0 vs ok ha _
  obtain ⟨⟨B, f⟩, rfl⟩ := List.length_eq_one_iff.1 ok.len
  obtain ⟨hl, ha⟩ := ha
  obtain ⟨v0, v1, rfl⟩ := len2' hl.symm
  obtain ⟨u, hu, B0, f0, hr0, rfl⟩ := ha 0 _ rfl
  obtain ⟨u, hu1, B1, f1, hr1, rfl⟩ := ha 1 _ rfl
  simp at hu hu1 hr0 hr1
  obtain ⟨rfl, rfl⟩ := hr0
  obtain ⟨rfl, rfl⟩ := hr1
  subst hu
  subst hu1
  obtain ⟨_, c0, rfl, z0⟩ := is_at ok rfl rfl (j := 0) (x := .w32 0) rfl rfl
  obtain ⟨_, c1, rfl, z1⟩ := is_at ok rfl rfl (j := 1) (x := .int .i32 0) rfl rfl
  have ok1 := put_second (y := .int .i32 1) ok rfl (v := .int .i32 1) rfl rfl
  have hg := hF (w.setCell ⟨B, f + 1, none⟩ (.int .i32 1)) [(B, f)] [.pointer (some ⟨B, f, none⟩)] ok1.rebase ⟨rfl, fun j x e => by
    cases j with
    | zero => simp at e; subst e; exact ⟨_, rfl, B, f, rfl, rfl⟩
    | succ j => simp at e⟩ trivial
  let R : World → Prop := fun w2 => HeapOk (cx0 Try.prog tds (w.setCell ⟨B, f + 1, none⟩ (.int .i32 1)) [(B, f)] 0 [.one (.w32 0) :: .one (.int .i32 1) :: rest]) [.one (.w32 0) :: .one (.int .i32 1) :: rest'] [(B, f)] w2
  have hg2 : Calls Try.prog g #[.pointer (some ⟨B, f, none⟩)] (w.setCell ⟨B, f + 1, none⟩ (.int .i32 1)) fun e w2 => e = .returned (.tuple #[]) ∧ R w2 := by
    refine hg.mono ?_
    rintro e w2 ⟨v, x, hs, r', rfl, hx, hok, rfl, rfl⟩
    obtain ⟨vs, rfl, hl, _⟩ := hx
    obtain rfl : vs = [] := List.eq_nil_of_length_eq_zero hl.symm
    obtain ⟨y, rfl⟩ := List.length_eq_one_iff.1 hok.len
    have := hok.agree 0 (B, f) rfl
    simp at this
    subst this
    exact ⟨rfl, hok⟩
  have hR : ∀ w2, R w2 → w2.cell? ⟨B, f, none⟩ = some (.int .u32 0) ∧ w2.cell? ⟨B, f + 1, none⟩ = some (.int .i32 1) ∧ w2.frozen? ⟨B, f, none⟩ = false ∧ w2.frozen? ⟨B, f + 1, none⟩ = false := by
    intro w2 h
    obtain ⟨_, d0, rfl, y0⟩ := is_at h rfl rfl (j := 0) (x := .w32 0) rfl rfl
    obtain ⟨_, d1, rfl, y1⟩ := is_at h rfl rfl (j := 1) (x := .int .i32 1) rfl rfl
    exact ⟨d0, d1, y0, y1⟩
  refine (once_slow B f (.func (.func g) #[.pointer (some ⟨B, f, none⟩)] #[]) w _ c0 (slow_any B f (.func g) #[.pointer (some ⟨B, f, none⟩)] #[] g #[.pointer (some ⟨B, f, none⟩)] R w rfl hgb rfl c0 c1 z0 z1 hg2 hR) (fun e w' h => h.1)).mono ?_
  rintro e w' ⟨rfl, w2, hw2, rfl⟩
  have k1 := put_first (y := .w32 1) hw2.drew rfl (v := .int .u32 1) rfl rfl
  have k2 := put_second (y := .int .i32 0) k1 rfl (v := .int .i32 0) rfl rfl
  exact ⟨.tuple #[], .tup [], _, [(B, f)], rfl, ⟨[], rfl, rfl, fun j x e => by simp at e⟩, HeapOk.onto ok1.ext k2, rfl, rfl⟩
theorem fn_once_done {rest : List Seg} {g : FuncId} :
    Go.Proofs.Ytndlhhhebijknaa.Sx.Fn Try.prog tds 63 [.one (.w32 1) :: rest] [.c (.p 0 0 0), .c (.clo g 0 0 0)] (fun _ => True) (fun x hs => x = .tup [] ∧ hs = [.one (.w32 1) :: rest]) := by
  intro w r0 vs ok ha _
  obtain ⟨⟨B, f⟩, rfl⟩ := List.length_eq_one_iff.1 ok.len
  obtain ⟨hl, ha⟩ := ha
  obtain ⟨v0, v1, rfl⟩ := len2' hl.symm
  obtain ⟨u, hu, B0, f0, hr0, rfl⟩ := ha 0 _ rfl
  simp at hu hr0
  obtain ⟨rfl, rfl⟩ := hr0
  subst hu
  obtain ⟨_, c0, rfl, z0⟩ := is_at ok rfl rfl (j := 0) (x := .w32 1) rfl rfl
  refine (once_done B f v1 w c0).mono ?_
  rintro e w' ⟨rfl, rfl⟩
  exact ⟨.tuple #[], .tup [], _, [(B, f)], rfl, ⟨[], rfl, rfl, fun j x e => by simp at e⟩, ok, rfl, rfl⟩
theorem fn_i64_add {l l' : List Seg} {off : Nat} {n : Int} (hx : (flat l)[off]? = some (.int .i64 n)) (hne : l ≠ []) (hp : Put [.one (.int .i64 (n + 1))] l l' off) (hn : -9223372036854775808 ≤ n + 1 ∧ n + 1 ≤ 9223372036854775807) :
    Go.Proofs.Ytndlhhhebijknaa.Sx.Fn Try.prog tds 68 [l] [.c (.p 0 off 0), .c (.int .i64 1)] (fun _ => True) (fun x hs => x = .a (.c (.int .i64 (n + 1))) ∧ hs = [l']) := by
  intro w r0 vs ok ha _
  obtain ⟨⟨B, f⟩, rfl⟩ := List.length_eq_one_iff.1 ok.len
  obtain ⟨hl, ha⟩ := ha
  obtain ⟨v0, v1, rfl⟩ := len2' hl.symm
  obtain ⟨u, hu, B0, f0, hr0, rfl⟩ := ha 0 _ rfl
  obtain ⟨u, hu1, rfl⟩ := ha 1 _ rfl
  simp at hu hu1 hr0
  obtain ⟨rfl, rfl⟩ := hr0
  subst hu
  subst hu1
  obtain ⟨_, c0, rfl, z0⟩ := is_at ok rfl rfl (j := off) hx rfl
  refine (i64_add ⟨B, f + off, none⟩ n w c0 z0 hn).mono ?_
  rintro e w' ⟨rfl, rfl⟩
  exact ⟨.int .i64 (n + 1), .a (.c (.int .i64 (n + 1))), _, [(B, f)], rfl, rfl, ok.put rfl (i := 0) rfl hne hp (vs := [.int .i64 (n + 1)]) ⟨rfl, fun j z e => by
    cases j with
    | zero => simp [flat] at e; subst e; exact ⟨_, rfl, rfl⟩
    | succ j => simp [flat] at e⟩ (Nat.zero_le _), rfl, rfl⟩
end Sx
end Go.Proofs.Ytndlhhhebijknaa
end

section
/-
  The field of 256 as the program reckons it: plain functions. No condition.
-/
namespace Go.Proofs.Ytndlhhhebijknaa
set_option linter.unusedVariables false
namespace Aes

def twice (a : BitVec 8) : BitVec 8 := if a &&& 128#8 = 0#8 then a <<< 1 else a <<< 1 ^^^ 27#8
/-- k rounds of the product: what is summed, and the first factor. -/
def timesS (b : BitVec 8) : Nat → BitVec 8 × BitVec 8 → BitVec 8 × BitVec 8
  | 0, s => s
  | k + 1, s => let s := timesS b k s; (if (b >>> k) &&& 1#8 = 1#8 then s.1 ^^^ s.2 else s.1, twice s.2)
def times (a b : BitVec 8) : BitVec 8 := (timesS b 8 (0#8, a)).1
/-- k rounds of the power: what is reckoned, and the power. -/
def invS : Nat → BitVec 8 × BitVec 8 → BitVec 8 × BitVec 8
  | 0, s => s
  | k + 1, s => let s := invS k s; (if (254 >>> k) % 2 = 1 then times s.1 s.2 else s.1, times s.2 s.2)
def inverse (a : BitVec 8) : BitVec 8 := (invS 8 (1#8, a)).1
def rot8 (x : BitVec 8) (k : Nat) : BitVec 8 := (x <<< k) ||| (x >>> (8 - k))
/-- What a byte is exchanged for. -/
def boxS (i : BitVec 8) : Nat → BitVec 8
  | 0 => i ^^^ 99#8
  | k + 1 => boxS i k ^^^ rot8 i ((k + 1) % 8)
def box (a : BitVec 8) : BitVec 8 := boxS (inverse a) 4
/-- The columns mixed. -/
def mixAt (b : Nat → BitVec 8) (i : Nat) : BitVec 8 :=
  twice (b i) ^^^ twice (b (i / 4 * 4 + (i + 1) % 4)) ^^^ b (i / 4 * 4 + (i + 1) % 4) ^^^ b (i / 4 * 4 + (i + 2) % 4) ^^^ b (i / 4 * 4 + (i + 3) % 4)
def shiftAt (b : Nat → BitVec 8) (i : Nat) : BitVec 8 := box (b (4 * ((i / 4 + i % 4) % 4) + i % 4))
/-! The document's product. -/
def rT1 (a b : BitVec 8) : Nat → Nat
  | 0 => 0
  | k + 1 => if (b >>> k) &&& 1#8 = 1#8 then rT1 a b k ^^^ (a.toNat * 2 ^ k) else rT1 a b k
def rT2 (n : Nat) : Nat → Nat
  | 0 => n
  | j + 1 => if (rT2 n j / 2 ^ (14 - j)) &&& 1 = 1 then rT2 n j ^^^ (283 * 2 ^ (14 - j - 8)) else rT2 n j
def refTimes (a b : BitVec 8) : BitVec 8 := BitVec.ofNat 8 (rT2 (rT1 a b 8) 7)
theorem rT1_lt (a b : BitVec 8) : ∀ k, k ≤ 8 → rT1 a b k < 2 ^ 15
  | 0, _ => by simp [rT1]
  | k + 1, h => by
    have ih := rT1_lt a b k (by omega)
    simp only [rT1]
    split
    · refine Nat.xor_lt_two_pow ih ?_
      have h1 : a.toNat ≤ 255 := by have := a.isLt; omega
      have h2 : 2 ^ k ≤ 2 ^ 7 := Nat.pow_le_pow_right (by omega) (by omega)
      calc a.toNat * 2 ^ k ≤ 255 * 2 ^ 7 := Nat.mul_le_mul h1 h2
        _ < 2 ^ 15 := by decide
    · exact ih
theorem rT2_lt (n : Nat) (hn : n < 2 ^ 15) : ∀ j, j ≤ 7 → rT2 n j < 2 ^ 15
  | 0, _ => hn
  | j + 1, h => by
    have ih := rT2_lt n hn j (by omega)
    simp only [rT2]
    split
    · refine Nat.xor_lt_two_pow ih ?_
      have h2 : 2 ^ (14 - j - 8) ≤ 2 ^ 6 := Nat.pow_le_pow_right (by omega) (by omega)
      calc 283 * 2 ^ (14 - j - 8) ≤ 283 * 2 ^ 6 := Nat.mul_le_mul_left _ h2
        _ < 2 ^ 15 := by decide
    · exact ih
/-- The document's box. -/
def refFind (a : BitVec 8) : Nat → BitVec 8
  | 0 => 0#8
  | k + 1 => if refTimes a (BitVec.ofNat 8 (k + 1)) = 1#8 then BitVec.ofNat 8 (k + 1) else refFind a k
def refBoxS (i : BitVec 8) : Nat → BitVec 8
  | 0 => 99#8
  | k + 1 => refBoxS i k ^^^ rot8 i k
def refBox (a : BitVec 8) : BitVec 8 := refBoxS (refFind a 255) 5
/-! The document's block. -/
def rMixAt (b : Nat → BitVec 8) (i : Nat) : BitVec 8 :=
  refTimes 2#8 (b i) ^^^ refTimes 3#8 (b (i / 4 * 4 + (i + 1) % 4)) ^^^ b (i / 4 * 4 + (i + 2) % 4) ^^^ b (i / 4 * 4 + (i + 3) % 4)
def rWord (B : Nat → BitVec 8) (w : Nat → BitVec 8) (c : BitVec 8) (i : Nat) (j : Nat) : BitVec 8 :=
  if i % 4 = 0 then (if j = 0 then B (w (4 * i - 4 + 1)).toNat ^^^ c else B (w (4 * i - 4 + (j + 1) % 4)).toNat) else w (4 * i - 4 + j)
/-- k words behind the key's four; what the next one is turned by. -/
def rKeyS (B key : Nat → BitVec 8) : Nat → (Nat → BitVec 8) × BitVec 8
  | 0 => (key, 1#8)
  | k + 1 => let s := rKeyS B key k
    (fun j => if j < 4 * (k + 4) then s.1 j else s.1 (j - 16) ^^^ rWord B s.1 s.2 (k + 4) (j - 4 * (k + 4)), if (k + 4) % 4 = 0 then refTimes s.2 2#8 else s.2)
def rKeys (B key : Nat → BitVec 8) : Nat → BitVec 8 := (rKeyS B key 40).1
def rShift (B s : Nat → BitVec 8) (j : Nat) : BitVec 8 := B (s (4 * ((j / 4 + j % 4) % 4) + j % 4)).toNat
def rTurnS (B key block : Nat → BitVec 8) : Nat → Nat → BitVec 8
  | 0, j => block j ^^^ rKeys B key j
  | r + 1, j => let s := rTurnS B key block r
    (if r + 1 < 10 then rMixAt (rShift B s) else rShift B s) j ^^^ rKeys B key (16 * (r + 1) + j)
/-! The program's round keys. -/
def pW (old : Nat → BitVec 8) (p : BitVec 8) : Nat → Nat → BitVec 8
  | 0, j => if j = 0 then old 0 ^^^ box (old 13) ^^^ p else old j ^^^ box (old (12 + (j + 1) % 4))
  | c + 1, j => old (4 * (c + 1) + j) ^^^ pW old p c j
def pNow (old : Nat → BitVec 8) (p : BitVec 8) (i : Nat) : BitVec 8 := pW old p (i / 4) (i % 4)
/-- r round keys behind the first one; the power. -/
def pKeyS (k : Nat → BitVec 8) : Nat → (Nat → BitVec 8) × BitVec 8
  | 0 => (k, 1#8)
  | r + 1 => let s := pKeyS k r
    (fun i => if i < 16 * (r + 1) then s.1 i else pNow (fun j => s.1 (16 * r + j)) s.2 (i - 16 * (r + 1)), times s.2 2#8)
def pKeys (k : Nat → BitVec 8) : Nat → BitVec 8 := (pKeyS k 10).1
/-- The program's block, turned. -/
def pTurnS (k b : Nat → BitVec 8) : Nat → Nat → BitVec 8
  | 0, i => b i ^^^ pKeys k i
  | r + 1, i => mixAt (shiftAt (pTurnS k b r)) i ^^^ pKeys k (16 * (r + 1) + i)
def pTurn (k b : Nat → BitVec 8) (i : Nat) : BitVec 8 := shiftAt (pTurnS k b 9) i ^^^ pKeys k (160 + i)
end Aes
end Go.Proofs.Ytndlhhhebijknaa
end

section
/-
  The program's field of 256. No condition.
-/
namespace Go.Proofs.Ytndlhhhebijknaa
set_option linter.unusedVariables false
namespace Sx
open Aes

theorem follows_ : Try.prog.follows .mixedOrders = true := by kernel_rfl
theorem fn_twice (a : BitVec 8) : Fn Try.prog tds 88 [] [.c (.w8 a)] (fun _ => True) (fun x hs => x = .a (.c (.w8 (twice a))) ∧ hs = []) := by
  refine fn_of_body tds_ok follows_ Try.func88 rfl (t := [.a (.c (.w8 (a))), .any, .any, .any, .any, .any, .any, .any, .any, .any, .any]) rfl (fun w r0 hr _ => ?_)
  obtain rfl : r0 = [] := List.eq_nil_of_length_eq_zero hr
  refine ⟨fun h => ?_, fun h => ?_⟩
  · exact ⟨.a (.c (.w8 (twice a))), [], ⟨[], ⟨rfl, rfl, rfl⟩, (if_neg (of_decide_eq_true h)).symm, trivial⟩, rfl, rfl⟩
  · exact ⟨.a (.c (.w8 (twice a))), [], ⟨[], ⟨rfl, rfl, rfl⟩, (if_pos (by simpa using h)).symm, trivial⟩, rfl, rfl⟩
theorem fn_times (a b : BitVec 8) : Fn Try.prog tds 67 [] [.c (.w8 a), .c (.w8 b)] (fun _ => True) (fun x hs => x = .a (.c (.w8 (times a b))) ∧ hs = []) := by
  refine fn_of_body tds_ok follows_ Try.func67 rfl (t := [.a (.c (.w8 (a))), .a (.c (.w8 (b))), .any, .any, .any, .any, .any, .any, .any, .any, .any, .any, .any, .any, .any, .any, .any, .any, .any, .any, .any, .any, .any]) rfl (fun w r0 hr _ => ?_)
  obtain rfl : r0 = [] := List.eq_nil_of_length_eq_zero hr
  refine .inl ⟨Nat, fun k => ⟨[.a (.c (.w8 ((timesS b k (0#8, a)).2))), .a (.c (.w8 (b))), .any, .any, .any, .a (.c (.w8 ((timesS b k (0#8, a)).1))), .any, .a (.c (.int .i64 (↑k))), .any, .any, .any, .any, .any, .any, .any, .any, .any, .any, .any, .any, .any, .any, .any], []⟩, fun k => k ≤ 8, fun k => 8 - k, ⟨0, [], ⟨⟨rfl, rfl, rfl⟩, rfl, rfl, rfl, rfl, trivial⟩, by omega⟩, fun k hk => ⟨fun h => ?_, fun h => ?_⟩⟩
  · have hlt : (k : Int) < 8 := of_decide_eq_true h
    have e : ∀ y : BitVec 8, y >>> (BitVec.ofInt 64 (k : Int)).toNat = y >>> k := fun y => by
      rw [BitVec.ofInt_natCast, BitVec.toNat_ofNat, Nat.mod_eq_of_lt (by omega)]
    refine ⟨fun h2 => ?_, fun h2 => ?_⟩
    all_goals
      rw [e] at h2
      refine ⟨by kernel_rfl, call_same (fn_twice _) [] rfl ⟨rfl, trivial⟩ trivial (fun _ _ => trivial) ?_⟩
      rintro x hs ⟨rfl, rfl⟩
      refine ⟨⟨by omega, by omega⟩, k + 1, [], ⟨⟨rfl, rfl, rfl⟩, rfl, rfl, ?_, rfl, trivial⟩, by dsimp only; omega, by dsimp only; omega⟩
      first | exact (if_pos (of_decide_eq_true h2)).symm | exact (if_neg (of_decide_eq_false h2)).symm
  · obtain rfl : k = 8 := by have : ¬ (k : Int) < 8 := of_decide_eq_false h; have hk : k ≤ 8 := hk; omega
    exact ⟨.a (.c (.w8 (times a b))), [], ⟨[], ⟨rfl, rfl, rfl⟩, rfl, trivial⟩, rfl, rfl⟩
theorem cast64 {k : Nat} (h : k < 64) : (BitVec.ofInt 64 (k : Int)).toNat = k := by
  rw [BitVec.ofInt_natCast, BitVec.toNat_ofNat, Nat.mod_eq_of_lt (by omega)]
theorem bit254 : ∀ k, k < 8 → (((((254 : Int) / 2 ^ k).toNat &&& (1 : Int).toNat : Nat) : Int) = 1 ↔ (254 >>> k) % 2 = 1) := by decide
theorem d254 (n : Nat) : 0 ≤ (254 : Int) / 2 ^ n ∧ (254 : Int) / 2 ^ n ≤ 254 :=
  ⟨Int.ediv_nonneg (by omega) (Int.le_of_lt (Int.pow_pos (by omega))), Int.ediv_le_self _ (by omega)⟩
theorem eqC_w8 {q : List Nat} {x : SC} {b : BitVec 8} (h : x = .w8 b) : eqC q x (.w8 b) True := by subst h; exact ⟨rfl, trivial⟩
theorem fn_inverse (a : BitVec 8) : Fn Try.prog tds 86 [] [.c (.w8 a)] (fun _ => True) (fun x hs => x = .a (.c (.w8 (inverse a))) ∧ hs = []) := by
  refine fn_of_body tds_ok follows_ Try.func86 rfl (t := [.a (.c (.w8 (a))), .any, .any, .any, .any, .any, .any, .any, .any, .any, .any, .any, .any, .any, .any, .any, .any, .any, .any, .any, .any, .any, .any]) rfl (fun w r0 hr _ => ?_)
  obtain rfl : r0 = [] := List.eq_nil_of_length_eq_zero hr
  refine .inl ⟨Nat, fun k => ⟨[.any, .any, .any, .a (.c (.w8 ((invS k (1#8, a)).1))), .a (.c (.w8 ((invS k (1#8, a)).2))), .any, .any, .a (.c (.int .i64 (↑k))), .any, .any, .any, .any, .any, .any, .any, .any, .any, .any, .any, .any, .any, .any, .any], []⟩, fun k => k ≤ 8, fun k => 8 - k, ⟨0, [], ⟨⟨rfl, rfl, rfl⟩, rfl, rfl, rfl, trivial⟩, by omega⟩, fun k hk => ⟨fun h => ?_, fun h => ?_⟩⟩
  · have hlt : (k : Int) < 8 := of_decide_eq_true h
    have hd := d254 (BitVec.ofInt 64 (k : Int)).toNat
    refine ⟨by rw [cast64 (by omega)]; omega, ⟨by omega, by omega, by omega, by omega⟩, fun h2 => ?_, fun h2 => ?_⟩
    all_goals rw [cast64 (by omega)] at h2
    · have h3 := (bit254 k (by omega)).1 (of_decide_eq_true h2)
      refine ⟨by kernel_rfl, call_same (fn_times _ _) [] rfl ⟨rfl, rfl, trivial⟩ trivial (fun _ _ => trivial) ?_⟩
      rintro x hs ⟨rfl, rfl⟩
      refine ⟨by kernel_rfl, call_same (fn_times _ _) [] rfl ⟨rfl, rfl, trivial⟩ trivial (fun _ _ => trivial) ?_⟩
      rintro x hs ⟨rfl, rfl⟩
      exact ⟨⟨by omega, by omega⟩, k + 1, [], ⟨⟨rfl, rfl, rfl⟩, (if_pos h3).symm, rfl, rfl, trivial⟩, by dsimp only; omega, by dsimp only; omega⟩
    · have h3 := mt (bit254 k (by omega)).2 (of_decide_eq_false h2)
      refine ⟨by kernel_rfl, call_same (fn_times _ _) [] rfl ⟨rfl, rfl, trivial⟩ trivial (fun _ _ => trivial) ?_⟩
      rintro x hs ⟨rfl, rfl⟩
      exact ⟨⟨by omega, by omega⟩, k + 1, [], ⟨⟨rfl, rfl, rfl⟩, (if_neg h3).symm, rfl, rfl, trivial⟩, by dsimp only; omega, by dsimp only; omega⟩
  · obtain rfl : k = 8 := by have : ¬ (k : Int) < 8 := of_decide_eq_false h; have hk : k ≤ 8 := hk; omega
    exact ⟨.a (.c (.w8 (inverse a))), [], ⟨[], ⟨rfl, rfl, rfl⟩, rfl, trivial⟩, rfl, rfl⟩
theorem rot_eq (a : BitVec 8) : ∀ k : Nat, k < 5 → a <<< ((BitVec.ofInt 64 (k : Int)) &&& 7#64).toNat ||| a >>> (8#64 - ((BitVec.ofInt 64 (k : Int)) &&& 7#64)).toNat = rot8 a (k % 8) := by
  intro k hk
  have : k = 0 ∨ k = 1 ∨ k = 2 ∨ k = 3 ∨ k = 4 := by omega
  rcases this with rfl | rfl | rfl | rfl | rfl <;> rfl
theorem fn_rot8 (a : BitVec 8) (k : Nat) (hk : k < 5) : Fn Try.prog tds 87 [] [.c (.w8 a), .c (.int .i64 (k : Int))] (fun _ => True) (fun x hs => x = .a (.c (.w8 (rot8 a (k % 8)))) ∧ hs = []) := by
  refine fn_of_body tds_ok follows_ Try.func87 rfl (t := [.a (.c (.w8 (a))), .a (.c (.int .i64 (↑k))), .any, .any, .any, .any, .any, .any, .any, .any, .any, .any, .any, .any, .any, .any, .any]) rfl (fun w r0 hr _ => ?_)
  obtain rfl : r0 = [] := List.eq_nil_of_length_eq_zero hr
  exact ⟨.a (.c (.w8 (rot8 a (k % 8)))), [], ⟨[], ⟨rfl, rfl, rfl⟩, rot_eq a k hk, trivial⟩, rfl, rfl⟩
/-- A block as a value. -/
abbrev blk (a : Nat → BitVec 8) : SA := .agg [.row 16 fun i => .w8 (a i)]
def xorB (a b : Nat → BitVec 8) : Nat → BitVec 8 := fun i => a i ^^^ b i
theorem fn_sum (a b : Nat → BitVec 8) : Fn Try.prog tds 69 [] [blk a, blk b] (fun _ => True) (fun x hs => x = .a (blk (xorB a b)) ∧ hs = []) := by
  refine fn_of_body tds_ok follows_ Try.func69 rfl (t := [.a (blk a), .a (blk b), .any, .any, .any, .any, .any, .any, .any, .any, .any, .any, .any, .any, .any, .any, .any, .any, .any]) rfl (fun w r0 hr _ => ?_)
  obtain rfl : r0 = [] := List.eq_nil_of_length_eq_zero hr
  refine ⟨rfl, rfl, .inl ⟨Nat, fun k => ⟨[.any, .any, .a (.c (.p 0 0 0)), .a (.c (.p 1 0 0)), .a (.c (.p 2 0 0)), .any, .a (.c (.int .i64 (↑k))), .any, .any, .any, .any, .any, .any, .any, .any, .any, .any, .any, .any], [[.row 16 fun i => .w8 (if i < k then a i ^^^ b i else a i)], [.row 16 fun i => .w8 (b i)], [.row 16 fun _ => .w8 0]]⟩, fun k => k ≤ 16, fun k => 16 - k, ⟨0, [0, 1, 2], ⟨⟨rfl, rfl, rfl⟩, rfl, rfl, rfl, rfl, rfl, fun j hj => ⟨by simp, trivial⟩, rfl, fun j hj => ⟨rfl, trivial⟩, rfl, fun j hj => ⟨rfl, trivial⟩, trivial⟩, by omega⟩, fun k hk => ⟨fun h => ?_, fun h => ?_⟩⟩⟩
  · have hlt : (k : Int) < 16 := of_decide_eq_true h
    refine ⟨none, [], [(0, true), (1, true), (2, true), (3, true), (4, true), (5, true), (6, true), (7, true)], [8], by kernel_rfl, ⟨by omega, by omega⟩, by omega, ⟨by omega, by omega⟩, by omega, ⟨by omega, by omega⟩, by omega, rfl, ⟨by omega, by omega⟩, k + 1, [0, 1, 2], ⟨⟨rfl, rfl, rfl⟩, rfl, rfl, rfl, rfl, rfl, fun j hj => ?_, rfl, fun j hj => ⟨rfl, trivial⟩, rfl, fun j hj => ⟨rfl, trivial⟩, trivial⟩, by dsimp only; omega, by dsimp only; omega⟩
    refine eqC_w8 ?_
    by_cases hjk : j = k
    · subst hjk; simp [upd]
    · have : j < k + 1 ↔ j < k := by omega
      simp [upd, hjk, this]
  · obtain rfl : k = 16 := by have : ¬ (k : Int) < 16 := of_decide_eq_false h; have hk : k ≤ 16 := hk; omega
    exact ⟨by omega, rfl, rfl, by omega, .a (blk (xorB a b)), [], ⟨[], ⟨rfl, rfl, rfl⟩, rfl, rfl, fun j hj => eqC_w8 (by simp [hj, xorB]), trivial⟩, rfl, rfl⟩
/-- Loads out of rows, by cases on the place. -/
theorem upd_w8 {f g : Nat → SC} {k : Nat} {v : SC} (hv : v = g k) (hf : ∀ j, j ≠ k → f j = g j) (j : Nat) : upd f k v j = g j := by
  unfold upd
  split
  · rename_i h; rw [h, hv]
  · rename_i h; exact hf j h
theorem fn_mix (b : Nat → BitVec 8) : Fn Try.prog tds 70 [] [blk b] (fun _ => True) (fun x hs => x = .a (blk (mixAt b)) ∧ hs = []) := by
  refine fn_of_body tds_ok follows_ Try.func70 rfl (t := .a (blk b) :: anys 50) rfl (fun w r0 hr _ => ?_)
  obtain rfl : r0 = [] := List.eq_nil_of_length_eq_zero hr
  refine ⟨rfl, .inl ⟨Nat, fun k => ⟨[.any, .a (.c (.p 0 0 0)), .a (.c (.p 1 0 0)), .a (.c (.p 2 0 0)), .any, .any, .any, .any, .a (.c (.int .i64 (↑k))), .any, .any, .any, .any, .any, .any, .any, .any, .any, .any, .any, .any, .any, .any, .any, .any, .any, .any, .any, .any, .any, .any, .any, .any, .any, .any, .any, .any, .any, .any, .any, .any, .any, .any, .any, .any, .any, .any, .any, .any, .any, .any], [[.row 16 fun i => .w8 (b i)], [.row 16 fun _ => .w8 0], [.row 16 fun i => .w8 (if i < k then mixAt b i else 0#8)]]⟩, fun k => k ≤ 16, fun k => 16 - k, ⟨0, [0, 1, 2], ⟨⟨rfl, rfl, rfl⟩, rfl, rfl, rfl, rfl, rfl, fun j hj => ⟨rfl, trivial⟩, rfl, fun j hj => ⟨rfl, trivial⟩, rfl, fun j hj => ⟨by simp, trivial⟩, trivial⟩, by omega⟩, fun k hk => ⟨fun h => ?_, fun h => ?_⟩⟩⟩
  · have hlt : (k : Int) < 16 := of_decide_eq_true h
    refine ⟨⟨by omega, by omega, by omega⟩, ⟨by omega, by omega⟩, none, [], [(0, true), (1, true), (2, true), (3, true), (4, true), (5, true), (6, true), (7, true), (8, true), (9, true), (10, true), (11, true)], [], by kernel_rfl, ?_⟩
    refine ⟨⟨by omega, by omega⟩, by omega, ⟨by omega, by omega⟩, ⟨by omega, by omega⟩, ⟨by omega, by omega⟩, ⟨by omega, by omega⟩, by omega, none, [], [(0, true), (1, true), (3, true), (6, true), (8, true), (9, true), (10, true), (11, true), (12, true), (13, true), (14, true), (16, true), (17, true), (18, true), (19, true), (20, true), (21, true), (22, true), (2, false), (4, false), (5, true), (7, true), (15, true), (23, true), (24, true)], [25], by kernel_rfl, ?_⟩
    repeat refine ⟨by omega, ?_⟩
    refine ⟨by kernel_rfl, call_same (fn_twice _) [] rfl ⟨rfl, trivial⟩ trivial (fun _ _ => trivial) ?_⟩
    rintro x hs ⟨rfl, rfl⟩
    refine ⟨by kernel_rfl, call_same (fn_twice _) [] rfl ⟨rfl, trivial⟩ trivial (fun _ _ => trivial) ?_⟩
    rintro x hs ⟨rfl, rfl⟩
    repeat refine ⟨by omega, ?_⟩
    refine ⟨rfl, ⟨by omega, by omega⟩, k + 1, [0, 1, 2], ⟨⟨rfl, rfl, rfl⟩, rfl, rfl, rfl, rfl, rfl, fun j hj => ⟨rfl, trivial⟩, rfl, fun j hj => ⟨rfl, trivial⟩, rfl, fun j hj => eqC_w8 ?_, trivial⟩, by dsimp only; omega, by dsimp only; omega⟩
    refine (upd_w8 (g := fun i => .w8 (if i < k + 1 then mixAt b i else 0#8)) ?_ ?_ j).trans rfl
    · have e0 : (k : Int).toNat + 0 = k := by omega
      have e1 : ((k : Int) / 4 * 4 + ((k : Int) + 1) % 4).toNat + 0 = k / 4 * 4 + (k + 1) % 4 := by omega
      have e2 : ((k : Int) / 4 * 4 + ((k : Int) + 2) % 4).toNat + 0 = k / 4 * 4 + (k + 2) % 4 := by omega
      have e3 : ((k : Int) / 4 * 4 + ((k : Int) + 3) % 4).toNat + 0 = k / 4 * 4 + (k + 3) % 4 := by omega
      simp only [e0, e1, e2, e3, if_pos (show k < k + 1 by omega)]
      rfl
    · intro j hjk
      have hjk' : j ≠ k := by simpa using hjk
      have : j < k + 1 ↔ j < k := by omega
      simp only [this]
  · obtain rfl : k = 16 := by have : ¬ (k : Int) < 16 := of_decide_eq_false h; have hk : k ≤ 16 := hk; omega
    exact ⟨by omega, rfl, rfl, by omega, .a (blk (mixAt b)), [], ⟨[], ⟨rfl, rfl, rfl⟩, rfl, rfl, fun j hj => eqC_w8 (by simp [hj]), trivial⟩, rfl, rfl⟩
end Sx
end Go.Proofs.Ytndlhhhebijknaa
end

section
/-
  SHA-256's tables as the program reckons them: plain functions. No condition.
-/
namespace Go.Proofs.Ytndlhhhebijknaa
set_option linter.unusedVariables false
namespace Sha

def mul64 (x y : BitVec 64) : BitVec 64 × BitVec 64 :=
  let x0 := x &&& 4294967295#64
  let x1 := x >>> 32
  let y0 := y &&& 4294967295#64
  let y1 := y >>> 32
  let t := x1 * y0 + (x0 * y0) >>> 32
  let w1 := t &&& 4294967295#64
  let w2 := t >>> 32
  let w1 := w1 + x0 * y1
  (x1 * y1 + w2 + w1 >>> 32, x * y)
def sqFits (x n : BitVec 64) : Bool := decide ((mul64 x x).1 < n) || (decide ((mul64 x x).1 = n) && decide ((mul64 x x).2 = 0#64))
def cuTop (x : BitVec 64) : BitVec 64 := (mul64 x x).1 * x + (mul64 (mul64 x x).2 x).1
def cuFits (x n : BitVec 64) : Bool := decide (cuTop x < n <<< 32) || (decide (cuTop x = n <<< 32) && decide ((mul64 (mul64 x x).2 x).2 = 0#64))
/-- k rounds of the root, from the highest bit down. -/
def rootS (F : BitVec 64 → BitVec 64 → Bool) (n : BitVec 64) : Nat → BitVec 64
  | 0 => 0#64
  | k + 1 => if F (rootS F n k ||| (1#64 <<< (34 - k))) n then rootS F n k ||| (1#64 <<< (34 - k)) else rootS F n k
def root (F : BitVec 64 → BitVec 64 → Bool) (n : BitVec 64) : BitVec 64 := rootS F n 35
/-- No number from 2 up to below d goes into n. -/
def noDiv (n d : Nat) : Prop := ∀ e, 2 ≤ e → e < d → n % e ≠ 0
def isP (n : Nat) : Bool := (List.range 20).all fun d => decide (d < 2) || decide (n < d * d) || !(decide (n % d = 0))
/-- How many primes there are among k numbers from 2 on. -/
def cnt : Nat → Nat
  | 0 => 0
  | k + 1 => cnt k + if isP (k + 2) then 1 else 0
def stepsS (s : Nat → BitVec 32) : Nat → Nat → BitVec 32
  | 0, i => s i
  | k + 1, i => if isP (k + 2) && decide (i = cnt k) then (root cuFits (BitVec.ofNat 64 (k + 2))).setWidth 32 else stepsS s k i
def firstS (s : Nat → BitVec 32) : Nat → Nat → BitVec 32
  | 0, i => s i
  | k + 1, i => if isP (k + 2) && decide (cnt k < 8) && decide (i = cnt k) then (root sqFits (BitVec.ofNat 64 (k + 2))).setWidth 32 else firstS s k i
def stepsL : List Nat := [0x428a2f98, 0x71374491, 0xb5c0fbcf, 0xe9b5dba5, 0x3956c25b, 0x59f111f1, 0x923f82a4, 0xab1c5ed5,
  0xd807aa98, 0x12835b01, 0x243185be, 0x550c7dc3, 0x72be5d74, 0x80deb1fe, 0x9bdc06a7, 0xc19bf174,
  0xe49b69c1, 0xefbe4786, 0x0fc19dc6, 0x240ca1cc, 0x2de92c6f, 0x4a7484aa, 0x5cb0a9dc, 0x76f988da,
  0x983e5152, 0xa831c66d, 0xb00327c8, 0xbf597fc7, 0xc6e00bf3, 0xd5a79147, 0x06ca6351, 0x14292967,
  0x27b70a85, 0x2e1b2138, 0x4d2c6dfc, 0x53380d13, 0x650a7354, 0x766a0abb, 0x81c2c92e, 0x92722c85,
  0xa2bfe8a1, 0xa81a664b, 0xc24b8b70, 0xc76c51a3, 0xd192e819, 0xd6990624, 0xf40e3585, 0x106aa070,
  0x19a4c116, 0x1e376c08, 0x2748774c, 0x34b0bcb5, 0x391c0cb3, 0x4ed8aa4a, 0x5b9cca4f, 0x682e6ff3,
  0x748f82ee, 0x78a5636f, 0x84c87814, 0x8cc70208, 0x90befffa, 0xa4506ceb, 0xbef9a3f7, 0xc67178f2]
def firstL : List Nat := [0x6a09e667, 0xbb67ae85, 0x3c6ef372, 0xa54ff53a, 0x510e527f, 0x9b05688c, 0x1f83d9ab, 0x5be0cd19]
def steps (i : Nat) : BitVec 32 := BitVec.ofNat 32 (stepsL.getD i 0)
def first (i : Nat) : BitVec 32 := BitVec.ofNat 32 (firstL.getD i 0)
theorem cnt_mono (k : Nat) : ∀ d, cnt k ≤ cnt (k + d)
  | 0 => Nat.le_refl _
  | d + 1 => Nat.le_trans (cnt_mono k d) (by rw [← Nat.add_assoc]; simp only [cnt]; omega)
theorem cnt_310 : cnt 310 = 64 := by decide +kernel
theorem cnt_309 : cnt 309 = 63 := by decide +kernel
theorem cnt_end {k : Nat} (h : cnt k = 64) (hk : k ≤ 310) : k = 310 := by
  rcases Nat.lt_or_ge k 310 with h1 | h1
  · have := cnt_mono k (309 - k)
    rw [show k + (309 - k) = 309 by omega, cnt_309] at this
    omega
  · omega
theorem toN {a : Nat} (h : a < 18446744073709551616) : (BitVec.ofNat 64 a).toNat = a := by
  rw [BitVec.toNat_ofNat]; exact Nat.mod_eq_of_lt h
theorem sq_le {e n : Nat} (he : e < 65536) (hn : n < 65536) : (BitVec.ofNat 64 e * BitVec.ofNat 64 e ≤ BitVec.ofNat 64 n) ↔ e * e ≤ n := by
  have h1 : e * e < 65536 * 65536 := Nat.mul_lt_mul'' he he
  rw [BitVec.le_def, BitVec.toNat_mul, toN (by omega), toN (by omega), Nat.mod_eq_of_lt (by omega)]
theorem rem_iff {n e : Nat} (hn : n < 65536) (he : e < 65536) : (BitVec.ofNat 64 n % BitVec.ofNat 64 e = 0#64) ↔ n % e = 0 := by
  constructor
  · intro h
    have := congrArg BitVec.toNat h
    rw [BitVec.toNat_umod, toN (by omega), toN (by omega)] at this
    exact this
  · intro h
    apply BitVec.eq_of_toNat_eq
    rw [BitVec.toNat_umod, toN (by omega), toN (by omega), h]
    rfl
theorem ne_zero {e : Nat} (h1 : 0 < e) (h : e < 65536) : BitVec.ofNat 64 e ≠ 0#64 := by
  intro hc
  have := congrArg BitVec.toNat hc
  rw [toN (by omega)] at this
  simp at this
  omega
theorem ofN_succ (n : Nat) : BitVec.ofNat 64 n + 1#64 = BitVec.ofNat 64 (n + 1) := by
  rw [BitVec.ofNat_add]
theorem firstS_no (s : Nat → BitVec 32) {k : Nat} (h : isP (k + 2) = false) : firstS s (k + 1) = firstS s k := by
  funext i; simp [firstS, h]
theorem stepsS_no (s : Nat → BitVec 32) {k : Nat} (h : isP (k + 2) = false) : stepsS s (k + 1) = stepsS s k := by
  funext i; simp [stepsS, h]
theorem cnt_no {k : Nat} (h : isP (k + 2) = false) : cnt (k + 1) = cnt k := by simp [cnt, h]
theorem cnt_yes {k : Nat} (h : isP (k + 2) = true) : cnt (k + 1) = cnt k + 1 := by simp [cnt, h]
theorem firstS_yes (s : Nat → BitVec 32) {k : Nat} (h : isP (k + 2) = true) (h8 : cnt k < 8) (i : Nat) : firstS s (k + 1) i = if i = cnt k then (root sqFits (BitVec.ofNat 64 (k + 2))).setWidth 32 else firstS s k i := by
  simp [firstS, h, h8]
theorem firstS_late (s : Nat → BitVec 32) {k : Nat} (h8 : ¬ cnt k < 8) : firstS s (k + 1) = firstS s k := by
  funext i; simp [firstS, h8]
theorem stepsS_yes (s : Nat → BitVec 32) {k : Nat} (h : isP (k + 2) = true) (i : Nat) : stepsS s (k + 1) i = if i = cnt k then (root cuFits (BitVec.ofNat 64 (k + 2))).setWidth 32 else stepsS s k i := by
  simp [stepsS, h]
theorem cnt_lt {k : Nat} (h : cnt k < 64) : k < 310 := by
  rcases Nat.lt_or_ge k 310 with h1 | h1
  · exact h1
  · have := cnt_mono 310 (k - 310)
    rw [show 310 + (k - 310) = k by omega, cnt_310] at this
    omega
theorem stepsS_low (s : Nat → BitVec 32) : ∀ k i, stepsS s k i = if i < cnt k then stepsS (fun _ => 0#32) k i else s i
  | 0, i => by simp [stepsS, cnt]
  | k + 1, i => by
    by_cases hp : isP (k + 2) = true
    · have hc : cnt (k + 1) = cnt k + 1 := by simp [cnt, hp]
      simp only [stepsS, hp, hc]
      rw [stepsS_low s k i]
      by_cases hi : i = cnt k
      · simp [hi]
      · by_cases h1 : i < cnt k
        · have h2 : i < cnt k + 1 := by omega
          simp [hi, h1, h2]
        · have h2 : ¬ i < cnt k + 1 := by omega
          simp [hi, h1, h2]
    · have hp : isP (k + 2) = false := by simpa using hp
      have hc : cnt (k + 1) = cnt k := by simp [cnt, hp]
      simp only [stepsS, hp, hc]
      rw [stepsS_low s k i]
      simp
theorem firstS_low (s : Nat → BitVec 32) : ∀ k i, firstS s k i = if i < cnt k ∧ i < 8 then firstS (fun _ => 0#32) k i else s i
  | 0, i => by simp [firstS, cnt]
  | k + 1, i => by
    by_cases hp : isP (k + 2) = true
    · have hc : cnt (k + 1) = cnt k + 1 := by simp [cnt, hp]
      simp only [firstS, hp, hc]
      rw [firstS_low s k i]
      by_cases hi : i = cnt k
      · subst hi
        by_cases h8 : cnt k < 8
        · simp [h8]
        · simp [h8]
      · by_cases h1 : i < cnt k
        · have h2 : i < cnt k + 1 := by omega
          simp [hi, h1, h2]
        · have h2 : ¬ i < cnt k + 1 := by omega
          simp [hi, h1, h2]
    · have hp : isP (k + 2) = false := by simpa using hp
      have hc : cnt (k + 1) = cnt k := by simp [cnt, hp]
      simp only [firstS, hp, hc]
      rw [firstS_low s k i]
      simp
set_option maxRecDepth 100000 in
theorem steps_eq (s : Nat → BitVec 32) (i : Nat) (hi : i < 64) : stepsS s 310 i = steps i := by
  rw [stepsS_low, cnt_310, if_pos hi]
  exact (by decide +kernel : ∀ i, i < 64 → stepsS (fun _ => 0#32) 310 i = steps i) i hi
set_option maxRecDepth 100000 in
theorem first_eq (s : Nat → BitVec 32) (i : Nat) (hi : i < 8) : firstS s 310 i = first i := by
  rw [firstS_low, cnt_310, if_pos ⟨by omega, hi⟩]
  exact (by decide +kernel : ∀ i, i < 8 → firstS (fun _ => 0#32) 310 i = first i) i hi
theorem isP_of {n d : Nat} (h : noDiv n d) (hd : n < d * d) (hd2 : 2 ≤ d) : isP n = true := by
  unfold isP
  rw [List.all_eq_true]
  intro e he
  rw [Bool.or_eq_true, Bool.or_eq_true]
  by_cases h2 : e < 2
  · exact .inl (.inl (decide_eq_true h2))
  · by_cases h3 : e < d
    · refine .inr ?_
      have := h e (by omega) h3
      simpa using this
    · refine .inl (.inr (decide_eq_true ?_))
      have : d * d ≤ e * e := Nat.mul_le_mul (by omega) (by omega)
      omega
theorem not_isP {n d : Nat} (hd2 : 2 ≤ d) (hd : d * d ≤ n) (h20 : d < 20) (h : n % d = 0) : isP n = false := by
  cases e : isP n with
  | false => rfl
  | true =>
    unfold isP at e
    rw [List.all_eq_true] at e
    have := e d (List.mem_range.2 h20)
    rw [Bool.or_eq_true, Bool.or_eq_true] at this
    rcases this with (h1 | h1) | h1
    · have := of_decide_eq_true h1; omega
    · have := of_decide_eq_true h1; omega
    · simp [h] at h1
end Sha
end Go.Proofs.Ytndlhhhebijknaa
end

section
/-
  SHA-256's tables, reckoned by the program. No condition.
-/
namespace Go.Proofs.Ytndlhhhebijknaa
set_option linter.unusedVariables false
namespace Sx
open Sha

set_option maxRecDepth 20000 in
theorem fn_mul64 (x y : BitVec 64) : Fn Try.prog tds 95 [] [.c (.w64 x), .c (.w64 y)] (fun _ => True) (fun v hs => v = .tup [.c (.w64 (mul64 x y).1), .c (.w64 (mul64 x y).2)] ∧ hs = []) := by
  refine fn_of_body tds_ok follows_ Try.func95 rfl (t := .a (.c (.w64 x)) :: .a (.c (.w64 y)) :: anys 49) rfl (fun w r0 hr _ => ?_)
  obtain rfl : r0 = [] := List.eq_nil_of_length_eq_zero hr
  exact ⟨.tup [.c (.w64 (mul64 x y).1), .c (.w64 (mul64 x y).2)], [], ⟨[], ⟨rfl, rfl, rfl⟩, rfl, rfl, trivial⟩, rfl, rfl⟩
theorem fn_mul64' {x y hi lo : BitVec 64} (h : mul64 x y = (hi, lo)) : Fn Try.prog tds 95 [] [.c (.w64 x), .c (.w64 y)] (fun _ => True) (fun v hs => v = .tup [.c (.w64 hi), .c (.w64 lo)] ∧ hs = []) := by
  have := fn_mul64 x y
  rw [h] at this
  exact this
theorem fn_sqFits (x n : BitVec 64) : Fn Try.prog tds 83 [] [.c (.w64 x), .c (.w64 n)] (fun _ => True) (fun v hs => v = .a (.c (.bool (sqFits x n))) ∧ hs = []) := by
  refine fn_of_body tds_ok follows_ Try.func83 rfl (t := .a (.c (.w64 x)) :: .a (.c (.w64 n)) :: anys 23) rfl (fun w r0 hr _ => ?_)
  obtain rfl : r0 = [] := List.eq_nil_of_length_eq_zero hr
  obtain ⟨hi, lo, hm⟩ : ∃ hi lo, mul64 x x = (hi, lo) := ⟨_, _, rfl⟩
  refine ⟨by kernel_rfl, call_same (fn_mul64' hm) [] rfl ⟨rfl, rfl, trivial⟩ trivial (fun _ _ => trivial) ?_⟩
  rintro v hs ⟨rfl, rfl⟩
  have hres : sqFits x n = (decide (hi < n) || (decide (hi = n) && decide (lo = 0#64))) := by unfold sqFits; rw [hm]
  rw [hres]
  cases e1 : decide (hi < n) <;> cases e2 : decide (hi = n) <;> cases e3 : decide (lo = 0#64) <;> (repeat first | refine ⟨fun _ => ?_, fun h => absurd h (by rw [e1]; decide)⟩ | refine ⟨fun h => absurd h (by rw [e1]; decide), fun _ => ?_⟩ | refine ⟨fun _ => ?_, fun h => absurd h (by rw [e2]; decide)⟩ | refine ⟨fun h => absurd h (by rw [e2]; decide), fun _ => ?_⟩ | refine ⟨fun _ => ?_, fun h => absurd h (by rw [e3]; decide)⟩ | refine ⟨fun h => absurd h (by rw [e3]; decide), fun _ => ?_⟩ | refine ⟨fun _ => ?_, fun h => Bool.noConfusion h⟩ | refine ⟨fun h => Bool.noConfusion h, fun _ => ?_⟩) <;>
    exact ⟨.a (.c (.bool _)), [], ⟨[], ⟨rfl, rfl, rfl⟩, by first | (rw [e1]; done) | (rw [e2]; done) | (rw [e3]; done) | (rw [e1]; rfl) | (rw [e2]; rfl) | (rw [e3]; rfl) | rfl, trivial⟩, rfl, rfl⟩
set_option maxRecDepth 20000 in
theorem fn_cuFits (x n : BitVec 64) : Fn Try.prog tds 84 [] [.c (.w64 x), .c (.w64 n)] (fun _ => True) (fun v hs => v = .a (.c (.bool (cuFits x n))) ∧ hs = []) := by
  refine fn_of_body tds_ok follows_ Try.func84 rfl (t := .a (.c (.w64 x)) :: .a (.c (.w64 n)) :: anys 39) rfl (fun w r0 hr _ => ?_)
  obtain rfl : r0 = [] := List.eq_nil_of_length_eq_zero hr
  obtain ⟨hi, lo, hm⟩ : ∃ hi lo, mul64 x x = (hi, lo) := ⟨_, _, rfl⟩
  obtain ⟨ov, re, hm2⟩ : ∃ ov re, mul64 lo x = (ov, re) := ⟨_, _, rfl⟩
  refine ⟨by kernel_rfl, call_same (fn_mul64' hm) [] rfl ⟨rfl, rfl, trivial⟩ trivial (fun _ _ => trivial) ?_⟩
  rintro v hs ⟨rfl, rfl⟩
  refine ⟨by kernel_rfl, call_same (fn_mul64' hm2) [] rfl ⟨rfl, rfl, trivial⟩ trivial (fun _ _ => trivial) ?_⟩
  rintro v hs ⟨rfl, rfl⟩
  have hres : cuFits x n = (decide (hi * x + ov < n <<< 32) || (decide (hi * x + ov = n <<< 32) && decide (re = 0#64))) := by unfold cuFits cuTop; rw [hm]; simp only; rw [hm2]
  rw [hres]
  cases e1 : decide (hi * x + ov < n <<< 32) <;> cases e2 : decide (hi * x + ov = n <<< 32) <;> cases e3 : decide (re = 0#64) <;> (repeat first | refine ⟨fun _ => ?_, fun h => absurd h (by rw [e1]; decide)⟩ | refine ⟨fun h => absurd h (by rw [e1]; decide), fun _ => ?_⟩ | refine ⟨fun _ => ?_, fun h => absurd h (by rw [e2]; decide)⟩ | refine ⟨fun h => absurd h (by rw [e2]; decide), fun _ => ?_⟩ | refine ⟨fun _ => ?_, fun h => absurd h (by rw [e3]; decide)⟩ | refine ⟨fun h => absurd h (by rw [e3]; decide), fun _ => ?_⟩ | refine ⟨fun _ => ?_, fun h => Bool.noConfusion h⟩ | refine ⟨fun h => Bool.noConfusion h, fun _ => ?_⟩) <;>
    exact ⟨.a (.c (.bool _)), [], ⟨[], ⟨rfl, rfl, rfl⟩, by first | (rw [e1]; done) | (rw [e2]; done) | (rw [e3]; done) | (rw [e1]; rfl) | (rw [e2]; rfl) | (rw [e3]; rfl) | rfl, trivial⟩, rfl, rfl⟩
theorem fn_root {g : FuncId} {F : BitVec 64 → BitVec 64 → Bool} (hg : callable Try.prog g = true) (hF : ∀ x n, Fn Try.prog tds g [] [.c (.w64 x), .c (.w64 n)] (fun _ => True) (fun v hs => v = .a (.c (.bool (F x n))) ∧ hs = [])) (n : BitVec 64) :
    Fn Try.prog tds 82 [] [.c (.w64 n), .c (.fnv (.func g) #[] #[])] (fun _ => True) (fun v hs => v = .a (.c (.w64 (root F n))) ∧ hs = []) := by
  refine fn_of_body tds_ok follows_ Try.func82 rfl (t := .a (.c (.w64 n)) :: .a (.c (.fnv (.func g) #[] #[])) :: anys 21) rfl (fun w r0 hr _ => ?_)
  obtain rfl : r0 = [] := List.eq_nil_of_length_eq_zero hr
  refine .inl ⟨Nat, fun k => ⟨.a (.c (.w64 n)) :: .a (.c (.fnv (.func g) #[] #[])) :: .any :: .any :: .any :: .a (.c (.w64 (rootS F n k))) :: .a (.c (.int .i64 (34 - (k : Int)))) :: anys 16, []⟩, fun k => k ≤ 35, fun k => 35 - k, ⟨0, [], ⟨⟨rfl, rfl, rfl⟩, rfl, rfl, rfl, rfl, trivial⟩, by omega⟩, fun k hk => ⟨fun h => ?_, fun h => ?_⟩⟩
  · have hlt : 34 - (k : Int) ≥ 0 := of_decide_eq_true h
    have e : (BitVec.ofInt 64 (34 - (k : Int))).toNat = 34 - k := by
      rw [show 34 - (k : Int) = ((34 - k : Nat) : Int) by omega]
      exact cast64 (by omega)
    refine ⟨hg, call_same (hF _ _) [] rfl ⟨rfl, rfl, trivial⟩ trivial (fun _ _ => trivial) ?_⟩
    rintro v hs ⟨rfl, rfl⟩
    rw [e]
    refine ⟨fun h2 => ?_, fun h2 => ?_⟩
    all_goals
      refine ⟨⟨by omega, by omega⟩, k + 1, [], ⟨⟨rfl, rfl, rfl⟩, rfl, rfl, ?_, ?_, trivial⟩, by dsimp only; omega, by dsimp only; omega⟩
      · first | exact (if_pos h2).symm | exact (if_neg (by rw [h2]; decide)).symm
      · show 34 - (k : Int) - 1 = 34 - ((k + 1 : Nat) : Int)
        omega
  · obtain rfl : k = 35 := by have : ¬ 34 - (k : Int) ≥ 0 := of_decide_eq_false h; have hk : k ≤ 35 := hk; omega
    exact ⟨.a (.c (.w64 (root F n))), [], ⟨[], ⟨rfl, rfl, rfl⟩, rfl, trivial⟩, rfl, rfl⟩
/-- Tables of SHA-256: done or not, the lock, the first words, the steps. -/
abbrev shaT (d : BitVec 32) (m : Int) (f s : Nat → BitVec 32) : List Seg := [.one (.w32 d), .one (.int .i32 m), .one (.w32 0), .row 8 (fun i => .w32 (f i)), .row 64 (fun i => .w32 (s i))]
theorem eqC_w32 {q : List Nat} {x : SC} {b : BitVec 32} (h : x = .w32 b) : eqC q x (.w32 b) True := by subst h; exact ⟨rfl, trivial⟩
theorem fn_sfill (d : BitVec 32) (m : Int) (f s : Nat → BitVec 32) : Fn Try.prog tds 64 [shaT d m f s] [.c (.p 0 0 0)] (fun _ => True) (fun x hs => x = .tup [] ∧ hs = [shaT d m first steps]) := by
  refine fn_of_body tds_ok follows_ Try.func64 rfl (t := .a (.c (.p 0 0 0)) :: anys 39) rfl (fun w r0 hr _ => ?_)
  obtain ⟨x0, rfl⟩ := List.length_eq_one_iff.1 hr
  refine .inl ⟨Nat, fun k => ⟨.a (.c (.p 0 0 0)) :: .any :: .a (.c (.int .i64 (cnt k : Int))) :: .a (.c (.w64 (BitVec.ofNat 64 (k + 2)))) :: anys 36, [shaT d m (firstS f k) (stepsS s k)]⟩, fun k => cnt k ≤ 64 ∧ k ≤ 310, fun k => 310 - k, ⟨0, [0], ⟨⟨rfl, rfl, rfl⟩, ?_⟩, by decide⟩, fun k hk => ⟨fun h => ?_, fun h => ?_⟩⟩
  · (repeat first | exact trivial | refine ⟨rfl, ?_⟩ | refine ⟨fun _ _ => ⟨rfl, trivial⟩, ?_⟩ | refine ⟨by omega, ?_⟩)
  · have hlt : (cnt k : Int) < 64 := of_decide_eq_true h
    have hk310 := cnt_lt (show cnt k < 64 by omega)
    refine .inl ⟨Nat, fun e => ⟨.a (.c (.p 0 0 0)) :: .any :: .a (.c (.int .i64 (cnt k : Int))) :: .a (.c (.w64 (BitVec.ofNat 64 (k + 2)))) :: .a (.c (.w64 (BitVec.ofNat 64 e))) :: anys 35, [shaT d m (firstS f k) (stepsS s k)]⟩, fun e => 2 ≤ e ∧ e < 19 ∧ noDiv (k + 2) e, fun e => 20 - e, ⟨2, [0], ⟨⟨rfl, rfl, rfl⟩, ?_⟩, by omega, by omega, fun e h1 h2 => by omega⟩, fun e he => ⟨fun h => ?_, fun h => ?_⟩⟩
    · (repeat first | exact trivial | refine ⟨rfl, ?_⟩ | refine ⟨fun _ _ => ⟨rfl, trivial⟩, ?_⟩ | refine ⟨by omega, ?_⟩)
    · have hle := (sq_le (by omega) (by omega)).1 (of_decide_eq_true h)
      obtain ⟨he2, he19, hnd⟩ := he
      have he18 : e < 18 := by
        rcases Nat.lt_or_ge e 18 with h1 | h1
        · exact h1
        · have := Nat.mul_le_mul h1 h1; omega
      refine ⟨ne_zero (by omega) (by omega), fun h2 => ?_, fun h2 => ?_⟩
      · have hp := not_isP he2 hle (by omega) ((rem_iff (by omega) (by omega)).1 (of_decide_eq_true h2))
        refine ⟨k + 1, [0], ⟨⟨rfl, rfl, rfl⟩, ?_⟩, ⟨by rw [cnt_no hp]; omega, by omega⟩, by dsimp only; omega⟩
        refine ⟨rfl, by rw [cnt_no hp], ofN_succ (k + 2), ?_⟩
        (repeat first | exact trivial | refine ⟨rfl, ?_⟩ | refine ⟨fun _ _ => ⟨rfl, trivial⟩, ?_⟩ | refine ⟨by omega, ?_⟩)
        exact ⟨fun j hj => eqC_w32 (by rw [firstS_no f hp]), rfl, fun j hj => eqC_w32 (by rw [stepsS_no s hp]), trivial⟩
      · have hr : (k + 2) % e ≠ 0 := fun hc => of_decide_eq_false h2 ((rem_iff (by omega) (by omega)).2 hc)
        refine ⟨e + 1, [0], ⟨⟨rfl, rfl, rfl⟩, ?_⟩, ⟨by omega, by omega, fun d h3 h4 => ?_⟩, by dsimp only; omega⟩
        · refine ⟨rfl, rfl, rfl, ofN_succ e, ?_⟩
          (repeat first | exact trivial | refine ⟨rfl, ?_⟩ | refine ⟨fun _ _ => ⟨rfl, trivial⟩, ?_⟩ | refine ⟨by omega, ?_⟩)
        · by_cases hde : d = e
          · subst hde; exact hr
          · exact hnd d h3 (by omega)
    · obtain ⟨he2, he19, hnd⟩ := he
      have hgt : k + 2 < e * e := by
        have := mt (sq_le (e := e) (n := k + 2) (by omega) (by omega)).2 (of_decide_eq_false h)
        omega
      have hp := isP_of hnd hgt he2
      have last : ∀ (g : Nat → SC) (v : SC), (v = .w32 ((root cuFits (BitVec.ofNat 64 (k + 2))).setWidth 32)) → (∀ j, g j = .w32 (stepsS s k j)) → ∀ j, eqC [0] (upd g (cnt k) v j) (.w32 (stepsS s (k + 1) j)) True := fun g v hv hg j => eqC_w32 (by
        unfold upd
        rw [stepsS_yes s hp j]
        by_cases hj : j = cnt k
        · rw [if_pos hj, if_pos hj, hv]
        · rw [if_neg hj, if_neg hj, hg])
      have e0 : (cnt k : Int).toNat + 0 = cnt k := by omega
      refine ⟨fun h8 => ?_, fun h8 => ?_⟩
      · have h8' : cnt k < 8 := by have := of_decide_eq_true h8; omega
        refine ⟨some [0], [], [(0, true), (1, true), (2, true), (5, true), (6, true), (3, false), (4, true), (7, true)], [8], by kernel_rfl, ?_⟩
        refine ⟨by kernel_rfl, call_same (fn_root (by kernel_rfl) fn_sqFits (BitVec.ofNat 64 (k + 2))) [] rfl ⟨rfl, rfl, trivial⟩ trivial (fun _ _ => trivial) ?_⟩
        rintro v hs ⟨rfl, rfl⟩
        refine ⟨⟨by omega, by omega⟩, by omega, rfl, ?_⟩
        refine ⟨some [0], [], [(0, true), (1, true), (2, true), (5, true), (6, true), (3, false), (4, true), (7, true)], [8], by kernel_rfl, ?_⟩
        refine ⟨by kernel_rfl, call_same (fn_root (by kernel_rfl) fn_cuFits (BitVec.ofNat 64 (k + 2))) [] rfl ⟨rfl, rfl, trivial⟩ trivial (fun _ _ => trivial) ?_⟩
        rintro v hs ⟨rfl, rfl⟩
        refine ⟨⟨by omega, by omega⟩, by omega, rfl, ⟨by omega, by omega⟩, ?_⟩
        refine ⟨k + 1, [0], ⟨⟨rfl, rfl, rfl⟩, ?_⟩, ⟨by rw [cnt_yes hp]; omega, by omega⟩, by dsimp only; omega⟩
        refine ⟨rfl, by rw [cnt_yes hp]; rfl, ofN_succ (k + 2), ?_⟩
        (repeat first | exact trivial | refine ⟨rfl, ?_⟩ | refine ⟨fun _ _ => ⟨rfl, trivial⟩, ?_⟩ | refine ⟨by omega, ?_⟩)
        refine ⟨fun j hj => ?_, rfl, fun j hj => ?_, trivial⟩
        · rw [e0]
          refine eqC_w32 ?_
          unfold upd
          rw [firstS_yes f hp h8' j]
          by_cases hj : j = cnt k
          · rw [if_pos hj, if_pos hj]
          · rw [if_neg hj, if_neg hj]
        · rw [e0]
          exact last _ _ rfl (fun _ => rfl) j
      · have h8' : ¬ cnt k < 8 := by have := of_decide_eq_false h8; omega
        refine ⟨some [0], [], [(0, true), (1, true), (2, true), (5, true), (6, true), (3, false), (4, true), (7, true)], [8], by kernel_rfl, ?_⟩
        refine ⟨by kernel_rfl, call_same (fn_root (by kernel_rfl) fn_cuFits (BitVec.ofNat 64 (k + 2))) [] rfl ⟨rfl, rfl, trivial⟩ trivial (fun _ _ => trivial) ?_⟩
        rintro v hs ⟨rfl, rfl⟩
        refine ⟨⟨by omega, by omega⟩, by omega, rfl, ⟨by omega, by omega⟩, ?_⟩
        refine ⟨k + 1, [0], ⟨⟨rfl, rfl, rfl⟩, ?_⟩, ⟨by rw [cnt_yes hp]; omega, by omega⟩, by dsimp only; omega⟩
        refine ⟨rfl, by rw [cnt_yes hp]; rfl, ofN_succ (k + 2), ?_⟩
        (repeat first | exact trivial | refine ⟨rfl, ?_⟩ | refine ⟨fun _ _ => ⟨rfl, trivial⟩, ?_⟩ | refine ⟨by omega, ?_⟩)
        refine ⟨fun j hj => eqC_w32 (by rw [firstS_late f h8']), rfl, fun j hj => ?_, trivial⟩
        rw [e0]
        exact last _ _ rfl (fun _ => rfl) j
  · have h64 : cnt k = 64 := by have : ¬ (cnt k : Int) < 64 := of_decide_eq_false h; have := hk.1; omega
    have hk' := cnt_end h64 hk.2
    have hF : ∀ j, j < 8 → firstS f k j = first j := fun j hj => by rw [hk']; exact first_eq f j hj
    have hS : ∀ j, j < 64 → stepsS s k j = steps j := fun j hj => by rw [hk']; exact steps_eq s j hj
    refine ⟨.tup [], [shaT d m first steps], ⟨[0], ⟨rfl, rfl, rfl⟩, ?_⟩, rfl, rfl⟩
    (repeat first | exact trivial | refine ⟨rfl, ?_⟩ | refine ⟨fun _ _ => ⟨rfl, trivial⟩, ?_⟩ | refine ⟨by omega, ?_⟩)
    refine ⟨fun j hj => eqC_w32 (congrArg SC.w32 (hF j hj)), rfl, fun j hj => eqC_w32 (congrArg SC.w32 (hS j hj)), trivial⟩
end Sx
end Go.Proofs.Ytndlhhhebijknaa
end

section
/-
  SHA-256's rounds as the program makes them: plain functions. No condition.
-/
namespace Go.Proofs.Ytndlhhhebijknaa
set_option linter.unusedVariables false
namespace Sha

/-- Turned right. -/
def ror (x : BitVec 32) (n : Nat) : BitVec 32 := x <<< (32 - n) ||| x >>> n
def w0 (P : Nat → BitVec 8) (i : Nat) : BitVec 32 :=
  (P (4 * i)).setWidth 32 <<< 24 ||| (P (4 * i + 1)).setWidth 32 <<< 16 ||| (P (4 * i + 2)).setWidth 32 <<< 8 ||| (P (4 * i + 3)).setWidth 32
def sig0 (x : BitVec 32) : BitVec 32 := ror x 7 ^^^ ror x 18 ^^^ x >>> 3
def sig1 (y : BitVec 32) : BitVec 32 := ror y 17 ^^^ ror y 19 ^^^ y >>> 10
/-- The schedule's array, k words behind the first sixteen. -/
def wS (P : Nat → BitVec 8) : Nat → Nat → BitVec 32
  | 0, i => if i < 16 then w0 P i else 0#32
  | k + 1, i => if i = 16 + k then wS P k k + sig0 (wS P k (k + 1)) + wS P k (k + 9) + sig1 (wS P k (k + 14)) else wS P k i
def one (v : Nat → BitVec 32) (kw w : BitVec 32) : BitVec 32 :=
  v 7 + (ror (v 4) 6 ^^^ ror (v 4) 11 ^^^ ror (v 4) 25) + ((v 4 &&& v 5) ^^^ (~~~(v 4) &&& v 6)) + kw + w
def two (v : Nat → BitVec 32) : BitVec 32 :=
  (ror (v 0) 2 ^^^ ror (v 0) 13 ^^^ ror (v 0) 22) + ((v 0 &&& v 1) ^^^ (v 0 &&& v 2) ^^^ (v 1 &&& v 2))
def next (v : Nat → BitVec 32) (kw w : BitVec 32) : Nat → BitVec 32
  | 0 => one v kw w + two v
  | 4 => v 3 + one v kw w
  | i + 1 => v i
/-- k rounds. -/
def vR (W : Nat → BitVec 32) (v : Nat → BitVec 32) : Nat → Nat → BitVec 32
  | 0 => v
  | k + 1 => next (vR W v k) (steps k) (W k)
def compress (V : Nat → BitVec 32) (P : Nat → BitVec 8) (i : Nat) : BitVec 32 := V i + vR (wS P 48) V 64 i
end Sha
end Go.Proofs.Ytndlhhhebijknaa
end

section
/-
  SHA-256: words turned; tables begun with. No condition.
-/
namespace Go.Proofs.Ytndlhhhebijknaa
set_option linter.unusedVariables false
namespace Sx
open Sha

theorem ror_amt : ∀ n : Nat, n < 32 → 0 < n → ((BitVec.ofInt 64 (-(n : Int))) &&& 31#64).toNat = 32 - n ∧ (32#64 - ((BitVec.ofInt 64 (-(n : Int))) &&& 31#64)).toNat = n := by decide +kernel
theorem fn_rot32 (x : BitVec 32) (n : Nat) (h : n < 32) (h0 : 0 < n) : Fn Try.prog tds 85 [] [.c (.w32 x), .c (.int .i64 (-(n : Int)))] (fun _ => True) (fun v hs => v = .a (.c (.w32 (ror x n))) ∧ hs = []) := by
  refine fn_of_body tds_ok follows_ Try.func85 rfl (t := .a (.c (.w32 x)) :: .a (.c (.int .i64 (-(n : Int)))) :: anys (Try.f85.ntmps - 2)) rfl (fun w r0 hr _ => ?_)
  obtain rfl : r0 = [] := List.eq_nil_of_length_eq_zero hr
  obtain ⟨e1, e2⟩ := ror_amt n h h0
  refine ⟨.a (.c (.w32 (ror x n))), [], ⟨[], ⟨rfl, rfl, rfl⟩, ?_, trivial⟩, rfl, rfl⟩
  show x <<< _ ||| x >>> _ = x <<< (32 - n) ||| x >>> n
  rw [e1, e2]
/-- A sum in the making: whose tables, the words, the bytes that wait, how many they are, how many there were in all. -/
abbrev digC (i : Nat) (V : Nat → BitVec 32) (P : Nat → BitVec 8) (h : Int) (a : BitVec 64) : List Seg := [.one (.p i 0 0), .row 8 (fun j => .w32 (V j)), .row 64 (fun j => .w8 (P j)), .one (.int .i64 h), .one (.w64 a)]
theorem fn_sdo (d : BitVec 32) (f s : Nat → BitVec 32) (hd : d = 0#32 ∨ d = 1#32 ∧ f = first ∧ s = steps) : Fn Try.prog tds 63 [shaT d 0 f s] [.c (.p 0 0 0), .c (.clo 64 0 0 0)] (fun _ => True) (fun x hs => x = .tup [] ∧ hs = [shaT 1 0 first steps]) := by
  rcases hd with rfl | ⟨rfl, rfl, rfl⟩
  · exact fn_once (by kernel_rfl) (fn_sfill 0#32 1 f s)
  · exact fn_once_done
theorem fn_begin (d : BitVec 32) (f s : Nat → BitVec 32) (hd : d = 0#32 ∨ d = 1#32 ∧ f = first ∧ s = steps) : Fn Try.prog tds 49 [shaT d 0 f s] [.c (.p 0 0 0)] (fun _ => True) (fun x hs => x = .a (.agg (digC 0 first (fun _ => 0#8) 0 0)) ∧ hs = [shaT 1 0 first steps]) := by
  refine fn_of_body tds_ok follows_ Try.func49 rfl (t := .a (.c (.p 0 0 0)) :: anys 14) rfl (fun w r0 hr _ => ?_)
  obtain ⟨x0, rfl⟩ := List.length_eq_one_iff.1 hr
  refine ⟨by kernel_rfl, call_same (fn_sdo d f s hd) [0] rfl ⟨rfl, rfl, rfl, trivial⟩ (by (repeat first | exact trivial | refine ⟨rfl, ?_⟩ | refine ⟨fun _ _ => ⟨rfl, trivial⟩, ?_⟩ | refine ⟨by omega, ?_⟩)) (fun _ _ => trivial) ?_⟩
  rintro x hs ⟨rfl, rfl⟩
  (repeat first | refine ⟨by omega, ?_⟩ | refine ⟨by decide, ?_⟩ | refine ⟨idx8 _, ?_⟩ | refine ⟨lt8 (Nat.le_refl _) _, ?_⟩ | refine ⟨rfl, ?_⟩)
  refine ⟨.a (.agg (digC 0 first (fun _ => 0#8) 0 0)), [shaT 1 0 first steps], ⟨[0], ⟨rfl, rfl, rfl⟩, ?_⟩, rfl, rfl⟩
  (repeat first | exact trivial | refine ⟨rfl, ?_⟩ | refine ⟨fun _ _ => ⟨rfl, trivial⟩, ?_⟩ | refine ⟨by omega, ?_⟩)
theorem fn_snew : Fn Try.prog tds 16 [] [] (fun _ => True) (fun x hs => x = .a (.c (.p 0 0 0)) ∧ hs = [shaT 0 0 (fun _ => 0#32) (fun _ => 0#32)]) := by
  refine fn_of_body tds_ok follows_ Try.func16 rfl (t := anys 2) rfl (fun w r0 hr _ => ?_)
  obtain rfl : r0 = [] := List.eq_nil_of_length_eq_zero hr
  refine ⟨.a (.c (.p 0 0 0)), [shaT 0 0 (fun _ => 0#32) (fun _ => 0#32)], ⟨[0], ⟨rfl, rfl, rfl⟩, ?_⟩, rfl, rfl⟩
  (repeat first | exact trivial | refine ⟨rfl, ?_⟩ | refine ⟨fun _ _ => ⟨rfl, trivial⟩, ?_⟩ | refine ⟨by omega, ?_⟩)
end Sx
end Go.Proofs.Ytndlhhhebijknaa
end

section
/-
  SHA-256: one block gone through. No condition.
-/
namespace Go.Proofs.Ytndlhhhebijknaa
set_option linter.unusedVariables false
namespace Sx
open Sha

theorem upd_w32 {f g : Nat → SC} {k : Nat} {v : SC} (hv : v = g k) (hf : ∀ j, j ≠ k → f j = g j) (j : Nat) : upd f k v j = g j := by
  unfold upd
  split
  · rename_i h; rw [h, hv]
  · rename_i h; exact hf j h
set_option maxHeartbeats 4000000 in
set_option maxRecDepth 20000 in
theorem fn_smix (V : Nat → BitVec 32) (P : Nat → BitVec 8) (hv : Int) (a : BitVec 64) :
    FnR Try.prog tds 65 1 [shaT 1 0 first steps, digC 0 V P hv a] [.c (.p 1 0 0)] (fun _ => True) (fun x hs => x = .tup [] ∧ hs = [shaT 1 0 first steps, digC 0 (compress V P) P hv a]) := by
  refine fn_of_body tds_ok follows_ Try.func65 rfl (t := .a (.c (.p 1 0 0)) :: anys 206) rfl (fun w r0 hr _ => ?_)
  obtain ⟨x0, x1, rfl⟩ := len2' hr
  refine .inl ⟨Nat, fun k => ⟨.a (.c (.p 1 0 0)) :: .any :: .a (.c (.p 2 0 0)) :: (anys 20 ++ (.a (.c (.int .i64 (k : Int))) :: anys 183)), [shaT 1 0 first steps, digC 0 V P hv a, [.row 64 fun i => .w32 (if i < k then w0 P i else 0#32)]]⟩, fun k => k ≤ 16, fun k => 16 - k, ⟨0, [0, 1, 2], ⟨⟨rfl, rfl, rfl⟩, ?_⟩, by omega⟩, fun k hk => ⟨fun h => ?_, fun h => ?_⟩⟩
  · (repeat first | exact trivial | refine ⟨rfl, ?_⟩ | refine ⟨fun _ _ => ⟨rfl, trivial⟩, ?_⟩ | refine ⟨by omega, ?_⟩)
  · have hlt : (k : Int) < 16 := of_decide_eq_true h
    (repeat first | refine ⟨by omega, ?_⟩ | refine ⟨by decide, ?_⟩ | refine ⟨idx8 _, ?_⟩ | refine ⟨lt8 (Nat.le_refl _) _, ?_⟩ | refine ⟨rfl, ?_⟩)
    have e4 : (4 * (k : Int)).toNat = 4 * k := by omega
    have e64 : ((64 : Nat) : Int).toNat = 64 := rfl
    simp only [frcN_eq, e4, e64, if_neg (show ¬ 64 = 4 * k by omega)]
    refine ⟨none, [], [(0, true), (1, true), (2, true), (3, true), (4, true), (5, true), (6, true), (7, true), (8, true), (9, true), (10, true), (11, true), (12, true), (13, true), (14, true), (15, true), (16, true), (17, true), (18, true), (19, true), (20, true), (21, true), (22, true), (23, true)], [24], by kernel_rfl, ?_⟩
    repeat first
      | refine ⟨by omega, ?_⟩
    refine ⟨rfl, ⟨by omega, by omega⟩, k + 1, [0, 1, 2], ⟨⟨rfl, rfl, rfl⟩, ?_⟩, by first | omega | (dsimp only; omega), by first | omega | (dsimp only; omega)⟩
    (repeat first | exact trivial | refine ⟨rfl, ?_⟩ | refine ⟨fun _ _ => ⟨rfl, trivial⟩, ?_⟩ | refine ⟨by omega, ?_⟩)
    refine ⟨fun j hj => ?_, trivial⟩
    have e0 : (k : Int).toNat + 0 = k := by omega
    have i0 : Int.toNat 0 + (0 + 4 * k * 1) = 4 * k := by omega
    have i1 : Int.toNat 1 + (0 + 4 * k * 1) = 4 * k + 1 := by omega
    have i2 : Int.toNat 2 + (0 + 4 * k * 1) = 4 * k + 2 := by omega
    have i3 : Int.toNat 3 + (0 + 4 * k * 1) = 4 * k + 3 := by omega
    rw [e0, i0, i1, i2, i3]
    refine eqC_w32 ((upd_w32 (g := fun i => .w32 (if i < k + 1 then w0 P i else 0#32)) ?_ ?_ j).trans rfl)
    · simp only [if_pos (show k < k + 1 by omega)]
      rfl
    · intro j hjk
      have : j < k + 1 ↔ j < k := by omega
      simp only [this]
  · obtain rfl : k = 16 := by have : ¬ (k : Int) < 16 := of_decide_eq_false h; have hk : k ≤ 16 := hk; omega
    refine .inl ⟨Nat, fun k => ⟨.a (.c (.p 1 0 0)) :: .any :: .a (.c (.p 2 0 0)) :: .any :: .any :: .a (.c (.int .i64 ((16 + k : Nat) : Int))) :: anys 201, [shaT 1 0 first steps, digC 0 V P hv a, [.row 64 fun i => .w32 (wS P k i)]]⟩, fun k => k ≤ 48, fun k => 48 - k, ⟨0, [0, 1, 2], ⟨⟨rfl, rfl, rfl⟩, ?_⟩, by omega⟩, fun k hk => ⟨fun h => ?_, fun h => ?_⟩⟩
    · (repeat first | exact trivial | refine ⟨rfl, ?_⟩ | refine ⟨fun _ _ => ⟨rfl, trivial⟩, ?_⟩ | refine ⟨by omega, ?_⟩)
    · have hlt : ((16 + k : Nat) : Int) < 64 := of_decide_eq_true h
      refine ⟨none, [], [(0, true), (1, true), (2, true), (3, true), (4, true), (5, true), (6, true), (7, true), (8, true), (9, true)], [], by kernel_rfl, ?_⟩
      (repeat first | refine ⟨by omega, ?_⟩ | refine ⟨by decide, ?_⟩ | refine ⟨idx8 _, ?_⟩ | refine ⟨lt8 (Nat.le_refl _) _, ?_⟩)
      refine ⟨by kernel_rfl, call_same (fn_rot32 _ 7 (by omega) (by omega)) [] rfl ⟨rfl, rfl, trivial⟩ trivial (fun _ _ => trivial) ?_⟩
      rintro v hs ⟨rfl, rfl⟩
      refine ⟨by kernel_rfl, call_same (fn_rot32 _ 18 (by omega) (by omega)) [] rfl ⟨rfl, rfl, trivial⟩ trivial (fun _ _ => trivial) ?_⟩
      rintro v hs ⟨rfl, rfl⟩
      refine ⟨by kernel_rfl, call_same (fn_rot32 _ 17 (by omega) (by omega)) [] rfl ⟨rfl, rfl, trivial⟩ trivial (fun _ _ => trivial) ?_⟩
      rintro v hs ⟨rfl, rfl⟩
      refine ⟨by kernel_rfl, call_same (fn_rot32 _ 19 (by omega) (by omega)) [] rfl ⟨rfl, rfl, trivial⟩ trivial (fun _ _ => trivial) ?_⟩
      rintro v hs ⟨rfl, rfl⟩
      refine ⟨none, [], [(0, true), (1, true), (2, true), (3, true), (4, true), (5, true), (6, true), (7, true), (8, true), (9, true), (10, true), (11, true), (12, true), (13, true), (14, true)], [15], by kernel_rfl, ?_⟩
      (repeat first | refine ⟨by omega, ?_⟩ | refine ⟨by decide, ?_⟩ | refine ⟨idx8 _, ?_⟩ | refine ⟨lt8 (Nat.le_refl _) _, ?_⟩)
      refine ⟨rfl, ⟨by omega, by omega⟩, k + 1, [0, 1, 2], ⟨⟨rfl, rfl, rfl⟩, ?_⟩, by first | omega | (dsimp only; omega), by first | omega | (dsimp only; omega)⟩
      (repeat first | exact trivial | refine ⟨rfl, ?_⟩ | refine ⟨fun _ _ => ⟨rfl, trivial⟩, ?_⟩ | refine ⟨by omega, ?_⟩)
      refine ⟨fun j hj => ?_, trivial⟩
      have j0 : ((16 + k : Nat) : Int).toNat + 0 = 16 + k := by omega
      have j1 : (((16 + k : Nat) : Int) - 16).toNat + 0 = k := by omega
      have j2 : (((16 + k : Nat) : Int) - 15).toNat + 0 = k + 1 := by omega
      have j3 : (((16 + k : Nat) : Int) - 7).toNat + 0 = k + 9 := by omega
      have j4 : (((16 + k : Nat) : Int) - 2).toNat + 0 = k + 14 := by omega
      rw [j0, j1, j2, j3, j4]
      refine eqC_w32 ((upd_w32 (g := fun i => .w32 (wS P (k + 1) i)) ?_ ?_ j).trans rfl)
      · simp only [wS]
        rfl
      · intro i hi
        simp only [wS, if_neg hi]
    · obtain rfl : k = 48 := by have : ¬ ((16 + k : Nat) : Int) < 64 := of_decide_eq_false h; have hk : k ≤ 48 := hk; omega
      obtain ⟨W, hW⟩ : ∃ W, wS P 48 = W := ⟨_, rfl⟩
      rw [hW]
      (repeat first | refine ⟨by omega, ?_⟩ | refine ⟨by decide, ?_⟩ | refine ⟨idx8 _, ?_⟩ | refine ⟨lt8 (Nat.le_refl _) _, ?_⟩ | refine ⟨rfl, ?_⟩)
      refine .inl ⟨Nat, fun k => ⟨.a (.c (.p 1 0 0)) :: .any :: .a (.c (.p 2 0 0)) :: (anys 7 ++ (.a (.c (.p 3 0 0)) :: (anys 93 ++ (.a (.c (.int .i64 (k : Int))) :: anys 102)))), [shaT 1 0 first steps, digC 0 V P hv a, [.row 64 fun i => .w32 (W i)], [.row 8 fun i => .w32 (vR W V k i)]]⟩, fun k => k ≤ 64, fun k => 64 - k, ⟨0, [0, 1, 2, 3], ⟨⟨rfl, rfl, rfl⟩, ?_⟩, by omega⟩, fun k hk => ⟨fun h => ?_, fun h => ?_⟩⟩
      · (repeat first | exact trivial | refine ⟨rfl, ?_⟩ | refine ⟨fun _ _ => ⟨rfl, trivial⟩, ?_⟩ | refine ⟨by omega, ?_⟩)
      · have hlt : (k : Int) < 64 := of_decide_eq_true h
        obtain ⟨v, hv⟩ : ∃ v, vR W V k = v := ⟨_, rfl⟩
        rw [hv]
        refine ⟨none, [], [(0, true), (1, true), (2, true), (3, true), (4, true), (5, true), (6, true), (7, true), (8, true), (9, true), (10, true), (11, true), (12, true), (13, true), (14, true), (15, true), (16, true), (17, true)], [], by kernel_rfl, ?_⟩
        (repeat first | refine ⟨by omega, ?_⟩ | refine ⟨by decide, ?_⟩ | refine ⟨idx8 _, ?_⟩ | refine ⟨lt8 (Nat.le_refl _) _, ?_⟩)
        refine ⟨by kernel_rfl, call_same (fn_rot32 _ 6 (by omega) (by omega)) [] rfl ⟨rfl, rfl, trivial⟩ trivial (fun _ _ => trivial) ?_⟩
        rintro v hs ⟨rfl, rfl⟩
        refine ⟨by kernel_rfl, call_same (fn_rot32 _ 11 (by omega) (by omega)) [] rfl ⟨rfl, rfl, trivial⟩ trivial (fun _ _ => trivial) ?_⟩
        rintro v hs ⟨rfl, rfl⟩
        refine ⟨by kernel_rfl, call_same (fn_rot32 _ 25 (by omega) (by omega)) [] rfl ⟨rfl, rfl, trivial⟩ trivial (fun _ _ => trivial) ?_⟩
        rintro v hs ⟨rfl, rfl⟩
        refine ⟨none, [], [(0, true), (1, true), (2, true), (3, true), (4, true), (5, true), (6, true), (7, true), (8, true), (9, true), (10, true), (11, true), (12, true), (13, true), (14, true), (15, true), (16, true), (17, true), (18, true), (19, true), (20, true), (21, true), (22, true), (23, true), (24, true), (25, true), (26, true), (27, true)], [], by kernel_rfl, ?_⟩
        (repeat first | refine ⟨by omega, ?_⟩ | refine ⟨by decide, ?_⟩ | refine ⟨idx8 _, ?_⟩ | refine ⟨lt8 (Nat.le_refl _) _, ?_⟩)
        refine ⟨by kernel_rfl, call_same (fn_rot32 _ 2 (by omega) (by omega)) [] rfl ⟨rfl, rfl, trivial⟩ trivial (fun _ _ => trivial) ?_⟩
        rintro v hs ⟨rfl, rfl⟩
        refine ⟨by kernel_rfl, call_same (fn_rot32 _ 13 (by omega) (by omega)) [] rfl ⟨rfl, rfl, trivial⟩ trivial (fun _ _ => trivial) ?_⟩
        rintro v hs ⟨rfl, rfl⟩
        refine ⟨by kernel_rfl, call_same (fn_rot32 _ 22 (by omega) (by omega)) [] rfl ⟨rfl, rfl, trivial⟩ trivial (fun _ _ => trivial) ?_⟩
        rintro v hs ⟨rfl, rfl⟩
        (repeat first | refine ⟨by omega, ?_⟩ | refine ⟨by decide, ?_⟩ | refine ⟨idx8 _, ?_⟩ | refine ⟨lt8 (Nat.le_refl _) _, ?_⟩)
        refine ⟨rfl, ⟨by omega, by omega⟩, k + 1, [0, 1, 2, 3], ⟨⟨rfl, rfl, rfl⟩, ?_⟩, by first | omega | (dsimp only; omega), by first | omega | (dsimp only; omega)⟩
        (repeat first | exact trivial | refine ⟨rfl, ?_⟩ | refine ⟨fun _ _ => ⟨rfl, trivial⟩, ?_⟩ | refine ⟨by omega, ?_⟩)
        refine ⟨fun j hj => ?_, trivial⟩
        have e0 : (k : Int).toNat + 0 = k := by omega
        rw [e0, show vR W V (k + 1) = next v (steps k) (W k) by simp only [vR, hv]]
        have hj8 : j = 0 ∨ j = 1 ∨ j = 2 ∨ j = 3 ∨ j = 4 ∨ j = 5 ∨ j = 6 ∨ j = 7 := by omega
        rcases hj8 with rfl | rfl | rfl | rfl | rfl | rfl | rfl | rfl <;> exact ⟨rfl, trivial⟩
      · obtain rfl : k = 64 := by have : ¬ (k : Int) < 64 := of_decide_eq_false h; have hk : k ≤ 64 := hk; omega
        obtain ⟨v, hv'⟩ : ∃ v, vR W V 64 = v := ⟨_, rfl⟩
        rw [hv']
        refine .inl ⟨Nat, fun k => ⟨.a (.c (.p 1 0 0)) :: .any :: .a (.c (.p 2 0 0)) :: (anys 7 ++ (.a (.c (.p 3 0 0)) :: (anys 179 ++ (.a (.c (.int .i64 (k : Int))) :: anys 16)))), [shaT 1 0 first steps, digC 0 (fun i => if i < k then V i + v i else V i) P hv a, [.row 64 fun i => .w32 (W i)], [.row 8 fun i => .w32 (v i)]]⟩, fun k => k ≤ 8, fun k => 8 - k, ⟨0, [0, 1, 2, 3], ⟨⟨rfl, rfl, rfl⟩, ?_⟩, by omega⟩, fun k hk => ⟨fun h => ?_, fun h => ?_⟩⟩
        · (repeat first | exact trivial | refine ⟨rfl, ?_⟩ | refine ⟨fun _ _ => ⟨rfl, trivial⟩, ?_⟩ | refine ⟨by omega, ?_⟩)
        · have hlt : (k : Int) < 8 := of_decide_eq_true h
          refine ⟨none, [], [(0, true), (1, true), (2, true), (3, true), (4, true), (5, true), (6, true), (7, true), (8, true), (9, true), (10, true), (11, true), (12, true)], [13], by kernel_rfl, ?_⟩
          (repeat first | refine ⟨by omega, ?_⟩ | refine ⟨by decide, ?_⟩ | refine ⟨idx8 _, ?_⟩ | refine ⟨lt8 (Nat.le_refl _) _, ?_⟩)
          refine ⟨rfl, ⟨by omega, by omega⟩, k + 1, [0, 1, 2, 3], ⟨⟨rfl, rfl, rfl⟩, ?_⟩, by first | omega | (dsimp only; omega), by first | omega | (dsimp only; omega)⟩
          (repeat first | exact trivial | refine ⟨rfl, ?_⟩ | refine ⟨fun _ _ => ⟨rfl, trivial⟩, ?_⟩ | refine ⟨by omega, ?_⟩)
          have e0 : (k : Int).toNat + 0 = k := by omega
          refine ⟨fun j hj => ?_, ?_⟩
          · rw [e0]
            refine eqC_w32 ((upd_w32 (g := fun i => .w32 (if i < k + 1 then V i + v i else V i)) ?_ ?_ j).trans rfl)
            · simp only [if_pos (show k < k + 1 by omega), if_neg (Nat.lt_irrefl k)]
            · intro i hi
              have : i < k + 1 ↔ i < k := by omega
              simp only [this]
          · (repeat first | exact trivial | refine ⟨rfl, ?_⟩ | refine ⟨fun _ _ => ⟨rfl, trivial⟩, ?_⟩ | refine ⟨by omega, ?_⟩)
        · obtain rfl : k = 8 := by have : ¬ (k : Int) < 8 := of_decide_eq_false h; have hk : k ≤ 8 := hk; omega
          refine ⟨.tup [], [shaT 1 0 first steps, digC 0 (compress V P) P hv a], ⟨[0, 1], ⟨rfl, rfl, rfl⟩, ?_⟩, rfl, rfl⟩
          (repeat first | exact trivial | refine ⟨rfl, ?_⟩ | refine ⟨fun _ _ => ⟨rfl, trivial⟩, ?_⟩ | refine ⟨by omega, ?_⟩)
          refine ⟨fun j hj => eqC_w32 (congrArg SC.w32 ?_), ?_⟩
          · show (if j < 8 then V j + v j else V j) = compress V P j
            rw [if_pos hj, ← hv', ← hW]
            rfl
          · (repeat first | exact trivial | refine ⟨rfl, ?_⟩ | refine ⟨fun _ _ => ⟨rfl, trivial⟩, ?_⟩ | refine ⟨by omega, ?_⟩)
end Sx
end Go.Proofs.Ytndlhhhebijknaa
end

section
/-
  SHA-256, byte by byte: what waits and the words. Plain. No condition.
-/
namespace Go.Proofs.Ytndlhhhebijknaa
set_option linter.unusedVariables false
namespace Sha

/-- A sum in the making: the words, the bytes of the block, how many wait. -/
structure Dg where
  V : Nat → BitVec 32
  P : Nat → BitVec 8
  h : Nat
def push (d : Dg) (x : BitVec 8) : Dg :=
  if d.h + 1 = 64 then ⟨compress d.V (fun i => if i = d.h then x else d.P i), fun i => if i = d.h then x else d.P i, 0⟩
  else ⟨d.V, fun i => if i = d.h then x else d.P i, d.h + 1⟩
/-- k bytes of b. -/
def pushN (d : Dg) (b : Nat → BitVec 8) : Nat → Dg
  | 0 => d
  | k + 1 => push (pushN d b k) (b k)
theorem push_lt {d : Dg} (h : d.h < 64) (x : BitVec 8) : (push d x).h < 64 := by
  unfold push
  split
  · show 0 < 64; omega
  · rename_i hc; show d.h + 1 < 64; omega
theorem pushN_lt {d : Dg} (h : d.h < 64) (b : Nat → BitVec 8) : ∀ k, (pushN d b k).h < 64
  | 0 => h
  | k + 1 => push_lt (pushN_lt h b k) _
theorem pushN_add (d : Dg) (b : Nat → BitVec 8) (m : Nat) : ∀ k, pushN d b (m + k) = pushN (pushN d b m) (fun i => b (m + i)) k
  | 0 => rfl
  | k + 1 => by rw [← Nat.add_assoc]; simp only [pushN, pushN_add d b m k]
/-- Bytes that don't fill the block only wait. -/
theorem pushN_wait (d : Dg) (b : Nat → BitVec 8) : ∀ k, d.h + k < 64 → pushN d b k = ⟨d.V, fun i => if d.h ≤ i ∧ i < d.h + k then b (i - d.h) else d.P i, d.h + k⟩
  | 0, _ => by
    have : ∀ i, ¬ (d.h ≤ i ∧ i < d.h + 0) := fun i => by omega
    simp only [pushN, this, if_false]
    rfl
  | k + 1, hk => by
    simp only [pushN, pushN_wait d b k (by omega)]
    unfold push
    rw [if_neg (by show ¬ d.h + k + 1 = 64; omega)]
    congr 1
    funext i
    by_cases hi : i = d.h + k
    · subst hi
      rw [if_pos rfl, if_pos ⟨by omega, by omega⟩]
      congr 1
      omega
    · rw [if_neg hi]
      show (if d.h ≤ i ∧ i < d.h + k then b (i - d.h) else d.P i) = _
      by_cases h1 : d.h ≤ i ∧ i < d.h + k
      · rw [if_pos h1, if_pos ⟨h1.1, by omega⟩]
      · rw [if_neg h1, if_neg (by omega)]
/-- Bytes that fill the block: it is gone through. -/
theorem pushN_fill (d : Dg) (b : Nat → BitVec 8) (k : Nat) (hk : d.h + k = 64) (h0 : 0 < k) :
    pushN d b k = ⟨compress d.V (fun i => if d.h ≤ i ∧ i < d.h + k then b (i - d.h) else d.P i), fun i => if d.h ≤ i ∧ i < d.h + k then b (i - d.h) else d.P i, 0⟩ := by
  obtain ⟨k, rfl⟩ : ∃ k', k = k' + 1 := ⟨k - 1, by omega⟩
  simp only [pushN, pushN_wait d b k (by omega)]
  have e : (fun i => if i = d.h + k then b k else (if d.h ≤ i ∧ i < d.h + k then b (i - d.h) else d.P i)) = fun i => if d.h ≤ i ∧ i < d.h + (k + 1) then b (i - d.h) else d.P i := by
    funext i
    by_cases hi : i = d.h + k
    · subst hi
      rw [if_pos rfl, if_pos ⟨by omega, by omega⟩]
      congr 1
      omega
    · rw [if_neg hi]
      by_cases h1 : d.h ≤ i ∧ i < d.h + k
      · rw [if_pos h1, if_pos ⟨h1.1, by omega⟩]
      · rw [if_neg h1, if_neg (by omega)]
  unfold push
  rw [if_pos (by show d.h + k + 1 = 64; omega)]
  show (⟨compress d.V (fun i => if i = d.h + k then b k else (if d.h ≤ i ∧ i < d.h + k then b (i - d.h) else d.P i)), fun i => if i = d.h + k then b k else (if d.h ≤ i ∧ i < d.h + k then b (i - d.h) else d.P i), 0⟩ : Dg) = _
  rw [e]
end Sha
end Go.Proofs.Ytndlhhhebijknaa
end

section
/-
  The document's field of 256, its boxes. No condition.
-/
namespace Go.Proofs.Ytndlhhhebijknaa
set_option linter.unusedVariables false
namespace Sx
open Aes

theorem shl_nat (a k : Nat) : (a : Int) * 2 ^ k = ((a * 2 ^ k : Nat) : Int) := by simp
theorem shr_nat (a k : Nat) : (a : Int) / 2 ^ k = ((a / 2 ^ k : Nat) : Int) := by simp
theorem fn_rtimes (a b : BitVec 8) : Fn Try.prog tds 79 [] [.c (.w8 a), .c (.w8 b)] (fun _ => True) (fun x hs => x = .a (.c (.w8 (refTimes a b))) ∧ hs = []) := by
  refine fn_of_body tds_ok follows_ Try.func79 rfl (t := [.a (.c (.w8 (a))), .a (.c (.w8 (b))), .any, .any, .any, .any, .any, .any, .any, .any, .any, .any, .any, .any, .any, .any, .any, .any, .any, .any, .any, .any, .any, .any, .any, .any, .any, .any, .any, .any, .any, .any, .any, .any, .any, .any, .any, .any, .any]) rfl (fun w r0 hr _ => ?_)
  obtain rfl : r0 = [] := List.eq_nil_of_length_eq_zero hr
  refine .inl ⟨Nat, fun k => ⟨[.a (.c (.w8 (a))), .a (.c (.w8 (b))), .any, .any, .any, .a (.c (.int .i64 (↑(rT1 a b k)))), .a (.c (.int .i64 (↑k))), .any, .any, .any, .any, .any, .any, .any, .any, .any, .any, .any, .any, .any, .any, .any, .any, .any, .any, .any, .any, .any, .any, .any, .any, .any, .any, .any, .any, .any, .any, .any, .any], []⟩, fun k => k ≤ 8, fun k => 8 - k, ⟨0, [], ⟨⟨rfl, rfl, rfl⟩, rfl, rfl, rfl, rfl, trivial⟩, by omega⟩, fun k hk => ⟨fun h => ?_, fun h => ?_⟩⟩
  · have hlt : (k : Int) < 8 := of_decide_eq_true h
    have b0 := rT1_lt a b k hk
    refine ⟨by omega, fun h2 => ?_, fun h2 => ?_⟩
    · have h3 : (b >>> k) &&& 1#8 = 1#8 := of_decide_eq_true h2
      have b1 : a.toNat * 2 ^ k < 2 ^ 15 := by
        have h1 : a.toNat ≤ 255 := by have := a.isLt; omega
        have h2 : 2 ^ k ≤ 2 ^ 7 := Nat.pow_le_pow_right (by omega) (by omega)
        have := Nat.mul_le_mul h1 h2
        omega
      have e1 : (a.toNat : Int) * 2 ^ (k : Int).toNat = ((a.toNat * 2 ^ k : Nat) : Int) := by simp
      refine ⟨by omega, ⟨by omega, by rw [e1]; omega, by rw [e1]; omega⟩, ⟨by omega, by rw [e1]; omega, by omega, by rw [e1]; omega⟩, ⟨by omega, by omega⟩, k + 1, [], ⟨⟨rfl, rfl, rfl⟩, rfl, rfl, ?_, rfl, trivial⟩, by dsimp only; omega, by dsimp only; omega⟩
      rw [e1]
      simp only [rT1, if_pos h3]
      rfl
    · have h3 : ¬ (b >>> k) &&& 1#8 = 1#8 := of_decide_eq_false h2
      exact ⟨⟨by omega, by omega⟩, k + 1, [], ⟨⟨rfl, rfl, rfl⟩, rfl, rfl, by simp only [rT1, if_neg h3], rfl, trivial⟩, by dsimp only; omega, by dsimp only; omega⟩
  · obtain rfl : k = 8 := by have : ¬ (k : Int) < 8 := of_decide_eq_false h; have hk : k ≤ 8 := hk; omega
    have c0 := rT1_lt a b 8 (by omega)
    refine .inl ⟨Nat, fun j => ⟨[.any, .any, .any, .any, .any, .a (.c (.int .i64 (↑(rT2 (rT1 a b 8) j)))), .any, .a (.c (.int .i64 ((14 - ↑j)))), .any, .any, .any, .any, .any, .any, .any, .any, .any, .any, .any, .any, .any, .any, .any, .any, .any, .any, .any, .any, .any, .any, .any, .any, .any, .any, .any, .any, .any, .any, .any], []⟩, fun j => j ≤ 7, fun j => 7 - j, ⟨0, [], ⟨⟨rfl, rfl, rfl⟩, rfl, rfl, trivial⟩, by omega⟩, fun j hj => ⟨fun h => ?_, fun h => ?_⟩⟩
    · have hge : (8 : Int) ≤ 14 - j := of_decide_eq_true h
      have b0 := rT2_lt (rT1 a b 8) c0 j hj
      have e0 : (14 - (j : Int)).toNat = 14 - j := by omega
      have e1 : ((rT2 (rT1 a b 8) j : Nat) : Int) / 2 ^ (14 - (j : Int)).toNat = ((rT2 (rT1 a b 8) j / 2 ^ (14 - j) : Nat) : Int) := by rw [e0]; simp
      have b1 : rT2 (rT1 a b 8) j / 2 ^ (14 - j) ≤ rT2 (rT1 a b 8) j := Nat.div_le_self _ _
      have hR : rT2 (rT1 a b 8) (j + 1) = if (rT2 (rT1 a b 8) j / 2 ^ (14 - j)) &&& 1 = 1 then rT2 (rT1 a b 8) j ^^^ (283 * 2 ^ (14 - j - 8)) else rT2 (rT1 a b 8) j := rfl
      obtain ⟨m, hm⟩ : ∃ m, rT2 (rT1 a b 8) j / 2 ^ (14 - j) = m := ⟨_, rfl⟩
      rw [hm] at e1 b1 hR
      refine ⟨by omega, by omega, ⟨by rw [e1]; omega, by omega, by rw [e1]; omega, by omega⟩, fun h2 => ?_, fun h2 => ?_⟩
      all_goals rw [e1] at h2
      · have h3 : m &&& 1 = 1 := Int.ofNat.inj (of_decide_eq_true h2)
        have e2 : (14 - (j : Int) - 8).toNat = 14 - j - 8 := by omega
        have b2 : 283 * 2 ^ (14 - j - 8) ≤ 283 * 2 ^ 6 := Nat.mul_le_mul_left _ (Nat.pow_le_pow_right (by omega) (by omega))
        have e3 : (283 : Int) * 2 ^ (14 - (j : Int) - 8).toNat = ((283 * 2 ^ (14 - j - 8) : Nat) : Int) := by rw [e2]; simp
        refine ⟨⟨by omega, by omega⟩, by omega, ⟨by omega, by rw [e3]; omega, by rw [e3]; omega⟩, ⟨by omega, by rw [e3]; omega, by omega, by rw [e3]; omega⟩, ⟨by omega, by omega⟩, j + 1, [], ⟨⟨rfl, rfl, rfl⟩, ?_, by omega, trivial⟩, by dsimp only; omega, by dsimp only; omega⟩
        rw [e3, hR, if_pos h3]
        rfl
      · have h3 : ¬ m &&& 1 = 1 := fun e => of_decide_eq_false h2 (congrArg Int.ofNat e)
        exact ⟨⟨by omega, by omega⟩, j + 1, [], ⟨⟨rfl, rfl, rfl⟩, by rw [hR, if_neg h3], by omega, trivial⟩, by dsimp only; omega, by dsimp only; omega⟩
    · obtain rfl : j = 7 := by have : ¬ (8 : Int) ≤ 14 - j := of_decide_eq_false h; have hj : j ≤ 7 := hj; omega
      exact ⟨.a (.c (.w8 (refTimes a b))), [], ⟨[], ⟨rfl, rfl, rfl⟩, BitVec.ofInt_natCast _ _, trivial⟩, rfl, rfl⟩
end Sx
end Go.Proofs.Ytndlhhhebijknaa
end

section
/-
  The document's boxes. No condition.
-/
namespace Go.Proofs.Ytndlhhhebijknaa
set_option linter.unusedVariables false
namespace Sx
open Aes

theorem ofIntN (k : Nat) : BitVec.ofInt 8 (k : Int) = BitVec.ofNat 8 k := BitVec.ofInt_natCast _ _
theorem fn_rbox (a : BitVec 8) : Fn Try.prog tds 59 [] [.c (.w8 a)] (fun _ => True) (fun x hs => x = .a (.c (.w8 (refBox a))) ∧ hs = []) := by
  refine fn_of_body tds_ok follows_ Try.func59 rfl (t := [.a (.c (.w8 (a))), .any, .any, .any, .any, .any, .any, .any, .any, .any, .any, .any, .any, .any, .any, .any, .any, .any, .any, .any, .any, .any, .any, .any, .any, .any, .any, .any, .any, .any, .any, .any, .any]) rfl (fun w r0 hr _ => ?_)
  obtain rfl : r0 = [] := List.eq_nil_of_length_eq_zero hr
  refine .inl ⟨Nat, fun k => ⟨[.a (.c (.w8 (a))), .any, .any, .a (.c (.w8 ((refFind a k)))), .a (.c (.int .i64 (↑(k + 1)))), .any, .any, .any, .any, .any, .any, .any, .any, .any, .any, .any, .any, .any, .any, .any, .any, .any, .any, .any, .any, .any, .any, .any, .any, .any, .any, .any, .any], []⟩, fun k => k ≤ 255, fun k => 255 - k, ⟨0, [], ⟨⟨rfl, rfl, rfl⟩, rfl, rfl, rfl, trivial⟩, by omega⟩, fun k hk => ⟨fun h => ?_, fun h => ?_⟩⟩
  · have hlt : ((k + 1 : Nat) : Int) < 256 := of_decide_eq_true h
    refine ⟨by kernel_rfl, call_same (fn_rtimes _ _) [] rfl ⟨rfl, rfl, trivial⟩ trivial (fun _ _ => trivial) ?_⟩
    rintro x hs ⟨rfl, rfl⟩
    refine ⟨fun h2 => ?_, fun h2 => ?_⟩
    · have h3 : refTimes a (BitVec.ofInt 8 ((k + 1 : Nat) : Int)) = 1#8 := of_decide_eq_true h2
      rw [ofIntN] at h3
      exact ⟨⟨by omega, by omega⟩, k + 1, [], ⟨⟨rfl, rfl, rfl⟩, rfl, by rw [ofIntN]; simp only [refFind, if_pos h3], rfl, trivial⟩, by dsimp only; omega, by dsimp only; omega⟩
    · have h3 : ¬ refTimes a (BitVec.ofInt 8 ((k + 1 : Nat) : Int)) = 1#8 := of_decide_eq_false h2
      rw [ofIntN] at h3
      exact ⟨⟨by omega, by omega⟩, k + 1, [], ⟨⟨rfl, rfl, rfl⟩, rfl, by simp only [refFind, if_neg h3], rfl, trivial⟩, by dsimp only; omega, by dsimp only; omega⟩
  · obtain rfl : k = 255 := by have : ¬ ((k + 1 : Nat) : Int) < 256 := of_decide_eq_false h; have hk : k ≤ 255 := hk; omega
    refine .inl ⟨Nat, fun k => ⟨[.any, .any, .any, .a (.c (.w8 ((refFind a 255)))), .any, .a (.c (.w8 ((refBoxS (refFind a 255) k)))), .a (.c (.int .i64 (↑k))), .any, .any, .any, .any, .any, .any, .any, .any, .any, .any, .any, .any, .any, .any, .any, .any, .any, .any, .any, .any, .any, .any, .any, .any, .any, .any], []⟩, fun k => k ≤ 5, fun k => 5 - k, ⟨0, [], ⟨⟨rfl, rfl, rfl⟩, rfl, rfl, rfl, trivial⟩, by omega⟩, fun k hk => ⟨fun h => ?_, fun h => ?_⟩⟩
    · have hlt : (k : Int) < 5 := of_decide_eq_true h
      have e1 : (8 - (k : Int)).toNat = 8 - k := by omega
      refine ⟨none, [], [(0, true), (1, true), (2, true), (3, true), (4, true), (5, true), (6, true), (7, true), (8, true), (9, true), (10, true)], [], by kernel_rfl, by omega, ⟨by omega, by omega⟩, by omega, ⟨by omega, by omega⟩, k + 1, [], ⟨⟨rfl, rfl, rfl⟩, rfl, ?_, rfl, trivial⟩, by dsimp only; omega, by dsimp only; omega⟩
      rw [e1]
      rfl
    · obtain rfl : k = 5 := by have : ¬ (k : Int) < 5 := of_decide_eq_false h; have hk : k ≤ 5 := hk; omega
      exact ⟨.a (.c (.w8 (refBox a))), [], ⟨[], ⟨rfl, rfl, rfl⟩, rfl, trivial⟩, rfl, rfl⟩
/-- n bytes, and room behind them. -/
def bytesF (n : Nat) (b : Nat → BitVec 8) : Nat → SC := fun j => if j < n then .w8 (b j) else .any
theorem bytesF_lt {n : Nat} {b : Nat → BitVec 8} {j : Nat} (h : j < n) : bytesF n b j = .w8 (b j) := if_pos h
theorem eqC_bytes {q : List Nat} {n : Nat} {f : Nat → SC} {b : Nat → BitVec 8} (h : ∀ j, j < n → f j = .w8 (b j)) (j : Nat) : eqC q (f j) (bytesF n b j) True := by
  unfold bytesF
  split
  · rename_i hj; exact eqC_w8 (h j hj)
  · trivial
theorem fn_rboxes : Fn Try.prog tds 36 [] [] (fun _ => True) (fun x hs => ∃ c, x = .a (.c (.sl 0 0 0 256 c)) ∧ hs = [[.row c (bytesF 256 fun i => refBox (BitVec.ofNat 8 i))]] ∧ 256 ≤ c) := by
  refine fn_of_body tds_ok follows_ Try.func36 rfl (t := anys 14) rfl (fun w r0 hr _ => ?_)
  obtain rfl : r0 = [] := List.eq_nil_of_length_eq_zero hr
  let X := Option (Nat × Nat)
  refine .inl ⟨X, fun x => match x with
    | none => ⟨[.any, .a (.c (.slc none 0 0)), .a (.c (.int .i64 (0))), .any, .any, .any, .any, .any, .any, .any, .any, .any, .any, .any], []⟩
    | some (k, c) => ⟨[.any, .a (.c (.sl 0 0 0 (k+1) c)), .a (.c (.int .i64 (↑(k + 1)))), .any, .any, .any, .any, .any, .any, .any, .any, .any, .any, .any], [[.row c (bytesF (k + 1) fun i => refBox (BitVec.ofNat 8 i))]]⟩,
    fun x => match x with
    | none => True
    | some (k, c) => k < 256 ∧ k + 1 ≤ c, fun x => match x with
    | none => 300
    | some (k, _) => 256 - k, ⟨none, [], ⟨⟨rfl, rfl, rfl⟩, rfl, rfl, trivial⟩, trivial⟩, fun x => ?_⟩
  rcases x with _ | ⟨k, c⟩
  · intro _
    refine ⟨fun _ => ?_, fun h => absurd (of_decide_eq_false h) (by omega)⟩
    refine ⟨by kernel_rfl, call_same (fn_rbox _) [] rfl ⟨rfl, trivial⟩ trivial (fun _ _ => trivial) ?_⟩
    rintro x hs ⟨rfl, rfl⟩
    refine ⟨by decide, ⟨rfl, rfl⟩, by decide, fun h => absurd h (by omega), fun _ c' hc' => ?_⟩
    refine ⟨⟨by omega, by omega⟩, some (0, c'), [1], ⟨⟨rfl, rfl, rfl⟩, rfl, rfl, rfl, rfl, rfl, fun j hj => eqC_bytes (fun i hi => ?_) j, trivial⟩, ⟨by omega, hc'⟩, by dsimp only; omega⟩
    obtain rfl : i = 0 := by omega
    rfl
  · rintro ⟨hk, hc⟩
    refine ⟨fun h => ?_, fun h => ?_⟩
    · have hlt : ((k + 1 : Nat) : Int) < 256 := of_decide_eq_true h
      refine ⟨by kernel_rfl, call_same (fn_rbox _) [] rfl ⟨rfl, trivial⟩ trivial (fun _ _ => trivial) ?_⟩
      rintro x hs ⟨rfl, rfl⟩
      refine ⟨by decide, ⟨by omega, by simp [scale], by show _ * 1 ≤ _; omega⟩, fun c' hc' => ?_⟩
      refine ⟨⟨by omega, by omega⟩, some (k + 1, c'), [2], ⟨⟨rfl, rfl, rfl⟩, rfl, rfl, rfl, rfl, rfl, fun j hj => eqC_bytes (fun i hi => ?_) j, trivial⟩, ⟨by omega, hc'⟩, by dsimp only; omega⟩
      unfold appF
      by_cases hik : i < k + 1
      · rw [if_pos (by simpa [scale] using hik)]
        exact bytesF_lt hik
      · obtain rfl : i = k + 1 := by omega
        rw [if_neg (by simp [scale]), if_pos (by simp [scale])]
        rw [show k + 1 - scale (k + 1) (0 + 1) = 0 from Nat.sub_self _]
        exact congrArg (fun y => SC.w8 (refBox y)) (ofIntN (k + 1))
    · obtain rfl : k = 255 := by have : ¬ ((k + 1 : Nat) : Int) < 256 := of_decide_eq_false h; omega
      exact ⟨.a (.c (.sl 0 0 0 256 c)), [[.row c (bytesF 256 fun i => refBox (BitVec.ofNat 8 i))]], ⟨[0], ⟨rfl, rfl, rfl⟩, rfl, rfl, rfl, rfl, fun j hj => eqC_bytes (fun i hi => bytesF_lt hi) j, trivial⟩, c, rfl, rfl, hc⟩
end Sx
end Go.Proofs.Ytndlhhhebijknaa
end

section
/-
  SHA-256: bytes written. No condition.
-/
namespace Go.Proofs.Ytndlhhhebijknaa
set_option linter.unusedVariables false
namespace Sx
open Sha

theorem pushN_step (d : Dg) (B : Nat → BitVec 8) (k m : Nat) (h0 : 0 < m) (hm : (pushN d B k).h + m ≤ 64) :
    pushN d B (k + m) = if (pushN d B k).h + m = 64
      then ⟨compress (pushN d B k).V (fun i => if (pushN d B k).h ≤ i ∧ i < (pushN d B k).h + m then B (k + (i - (pushN d B k).h)) else (pushN d B k).P i), fun i => if (pushN d B k).h ≤ i ∧ i < (pushN d B k).h + m then B (k + (i - (pushN d B k).h)) else (pushN d B k).P i, 0⟩
      else ⟨(pushN d B k).V, fun i => if (pushN d B k).h ≤ i ∧ i < (pushN d B k).h + m then B (k + (i - (pushN d B k).h)) else (pushN d B k).P i, (pushN d B k).h + m⟩ := by
  rw [pushN_add]
  split
  · rename_i h; exact pushN_fill _ _ _ h h0
  · rename_i h; exact pushN_wait _ _ _ (by omega)
theorem len3' {α : Type} : ∀ {l : List α}, l.length = 3 → ∃ a b c, l = [a, b, c]
  | [a, b, c], _ => ⟨a, b, c, rfl⟩
theorem len4' {α : Type} : ∀ {l : List α}, l.length = 4 → ∃ a b c d, l = [a, b, c, d]
  | [a, b, c, d], _ => ⟨a, b, c, d, rfl⟩
theorem len5' {α : Type} : ∀ {l : List α}, l.length = 5 → ∃ a b c d e, l = [a, b, c, d, e]
  | [a, b, c, d, e], _ => ⟨a, b, c, d, e, rfl⟩
/-- n bytes from place o on. -/
def winF (o n : Nat) (b : Nat → BitVec 8) : Nat → SC := fun j => if o ≤ j ∧ j < o + n then .w8 (b (j - o)) else .any
theorem winF_at (o n : Nat) (b : Nat → BitVec 8) {i : Nat} (h : i < n) : winF o n b (o + i) = .w8 (b i) := by
  unfold winF
  rw [if_pos ⟨by omega, by omega⟩, show o + i - o = i by omega]
theorem eqC_win {q : List Nat} {o n : Nat} {f : Nat → SC} {b : Nat → BitVec 8} (h : ∀ i, i < n → f (o + i) = .w8 (b i)) (j : Nat) : eqC q (f j) (winF o n b j) True := by
  unfold winF
  split
  · rename_i hj
    have := h (j - o) (by omega)
    rw [show o + (j - o) = j by omega] at this
    exact eqC_w8 this
  · trivial
theorem eqC_winS {q : List Nat} {o n : Nat} {b : Nat → BitVec 8} {j : Nat} : eqC q (winF o n b j) (winF o n b j) True := eqC_win (fun _ h => winF_at _ _ _ h) j
theorem eqC_winM {q : List Nat} {g : Nat → Nat} {o n : Nat} {b : Nat → BitVec 8} {j : Nat} : eqC q (SC.mp g (winF o n b j)) (winF o n b j) True :=
  eqC_win (f := fun j => SC.mp g (winF o n b j)) (fun _ h => by rw [winF_at _ _ _ h]; rfl) j
theorem eqC_selfB {q : List Nat} {n : Nat} {b : Nat → BitVec 8} {j : Nat} : eqC q (bytesF n b j) (bytesF n b j) True := eqC_bytes (fun _ h => bytesF_lt h) j
theorem eqC_mpB {q : List Nat} {g : Nat → Nat} {n : Nat} {b : Nat → BitVec 8} {j : Nat} : eqC q (SC.mp g (bytesF n b j)) (bytesF n b j) True :=
  eqC_bytes (f := fun j => SC.mp g (bytesF n b j)) (fun j h => by rw [bytesF_lt h]; rfl) j
theorem eqC_winB {q : List Nat} {n : Nat} {b : Nat → BitVec 8} {j : Nat} : eqC q (bytesF n b j) (winF 0 n b j) True :=
  eqC_win (fun i h => by rw [Nat.zero_add]; exact bytesF_lt h) j
/-- Bytes of a slice that may be nil. -/
def bts : Bool → Nat → Nat → Nat → (Nat → BitVec 8) → List Seg
  | true, _, _, _, _ => []
  | false, N, o, n, b => [.row N (winF o n b)]
/-- Bytes of a slice that may be nil, taken as they are. -/
theorem sn_bts {h : List (List Seg)} {z : Bool} {j N o n : Nat} {b : Nat → BitVec 8} {k : (Nat → SC) → Prop} (hj : getH h j = bts z N o n b) (hN : o + n ≤ N) (hz : z = true → n = 0)
    (hk : ∀ g : Nat → SC, (∀ i, i < n → g i = .w8 (b i)) → k g) : ∃ f : Nat → SC, ((z = true → n = 0) ∧ (z = false → SnAt h j 0 o n 1 f)) ∧ k f := by
  refine ⟨fun i => .w8 (b i), ⟨hz, ?_⟩, hk _ fun _ _ => rfl⟩
  rintro rfl
  exact ⟨N, winF o n b, [], by rw [hj]; rfl, hN, fun q hq => by rw [Nat.add_comm]; exact (winF_at _ _ _ hq).symm⟩
theorem copied (q : List Nat) (P b : Nat → BitVec 8) (n h m s o k j : Nat) (e : s = o + k) (hm : k + m ≤ n) : eqC q (updN (fun j => SC.w8 (P j)) h m (fun q => winF o n b (q + s)) j) (SC.w8 (if h ≤ j ∧ j < h + m then b (k + (j - h)) else P j)) True := by
  unfold updN
  by_cases hj : h ≤ j ∧ j < h + m
  · rw [if_pos hj, if_pos hj]
    show eqC q (winF o n b (j - h + s)) _ _
    rw [show j - h + s = o + (k + (j - h)) by omega, winF_at _ _ _ (by omega)]
    exact ⟨rfl, trivial⟩
  · rw [if_neg hj, if_neg hj]
    exact ⟨rfl, trivial⟩
set_option maxRecDepth 20000 in
theorem fn_swrite (z : Bool) (n c N o : Nat) (b : Nat → BitVec 8) (d : Dg) (a : BitVec 64) (hd : d.h < 64) (hN : o + n ≤ N) (hc : n ≤ c) (hz : z = true → n = 0) :
    FnR Try.prog tds 50 2 [shaT 1 0 first steps, bts z N o n b, digC 0 d.V d.P d.h a] [.c (.p 2 0 0), .c (.sn z 1 0 o n c)] (fun _ => True)
      (fun x hs => x = .tup [] ∧ hs = [shaT 1 0 first steps, bts z N o n b, digC 0 (pushN d b n).V (pushN d b n).P (pushN d b n).h (a + BitVec.ofNat 64 n)]) := by
  refine fn_of_body tds_ok follows_ Try.func50 rfl (t := [.a (.c (.p 2 0 0)), .a (.c (.sn z 1 0 o n c)), .any, .any, .any, .any, .any, .any, .any, .any, .any, .any, .any, .any, .any, .any, .any, .any, .any, .any, .any, .any, .any, .any, .any, .any, .any, .any, .any, .any, .any, .any, .any, .any, .any, .any, .any, .any, .any, .any, .any, .any, .any, .any, .any, .any, .any, .any, .any]) rfl (fun w r0 hr _ => ?_)
  obtain ⟨x0, x1, x2, rfl⟩ := len3' hr
  cases z with
  | true =>
    obtain rfl := hz rfl
    (repeat first | refine ⟨by omega, ?_⟩ | refine ⟨by decide, ?_⟩ | refine ⟨idx8 _, ?_⟩ | refine ⟨lt8 (Nat.le_refl _) _, ?_⟩ | refine ⟨rfl, ?_⟩)
    refine .inl ⟨Unit, fun _ => ⟨[.a (.c (.p 2 0 0)), .a (.c (.sn true 1 0 o 0 c)), .any, .any, .any, .any, .any, .any, .any, .any, .any, .any, .any, .any, .any, .any, .any, .any, .any, .any, .any, .any, .any, .any, .any, .any, .any, .any, .any, .any, .any, .any, .any, .any, .any, .any, .any, .any, .any, .any, .any, .any, .any, .any, .any, .any, .any, .any, .any], [shaT 1 0 first steps, bts true N o 0 b, digC 0 d.V d.P d.h (a + BitVec.ofNat 64 0)]⟩,
      fun _ => True, fun _ => 0, ⟨(), [0, 1, 2], ⟨⟨rfl, rfl, rfl⟩, ?_⟩, trivial⟩, fun _ _ => ⟨fun h => absurd (of_decide_eq_true h) (by decide), fun h => ?_⟩⟩
    · (repeat first | exact trivial | refine ⟨rfl, ?_⟩ | refine ⟨fun _ _ => ⟨rfl, trivial⟩, ?_⟩ | refine ⟨by omega, ?_⟩)
    · refine ⟨.tup [], _, ⟨[0, 1, 2], ⟨rfl, rfl, rfl⟩, ?_⟩, rfl, rfl⟩
      (repeat first | exact trivial | refine ⟨rfl, ?_⟩ | refine ⟨fun _ _ => ⟨rfl, trivial⟩, ?_⟩ | refine ⟨by omega, ?_⟩)
  | false =>
  (repeat first | refine ⟨by omega, ?_⟩ | refine ⟨by decide, ?_⟩ | refine ⟨idx8 _, ?_⟩ | refine ⟨lt8 (Nat.le_refl _) _, ?_⟩ | refine ⟨rfl, ?_⟩)
  refine .inl ⟨Nat × Nat × Nat, fun (k, oo, cc) => ⟨[.a (.c (.p 2 0 0)), .a (.c (.sn false 1 0 oo (n - k) cc)), .any, .any, .any, .any, .any, .any, .any, .any, .any, .any, .any, .any, .any, .any, .any, .any, .any, .any, .any, .any, .any, .any, .any, .any, .any, .any, .any, .any, .any, .any, .any, .any, .any, .any, .any, .any, .any, .any, .any, .any, .any, .any, .any, .any, .any, .any, .any], [shaT 1 0 first steps, [.row N (winF o n b)], digC 0 (pushN d b k).V (pushN d b k).P (pushN d b k).h (a + BitVec.ofNat 64 n)]⟩,
    fun (k, oo, cc) => k ≤ n ∧ (k < n → oo = o + k) ∧ n - k ≤ cc ∧ cc ≤ c, fun (k, _, _) => n - k, ⟨(0, o, c), [0, 1, 2], ⟨⟨rfl, rfl, rfl⟩, ?_⟩, by omega, by omega, by omega, by omega⟩, fun (k, oo, cc) ⟨hk, hoo, hcc, hcc'⟩ => ⟨fun h => ?_, fun h => ?_⟩⟩
  · (repeat first | exact trivial | refine ⟨rfl, ?_⟩ | refine ⟨fun _ _ => ⟨rfl, trivial⟩, ?_⟩ | refine ⟨fun _ _ => trivial, ?_⟩ | refine ⟨by omega, ?_⟩ | refine ⟨fun _ _ => eqC_winS, ?_⟩ | refine ⟨fun _ _ => eqC_winM, ?_⟩ | refine ⟨fun _ _ => eqC_winB, ?_⟩ | refine ⟨fun _ _ => eqC_selfB, ?_⟩ | refine ⟨fun _ _ => eqC_mpB, ?_⟩)
  · have hlt : k < n := by have : ((n - k : Nat) : Int) > 0 := of_decide_eq_true h; omega
    obtain rfl : oo = o + k := hoo hlt
    obtain ⟨D, hD⟩ : ∃ D, pushN d b k = D := ⟨_, rfl⟩
    have hDl : D.h < 64 := by rw [← hD]; exact pushN_lt hd _ _
    have hst := fun m h0 hm => pushN_step d b k m h0 hm
    rw [hD] at hst ⊢
    refine ⟨none, [], [(0, true), (1, true), (2, true), (3, true), (4, true), (5, true), (6, true), (7, true), (8, true)], [9, 10], by kernel_rfl, ?_⟩
    (repeat first | refine ⟨by omega, ?_⟩ | refine ⟨by decide, ?_⟩ | refine ⟨idx8 _, ?_⟩ | refine ⟨lt8 (Nat.le_refl _) _, ?_⟩ | refine ⟨rfl, ?_⟩)
    have e1 : ((D.h : Nat) : Int).toNat = D.h := by omega
    have e64 : ((64 : Nat) : Int).toNat = 64 := rfl
    simp only [frcN_eq, e1, e64, if_neg (show ¬ 64 = D.h by omega)]
    have hsrc : 1 * (n - k) ≤ N := by omega
    (repeat first | refine ⟨by omega, ?_⟩ | refine ⟨by decide, ?_⟩ | refine ⟨idx8 _, ?_⟩ | refine ⟨lt8 (Nat.le_refl _) _, ?_⟩ | refine ⟨rfl, ?_⟩)
    refine ⟨fun q => winF o n b (q + (o + k)), ⟨fun h => Bool.noConfusion h, fun _ => ⟨N, winF o n b, [], rfl, by simp only [scale]; omega, fun _ _ => rfl⟩⟩, ?_⟩
    refine ⟨by omega, ?_⟩
    generalize hm : min (n - k) (64 - D.h) = m
    have hm1 : m ≤ n - k ∧ m ≤ 64 - D.h ∧ 0 < m ∧ (m = n - k ∨ m = 64 - D.h) := by omega
    (repeat first | refine ⟨by omega, ?_⟩ | refine ⟨by decide, ?_⟩ | refine ⟨idx8 _, ?_⟩ | refine ⟨lt8 (Nat.le_refl _) _, ?_⟩ | refine ⟨rfl, ?_⟩)
    have e2 : ((m : Nat) : Int).toNat = m := by omega
    have e3 : ((n - k : Nat) : Int).toNat = n - k := by omega
    have e4 : ((cc : Nat) : Int).toNat = cc := by omega
    simp only [frcN_eq, e2, e3]
    generalize ho2 : (if cc = m then o + k else o + k + m * 1) = o2
    have e5 : n - k - m = n - (k + m) := by omega
    rw [e5]
    have hs := hst m (by omega) (by omega)
    have hb1 : k + m ≤ n := by omega
    have hb2 : n - (k + m) ≤ cc - m := by omega
    have hb3 : cc - m ≤ c := by omega
    have hb4 : n - (k + m) < n - k := by omega
    have hb5 : k + m < n → o2 = o + (k + m) := fun hlt2 => by rw [← ho2, if_neg (by omega)]; omega
    have hb6 : 0 + D.h * 1 = D.h := by omega
    rw [hb6]
    refine ⟨fun h2 => ?_, fun h2 => ?_⟩
    · have h64 : D.h + m = 64 := by have := of_decide_eq_true h2; omega
      rw [if_pos h64] at hs
      refine ⟨by kernel_rfl, call_same (fn_smix D.V (fun i => if D.h ≤ i ∧ i < D.h + m then b (k + (i - D.h)) else D.P i) ((D.h : Int) + m) (a + BitVec.ofNat 64 n)) [0, 2] rfl ⟨rfl, trivial⟩ ?_ (fun _ _ => trivial) ?_⟩
      · (repeat first | exact trivial | refine ⟨rfl, ?_⟩ | refine ⟨fun _ _ => ⟨rfl, trivial⟩, ?_⟩ | refine ⟨fun _ _ => trivial, ?_⟩ | refine ⟨by omega, ?_⟩ | refine ⟨fun _ _ => eqC_winS, ?_⟩ | refine ⟨fun _ _ => eqC_winM, ?_⟩ | refine ⟨fun _ _ => eqC_winB, ?_⟩ | refine ⟨fun _ _ => eqC_selfB, ?_⟩ | refine ⟨fun _ _ => eqC_mpB, ?_⟩)
        refine ⟨fun j hj => copied _ D.P b n D.h m (o + k) o k j rfl hb1, ?_⟩
        (repeat first | exact trivial | refine ⟨rfl, ?_⟩ | refine ⟨fun _ _ => ⟨rfl, trivial⟩, ?_⟩ | refine ⟨fun _ _ => trivial, ?_⟩ | refine ⟨by omega, ?_⟩ | refine ⟨fun _ _ => eqC_winS, ?_⟩ | refine ⟨fun _ _ => eqC_winM, ?_⟩ | refine ⟨fun _ _ => eqC_winB, ?_⟩ | refine ⟨fun _ _ => eqC_selfB, ?_⟩ | refine ⟨fun _ _ => eqC_mpB, ?_⟩)
      · rintro x hs' ⟨rfl, rfl⟩
        refine ⟨rfl, ?_⟩
        refine ⟨(k + m, o2, cc - m), [0, 1, 2], ⟨⟨rfl, rfl, rfl⟩, ?_⟩, ⟨hb1, hb5, hb2, hb3⟩, hb4⟩
        dsimp only
        rw [hs]
        (repeat first | exact trivial | refine ⟨rfl, ?_⟩ | refine ⟨fun _ _ => ⟨rfl, trivial⟩, ?_⟩ | refine ⟨fun _ _ => trivial, ?_⟩ | refine ⟨by omega, ?_⟩ | refine ⟨fun _ _ => eqC_winS, ?_⟩ | refine ⟨fun _ _ => eqC_winM, ?_⟩ | refine ⟨fun _ _ => eqC_winB, ?_⟩ | refine ⟨fun _ _ => eqC_selfB, ?_⟩ | refine ⟨fun _ _ => eqC_mpB, ?_⟩)
    · have h64 : ¬ D.h + m = 64 := by have := of_decide_eq_false h2; omega
      rw [if_neg h64] at hs
      refine ⟨(k + m, o2, cc - m), [0, 1, 2], ⟨⟨rfl, rfl, rfl⟩, ?_⟩, ⟨hb1, hb5, hb2, hb3⟩, hb4⟩
      dsimp only
      rw [hs]
      (repeat first | exact trivial | refine ⟨rfl, ?_⟩ | refine ⟨fun _ _ => ⟨rfl, trivial⟩, ?_⟩ | refine ⟨fun _ _ => trivial, ?_⟩ | refine ⟨by omega, ?_⟩ | refine ⟨fun _ _ => eqC_winS, ?_⟩ | refine ⟨fun _ _ => eqC_winM, ?_⟩ | refine ⟨fun _ _ => eqC_winB, ?_⟩ | refine ⟨fun _ _ => eqC_selfB, ?_⟩ | refine ⟨fun _ _ => eqC_mpB, ?_⟩)
      refine ⟨fun j hj => copied _ D.P b n D.h m (o + k) o k j rfl hb1, ?_⟩
      (repeat first | exact trivial | refine ⟨rfl, ?_⟩ | refine ⟨fun _ _ => ⟨rfl, trivial⟩, ?_⟩ | refine ⟨fun _ _ => trivial, ?_⟩ | refine ⟨by omega, ?_⟩ | refine ⟨fun _ _ => eqC_winS, ?_⟩ | refine ⟨fun _ _ => eqC_winM, ?_⟩ | refine ⟨fun _ _ => eqC_winB, ?_⟩ | refine ⟨fun _ _ => eqC_selfB, ?_⟩ | refine ⟨fun _ _ => eqC_mpB, ?_⟩)
  · have hkn : k = n := by have : ¬ ((n - k : Nat) : Int) > 0 := of_decide_eq_false h; omega
    subst hkn
    refine ⟨.tup [], _, ⟨[0, 1, 2], ⟨rfl, rfl, rfl⟩, ?_⟩, rfl, rfl⟩
    (repeat first | exact trivial | refine ⟨rfl, ?_⟩ | refine ⟨fun _ _ => ⟨rfl, trivial⟩, ?_⟩ | refine ⟨fun _ _ => trivial, ?_⟩ | refine ⟨by omega, ?_⟩ | refine ⟨fun _ _ => eqC_winS, ?_⟩ | refine ⟨fun _ _ => eqC_winM, ?_⟩ | refine ⟨fun _ _ => eqC_winB, ?_⟩ | refine ⟨fun _ _ => eqC_selfB, ?_⟩ | refine ⟨fun _ _ => eqC_mpB, ?_⟩)
end Sx
end Go.Proofs.Ytndlhhhebijknaa
end
