/-
  From a function over blocks that are only read to a law's walk: slices of bytes that came in. Over any program. No condition of its own.
-/
import Derived.Test.YtndlhhhebijknaaShaL
import Derived.Test.YtndlhhhebijknaaSxw
namespace Go.Proofs.Ytndlhhhebijknaa
set_option linter.unusedVariables false
namespace Sx
open Go.RowKit Go.ChangeShapes Go.WideShapes Sha

theorem okWide_spot {P : Program} {w : World} {r : Reach} {b0 : Nat} {t e : TypeId} {a : Option Addr} {n c : Nat} (ht : P.underlying t = some (.slice e)) (h : Value.okWide P w r b0 t (.slice a n c)) : ∀ x, a = some x → x.spot = none := by
  rintro x rfl
  simp only [Value.okWide, ht, Cell.okWide, Cell.ok] at h
  exact h.2.2.2.1
/-- A slice of bytes that came in: nil (z) or not, its bytes, where they lie. -/
structure InB (w : World) (a : Option Addr) (n c : Nat) (z : Bool) (l : Bs) (B f : Nat) : Prop where
  len : l.length = n
  le : n ≤ c
  cap : c ≤ maxLen
  nil : z = true → l = []
  val : ∀ (r : Rho) (i : Nat), r[i]? = some (B, f) → SC.Is r (.sn z i 0 0 n c) (.slice a n c)
  at_ : ∀ r : Rho, At false r w B f (flat (bts z n 0 n (L l)))
theorem open_b8 {w : World} {a : Option Addr} {len cap : Nat} {zs : List Int} (h : IsRow .u8 w a len cap zs) (hs : ∀ x, a = some x → x.spot = none) : ∃ z l B f, InB w a len cap z l B f := by
  rcases h with ⟨rfl, rfl, rfl, rfl⟩ | ⟨x, rfl, hl, hm, hz, hc, hw⟩
  · exact ⟨true, [], 0, 0, rfl, Nat.le_refl _, by unfold maxLen; omega, fun _ => rfl, fun r i _ => .inl ⟨rfl, rfl, rfl, rfl⟩, fun r j y e => by simp [bts, flat] at e⟩
  · obtain ⟨B, f, spot⟩ := x
    obtain rfl : spot = none := hs _ rfl
    refine ⟨false, (zs.take len).map (BitVec.ofInt 8), B, f, by simp; omega, hl, hm, fun h => Bool.noConfusion h, fun r i hr => .inr ⟨rfl, B, f, hr, rfl⟩, fun r j y e => ?_⟩
    have hj : j < len := by
      rcases Nat.lt_or_ge j len with h | h
      · exact h
      · rw [List.getElem?_eq_none (by simpa [bts, flat] using h)] at e; cases e
    have e2 : y = .w8 (L ((zs.take len).map (BitVec.ofInt 8)) j) := by
      simp only [bts, flat, List.append_nil, List.getElem?_map, Option.map_eq_some_iff] at e
      obtain ⟨i, hi, rfl⟩ := e
      rw [List.getElem?_range (by omega)] at hi
      injection hi with hi
      subst hi
      have := winF_at 0 len (L ((zs.take len).map (BitVec.ofInt 8))) hj
      rwa [Nat.zero_add] at this
    subst e2
    have hc1 := hc j (by omega)
    have ha : (⟨B, f, none⟩ : Addr).add j = ⟨B, f + j, none⟩ := by unfold Addr.add; simp
    rw [ha] at hc1
    refine ⟨_, hc1, ?_, fun h => Bool.noConfusion h⟩
    show Value.int .u8 _ = Value.int .u8 _
    congr 1
    have hjz : j < zs.length := by omega
    have h3 : zs.getD j 0 = zs[j] := by rw [List.getD_eq_getElem?_getD, List.getElem?_eq_getElem hjz]; rfl
    have h4 : L ((zs.take len).map (BitVec.ofInt 8)) j = BitVec.ofInt 8 zs[j] := by
      rw [L_lt (by simp; omega)]
      simp
    rw [h3, h4]
    exact wf_w8 (hw _ (List.getElem_mem _))
/-- The blocks lie where r says. -/
def AllAt (R : Rho) (w : World) : List (List Seg) → Rho → Prop
  | [], [] => True
  | ch :: h, (B, f) :: r => At false R w B f (flat ch) ∧ AllAt R w h r
  | _, _ => False
theorem AllAt.len {R : Rho} {w : World} : ∀ {h : List (List Seg)} {r : Rho}, AllAt R w h r → r.length = h.length
  | [], [], _ => rfl
  | _ :: h, _ :: r, k => by rw [List.length_cons, List.length_cons, AllAt.len k.2]
  | [], _ :: _, k => k.elim
  | _ :: _, [], k => k.elim
theorem AllAt.get {R : Rho} {w : World} : ∀ {h : List (List Seg)} {r : Rho}, AllAt R w h r → ∀ (i : Nat) (ch : List Seg) (B f : Nat), h[i]? = some ch → r[i]? = some (B, f) → At false R w B f (flat ch)
  | [], [], _, i, _, _, _, e, _ => by simp at e
  | c :: h, (B', f') :: r, k, 0, _, _, _, e1, e2 => by
    simp at e1 e2
    obtain ⟨rfl, rfl⟩ := e2
    subst e1
    exact k.1
  | c :: h, (B', f') :: r, k, i + 1, _, _, _, e1, e2 => k.2.get i _ _ _ (by simpa using e1) (by simpa using e2)
theorem heapOk_ro {P : Program} {T : List (Nat × TD)} {w : World} {r0 : Rho} {h0 : List (List Seg)} (hat : AllAt r0 w h0 r0) : HeapOk (cx0 P T w r0 h0.length h0) h0 r0 w := by
  have hlen := hat.len
  have hget : ∀ i, h0[i]? = some (getH h0 i) ∨ h0[i]? = none := fun i => by
    rcases Nat.lt_or_ge i h0.length with h | h
    · exact .inl (by rw [List.getElem?_eq_getElem h]; have := getH_eq h0 i; rw [List.getElem?_eq_getElem h] at this; simpa using this.symm)
    · exact .inr (List.getElem?_eq_none h)
  have out : ∀ (i : Nat) (x : Nat × Nat), h0.length ≤ i → r0[i]? = some x → False := fun i x hi e => by
    rw [List.getElem?_eq_none (by omega)] at e; cases e
  refine ⟨Ext.refl _ _, RLe.refl _, Nat.le_of_eq hlen.symm, hlen, fun i ch B f hi hr => ?_, fun i B f ho hr => (out i _ ho hr).elim, fun i B f ho hr => (out i _ ho hr).elim, fun i B f ho hl hr => ?_, fun i ch ho hl hi => ?_, fun i j B f f' ch ch' hij o1 o2 h1 h2 r1 r2 => (out i _ o1 r1).elim⟩
  · have hil : i < h0.length := (List.getElem?_eq_some_iff.1 hi).1
    have : Nat.ble h0.length i = false := by
      cases e : Nat.ble h0.length i
      · rfl
      · have := ble_le e; omega
    show At (Nat.ble h0.length i) _ _ _ _ _
    rw [this]
    exact hat.get i ch B f hi hr
  · refine ⟨?_, ?_⟩
    · show B ∉ (r0.drop h0.length).map (·.1)
      rw [List.drop_eq_nil_of_le (by omega)]
      simp
    · rcases hget i with e | e
      · exact (hat.get i _ B f e hr).lt hl
      · rw [List.getElem?_eq_none_iff] at e
        exact (out i _ e hr).elim
  · have hl : ¬ flat (getH h0 i) ≠ [] := hl
    rcases hget i with e | e
    · rw [hi] at e
      injection e with e
      rw [e]
      exact Classical.not_not.1 hl
    · rw [hi] at e; cases e
/-- A law's walk: what came in is only read. -/
theorem FnR.law {P : Program} {T : List (Nat × TD)} {f : FuncId} {n : Nat} {h0 : List (List Seg)} {args : List SA} {raw : World → Prop} {w : World} {vs : List Value} {r0 : Rho} (h : FnR P T f n h0 args raw (fun x _ => x = .a (.c (.bool true)))) (hn : n = h0.length)
    (hat : AllAt r0 w h0 r0) (ha : IsAs r0 args vs) (hr : raw w) :
    Calls P f vs.toArray w fun e w' => e = .returned (.bool true) ∧ Below w.heap.size w w' := by
  subst hn
  refine (h w r0 vs (heapOk_ro hat) ha hr).mono ?_
  rintro e w' ⟨v, x, hs, r', rfl, hx, hok, rfl⟩
  obtain rfl : v = .bool true := hx
  refine ⟨rfl, ?_⟩
  have e : Ext ((r0.drop h0.length).map (·.1)) w w' := hok.ext
  rw [List.drop_eq_nil_of_le (by rw [hat.len]; exact Nat.le_refl _)] at e
  exact e.below0
end Sx
end Go.Proofs.Ytndlhhhebijknaa
