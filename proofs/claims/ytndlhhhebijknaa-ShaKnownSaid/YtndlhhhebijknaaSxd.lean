/-
  Pieces of blocks: what is read and written there. Over any program. No condition of its own.
-/
import Derived.Test.YtndlhhhebijknaaSxc
namespace Go.Proofs.Ytndlhhhebijknaa
set_option linter.unusedVariables false
namespace Sx
open Go.RowKit

theorem elt_spec {n : Int} {sz o : Nat} {K : Nat → Prop} (h : elt n sz o K) : K (n.toNat * sz + o) := by
  unfold elt at h
  split at h
  · simpa using h
  · exact h
theorem flat_one (x : SC) (r : List Seg) (j : Nat) : (flat (.one x :: r))[j + 1]? = (flat r)[j]? := rfl
theorem flat_row_lt (n : Nat) (f : Nat → SC) (r : List Seg) {j : Nat} (h : j < n) : (flat (.row n f :: r))[j]? = some (f j) := by
  simp [flat, List.getElem?_append, h]
theorem flat_row_ge (n : Nat) (f : Nat → SC) (r : List Seg) {j : Nat} (h : n ≤ j) : (flat (.row n f :: r))[j]? = (flat r)[j - n]? := by
  have : ¬ j < n := by omega
  simp [flat, List.getElem?_append, this]
theorem flat_len_row (n : Nat) (f : Nat → SC) (r : List Seg) : (flat (.row n f :: r)).length = n + (flat r).length := by simp [flat]
theorem flat_len_one (x : SC) (r : List Seg) : (flat (.one x :: r)).length = 1 + (flat r).length := by simp [flat]; omega

theorem segs?_spec : ∀ {l : List Seg} {b : Nat} {r : List Seg}, segs? l b = some r → ∀ j, (flat r)[j]? = (flat l)[b + j]?
  | l, 0, r, h, j => by
    have : l = r := by cases l <;> simpa [segs?] using h
    subst this
    simp
  | .one x :: l, b + 1, r, h, j => by
    rw [show b + 1 + j = (b + j) + 1 by omega, flat_one]
    exact segs?_spec (l := l) (by simpa [segs?] using h) j
  | .row n f :: l, b + 1, r, h, j => by
    simp only [segs?] at h
    split at h
    · rename_i hb
      have hn := Nat.le_of_ble_eq_true hb
      rw [flat_row_ge _ _ _ (by omega), segs?_spec h j]
      congr 1
      omega
    · cases h
  | [], _ + 1, _, h, _ => by cases h

def tot : List (Option Nat) → Nat
  | [] => 0
  | none :: r => 1 + tot r
  | some n :: r => n + tot r
theorem tot_shape : ∀ l : List Seg, tot (shape l) = (flat l).length
  | [] => rfl
  | .one x :: r => by rw [flat_len_one, shape, tot, tot_shape r]
  | .row n f :: r => by rw [flat_len_row, shape, tot, tot_shape r]
theorem takeA_spec : ∀ {sh : List (Option Nat)} {l : List Seg} {k : List Seg → Prop}, takeA sh l k → ∃ l', k l' ∧ (flat l').length = tot sh ∧ ∀ (j : Nat) (x : SC), (flat l')[j]? = some x → (flat l)[j]? = some x
  | [], _, _, h => ⟨[], h, rfl, fun j x e => by simp [flat] at e⟩
  | none :: sh, .one y :: r, k, h => by
    obtain ⟨l', h1, h2, h3⟩ := takeA_spec (sh := sh) (l := r) h
    refine ⟨_, h1, by rw [flat_len_one, h2, tot], fun j x e => ?_⟩
    cases j with
    | zero => exact e
    | succ j => exact h3 j x e
  | some m :: sh, .row n f :: r, k, h => by
    simp only [takeA] at h
    split at h
    · rename_i hb
      have hn := Nat.eq_of_beq_eq_true hb
      subst hn
      obtain ⟨l', h1, h2, h3⟩ := takeA_spec (sh := sh) (l := r) h
      refine ⟨_, h1, by rw [flat_len_row, h2, tot], fun j x e => ?_⟩
      by_cases hj : j < m
      · rw [flat_row_lt _ _ _ hj] at e ⊢; exact e
      · rw [flat_row_ge _ _ _ (by omega)] at e ⊢; exact h3 _ x e
    · exact h.elim
  | none :: _, [], _, h => h.elim
  | none :: _, .row .. :: _, _, h => h.elim
  | some _ :: _, [], _, h => h.elim
  | some _ :: _, .one _ :: _, _, h => h.elim
theorem takeB_spec {n : Nat} {f : Nat → SC} : ∀ {sh : List (Option Nat)} {o : Nat} {k : List Seg → Prop}, takeB sh n f o k → ∃ l', k l' ∧ (flat l').length = tot sh ∧ (o + tot sh ≤ n ∨ sh = []) ∧ ∀ (j : Nat) (x : SC), (flat l')[j]? = some x → x = f (o + j)
  | [], _, _, h => ⟨[], h, rfl, .inr rfl, fun j x e => by simp [flat] at e⟩
  | none :: sh, o, k, h => by
    obtain ⟨h0, h⟩ := h
    obtain ⟨l', h1, h2, h3, h4⟩ := takeB_spec (sh := sh) (o := o + 1) h
    rw [frcSC_eq] at h1
    refine ⟨_, h1, by rw [flat_len_one, h2, tot], .inl ?_, fun j x e => ?_⟩
    · simp only [tot]; rcases h3 with h3 | rfl
      · omega
      · simp [tot]; omega
    · cases j with
      | zero => simp [flat] at e; rw [← e]; rfl
      | succ j => rw [h4 j x e]; congr 1; omega
  | some m :: sh, o, k, h => by
    obtain ⟨h0, h⟩ := h
    obtain ⟨l', h1, h2, h3, h4⟩ := takeB_spec (sh := sh) (o := o + m) h
    refine ⟨_, h1, by rw [flat_len_row, h2, tot], .inl ?_, fun j x e => ?_⟩
    · simp only [tot]; rcases h3 with h3 | rfl
      · omega
      · simp [tot]; omega
    · by_cases hj : j < m
      · rw [flat_row_lt _ _ _ hj] at e
        injection e with e
        rw [← e]; congr 1; omega
      · rw [flat_row_ge _ _ _ (by omega)] at e
        rw [h4 _ x e]; congr 1; omega
theorem loadS_spec {sh : List (Option Nat)} {l : List Seg} {b o : Nat} {k : List Seg → Prop} (h : loadS sh l b o k) :
    ∃ l', k l' ∧ (flat l').length = tot sh ∧ ∀ (j : Nat) (x : SC), (flat l')[j]? = some x → (flat l)[b + o + j]? = some x := by
  unfold loadS at h
  split at h
  · rename_i x r hs
    split at h
    · obtain ⟨l', h1, h2, h3⟩ := takeA_spec h
      exact ⟨l', h1, h2, fun j y e => by have := h3 j y e; rwa [segs?_spec hs] at this⟩
    · exact h.elim
  · rename_i n f r hs
    have hrow : ∀ j, j < n → (flat l)[b + j]? = some (f j) := fun j hj => by rw [← segs?_spec hs, flat_row_lt _ _ _ hj]
    split at h
    · obtain ⟨h0, h⟩ := h
      rw [frcSC_eq] at h
      refine ⟨_, h, rfl, fun j x e => ?_⟩
      cases j with
      | zero => simp [flat] at e; rw [← e, Nat.add_zero, hrow _ h0]
      | succ j => simp [flat] at e
    · obtain ⟨h0, h⟩ := h
      refine ⟨_, h, by simp [flat, tot], fun j x e => ?_⟩
      rename_i m
      by_cases hj : j < m
      · rw [flat_row_lt _ _ _ hj] at e
        injection e with e
        rw [← e, show b + o + j = b + (j + o) by omega, hrow _ (by omega)]
      · rw [flat_row_ge _ _ _ (by omega)] at e; simp [flat] at e
    · split at h
      · obtain ⟨l', h1, h2, h3⟩ := takeA_spec h
        exact ⟨l', h1, h2, fun j y e => by have := h3 j y e; rwa [segs?_spec hs] at this⟩
      · exact h.elim
    · obtain ⟨l', h1, h2, h3, h4⟩ := takeB_spec h
      refine ⟨l', h1, h2, fun j x e => ?_⟩
      have hj : j < (flat l').length := by
        rcases Nat.lt_or_ge j (flat l').length with h | h
        · exact h
        · rw [List.getElem?_eq_none h] at e; cases e
      rcases h3 with h3 | rfl
      · rw [h4 j x e, show b + o + j = b + (o + j) by omega, hrow _ (by omega)]
      · rw [h2] at hj; exact absurd hj (by simp [tot])
  · exact h.elim

theorem nthC_eq : ∀ (l : List SC) (j : Nat), nthC l j = (l[j]?).getD .any
  | [], _ => rfl
  | _ :: _, 0 => rfl
  | _ :: r, j + 1 => nthC_eq r j
/-- New pieces in the place of others. -/
def Put (new l l' : List Seg) (at_ : Nat) : Prop :=
  at_ + (flat new).length ≤ (flat l).length ∧ (flat l').length = (flat l).length ∧ ∀ j, (flat l')[j]? = if at_ ≤ j ∧ j < at_ + (flat new).length then (flat new)[j - at_]? else (flat l)[j]?
theorem Put.one {new r r' : List Seg} {at_ : Nat} (h : Put new r r' at_) (y : SC) : Put new (.one y :: r) (.one y :: r') (at_ + 1) := by
  obtain ⟨h1, h2, h3⟩ := h
  refine ⟨by rw [flat_len_one]; omega, by rw [flat_len_one, flat_len_one, h2], fun j => ?_⟩
  cases j with
  | zero => rw [if_neg (by omega)]; rfl
  | succ j =>
    rw [flat_one, flat_one, h3]
    by_cases hc : at_ ≤ j ∧ j < at_ + (flat new).length
    · rw [if_pos hc, if_pos (by omega)]; congr 1; omega
    · rw [if_neg hc, if_neg (by omega)]
theorem Put.row {new r r' : List Seg} {at_ n : Nat} (h : Put new r r' at_) (f : Nat → SC) : Put new (.row n f :: r) (.row n f :: r') (at_ + n) := by
  obtain ⟨h1, h2, h3⟩ := h
  refine ⟨by rw [flat_len_row]; omega, by rw [flat_len_row, flat_len_row, h2], fun j => ?_⟩
  by_cases hj : j < n
  · rw [flat_row_lt _ _ _ hj, flat_row_lt _ _ _ hj, if_neg (by omega)]
  · rw [flat_row_ge _ _ _ (by omega), flat_row_ge _ _ _ (by omega), h3]
    by_cases hc : at_ ≤ j - n ∧ j - n < at_ + (flat new).length
    · rw [if_pos hc, if_pos (by omega)]; congr 1; omega
    · rw [if_neg hc, if_neg (by omega)]
theorem putA_spec : ∀ {new l : List Seg} {k : List Seg → Prop}, putA new l k → ∃ l', k l' ∧ Put new l l' 0
  | [], l, k, h => ⟨l, h, by simp [flat], rfl, fun j => by simp [flat]⟩
  | .one x :: new, .one y :: r, k, h => by
    obtain ⟨l', h1, h2, h3, h4⟩ := putA_spec (new := new) (l := r) h
    refine ⟨_, h1, by rw [flat_len_one, flat_len_one]; omega, by rw [flat_len_one, flat_len_one, h3], fun j => ?_⟩
    cases j with
    | zero => rw [if_pos (by rw [flat_len_one]; omega)]; rfl
    | succ j =>
      rw [flat_one, h4]
      by_cases hc : 0 ≤ j ∧ j < 0 + (flat new).length
      · rw [if_pos hc, if_pos (by rw [flat_len_one]; omega)]; rfl
      · rw [if_neg hc, if_neg (by rw [flat_len_one]; omega)]; rfl
  | .row m g :: new, .row n f :: r, k, h => by
    simp only [putA] at h
    split at h
    · rename_i hb
      have hn := Nat.eq_of_beq_eq_true hb
      subst hn
      obtain ⟨l', h1, h2, h3, h4⟩ := putA_spec (new := new) (l := r) h
      refine ⟨_, h1, by rw [flat_len_row, flat_len_row]; omega, by rw [flat_len_row, flat_len_row, h3], fun j => ?_⟩
      by_cases hj : j < m
      · rw [flat_row_lt _ _ _ hj, if_pos (by rw [flat_len_row]; omega), Nat.sub_zero, flat_row_lt _ _ _ hj]
      · rw [flat_row_ge _ _ _ (by omega), h4]
        by_cases hc : 0 ≤ j - m ∧ j - m < 0 + (flat new).length
        · rw [if_pos hc, if_pos (by rw [flat_len_row]; omega), Nat.sub_zero, flat_row_ge _ _ _ (by omega)]; rfl
        · rw [if_neg hc, if_neg (by rw [flat_len_row]; omega), flat_row_ge _ _ _ (by omega)]
    · exact h.elim
  | .one _ :: _, [], _, h => h.elim
  | .one _ :: _, .row .. :: _, _, h => h.elim
  | .row .. :: _, [], _, h => h.elim
  | .row .. :: _, .one _ :: _, _, h => h.elim
/-- A row of which a part is new. -/
theorem Put.in_row {new r : List Seg} {n o : Nat} {f f' : Nat → SC} (ho : o + (flat new).length ≤ n) (h1 : ∀ j, o ≤ j → j < o + (flat new).length → (flat new)[j - o]? = some (f' j)) (h2 : ∀ j, j < n → (j < o ∨ o + (flat new).length ≤ j) → f' j = f j) :
    Put new (.row n f :: r) (.row n f' :: r) o := by
  refine ⟨by rw [flat_len_row]; omega, by rw [flat_len_row, flat_len_row], fun j => ?_⟩
  by_cases hj : j < n
  · rw [flat_row_lt _ _ _ hj]
    by_cases hc : o ≤ j ∧ j < o + (flat new).length
    · rw [if_pos hc, h1 j hc.1 hc.2]
    · rw [if_neg hc, flat_row_lt _ _ _ hj, h2 j hj (by omega)]
  · rw [flat_row_ge _ _ _ (by omega), if_neg (by omega), flat_row_ge _ _ _ (by omega)]
theorem putR_spec {new r : List Seg} {n o : Nat} {f : Nat → SC} {k : List Seg → Prop} (h : putR new n f o r k) : ∃ l', k l' ∧ Put new (.row n f :: r) l' o := by
  unfold putR at h
  split at h
  · rename_i x
    refine ⟨_, h.2, Put.in_row (by simp [flat]; omega) (fun j a b => ?_) (fun j hj hc => ?_)⟩
    · simp [flat] at b
      have : j = o := by omega
      subst this
      simp [flat, upd]
    · simp [flat] at hc
      simp [upd]; omega
  · rename_i m g
    split at h
    · rename_i hb
      have hn := Nat.eq_of_beq_eq_true hb
      subst hn
      obtain ⟨rfl, h⟩ := h
      refine ⟨_, h, Put.in_row (by simp [flat]) (fun j a b => ?_) (fun j hj hc => ?_)⟩
      · simp [flat] at b
        simp [flat, b]
      · simp [flat] at hc; omega
    · refine ⟨_, h.2, Put.in_row (by simp [flat]; omega) (fun j a b => ?_) (fun j hj hc => ?_)⟩
      · simp [flat] at b
        have : j - o < m := by omega
        simp [flat, updN, this, a, b]
      · simp [flat] at hc
        have : ¬ (o ≤ j ∧ j < o + m) := by omega
        simp [updN, this]
  · split at h
    · exact putA_spec h
    · exact h.elim
  · refine ⟨_, h.2, Put.in_row h.1 (fun j a b => ?_) (fun j hj hc => ?_)⟩
    · have : j - o < (flat new).length := by omega
      simp [updN, a, b, nthC_eq, this]
    · have : ¬ (o ≤ j ∧ j < o + (flat new).length) := by omega
      simp [updN, this]
theorem putS_spec {new : List Seg} : ∀ {l : List Seg} {b o : Nat} {k : List Seg → Prop}, putS new l b o k → ∃ l', k l' ∧ Put new l l' (b + o)
  | .one y :: r, 0, o, k, h => by
    simp only [putS] at h
    split at h
    · exact putA_spec h
    · exact h.elim
  | .row n f :: r, 0, o, k, h => by
    have := putR_spec (new := new) (r := r) (n := n) (f := f) (o := o) (k := k) h
    simpa using this
  | .one y :: r, b + 1, o, k, h => by
    obtain ⟨l', h1, h2⟩ := putS_spec (l := r) (b := b) (o := o) h
    exact ⟨_, h1, by have := h2.one y; rwa [show b + o + 1 = b + 1 + o by omega] at this⟩
  | .row n f :: r, b + 1, o, k, h => by
    simp only [putS] at h
    split at h
    · rename_i hb
      have hn := Nat.le_of_ble_eq_true hb
      obtain ⟨l', h1, h2⟩ := putS_spec (l := r) (b := b + 1 - n) (o := o) h
      exact ⟨_, h1, by have := h2.row (n := n) f; rwa [show b + 1 - n + o + n = b + 1 + o by omega] at this⟩
    · exact h.elim
  | [], _, _, _, h => h.elim
end Sx
end Go.Proofs.Ytndlhhhebijknaa
