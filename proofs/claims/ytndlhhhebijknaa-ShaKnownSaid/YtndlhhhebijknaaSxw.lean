/-
  From a function over blocks to a law's walk: arguments opened. Over any program. No condition of its own.
-/
import Derived.OpenShut
import Derived.Test.YtndlhhhebijknaaSxq
namespace Go.Proofs.Ytndlhhhebijknaa
set_option linter.unusedVariables false
namespace Sx
open Go.RowKit Go.ChangeShapes Go.WideShapes

section
variable {H : Type} {enc : TypeId × Value → H} {P : Program} {w : World} {base : Nat} {sp : Nat → Bool} {held : Bool}
theorem wf_w8 {a : Int} (h : (Lit.int .u8 a).wf = true) : a = ((BitVec.ofInt 8 a).toNat : Int) := by
  have := bounds_u8 h
  rw [BitVec.toNat_ofInt]
  omega
/-- An array of bytes as an argument. -/
theorem open_arr8 {n : Nat} {t e : TypeId} (ht : P.underlying t = some (.array n e)) (he : P.underlying e = some (.int .u8)) (hc : P.cellsOf e = 1) (hn : P.cellsOf t = n) {r : Reach} {b0 : Nat} {v : Value} {d : DataW H} {p : List MemPlace}
    (hval : Value.okWide P w r b0 t v) (h : DataW.Trod enc P w base sp held t v d p) : ∃ f : Nat → BitVec 8, v = .agg ((List.range n).map fun i => Value.int .u8 ((f i).toNat : Int)).toArray := by
  obtain ⟨cs, rfl, hsz⟩ : ∃ cs, v = .agg cs ∧ cs.size = P.cellsOf t := by
    simp only [Value.okWide, ht] at hval
    obtain ⟨cs, h1, h2, _⟩ := hval
    exact ⟨cs, h1, h2⟩
  obtain ⟨fuel, hf⟩ := h
  obtain ⟨xs, m, _, _, hl, hx, hel⟩ := DataW.trod_array ht hf
  have cell : ∀ i, i < n → ∃ x : Int, cs[i]? = some (.int .u8 x) ∧ (Lit.int .u8 x).wf = true := by
    intro i hi
    have h1 := hel i hi
    rw [hc, Nat.mul_one, List.getElem?_eq_getElem (by omega)] at h1
    obtain ⟨x, e1, _, wx⟩ := DataW.trod_int he h1
    refine ⟨x, ?_, wx⟩
    have hi2 : i < cs.size := by omega
    have h2 : ((Value.agg cs).cells.toList.drop i).take 1 = [cs[i]] := by
      show (cs.toList.drop i).take 1 = _
      rw [List.drop_eq_getElem_cons (by simpa using hi2)]
      rfl
    rw [h2] at e1
    simp at e1
    rw [Array.getElem?_eq_getElem hi2, e1]
  refine ⟨fun i => match cs[i]? with | some (.int .u8 x) => BitVec.ofInt 8 x | _ => 0#8, ?_⟩
  congr 1
  apply Array.ext
  · simp; omega
  · intro i h1 h2
    obtain ⟨x, e, wx⟩ := cell i (by omega)
    rw [Array.getElem?_eq_getElem h1] at e
    simp only [List.getElem_toArray, List.getElem_map, List.getElem_range, Array.getElem?_eq_getElem h1]
    simp only [Option.some.injEq] at e
    rw [e]
    simp only
    exact congrArg _ (wf_w8 wx)
end
theorem isAs_nil (r : Rho) : IsAs r [] [] := ⟨rfl, fun j x e => by simp at e⟩
theorem isAs_cons {r : Rho} {x : SA} {v : Value} {l : List SA} {vs : List Value} (h : SA.Is r x v) (hs : IsAs r l vs) : IsAs r (x :: l) (v :: vs) :=
  ⟨by simpa using hs.1, fun j y e => by
    cases j with
    | zero => simp at e; subst e; exact ⟨v, rfl, h⟩
    | succ j => exact hs.2 j y e⟩
theorem is_row {r : Rho} {n : Nat} {f : Nat → BitVec 8} : SA.Is r (.agg [.row n fun i => .w8 (f i)]) (.agg ((List.range n).map fun i => Value.int .u8 ((f i).toNat : Int)).toArray) := by
  refine ⟨_, rfl, by simp [flat], fun j x e => ?_⟩
  simp only [flat, List.append_nil, List.getElem?_map, Option.map_eq_some_iff] at e ⊢
  obtain ⟨i, hi, rfl⟩ := e
  exact ⟨_, ⟨i, hi, rfl⟩, rfl⟩
/-- A law's walk. -/
theorem Fn.law {P : Program} {T : List (Nat × TD)} {f : FuncId} {args : List SA} {raw : World → Prop} (h : Fn P T f [] args raw (fun x hs => x = .a (.c (.bool true)) ∧ hs = [])) {w : World} {vs : List Value} (ha : IsAs [] args vs) (hr : raw w) :
    Calls P f vs.toArray w fun e w' => e = .returned (.bool true) ∧ Below w.heap.size w w' := by
  refine (Fn.calls h ha hr).mono ?_
  rintro e w' ⟨v, x, hs, r', rfl, hx, hok, rfl, rfl⟩
  obtain rfl : v = .bool true := hx
  exact ⟨rfl, hok.ext.below0⟩
end Sx
end Go.Proofs.Ytndlhhhebijknaa
