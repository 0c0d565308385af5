/-
  make, slices that are written out; all that makes or turns memory. Over any program. No condition of its own.
-/
import Derived.Test.YtndlhhhebijknaaSxl
namespace Go.Proofs.Ytndlhhhebijknaa
set_option linter.unusedVariables false
namespace Sx
open Go.RowKit

section
variable {C : Cx} {t : List SV} {h : List (List Seg)} {r : Rho} {a : Act} {w : World} {k : SV → List (List Seg) → Prop}
theorem zero_rep {P : Program} {u : TypeId} {d : TD} (hd : TdOk P u d) (r : Rho) (h0 : d.size ≠ 0) (n : Nat) :
    IsL r ((List.range n).map fun j => nthC (flat d.zero) (j % d.size)) ((Array.range n).map (d.zeroVal.cells[· % d.zeroVal.cells.size]!)).toList := by
  have hz := zero_is hd r
  have hs : d.zeroVal.cells.size = d.size := by rw [← hd.len, hz.1]; simp
  refine ⟨by simp, fun j x e => ?_⟩
  have hj : j < n := by
    rcases Nat.lt_or_ge j n with h | h
    · exact h
    · rw [List.getElem?_eq_none (by simpa using h)] at e; cases e
  simp [hj] at e
  have hm : j % d.size < d.size := Nat.mod_lt _ (by omega)
  obtain ⟨v, e1, e2⟩ := hz.2 (j % d.size) ((flat d.zero)[j % d.size]'(by rw [hd.len]; exact hm)) (List.getElem?_eq_getElem _)
  refine ⟨v, ?_, ?_⟩
  · simp only [Array.toList_map, Array.toList_range, List.getElem?_map, List.getElem?_range hj, Option.map_some, hs]
    congr 1
    rw [Array.getElem?_toList] at e1
    simp only [getElem!_def, e1]
  · rw [nthC_eq, List.getElem?_eq_getElem (by rw [hd.len]; exact hm)] at e
    simp at e
    rw [← e]; exact e2
theorem rep_one (n : Nat) (z : SC) : (List.range n).map (fun j => nthC [z] (j % 1)) = List.replicate n z := by
  apply List.ext_getElem?
  intro j
  by_cases hj : j < n
  · simp [hj, nthC, Nat.mod_one]
  · simp [hj]
theorem row_nthC (l : List SC) : flat [Seg.row l.length (nthC l)] = l := by
  simp only [flat, List.append_nil]
  apply List.ext_getElem?
  intro j
  by_cases hj : j < l.length
  · simp [hj, nthC_eq]
  · simp [hj]
theorem ch_buildSlice {u : TypeId} {len : Nat} {parts : Array (Nat × Operand)} (hT : AllT C.P C.T) (ok : Ok C ⟨t, h⟩ r a w) (hk : stepC C (.buildSlice u len parts) t h k) : ChOk C (.buildSlice u len parts) a w r k := by
  unfold stepC at hk
  obtain ⟨d, hd, hk⟩ := td_spec hT hk
  have hkk := hd.kind
  split at hk <;> try exact hk.elim
  rename_i e hkd
  rw [hkd] at hkk
  simp only [TK.Ok] at hkk
  obtain ⟨de, hde, hk⟩ := td_spec hT hk
  have fin : ∀ {l' : List Seg} {cs' : Array Value}, de.size ≠ 0 → len * de.size ≤ 16777216 → k (.a (.c (.sl h.length 0 0 len len))) (h ++ [l']) → IsL r (flat l') cs'.toList →
      Instr.fill (fun i => some (i * de.size, de.size)) ((Array.range (len * de.size)).map (de.zeroVal.cells[· % de.zeroVal.cells.size]!)) (parts.toList.map fun p => (p.1, a.eval p.2)) = some cs' → ChOk C (.buildSlice u len parts) a w r k := by
    intro l' cs' hs hb h1 h2 h3
    refine ⟨_, _, _, _, _, h1, sl_new ok.heap len len, RLe.snoc _ _, ok.heap.new h2 e, Tch.none ((Ext.refl _ _).alloc _), fun o ho => .inl ?_⟩
    simp only [execOp, ho]
    refine exec_v ?_
    simp only [Instr.buildSlice, Sem.run_bind, run_underlying hkk, Result.andThen_ok, hde.sizeOf]
    rw [if_neg (by omega)]
    by_cases h0 : len * de.size = 0
    · rw [if_pos h0]
      have e2 : ((Array.range (len * de.size)).map fun x => (#[] : Array Value)[x % (#[] : Array Value).size]!) = (Array.range (len * de.size)).map (de.zeroVal.cells[· % de.zeroVal.cells.size]!) := by
        rw [h0]; simp
      simp only [Sem.run_bind, Sem.run_pure, Result.andThen_ok, e2]
      rw [map_parts, h3]
      simp only [Sem.run_bind, newRow_run, Result.andThen_ok]
      rfl
    · rw [if_neg h0]
      simp only [Sem.run_bind, Sem.run_pure, Result.andThen_ok, hde.zeroValue]
      rw [map_parts, h3]
      simp only [Sem.run_bind, newRow_run, Result.andThen_ok]
      rfl
  split at hk
  · rename_i z hb hz
    have hs1 : de.size = 1 := by rw [← hde.len, hz]; rfl
    have hb := Nat.le_of_ble_eq_true hb
    rw [reps_eq] at hk
    have hrep := zero_rep hde r (by omega) (len * de.size)
    rw [hz, hs1, show flat [Seg.one z] = [z] from rfl, rep_one, Nat.mul_one] at hrep
    obtain ⟨l', cs', h1, h2, h3, h4⟩ := buildR_spec ok hk hrep
    rw [addH_eq, Nat.zero_add] at h1
    refine fin (by omega) hb h1 ?_ (by rw [hs1]; simpa using h4)
    have hm : l'.length = len := by rw [h3]; simp
    subst hm
    rw [row_nthC]; exact h2
  · rename_i z hb _
    have hb := Nat.le_of_ble_eq_true hb
    split at hk
    · exact hk.elim
    · rename_i m hm
      rw [frcN_eq] at hk
      have hrep := zero_rep hde r (by omega) (len * de.size)
      obtain ⟨l', cs', h1, h2, h3, h4⟩ := buildL_spec (pl := fun i => some (i * de.size, de.size)) ok (fun i F hF => by
        rw [frcN_eq] at hF
        exact ⟨_, _, _, hF, by simp⟩) hk (cs := ((Array.range (len * de.size)).map (de.zeroVal.cells[· % de.zeroVal.cells.size]!))) (by simpa [flat] using hrep)
      rw [addH_eq, Nat.zero_add] at h1
      exact fin (by omega) hb h1 h2 h4
  · exact hk.elim
theorem ch_makeSlice {u : TypeId} {l c : Operand} (hT : AllT C.P C.T) (ok : Ok C ⟨t, h⟩ r a w) (hk : stepC C (.makeSlice u l c) t h k) : ChOk C (.makeSlice u l c) a w r k := by
  unfold stepC at hk
  obtain ⟨d, hd, hk⟩ := td_spec hT hk
  have hkk := hd.kind
  split at hk <;> try exact hk.elim
  rename_i e hkd
  rw [hkd] at hkk
  simp only [TK.Ok] at hkk
  obtain ⟨de, hde, hk⟩ := td_spec hT hk
  obtain ⟨p, hk, hp, _⟩ := ev_c ok hk
  obtain ⟨x, hk, hx⟩ := idx_spec hk
  obtain ⟨kx, hx⟩ := hx _ _ hp
  obtain ⟨q, hk, hq, _⟩ := ev_c ok hk
  obtain ⟨y, hk, hy⟩ := idx_spec hk
  obtain ⟨ky, hy⟩ := hy _ _ hq
  obtain ⟨⟨b1, b2, b3, b4⟩, hk⟩ := hk
  simp only [frcN_eq] at hk
  obtain ⟨it, hit, _, hbytes, _⟩ := hde.inf
  have fin : ∀ {l' : List Seg}, de.size ≠ 0 → k (.a (.c (.sl h.length 0 0 x.toNat y.toNat))) (h ++ [l']) → IsL r (flat l') ((Array.range (y.toNat * de.size)).map (de.zeroVal.cells[· % de.zeroVal.cells.size]!)).toList → ChOk C (.makeSlice u l c) a w r k := by
    intro l' hs h1 h2
    refine ⟨_, _, _, _, _, h1, sl_new ok.heap x.toNat y.toNat, RLe.snoc _ _, ok.heap.new h2 e, Tch.none ((Ext.refl _ _).alloc _), fun o ho => .inl ?_⟩
    simp only [execOp, ho]
    refine exec_v ?_
    have wx : IntKind.i64.wrap x = x := wrap_i64 (by omega)
    have wy : IntKind.i64.wrap y = y := wrap_i64 (by omega)
    have hbb : (de.bytes : Int) * y ≤ 140737488355328 := by rw [Int.mul_comm]; exact b3
    simp only [Instr.makeSlice, Sem.run_bind, run_underlying hkk, Result.andThen_ok, hx, hy, asInt, run_asInt, typeInfo, run_program, hit, Sem.run_pure, wx, wy, hbytes]
    rw [if_neg (by
      simp only [Bool.or_eq_true, decide_eq_true_eq, not_or]
      have : ((2 : Int) ^ 48) = 281474976710656 := by decide
      rw [this]
      refine ⟨⟨⟨by omega, by omega⟩, by omega⟩, by omega⟩)]
    have hroom : ¬ (y.toNat * de.bytes > roomBytes) := by
      have e1 : roomBytes = 140737488355328 := by decide
      rw [e1]
      have : ((y.toNat * de.bytes : Nat) : Int) ≤ 140737488355328 := by
        rw [Int.natCast_mul, Int.toNat_of_nonneg (by omega)]; exact b3
      omega
    have e0 : (askRoom (y.toNat * de.bytes)).run C.P w = .ok () w := by
      unfold askRoom
      rw [if_neg hroom]; rfl
    simp only [Sem.run_bind, e0, Result.andThen_ok, hde.sizeOf]
    by_cases h0 : y.toNat * de.size = 0
    · rw [if_pos h0]
      have e2 : ((Array.range (y.toNat * de.size)).map fun x => (#[] : Array Value)[x % (#[] : Array Value).size]!) = (Array.range (y.toNat * de.size)).map (de.zeroVal.cells[· % de.zeroVal.cells.size]!) := by
        rw [h0]; simp
      simp only [Sem.run_bind, Sem.run_pure, Result.andThen_ok, e2, newRow_run]
    · rw [if_neg h0]
      simp only [Sem.run_bind, Sem.run_pure, Result.andThen_ok, hde.zeroValue, newRow_run]
  split at hk
  · rename_i z hz
    have hs1 : de.size = 1 := by rw [← hde.len, hz]; rfl
    rw [addH_eq, Nat.zero_add] at hk
    refine fin (by omega) hk ?_
    have hrep := zero_rep hde r (by omega) (y.toNat * de.size)
    rw [hz, hs1, show flat [Seg.one z] = [z] from rfl, rep_one, Nat.mul_one] at hrep
    rw [hs1, Nat.mul_one]
    have : flat [Seg.row y.toNat fun _ => z] = List.replicate y.toNat z := by
      simp only [flat, List.append_nil]
      apply List.ext_getElem?
      intro j
      by_cases hj : j < y.toNat
      · simp [hj]
      · simp [hj]
    rw [this]; exact hrep
  · split at hk
    · exact hk.elim
    · rename_i m hm
      rw [addH_eq, Nat.zero_add] at hk
      exact fin (by omega) hk (by simpa [flat] using zero_rep hde r (by omega) (y.toNat * de.size))
end
end Sx
end Go.Proofs.Ytndlhhhebijknaa
