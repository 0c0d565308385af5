/-
  Readers: what they do, and that new blocks don't matter to them. Over any program. No condition of its own.
-/
import Derived.Test.YtndlhhhebijknaaSxg
namespace Go.Proofs.Ytndlhhhebijknaa
set_option linter.unusedVariables false
namespace Sx
open Go.RowKit

theorem getT_eq : ∀ (l : List SV) (n : Nat), getT l n = (l[n]?).getD .any
  | [], _ => rfl
  | _ :: _, 0 => rfl
  | _ :: r, n + 1 => getT_eq r n
theorem getH_eq : ∀ (l : List (List Seg)) (n : Nat), getH l n = (l[n]?).getD []
  | [], _ => rfl
  | _ :: _, 0 => rfl
  | _ :: r, n + 1 => getH_eq r n
theorem ofInt_is (r : Rho) (k : IntKind) (n : Int) : (ofInt k n).Is r (.int k n) := by
  unfold ofInt
  split <;> try rfl
  all_goals
    split
    · split
      · rename_i m hb
        have h := Nat.blt_eq ▸ hb
        show _ = _
        simp only [BitVec.toNat_ofNat]
        rw [Nat.mod_eq_of_lt (by simpa using h)]
        rfl
      · rfl
    · rfl
theorem ofVal_is (r : Rho) (v : Value) : (ofVal v).Is r v := by
  unfold ofVal
  split <;> first | trivial | rfl | exact ofInt_is _ _ _
section
variable {C : Cx} {t : List SV} {h : List (List Seg)} {r : Rho} {a : Act} {w w' : World}
theorem Ok.get {s : St} (k : Ok C s r a w) (d : Nat) : (getT s.t d).Is r (a.tmps.getD d undef) := by
  rw [getT_eq]
  cases e : s.t[d]? with
  | none => trivial
  | some x => exact k.slots d x e
theorem Ok.ev {s : St} (k : Ok C s r a w) (x : Operand) : (ev s.t x).Is r (a.eval x) := by
  cases x with
  | tmp d => exact k.get d
  | const v => exact ofVal_is r v
  | global g => rfl
  | func f => rfl
theorem HeapOk.ext0 (k : HeapOk C h r w) (e : Ext [] w w') : HeapOk C h r w' := by
  refine ⟨k.ext.quiet e, k.agree, k.rol, k.len, fun i ch B f hi hr => (k.chunks i ch B f hi hr).extm e (fun _ => by simp), fun i B f hro hr => Nat.lt_of_lt_of_le (k.lt i B f hro hr) e.size, k.own, k.ros, k.dead, k.apart⟩
theorem HeapOk.chunk (k : HeapOk C h r w) {i B f : Nat} (hr : r[i]? = some (B, f)) : At (Nat.ble C.ro i) r w B f (flat (getH h i)) := by
  have hi : i < h.length := by
    rw [← k.len]
    rcases Nat.lt_or_ge i r.length with h | h
    · exact h
    · rw [List.getElem?_eq_none h] at hr; cases hr
  rw [getH_eq, List.getElem?_eq_getElem hi]
  exact k.chunks i _ B f (List.getElem?_eq_getElem hi) hr
/-- A block that is only read stands. -/
theorem HeapOk.still (k : HeapOk C h r w) {i B f : Nat} (hi : ¬ C.ro ≤ i) (hr : r[i]? = some (B, f)) (hne : flat (getH h i) ≠ []) {w' : World} (e : Ext C.m C.w0 w') : w'.heap[B]? = w.heap[B]? := by
  have hil : i < h.length := by
    rw [← k.len]
    rcases Nat.lt_or_ge i r.length with h | h
    · exact h
    · rw [List.getElem?_eq_none h] at hr; cases hr
  have hch : h[i]? = some (getH h i) := by rw [getH_eq, List.getElem?_eq_getElem hil]; rfl
  have hl : C.live i := Classical.byContradiction fun hl => hne (k.dead i _ (by omega) hl hch)
  obtain ⟨a1, a2⟩ := k.ros i B f (by omega) hl hr
  rw [e.block B a2 a1, k.ext.block B a2 a1]
/-- What is read stands. -/
theorem HeapOk.near (k : HeapOk C h r w) {i B f : Nat} (hr : r[i]? = some (B, f)) {l : List Nat} {w' : World} (e : Near C r l w w') (hi : i ∈ l) (hne : flat (getH h i) ≠ []) (hB : B < w.heap.size) : w'.heap[B]? = w.heap[B]? := by
  by_cases ho : C.ro ≤ i
  · exact e.2 i hi ho B f hr hB
  · exact k.still ho hr hne e.1
theorem At.sub {z : Bool} {l l' : List SC} {B off d : Nat} (h : At z r w B off l) (hs : ∀ (j : Nat) (x : SC), l'[j]? = some x → l[d + j]? = some x) : At z r w B (off + d) l' := fun j x e => by
  have := h _ x (hs j x e)
  rwa [show off + (d + j) = off + d + j by omega] at this
theorem ofSegs_spec {g : Bool} {l : List Seg} {k : SV → Prop} (h : ofSegs g l k) : (g = true ∧ k (.a (.agg l))) ∨ (g = false ∧ ∃ x, l = [.one x] ∧ k (.a (.c x))) := by
  unfold ofSegs at h
  split at h
  · exact .inl ⟨rfl, h⟩
  · split at h
    · exact .inr ⟨rfl, _, rfl, h⟩
    · exact h.elim
theorem add_none (B off n : Nat) : (⟨B, off, none⟩ : Addr).add n = ⟨B, off + n, none⟩ := by unfold Addr.add; split <;> simp_all
theorem exec_v {P : Program} {s : Sem Value} {v : Value} {w w' : World} (h : s.run P w = .ok v w') : (do pure (Next.value (← s)) : Sem Next).run P w = .ok (.value v) w' := by
  rw [Sem.run_bind, h]; rfl
/-- Cells are read as one value. -/
theorem load_core {P : Program} {u : TypeId} {d : TD} (hd : TdOk P u d) {l : List Seg} {k : SV → Prop} (hk : ofSegs d.isAgg l k) (hl : (flat l).length = d.size) {B off : Nat} {vs : List Value} (hv : IsL r (flat l) vs)
    {S : World → Prop} (hc : ∀ w', S w' → ∀ (j : Nat) v, vs[j]? = some v → w'.cell? ⟨B, off + j, none⟩ = some v) :
    ∃ v x, k x ∧ x.Is r v ∧ ∀ w', S w' → (Instr.loadAt u (.pointer (some ⟨B, off, none⟩))).run P w' = .ok v w' := by
  rcases ofSegs_spec hk with ⟨hg, hk⟩ | ⟨hg, x, rfl, hk⟩
  · refine ⟨_, _, hk, ⟨vs, rfl, hv⟩, fun w' hs => ?_⟩
    have h1 := run_loadCells_list (P := P) w' ⟨B, off, none⟩ vs (fun j v e => by rw [add_none]; exact hc w' hs j v e)
    rw [← hv.1, hl] at h1
    simp [Instr.loadAt, Instr.sureAddr, loadVar, hd.isAgg, hg, hd.sizeOf, h1, pure]
  · obtain ⟨v, e, hi⟩ := hv.2 0 x rfl
    refine ⟨v, .a (.c x), by assumption, hi, fun w' hs => ?_⟩
    have h1 := hc w' hs 0 v e
    simp [Instr.loadAt, Instr.sureAddr, loadVar, hd.isAgg, hg, Go.load, Sem.run, pure] at h1 ⊢
    simp [h1]
/-- A part of a value. -/
theorem part_core {P : Program} {u : TypeId} {d : TD} (hd : TdOk P u d) {l l' : List Seg} {k : SV → Prop} (hk : ofSegs d.isAgg l' k) (hl : (flat l').length = d.size) {vs : List Value} (hv : IsL r (flat l) vs) {off : Nat}
    (hs : ∀ (j : Nat) (x : SC), (flat l')[j]? = some x → (flat l)[off + j]? = some x) :
    ∃ v x, k x ∧ x.Is r v ∧ ∀ w', (part u vs.toArray off).run P w' = .ok v w' := by
  rcases ofSegs_spec hk with ⟨hg, hk⟩ | ⟨hg, x, rfl, hk⟩
  · have hlen : ∀ j, j < d.size → ∃ v, vs[off + j]? = some v := fun j hj => by
      obtain ⟨v, e, _⟩ := hv.2 _ _ (hs j _ (List.getElem?_eq_getElem (by rw [hl]; exact hj)))
      exact ⟨v, e⟩
    have hb : d.size = 0 ∨ off + d.size ≤ vs.length := by
      rcases Nat.eq_zero_or_pos d.size with h0 | h0
      · exact .inl h0
      · obtain ⟨v, e⟩ := hlen (d.size - 1) (by omega)
        rcases Nat.lt_or_ge (off + (d.size - 1)) vs.length with h | h
        · exact .inr (by omega)
        · rw [List.getElem?_eq_none h] at e; cases e
    refine ⟨_, _, hk, ⟨(vs.drop off).take d.size, rfl, ?_, fun j x e => ?_⟩, fun w' => ?_⟩
    · rw [hl]; simp
      rcases hb with hb | hb <;> omega
    · have hj : j < d.size := by
        rw [← hl]
        rcases Nat.lt_or_ge j (flat l').length with h | h
        · exact h
        · rw [List.getElem?_eq_none h] at e; cases e
      obtain ⟨v, e1, e2⟩ := hv.2 _ _ (hs j x e)
      refine ⟨v, ?_, e2⟩
      rw [List.getElem?_take, if_pos hj, List.getElem?_drop, e1]
    · simp [part, hd.isAgg, hg, hd.sizeOf, pure]
  · obtain ⟨v, e, hi⟩ := hv.2 _ x (hs 0 x rfl)
    refine ⟨v, .a (.c x), by assumption, hi, fun w' => ?_⟩
    simp at e
    simp [part, hd.isAgg, hg, e, pure]
end
end Sx
end Go.Proofs.Ytndlhhhebijknaa
