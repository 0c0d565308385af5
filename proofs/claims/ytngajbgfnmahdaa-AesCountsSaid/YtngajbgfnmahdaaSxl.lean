/-
  What makes or turns memory. Over any program. No condition of its own.
-/
import Derived.Test.YtngajbgfnmahdaaSxk
namespace Go.Proofs.Ytngajbgfnmahdaa
namespace Sx
open Go.RowKit

section
variable {C : Cx} {t : List SV} {h : List (List Seg)} {r : Rho} {a : Act} {w : World} {k : SV → List (List Seg) → Prop}
/-- A new block. -/
theorem HeapOk.newF (ok : HeapOk C h r w) {l : List Seg} {cs : Array Value} (hc : IsL r (flat l) cs.toList) (e : TypeId) (fz : Nat × Nat) (hfz : fz = (0, 0) ∨ cs.size ≤ fz.1) : HeapOk C (h ++ [l]) (r ++ [(w.heap.size, 0)]) (w.alloc (.cells cs e fz)) := by
  have hx : Ext [] w (w.alloc (.cells cs e fz)) := (Ext.refl [] w).alloc _
  have ok' := ok.ext0 hx
  have hlen : r.length = h.length := ok.len
  have hr : ∀ (i B f : Nat), (r ++ [(w.heap.size, 0)])[i]? = some (B, f) → (i < h.length ∧ r[i]? = some (B, f)) ∨ (i = h.length ∧ B = w.heap.size ∧ f = 0) := by
    intro i B f e
    rcases Nat.lt_trichotomy i h.length with hi | hi | hi
    · rw [List.getElem?_append_left (by omega)] at e; exact .inl ⟨hi, e⟩
    · subst hi; rw [← hlen] at e; simp at e; exact .inr ⟨rfl, e.1.symm, e.2.symm⟩
    · rw [List.getElem?_eq_none (by simp; omega)] at e; cases e
  have hh : ∀ (i : Nat) (ch : List Seg), (h ++ [l])[i]? = some ch → (i < h.length ∧ h[i]? = some ch) ∨ (i = h.length ∧ ch = l) := by
    intro i ch e
    rcases Nat.lt_trichotomy i h.length with hi | hi | hi
    · rw [List.getElem?_append_left hi] at e; exact .inl ⟨hi, e⟩
    · subst hi; simp at e; exact .inr ⟨rfl, e.symm⟩
    · rw [List.getElem?_eq_none (by simp; omega)] at e; cases e
  refine ⟨ok'.ext, ok.agree.trans (RLe.snoc _ _), by simp [hlen], fun i ch B f hi hr' => ?_, fun i B f hr' => ?_, fun i B f hr' => ?_, fun i j B f f' ch ch' hne hi hj hri hrj => ?_⟩
  · rcases hr i B f hr' with ⟨h1, h2⟩ | ⟨h1, rfl, rfl⟩
    · rcases hh i ch hi with ⟨_, h3⟩ | ⟨h3, _⟩
      · exact (ok'.chunks i ch B f h3 h2).mono (RLe.snoc _ _)
      · omega
    · rcases hh i ch hi with ⟨h3, _⟩ | ⟨_, rfl⟩
      · omega
      · intro j x e'
        obtain ⟨v, e1, e2⟩ := hc.2 j x e'
        have hb : (w.alloc (.cells cs e fz)).heap[w.heap.size]? = some (.cells cs e fz) := heap_alloc_new w _
        have hj : j < cs.size := by
          have e1' : cs[j]? = some v := by simpa using e1
          exact (Array.getElem?_eq_some_iff.1 e1').1
        refine ⟨v, ?_, e2.mono (RLe.snoc _ _), ?_⟩
        · simp only [World.cell?, hb, Nat.zero_add]
          simpa using e1
        · simp only [World.frozen?, hb, Nat.zero_add]
          rcases hfz with rfl | hfz
          · simp
          · obtain ⟨lo, hi⟩ := fz
            simp only at hfz ⊢
            have : ¬ lo ≤ j := by omega
            simp [this]
  · rcases hr i B f hr' with ⟨h1, h2⟩ | ⟨h1, rfl, rfl⟩
    · exact ok'.lt i B f h2
    · simp
  · rcases hr i B f hr' with ⟨h1, h2⟩ | ⟨h1, rfl, rfl⟩
    · exact ok.own i B f h2
    · exact .inr ok.ext.size
  · rcases hr i B f hri with ⟨h1, h2⟩ | ⟨h1, rfl, rfl⟩ <;> rcases hr j _ f' hrj with ⟨h3, h4⟩ | ⟨h3, h5, _⟩
    · rcases hh i ch hi with ⟨_, h6⟩ | ⟨h6, _⟩
      · rcases hh j ch' hj with ⟨_, h7⟩ | ⟨h7, _⟩
        · exact ok.apart i j B f f' ch ch' hne h6 h7 h2 h4
        · omega
      · omega
    · have := ok.lt i B f h2; omega
    · have := ok.lt j _ f' h4; omega
    · omega
theorem HeapOk.new (ok : HeapOk C h r w) {l : List Seg} {cs : Array Value} (hc : IsL r (flat l) cs.toList) (e : TypeId) : HeapOk C (h ++ [l]) (r ++ [(w.heap.size, 0)]) (w.alloc (.cells cs e)) := ok.newF hc e (0, 0) (.inl rfl)
theorem Ext.setCells {m : List Nat} {w0 : World} (B : Nat) (hB : B ∈ m ∨ w0.heap.size ≤ B) : ∀ (vs : List Value) (o : Nat) {w : World}, Ext m w0 w → Ext m w0 (w.setCells B o vs)
  | [], _, _, h => h
  | v :: vs, o, _, h => Ext.setCells B hB vs (o + 1) (Ext.set_ h (p := ⟨B, o, none⟩) hB v)
theorem heap_setCells (B : Nat) : ∀ (vs : List Value) (o : Nat) (w : World), (w.setCells B o vs).heap.size = w.heap.size ∧ ∀ k, k ≠ B → (w.setCells B o vs).heap[k]? = w.heap[k]?
  | [], _, _ => ⟨rfl, fun _ _ => rfl⟩
  | v :: vs, o, w => by
    obtain ⟨h1, h2⟩ := heap_setCells B vs (o + 1) (w.setCell ⟨B, o, none⟩ v)
    exact ⟨by rw [World.setCells, h1]; simp [World.setCell], fun k hk => by rw [World.setCells, h2 k hk]; exact Below.heap_setCell _ _ _ _ hk⟩
/-- Cells are written. -/
theorem HeapOk.put (ok : HeapOk C h r w) {i B f : Nat} (hr : r[i]? = some (B, f)) {ch l' new : List Seg} {at_ : Nat} (hi : h[i]? = some ch) (hne : ch ≠ []) (hput : Put new ch l' at_) {vs : List Value} (hv : IsL r (flat new) vs) :
    HeapOk C (h.set i l') r (w.setCells B (f + at_) vs) := by
  obtain ⟨p1, p2, p3⟩ := hput
  obtain ⟨s1, s2⟩ := heap_setCells B vs (f + at_) w
  have hA := ok.chunks i ch B f hi hr
  have hil : i < h.length := by
    rcases Nat.lt_or_ge i h.length with h | h
    · exact h
    · rw [List.getElem?_eq_none h] at hi; cases hi
  have other : ∀ (j : Nat) (c : List Seg) (B' f' : Nat), j ≠ i → h[j]? = some c → r[j]? = some (B', f') → c = [] ∨ B' ≠ B := by
    intro j c B' f' hji hj hrj
    by_cases hB : B' = B
    · subst hB
      rcases ok.apart j i B' f' f c ch hji hj hi hrj hr with h | h
      · exact .inl h
      · exact absurd h hne
    · exact .inr hB
  refine ⟨Ext.setCells B (ok.own i B f hr) vs _ ok.ext, ok.agree, by simp [ok.len], fun j c B' f' hj hrj => ?_, fun j B' f' hrj => by rw [s1]; exact ok.lt j B' f' hrj, ok.own, fun i' j B' f1 f2 c c' hij h1 h2 r1 r2 => ?_⟩
  · by_cases hji : j = i
    · subst hji
      rw [hr] at hrj
      injection hrj with e
      simp only [Prod.mk.injEq] at e
      obtain ⟨rfl, rfl⟩ := e
      rw [List.getElem?_set_self hil] at hj
      injection hj with hj
      subst hj
      have hsome : ∀ q, q < vs.length → (w.cell? ⟨B, f + at_ + q, none⟩).isSome = true := fun q hq => by
        have hq' : at_ + q < (flat ch).length := by rw [hv.1] at p1; omega
        obtain ⟨u, e1, _⟩ := hA _ _ (List.getElem?_eq_getElem hq')
        rw [show f + at_ + q = f + (at_ + q) by omega, e1]; rfl
      intro q x e
      rw [p3] at e
      have hfz : w.frozen? ⟨B, f + q, none⟩ = false → (w.setCells B (f + at_) vs).frozen? ⟨B, f + q, none⟩ = false := fun hz => by rw [World.frozen?_setCells]; exact hz
      have hql : q < (flat ch).length := by
        by_cases hc : at_ ≤ q ∧ q < at_ + (flat new).length
        · omega
        · rw [if_neg hc] at e
          rcases Nat.lt_or_ge q (flat ch).length with h | h
          · exact h
          · rw [List.getElem?_eq_none h] at e; cases e
      obtain ⟨u, e1, e2, e3⟩ := hA q _ (List.getElem?_eq_getElem hql)
      by_cases hc : at_ ≤ q ∧ q < at_ + (flat new).length
      · rw [if_pos hc] at e
        obtain ⟨v, ev, hi'⟩ := hv.2 _ x e
        have hqv : q - at_ < vs.length := by rw [← hv.1]; omega
        have := World.cell?_setCells_in B vs (f + at_) w hsome (q - at_) hqv
        rw [show f + at_ + (q - at_) = f + q by omega] at this
        rw [List.getElem?_eq_getElem hqv] at ev
        injection ev with ev
        exact ⟨v, by rw [this, ev], hi', hfz e3⟩
      · rw [if_neg hc, List.getElem?_eq_getElem hql] at e
        injection e with e
        subst e
        refine ⟨u, ?_, e2, hfz e3⟩
        rw [World.cell?_setCells_out B vs (f + at_) w ⟨B, f + q, none⟩ (fun _ _ => by
          show f + q < f + at_ ∨ f + at_ + vs.length ≤ f + q
          rw [← hv.1]; omega)]
        exact e1
    · rw [List.getElem?_set_ne (Ne.symm hji)] at hj
      rcases other j c B' f' hji hj hrj with rfl | hB
      · intro q x e; simp [flat] at e
      · exact (ok.chunks j c B' f' hj hrj).block (s2 B' hB)
  · by_cases hi1 : i' = i
    · subst hi1
      have hji : j ≠ i' := Ne.symm hij
      rw [List.getElem?_set_ne hij] at h2
      rw [hr] at r1
      injection r1 with e
      simp only [Prod.mk.injEq] at e
      obtain ⟨rfl, rfl⟩ := e
      rcases other j c' _ f2 hji h2 r2 with h | h
      · exact .inr h
      · exact absurd rfl h
    · rw [List.getElem?_set_ne (Ne.symm hi1)] at h1
      by_cases hj1 : j = i
      · subst hj1
        rw [hr] at r2
        injection r2 with e
        simp only [Prod.mk.injEq] at e
        obtain ⟨rfl, rfl⟩ := e
        rcases other i' c _ f1 hi1 h1 r1 with h | h
        · exact .inl h
        · exact absurd rfl h
      · rw [List.getElem?_set_ne (Ne.symm hj1)] at h2
        exact ok.apart i' j B' f1 f2 c c' hij h1 h2 r1 r2
/-- An operation makes or turns memory. -/
def ChOk (C : Cx) (op : Op) (a : Act) (w : World) (r : Rho) (k : SV → List (List Seg) → Prop) : Prop :=
  ∃ v x h' r' w', k x h' ∧ x.Is r' v ∧ RLe r r' ∧ HeapOk C h' r' w' ∧ (isSt op = false → Ext [] w w') ∧ ∀ o : Oper, o.op = op → (execOp a.eval o).run C.P w = .ok (.value v) w' ∨ ((execOp a.eval o).run C.P w = .ok .skip w' ∧ v = undef)
theorem ptr_new (ok : HeapOk C h r w) : SV.Is (r ++ [(w.heap.size, 0)]) (.a (.c (.p h.length 0 0))) (.pointer (some ⟨w.heap.size, 0, none⟩)) :=
  ⟨w.heap.size, 0, by rw [← ok.len]; simp, by simp⟩
theorem sl_new (ok : HeapOk C h r w) (n c : Nat) : SV.Is (r ++ [(w.heap.size, 0)]) (.a (.c (.sl h.length 0 0 n c))) (.slice (some ⟨w.heap.size, 0, none⟩) n c) :=
  ⟨w.heap.size, 0, by rw [← ok.len]; simp, by simp⟩
theorem newVar_run {P : Program} (e : TypeId) (v : Value) (w : World) : (newVar e v).run P w = .ok ⟨w.heap.size, 0, none⟩ (w.alloc (.cells v.cells e)) := rfl
theorem newRow_run {P : Program} (e : TypeId) (cs : Array Value) (w : World) : (newRow e cs).run P w = .ok ⟨w.heap.size, 0, none⟩ (w.alloc (.cells cs e)) := rfl
theorem zero_is {P : Program} {u : TypeId} {d : TD} (hd : TdOk P u d) (r : Rho) : IsL r (flat d.zero) d.zeroVal.cells.toList := by
  by_cases hg : d.isAgg = true
  · rw [zeroVal_agg hg]; exact zero_cells hd r
  · have hs := hd.sing
    simp only [hg, Bool.false_or] at hs
    split at hs
    · rename_i x hz
      have hp : x.plain = true := by
        have := hd.plain
        rw [hz] at this
        simpa [flat] using this
      have hv : d.zeroVal = x.val := by simp [TD.zeroVal, hg, hz, flat]
      rw [hv, hz, cells_one (SC.is_val r hp).one]
      exact ⟨rfl, fun j y e => by cases j <;> simp [flat] at e; subst e; exact ⟨_, rfl, SC.is_val r hp⟩⟩
    · cases hs
theorem ch_alloc {u : TypeId} (hT : AllT C.P C.T) (ok : Ok C ⟨t, h⟩ r a w) (hk : stepC C (.alloc u) t h k) : ChOk C (.alloc u) a w r k := by
  unfold stepC at hk
  obtain ⟨d, hd, hk⟩ := td_spec hT hk
  rw [addH_eq, Nat.zero_add] at hk
  refine ⟨_, _, _, _, _, hk, ptr_new ok.heap, RLe.snoc _ _, ok.heap.new (zero_is hd r) u, fun _ => (Ext.refl _ _).alloc _, fun o ho => .inl ?_⟩
  simp only [execOp, ho]
  refine exec_v ?_
  simp only [Instr.alloc, Sem.run_bind, hd.zeroValue, Result.andThen_ok, newVar_run]
  rfl
theorem ch_box {u : TypeId} {x : Operand} (hT : AllT C.P C.T) (ok : Ok C ⟨t, h⟩ r a w) (hk : stepC C (.box u x) t h k) : ChOk C (.box u x) a w r k := by
  unfold stepC at hk
  obtain ⟨d, hd, hk⟩ := td_spec hT hk
  obtain ⟨l, hk, hl⟩ := toSegs_spec hk
  rw [addH_eq, Nat.zero_add] at hk
  obtain ⟨vs, hvs, hv⟩ := hl r _ (ok.ev x)
  refine ⟨_, _, _, _, _, hk.2, ptr_new ok.heap, RLe.snoc _ _, ok.heap.new (l := l) (cs := (a.eval x).cells) (by rw [hvs]; simpa using hv) u, fun _ => (Ext.refl _ _).alloc _, fun o ho => .inl ?_⟩
  simp only [execOp, ho]
  refine exec_v ?_
  simp only [Instr.box, Sem.run_bind, newVar_run, Result.andThen_ok]
  rfl
theorem putS_ne {new : List Seg} {l : List Seg} {b o : Nat} {k : List Seg → Prop} (h : putS new l b o k) : l ≠ [] := by
  rintro rfl
  cases b <;> exact h
theorem ch_store {u : TypeId} {x y : Operand} (hT : AllT C.P C.T) (ok : Ok C ⟨t, h⟩ r a w) (hk : stepC C (.store u x y) t h k) : ChOk C (.store u x y) a w r k := by
  unfold stepC at hk
  obtain ⟨d, hd, hk⟩ := td_spec hT hk
  obtain ⟨new, hk, hn⟩ := toSegs_spec hk
  obtain ⟨p, hk, hp, _⟩ := ev_c ok hk
  split at hk
  · rename_i i b o _
    obtain ⟨B, f, hr, hp⟩ := hp
    have hne := putS_ne hk
    obtain ⟨l', hk, hput⟩ := putS_spec hk
    rw [setH_eq] at hk
    obtain ⟨vs, hvs, hv⟩ := hn r _ (ok.ev y)
    have hi : h[i]? = some (getH h i) := by
      rw [getH_eq] at hne ⊢
      cases e : h[i]? with
      | none => rw [e] at hne; exact absurd rfl hne
      | some c => rfl
    have hA := ok.heap.chunks i _ B f hi hr
    refine ⟨undef, _, _, _, _, hk.2, ⟨[], rfl, rfl, fun j x e => by simp at e⟩, RLe.refl _, ok.heap.put hr hi hne hput hv, fun hh => (by cases hh), fun o' ho => .inr ⟨?_, rfl⟩⟩
    have hsz : (a.eval y).cells.size = d.size := by rw [hvs, ← hk.1, hv.1]; simp
    have hst := run_storeCells_cells (P := C.P) B (f + (b + o)) vs 0 w (fun j hj => by
        have hq : b + o + j < (flat (getH h i)).length := by have := hput.1; rw [hv.1] at this; omega
        obtain ⟨u', e1, _⟩ := hA _ _ (List.getElem?_eq_getElem hq)
        rw [show f + (b + o) + 0 + j = f + (b + o + j) by omega, e1]; rfl) (fun j hj => by
        have hq : b + o + j < (flat (getH h i)).length := by have := hput.1; rw [hv.1] at this; omega
        obtain ⟨u', _, _, e3⟩ := hA _ _ (List.getElem?_eq_getElem hq)
        rw [show f + (b + o) + 0 + j = f + (b + o + j) by omega]; exact e3) hv.one
    simp only [execOp, ho]
    simp only [Instr.storeAt, hp, Instr.sureAddr, storeVar, Sem.run_bind]
    have e0 : (pure (⟨B, f + (b + o), none⟩ : Addr) : Sem Addr).run C.P w = .ok ⟨B, f + (b + o), none⟩ w := rfl
    rw [e0]
    simp only [Result.andThen_ok, Sem.run_bind, hd.sizeOf, hsz, ne_eq, not_true_eq_false, if_false]
    rw [hvs]
    simp only [Nat.add_zero] at hst
    rw [show vs.toArray.toList = vs from rfl, hst]
    rfl
  · exact hk.elim
end
end Sx
end Go.Proofs.Ytngajbgfnmahdaa
