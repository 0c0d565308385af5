/-
  What makes or turns memory. Over any program. No condition of its own.
-/
import Derived.Test.YtndlhhhebijknaaSxk
namespace Go.Proofs.Ytndlhhhebijknaa
set_option linter.unusedVariables false
namespace Sx
open Go.RowKit

section
variable {C : Cx} {t : List SV} {h : List (List Seg)} {r : Rho} {a : Act} {w : World} {k : SV → List (List Seg) → Prop}
theorem HeapOk.rlen (ok : HeapOk C h r w) : C.r0.length ≤ r.length := by
  rcases Nat.eq_zero_or_pos C.r0.length with h | hp
  · omega
  · have := ok.agree (C.r0.length - 1) _ (List.getElem?_eq_getElem (by omega))
    rcases Nat.lt_or_ge (C.r0.length - 1) r.length with h | h
    · omega
    · rw [List.getElem?_eq_none h] at this; cases this
/-- A new block. -/
theorem HeapOk.newF (ok : HeapOk C h r w) {l : List Seg} {cs : Array Value} (hc : IsL r (flat l) cs.toList) (e : TypeId) (fz : Nat × Nat) (hfz : fz = (0, 0) ∨ cs.size ≤ fz.1) : HeapOk C (h ++ [l]) (r ++ [(w.heap.size, 0)]) (w.alloc (.cells cs e fz)) := by
  have hx : Ext [] w (w.alloc (.cells cs e fz)) := (Ext.refl [] w).alloc _
  have ok' := ok.ext0 hx
  have hlen : r.length = h.length := ok.len
  have hr : ∀ (i B f : Nat), (r ++ [(w.heap.size, 0)])[i]? = some (B, f) → (i < h.length ∧ r[i]? = some (B, f)) ∨ (i = h.length ∧ B = w.heap.size ∧ f = 0) := by
    intro i B f e
    rcases Nat.lt_trichotomy i h.length with hi | hi | hi
    · rw [List.getElem?_append_left (by omega)] at e; exact .inl ⟨hi, e⟩
    · subst hi; rw [← hlen] at e; simp at e; exact .inr ⟨rfl, e.1.symm, e.2.symm⟩
    · rw [List.getElem?_eq_none (by simp; omega)] at e; cases e
  have hh : ∀ (i : Nat) (ch : List Seg), (h ++ [l])[i]? = some ch → (i < h.length ∧ h[i]? = some ch) ∨ (i = h.length ∧ ch = l) := by
    intro i ch e
    rcases Nat.lt_trichotomy i h.length with hi | hi | hi
    · rw [List.getElem?_append_left hi] at e; exact .inl ⟨hi, e⟩
    · subst hi; simp at e; exact .inr ⟨rfl, e.symm⟩
    · rw [List.getElem?_eq_none (by simp; omega)] at e; cases e
  have hrl : C.r0.length ≤ r.length := ok.rlen
  refine ⟨ok'.ext, ok.agree.trans (RLe.snoc _ _), ok.rol, by simp [hlen], fun i ch B f hi hr' => ?_, fun i B f hro hr' => ?_, fun i B f hro hr' => ?_, fun i B f hro hl hr' => ?_, fun i ch hro hl hi => ?_, fun i j B f f' ch ch' hne o1 o2 hi hj hri hrj => ?_⟩
  · rcases hr i B f hr' with ⟨h1, h2⟩ | ⟨h1, rfl, rfl⟩
    · rcases hh i ch hi with ⟨_, h3⟩ | ⟨h3, _⟩
      · exact (ok'.chunks i ch B f h3 h2).mono (RLe.snoc _ _)
      · omega
    · rcases hh i ch hi with ⟨h3, _⟩ | ⟨_, rfl⟩
      · omega
      · intro j x e'
        obtain ⟨v, e1, e2⟩ := hc.2 j x e'
        have hb : (w.alloc (.cells cs e fz)).heap[w.heap.size]? = some (.cells cs e fz) := heap_alloc_new w _
        have hj : j < cs.size := by
          have e1' : cs[j]? = some v := by simpa using e1
          exact (Array.getElem?_eq_some_iff.1 e1').1
        refine ⟨v, ?_, e2.mono (RLe.snoc _ _), fun _ => ?_⟩
        · simp only [World.cell?, hb, Nat.zero_add]
          simpa using e1
        · intro c t lo hi e
          rw [hb] at e
          injection e with e
          injection e with e1 e2 e3
          subst e1
          rcases hfz with rfl | hfz
          · injection e3 with e4 e5
            exact .inl (e4.symm.trans e5)
          · rw [e3] at hfz
            exact .inr hfz
  · rcases hr i B f hr' with ⟨h1, h2⟩ | ⟨h1, rfl, rfl⟩
    · exact ok'.lt i B f hro h2
    · simp
  · rcases hr i B f hr' with ⟨h1, h2⟩ | ⟨h1, rfl, rfl⟩
    · exact ok.own i B f hro h2
    · exact .inr ok.ext.size
  · rcases hr i B f hr' with ⟨h1, h2⟩ | ⟨h1, _, _⟩
    · exact ok.ros i B f hro hl h2
    · have := ok.rol
      omega
  · rcases hh i ch hi with ⟨_, h3⟩ | ⟨h3, _⟩
    · exact ok.dead i ch hro hl h3
    · have := ok.rol
      omega
  · rcases hr i B f hri with ⟨h1, h2⟩ | ⟨h1, rfl, rfl⟩ <;> rcases hr j _ f' hrj with ⟨h3, h4⟩ | ⟨h3, h5, _⟩
    · rcases hh i ch hi with ⟨_, h6⟩ | ⟨h6, _⟩
      · rcases hh j ch' hj with ⟨_, h7⟩ | ⟨h7, _⟩
        · exact ok.apart i j B f f' ch ch' hne o1 o2 h6 h7 h2 h4
        · omega
      · omega
    · have := ok.lt i B f o1 h2; omega
    · have := ok.lt j _ f' o2 h4; omega
    · omega
theorem HeapOk.new (ok : HeapOk C h r w) {l : List Seg} {cs : Array Value} (hc : IsL r (flat l) cs.toList) (e : TypeId) : HeapOk C (h ++ [l]) (r ++ [(w.heap.size, 0)]) (w.alloc (.cells cs e)) := ok.newF hc e (0, 0) (.inl rfl)
theorem Ext.setCells {m : List Nat} {w0 : World} (B : Nat) (hB : B ∈ m ∨ w0.heap.size ≤ B) : ∀ (vs : List Value) (o : Nat) {w : World}, Ext m w0 w → Ext m w0 (w.setCells B o vs)
  | [], _, _, h => h
  | v :: vs, o, _, h => Ext.setCells B hB vs (o + 1) (Ext.set_ h (p := ⟨B, o, none⟩) hB v)
theorem heap_setCells (B : Nat) : ∀ (vs : List Value) (o : Nat) (w : World), (w.setCells B o vs).heap.size = w.heap.size ∧ ∀ k, k ≠ B → (w.setCells B o vs).heap[k]? = w.heap[k]?
  | [], _, _ => ⟨rfl, fun _ _ => rfl⟩
  | v :: vs, o, w => by
    obtain ⟨h1, h2⟩ := heap_setCells B vs (o + 1) (w.setCell ⟨B, o, none⟩ v)
    exact ⟨by rw [World.setCells, h1]; simp [World.setCell], fun k hk => by rw [World.setCells, h2 k hk]; exact Below.heap_setCell _ _ _ _ hk⟩
/-- Cells are written. -/
theorem HeapOk.put (ok : HeapOk C h r w) {i B f : Nat} (hr : r[i]? = some (B, f)) {ch l' new : List Seg} {at_ : Nat} (hi : h[i]? = some ch) (hne : ch ≠ []) (hput : Put new ch l' at_) {vs : List Value} (hv : IsL r (flat new) vs) (hro : C.ro ≤ i) :
    HeapOk C (h.set i l') r (w.setCells B (f + at_) vs) := by
  obtain ⟨p1, p2, p3⟩ := hput
  obtain ⟨s1, s2⟩ := heap_setCells B vs (f + at_) w
  have hA := ok.chunks i ch B f hi hr
  have hil : i < h.length := by
    rcases Nat.lt_or_ge i h.length with h | h
    · exact h
    · rw [List.getElem?_eq_none h] at hi; cases hi
  have other : ∀ (j : Nat) (c : List Seg) (B' f' : Nat), j ≠ i → h[j]? = some c → r[j]? = some (B', f') → flat c = [] ∨ B' ≠ B := by
    intro j c B' f' hji hj hrj
    by_cases hB : B' = B
    · subst hB
      exact .inl (ok.sep hji hro hj hi hrj hr hne)
    · exact .inr hB
  refine ⟨Ext.setCells B (ok.own i B f hro hr) vs _ ok.ext, ok.agree, ok.rol, by simp [ok.len], fun j c B' f' hj hrj => ?_, fun j B' f' ho hrj => by rw [s1]; exact ok.lt j B' f' ho hrj, ok.own, ok.ros, fun j c ho hl hj => ?_, fun i' j B' f1 f2 c c' hij o1 o2 h1 h2 r1 r2 => ?_⟩
  · by_cases hji : j = i
    · subst hji
      rw [hr] at hrj
      injection hrj with e
      simp only [Prod.mk.injEq] at e
      obtain ⟨rfl, rfl⟩ := e
      rw [List.getElem?_set_self hil] at hj
      injection hj with hj
      subst hj
      have hsome : ∀ q, q < vs.length → (w.cell? ⟨B, f + at_ + q, none⟩).isSome = true := fun q hq => by
        have hq' : at_ + q < (flat ch).length := by rw [hv.1] at p1; omega
        obtain ⟨u, e1, _⟩ := hA _ _ (List.getElem?_eq_getElem hq')
        rw [show f + at_ + q = f + (at_ + q) by omega, e1]; rfl
      intro q x e
      rw [p3] at e
      have hfz : (Nat.ble C.ro j = true → Clean w B) → Nat.ble C.ro j = true → Clean (w.setCells B (f + at_) vs) B := fun hz hb => (hz hb).setCells _ _
      have hql : q < (flat ch).length := by
        by_cases hc : at_ ≤ q ∧ q < at_ + (flat new).length
        · omega
        · rw [if_neg hc] at e
          rcases Nat.lt_or_ge q (flat ch).length with h | h
          · exact h
          · rw [List.getElem?_eq_none h] at e; cases e
      obtain ⟨u, e1, e2, e3⟩ := hA q _ (List.getElem?_eq_getElem hql)
      by_cases hc : at_ ≤ q ∧ q < at_ + (flat new).length
      · rw [if_pos hc] at e
        obtain ⟨v, ev, hi'⟩ := hv.2 _ x e
        have hqv : q - at_ < vs.length := by rw [← hv.1]; omega
        have := World.cell?_setCells_in B vs (f + at_) w hsome (q - at_) hqv
        rw [show f + at_ + (q - at_) = f + q by omega] at this
        rw [List.getElem?_eq_getElem hqv] at ev
        injection ev with ev
        exact ⟨v, by rw [this, ev], hi', hfz e3⟩
      · rw [if_neg hc, List.getElem?_eq_getElem hql] at e
        injection e with e
        subst e
        refine ⟨u, ?_, e2, hfz e3⟩
        rw [World.cell?_setCells_out B vs (f + at_) w ⟨B, f + q, none⟩ (fun _ _ => by
          show f + q < f + at_ ∨ f + at_ + vs.length ≤ f + q
          rw [← hv.1]; omega)]
        exact e1
    · rw [List.getElem?_set_ne (Ne.symm hji)] at hj
      rcases other j c B' f' hji hj hrj with h0 | hB
      · intro q x e; rw [h0] at e; simp at e
      · exact (ok.chunks j c B' f' hj hrj).block (s2 B' hB)
  · have hji : j ≠ i := fun e => by subst e; omega
    rw [List.getElem?_set_ne (Ne.symm hji)] at hj
    exact ok.dead j c ho hl hj
  · by_cases hi1 : i' = i
    · subst hi1
      have hji : j ≠ i' := Ne.symm hij
      rw [List.getElem?_set_ne hij] at h2
      rw [hr] at r1
      injection r1 with e
      simp only [Prod.mk.injEq] at e
      obtain ⟨rfl, rfl⟩ := e
      rcases ok.apart j i' _ f2 _ c' ch hji o2 o1 h2 hi r2 hr with h | h
      · exact .inr h
      · exact absurd h hne
    · rw [List.getElem?_set_ne (Ne.symm hi1)] at h1
      by_cases hj1 : j = i
      · subst hj1
        rw [hr] at r2
        injection r2 with e
        simp only [Prod.mk.injEq] at e
        obtain ⟨rfl, rfl⟩ := e
        rcases ok.apart i' j _ f1 _ c ch hi1 o1 o2 h1 hi r1 hr with h | h
        · exact .inl h
        · exact absurd h hne
      · rw [List.getElem?_set_ne (Ne.symm hj1)] at h2
        exact ok.apart i' j B' f1 f2 c c' hij o1 o2 h1 h2 r1 r2
/-- An operation makes or turns memory. -/
def blockOf : Value → Option Nat
  | .pointer (some a) => some a.block
  | .slice (some a) _ _ => some a.block
  | _ => none
/-- What an operation turns of the old: the block that it writes to. -/
def Tch (op : Op) (a : Act) (w w' : World) : Prop := ∃ m : List Nat, Ext m w w' ∧ ∀ B ∈ m, ∃ x, tgtOf op = some x ∧ blockOf (a.eval x) = some B
theorem Tch.none {op : Op} {a : Act} {w w' : World} (e : Ext [] w w') : Tch op a w w' := ⟨[], e, fun B hB => by cases hB⟩
theorem tgt_st {op : Op} (h : isSt op = false) : tgtOf op = Option.none := by
  unfold tgtOf
  split
  · cases h
  · cases h
  · cases h
  · rfl
theorem Tch.quiet {op : Op} {a : Act} {w w' : World} (h : Tch op a w w') (hs : isSt op = false) : Ext [] w w' := by
  obtain ⟨m, e, hm⟩ := h
  have : m = [] := List.eq_nil_iff_forall_not_mem.2 fun B hB => by
    obtain ⟨x, h1, _⟩ := hm B hB
    rw [tgt_st hs] at h1
    cases h1
  rwa [this] at e
def ChOk (C : Cx) (op : Op) (a : Act) (w : World) (r : Rho) (k : SV → List (List Seg) → Prop) : Prop :=
  ∃ v x h' r' w', k x h' ∧ x.Is r' v ∧ RLe r r' ∧ HeapOk C h' r' w' ∧ Tch op a w w' ∧ ∀ o : Oper, o.op = op → (execOp a.eval o).run C.P w = .ok (.value v) w' ∨ ((execOp a.eval o).run C.P w = .ok .skip w' ∧ v = undef)
theorem ptr_new (ok : HeapOk C h r w) : SV.Is (r ++ [(w.heap.size, 0)]) (.a (.c (.p h.length 0 0))) (.pointer (some ⟨w.heap.size, 0, none⟩)) :=
  ⟨w.heap.size, 0, by rw [← ok.len]; simp, by simp⟩
theorem sl_new (ok : HeapOk C h r w) (n c : Nat) : SV.Is (r ++ [(w.heap.size, 0)]) (.a (.c (.sl h.length 0 0 n c))) (.slice (some ⟨w.heap.size, 0, none⟩) n c) :=
  ⟨w.heap.size, 0, by rw [← ok.len]; simp, by simp⟩
theorem newVar_run {P : Program} (e : TypeId) (v : Value) (w : World) : (newVar e v).run P w = .ok ⟨w.heap.size, 0, none⟩ (w.alloc (.cells v.cells e)) := rfl
theorem newRow_run {P : Program} (e : TypeId) (cs : Array Value) (w : World) : (newRow e cs).run P w = .ok ⟨w.heap.size, 0, none⟩ (w.alloc (.cells cs e)) := rfl
theorem zero_is {P : Program} {u : TypeId} {d : TD} (hd : TdOk P u d) (r : Rho) : IsL r (flat d.zero) d.zeroVal.cells.toList := by
  by_cases hg : d.isAgg = true
  · rw [zeroVal_agg hg]; exact zero_cells hd r
  · have hs := hd.sing
    simp only [hg, Bool.false_or] at hs
    split at hs
    · rename_i x hz
      have hp : x.plain = true := by
        have := hd.plain
        rw [hz] at this
        simpa [flat] using this
      have hv : d.zeroVal = x.val := by simp [TD.zeroVal, hg, hz, flat]
      rw [hv, hz, cells_one (SC.is_val r hp).one]
      exact ⟨rfl, fun j y e => by cases j <;> simp [flat] at e; subst e; exact ⟨_, rfl, SC.is_val r hp⟩⟩
    · cases hs
theorem ch_alloc {u : TypeId} (hT : AllT C.P C.T) (ok : Ok C ⟨t, h⟩ r a w) (hk : stepC C (.alloc u) t h k) : ChOk C (.alloc u) a w r k := by
  unfold stepC at hk
  obtain ⟨d, hd, hk⟩ := td_spec hT hk
  rw [addH_eq, Nat.zero_add] at hk
  refine ⟨_, _, _, _, _, hk, ptr_new ok.heap, RLe.snoc _ _, ok.heap.new (zero_is hd r) u, Tch.none ((Ext.refl _ _).alloc _), fun o ho => .inl ?_⟩
  simp only [execOp, ho]
  refine exec_v ?_
  simp only [Instr.alloc, Sem.run_bind, hd.zeroValue, Result.andThen_ok, newVar_run]
  rfl
theorem ch_box {u : TypeId} {x : Operand} (hT : AllT C.P C.T) (ok : Ok C ⟨t, h⟩ r a w) (hk : stepC C (.box u x) t h k) : ChOk C (.box u x) a w r k := by
  unfold stepC at hk
  obtain ⟨d, hd, hk⟩ := td_spec hT hk
  obtain ⟨l, hk, hl⟩ := toSegs_spec hk
  rw [addH_eq, Nat.zero_add] at hk
  obtain ⟨vs, hvs, hv⟩ := hl r _ (ok.ev x)
  refine ⟨_, _, _, _, _, hk.2, ptr_new ok.heap, RLe.snoc _ _, ok.heap.new (l := l) (cs := (a.eval x).cells) (by rw [hvs]; simpa using hv) u, Tch.none ((Ext.refl _ _).alloc _), fun o ho => .inl ?_⟩
  simp only [execOp, ho]
  refine exec_v ?_
  simp only [Instr.box, Sem.run_bind, newVar_run, Result.andThen_ok]
  rfl
theorem putS_ne {new : List Seg} {l : List Seg} {b o : Nat} {k : List Seg → Prop} (h : putS new l b o k) : l ≠ [] := by
  rintro rfl
  cases b <;> exact h
theorem ch_store {u : TypeId} {x y : Operand} (hT : AllT C.P C.T) (ok : Ok C ⟨t, h⟩ r a w) (hk : stepC C (.store u x y) t h k) : ChOk C (.store u x y) a w r k := by
  unfold stepC at hk
  obtain ⟨d, hd, hk⟩ := td_spec hT hk
  obtain ⟨new, hk, hn⟩ := toSegs_spec hk
  obtain ⟨p, hk, hp, _⟩ := ev_c ok hk
  split at hk
  · rename_i i b o _
    split at hk <;> try exact hk.elim
    rename_i hro
    obtain ⟨B, f, hr, hp⟩ := hp
    have hne := putS_ne hk
    obtain ⟨l', hk, hput⟩ := putS_spec hk
    rw [setH_eq] at hk
    obtain ⟨vs, hvs, hv⟩ := hn r _ (ok.ev y)
    have hi : h[i]? = some (getH h i) := by
      rw [getH_eq] at hne ⊢
      cases e : h[i]? with
      | none => rw [e] at hne; exact absurd rfl hne
      | some c => rfl
    have hA := ok.heap.chunks i _ B f hi hr
    refine ⟨undef, _, _, _, _, hk.2, ⟨[], rfl, rfl, fun j x e => by simp at e⟩, RLe.refl _, ok.heap.put hr hi hne hput hv (ble_le hro), ⟨[B], Ext.setCells B (.inl (by simp)) _ _ (Ext.refl _ _), fun B' hB' => ⟨x, rfl, by rw [hp]; simp at hB'; simp [blockOf, hB']⟩⟩, fun o' ho => .inr ⟨?_, rfl⟩⟩
    have hsz : (a.eval y).cells.size = d.size := by rw [hvs, ← hk.1, hv.1]; simp
    have hst := run_storeCells_cells (P := C.P) B (f + (b + o)) vs 0 w (fun j hj => by
        have hq : b + o + j < (flat (getH h i)).length := by have := hput.1; rw [hv.1] at this; omega
        obtain ⟨u', e1, _⟩ := hA _ _ (List.getElem?_eq_getElem hq)
        rw [show f + (b + o) + 0 + j = f + (b + o + j) by omega, e1]; rfl) (fun j hj => by
        have hq : b + o + j < (flat (getH h i)).length := by have := hput.1; rw [hv.1] at this; omega
        obtain ⟨u', e1, _, e3⟩ := hA _ _ (List.getElem?_eq_getElem hq)
        rw [show f + (b + o) + 0 + j = f + (b + o + j) by omega]; exact (e3 hro).fr e1) hv.one
    simp only [execOp, ho]
    simp only [Instr.storeAt, hp, Instr.sureAddr, storeVar, Sem.run_bind]
    have e0 : (pure (⟨B, f + (b + o), none⟩ : Addr) : Sem Addr).run C.P w = .ok ⟨B, f + (b + o), none⟩ w := rfl
    rw [e0]
    simp only [Result.andThen_ok, Sem.run_bind, hd.sizeOf, hsz, ne_eq, not_true_eq_false, if_false]
    rw [hvs]
    simp only [Nat.add_zero] at hst
    rw [show vs.toArray.toList = vs from rfl, hst]
    rfl
  · exact hk.elim
end
end Sx
end Go.Proofs.Ytndlhhhebijknaa
