/-
  append, copy, []byte of a string. Over any program. No condition of its own.
-/
import Derived.Test.YtndlhhhebijknaaSxm
namespace Go.Proofs.Ytndlhhhebijknaa
set_option linter.unusedVariables false
namespace Sx
open Go.RowKit

section
variable {C : Cx} {t : List SV} {h : List (List Seg)} {r : Rho} {a : Act} {w : World}
/-- What is taken from is there. -/
theorem srcC_spec (ok : Ok C ⟨t, h⟩ r a w) {sz : Nat} {x : Operand} {K : Nat → (Nat → SC) → Prop} (hk : srcC C sz h (ev t x) K) :
    ∃ m g, K m g ∧ (Builtin.lenOf (a.eval x)).run C.P w = .ok m w ∧ ∃ vs : List Value, IsL r ((List.range (m * sz)).map g) vs ∧ ∀ n, n ≤ m → ∀ w', (∀ (B o : Nat) v, w.cell? ⟨B, o, none⟩ = some v → w'.cell? ⟨B, o, none⟩ = some v) → (Builtin.firstCells sz n (a.eval x)).run C.P w' = .ok (vs.take (n * sz)).toArray w' := by
  have hv := ok.ev x
  have fin : ∀ {m : Nat} {g : Nat → SC} {B off : Nat} {c : Nat}, K m g → a.eval x = .slice (some ⟨B, off, none⟩) m c → (∀ w', Ext [] w w' → True) → (∃ vs : List Value, IsL r ((List.range (m * sz)).map g) vs ∧ ∀ (j : Nat) v, vs[j]? = some v → w.cell? ⟨B, off + j, none⟩ = some v) →
      ∃ m g, K m g ∧ (Builtin.lenOf (a.eval x)).run C.P w = .ok m w ∧ ∃ vs : List Value, IsL r ((List.range (m * sz)).map g) vs ∧ ∀ n, n ≤ m → ∀ w', (∀ (B o : Nat) v, w.cell? ⟨B, o, none⟩ = some v → w'.cell? ⟨B, o, none⟩ = some v) → (Builtin.firstCells sz n (a.eval x)).run C.P w' = .ok (vs.take (n * sz)).toArray w' := by
    rintro m g B off c hk e - ⟨vs, h1, h2⟩
    refine ⟨m, g, hk, by rw [e]; rfl, vs, h1, fun n hn w' hw => ?_⟩
    rw [e]
    have hl : vs.length = m * sz := by rw [← h1.1]; simp
    have hle : n * sz ≤ m * sz := Nat.mul_le_mul_right _ hn
    have := run_loadCells_list (P := C.P) w' ⟨B, off, none⟩ (vs.take (n * sz)) (fun j v e' => by
      rw [add_none]
      rw [List.getElem?_take] at e'
      split at e'
      · exact hw _ _ _ (h2 j v e')
      · cases e')
    rw [show (vs.take (n * sz)).length = n * sz by rw [List.length_take, hl]; omega] at this
    exact this
  unfold srcC at hk
  split at hk
  · rename_i j b o m c e
    simp only [e] at hv
    obtain ⟨B, f, hr, hv⟩ := hv
    split at hk <;> try exact hk.elim
    rename_i N g tl hs
    obtain ⟨hN, hk⟩ := hk
    rw [scale_eq] at hN
    have hA := (ok.heap.chunk hr).sub (d := b + o) (l' := (List.range (m * sz)).map fun q => g (q + o)) (fun q y e => by
      have hq : q < m * sz := by
        rcases Nat.lt_or_ge q (m * sz) with h | h
        · exact h
        · rw [List.getElem?_eq_none (by simpa using h)] at e; cases e
      simp [hq] at e
      rw [show b + o + q = b + (q + o) by omega, ← segs?_spec hs, flat_row_lt _ _ _ (by omega), e])
    obtain ⟨vs, h1, h2⟩ := hA.vals
    exact fin hk hv (fun _ _ => trivial) ⟨vs, h1, h2⟩
  · rename_i m c e
    simp only [e] at hv
    obtain ⟨rfl, hk⟩ := hk
    have hv : a.eval x = .slice none 0 c := hv
    refine ⟨0, _, hk, by rw [hv]; rfl, [], ⟨by simp, fun j y e => by simp at e⟩, fun n hn w' _ => by rw [hv]; simp [Builtin.firstCells, pure]⟩
  · rename_i ad m c e
    simp only [e] at hv
    obtain ⟨g, hr, hk⟩ := hk
    have hv : a.eval x = .slice (some ad) m c := hv
    have hsp : ad = ⟨ad.block, ad.off, none⟩ := by
      have := hr.1
      cases ad; simp at this; subst this; rfl
    obtain ⟨vs, h1, h2⟩ := RawAt.vals (r := r) hr
    rw [hsp] at hv
    exact fin hk hv (fun _ _ => trivial) ⟨vs, h1, fun j v e => h2 w ok.heap.ext j v e⟩
  · rename_i l e
    simp only [e] at hv
    have hv : a.eval x = .string ⟨l.toArray⟩ := hv
    split at hk <;> try exact hk.elim
    refine ⟨l.length, _, hk, by rw [hv]; rfl, l.map fun b => .int .u8 (b.toNat : Int), ⟨by simp, fun j y e => ?_⟩, fun n hn w' _ => ?_⟩
    · have hj : j < l.length := by
        rcases Nat.lt_or_ge j l.length with h | h
        · exact h
        · rw [List.getElem?_eq_none (by simpa using h)] at e; cases e
      simp [hj] at e
      subst e
      refine ⟨_, by simp [hj]; rfl, ?_⟩
      simp [SC.Is]
    · rw [hv]
      simp only [Builtin.firstCells, str_extract, Nat.sub_zero, List.drop_zero, Nat.mul_one]
      simp [pure, List.map_take]
  · rename_i z j b o m c e
    simp only [e] at hv
    obtain ⟨g', ⟨_, hsn⟩, hk⟩ := hk
    rcases hv with ⟨_, hv, rfl, rfl⟩ | ⟨hz, B, f, hr, hv⟩
    · refine ⟨0, _, hk, by rw [hv]; rfl, [], ⟨by simp, fun j y e => by simp at e⟩, fun n hn w' _ => by rw [hv]; simp [Builtin.firstCells, pure]⟩
    obtain ⟨N, g, tl, hs, hN, hg'⟩ := hsn hz
    rw [scale_eq] at hN hg'
    have hA := (ok.heap.chunk hr).sub (d := b + o) (l' := (List.range (m * sz)).map g') (fun q y e => by
      have hq : q < m * sz := by
        rcases Nat.lt_or_ge q (m * sz) with h | h
        · exact h
        · rw [List.getElem?_eq_none (by simpa using h)] at e; cases e
      simp [hq] at e
      rw [show b + o + q = b + (q + o) by omega, ← segs?_spec hs, flat_row_lt _ _ _ (by omega), ← hg' q hq, e])
    obtain ⟨vs, h1, h2⟩ := hA.vals
    exact fin hk hv (fun _ _ => trivial) ⟨vs, h1, h2⟩
  · exact hk.elim
theorem und_int {P : Program} {u : TypeId} {d : TD} (hd : TdOk P u d) (hi : isIntK d.k = false) : ∃ v, P.underlying u = some v ∧ ∀ k, v ≠ .int k := by
  have hk := hd.kind
  cases e : d.k <;> rw [e] at hk hi <;> simp only [TK.Ok] at hk
  case int => cases hi
  case struct =>
    unfold fieldsOf at hk
    split at hk
    · exact ⟨_, by assumption, by simp⟩
    · cases hk
  case ifc =>
    unfold isIfc at hk
    split at hk
    · exact ⟨_, by assumption, by simp⟩
    · cases hk
  case fn =>
    unfold isFn at hk
    split at hk
    · exact ⟨_, by assumption, by simp⟩
    · cases hk
  all_goals exact ⟨_, hk, by simp⟩
section
variable {P : Program} {u u2 e : TypeId} {us : List TypeId} {v2 : TypeDesc} {de : TD}
theorem run_app_fit {ts : Array TypeId} (hts : ts.toList = u :: u2 :: us) (hu : P.underlying u = some (.slice e)) (hu2 : P.underlying u2 = some v2) (hi2 : ∀ k, v2 ≠ .int k) (hde : TdOk P e de) {base : Option Addr} {n c m : Nat} {xv : Value} {w w' : World} {vs : List Value} (ty : TypeId) (hl : (Builtin.lenOf xv).run P w = .ok m w) (hx : (Builtin.firstCells de.size m xv).run P w = .ok vs.toArray w) (hfit : n + m ≤ c)
    (hst : (match base with | some a => storeCells (a.add (n * de.size)) vs | none => pure () : Sem Unit).run P w = .ok () w') :
    (Builtin.append_ ts ty #[.slice base n c, xv]).run P w = .ok (.slice base (n + m) c) w' := by
  have h0 : ts[0]? = some u := by rw [← Array.getElem?_toList, hts]; rfl
  have h1 : ts[1]? = some u2 := by rw [← Array.getElem?_toList, hts]; rfl
  have e0 : (#[Value.slice base n c, xv] : Array Value)[0]? = some (.slice base n c) := rfl
  have e1 : (#[Value.slice base n c, xv] : Array Value)[1]? = some xv := rfl
  cases v2 <;> try (rename_i k; exact absurd rfl (hi2 k))
  all_goals
    simp only [Builtin.append_, h0, h1, e0, e1, Sem.run_bind, run_underlying hu, Result.andThen_ok, hde.sizeOf, run_underlying hu2, Sem.run_pure, Bool.false_eq_true, if_false, hl, hfit, if_true, Bool.not_false, hx]
    cases base with
    | none =>
      simp only [Sem.run_pure] at hst
      simp only [Sem.run_bind, Sem.run_pure, Result.andThen_ok]
      injection hst with _ hst
      rw [hst]
    | some a =>
      simp only at hst
      simp only [Sem.run_bind, hst, Result.andThen_ok, Sem.run_pure]
theorem run_app_grow {ts : Array TypeId} (hts : ts.toList = u :: u2 :: us) (hu : P.underlying u = some (.slice e)) (hu2 : P.underlying u2 = some v2) (hi2 : ∀ k, v2 ≠ .int k) (hde : TdOk P e de) {base : Option Addr} {n c m : Nat} {xv : Value} {w : World} {vs os : List Value} (ty : TypeId) (hl : (Builtin.lenOf xv).run P w = .ok m w)
    (hx : (Builtin.firstCells de.size m xv).run P w.drew = .ok vs.toArray w.drew) (hg : ¬ n + m ≤ c) (hb0 : de.bytes ≠ 0) (hb : (n + m) * de.bytes ≤ 140737488355328) (ho : (Builtin.firstCells de.size n (.slice base n c)).run P w.drew = .ok os.toArray w.drew) :
    ∃ c', n + m ≤ c' ∧ (Builtin.append_ ts ty #[.slice base n c, xv]).run P w = .ok (.slice (some ⟨w.heap.size, 0, none⟩) (n + m) c') (w.drew.alloc (.cells (os.toArray ++ vs.toArray ++ Builtin.zeroCells de.zeroVal.cells (c' - (n + m))) e)) := by
  have h0 : ts[0]? = some u := by rw [← Array.getElem?_toList, hts]; rfl
  have h1 : ts[1]? = some u2 := by rw [← Array.getElem?_toList, hts]; rfl
  have e0 : (#[Value.slice base n c, xv] : Array Value)[0]? = some (.slice base n c) := rfl
  have e1 : (#[Value.slice base n c, xv] : Array Value)[1]? = some xv := rfl
  obtain ⟨it, hit, _, hby, _⟩ := hde.inf
  have hti : (typeInfo e).run P w = .ok it w := by simp [typeInfo, hit]
  have hfit := growslice_fits (need := n + m) (old := c) (bytes := de.bytes) (by omega) hb
  have hroom : ∀ (k : Nat) (w : World), (askRoom k).run P w = .ok () w := by
    intro k w
    unfold askRoom
    split <;> rfl
  have hti2 : (typeInfo e).run P w.drew = .ok it w.drew := by simp [typeInfo, hit]
  refine ⟨Question.cut (.appendCap (n + m) c e) (w.tape w.drawn (.appendCap (n + m) c e)), Nat.le_add_right _ _, ?_⟩
  have hch : (choose (.appendCap (n + m) c e)).run P w = .ok (Question.cut (.appendCap (n + m) c e) (w.tape w.drawn (.appendCap (n + m) c e))) w.drew := by
    simp [choose, Sem.run, Question.forced]
  cases v2 <;> try (rename_i k; exact absurd rfl (hi2 k))
  all_goals
    simp only [Builtin.append_, h0, h1, e0, e1, Sem.run_bind, run_underlying hu, Result.andThen_ok, hde.sizeOf, run_underlying hu2, Sem.run_pure, Bool.false_eq_true, if_false, hl, hg, Bool.not_false, if_true, hti, hby, hb0, or_self, and_false]
    rw [if_neg (by
      have : (2 : Nat) ^ 48 = 281474976710656 := by decide
      rw [this]
      omega)]
    simp only [Sem.run_bind, hch, Result.andThen_ok, hti2, hby, hroom, ho, hx, hde.zeroValue, newRow_run, Sem.run_pure]
    rfl
end
theorem HeapOk.drew (ok : HeapOk C h r w) : HeapOk C h r w.drew := ok.ext0 ((Ext.refl _ _).drew)
theorem map_eval2 {s x : Operand} {args : Array Operand} (h : args.toList = [s, x]) (f : Operand → Value) : args.map f = #[f s, f x] := by
  have : args = #[s, x] := by rw [← Array.toList_inj]; exact h
  subst this
  simp
theorem newF_is {m N : Nat} {g : Nat → SC} {vs zs : List Value} (hv : IsL r ((List.range m).map g) vs) (hN : N = m + zs.length) (hz : ∀ v ∈ zs, v.oneCell' = true) : IsL r (flat [Seg.row N (newF m g)]) (vs ++ zs) := by
  have hl : vs.length = m := by rw [← hv.1]; simp
  refine ⟨by simp [flat, hl, hN], fun j y e => ?_⟩
  have hj : j < N := by
    rcases Nat.lt_or_ge j N with h | h
    · exact h
    · rw [List.getElem?_eq_none (by simpa [flat] using h)] at e; cases e
  rw [flat_row_lt _ _ _ hj] at e
  injection e with e
  subst e
  by_cases hm : j < m
  · obtain ⟨v, e1, e2⟩ := hv.2 j (g j) (by simp [hm])
    exact ⟨v, by rw [List.getElem?_append_left (by omega)]; exact e1, by simp only [newF, if_pos hm]; exact e2⟩
  · have hz' : j - m < zs.length := by omega
    refine ⟨zs[j - m], by rw [List.getElem?_append_right (by omega), hl]; exact List.getElem?_eq_getElem hz', ?_⟩
    simp only [newF, if_neg hm]
    exact hz _ (List.getElem_mem _)
theorem zeroCells_one {P : Program} {u : TypeId} {d : TD} (hd : TdOk P u d) (n : Nat) : (Builtin.zeroCells d.zeroVal.cells n).toList.length = n * d.size ∧ ∀ v ∈ (Builtin.zeroCells d.zeroVal.cells n).toList, v.oneCell' = true := by
  have hz := zero_is hd []
  have hs : d.zeroVal.cells.size = d.size := by rw [← hd.len, hz.1]; simp
  refine ⟨by simp [Builtin.zeroCells, hs], fun v hv => ?_⟩
  simp only [Builtin.zeroCells, Array.toList_map, Array.toList_range, List.mem_map, List.mem_range] at hv
  obtain ⟨i, hi, rfl⟩ := hv
  have h0 : 0 < d.zeroVal.cells.size := by
    rcases Nat.eq_zero_or_pos d.zeroVal.cells.size with h | h
    · rw [h] at hi; simp at hi
    · exact h
  have hm := Nat.mod_lt i h0
  rw [getElem!_pos d.zeroVal.cells (i % d.zeroVal.cells.size) hm]
  exact hz.one _ (by rw [← Array.getElem_toList]; exact List.getElem_mem _)
theorem ch_append {args : Array Operand} {ts : Array TypeId} {k : SV → List (List Seg) → Prop} (hT : AllT C.P C.T) (ok : Ok C ⟨t, h⟩ r a w) (hk : appS C t h args.toList ts.toList k) : ChOk C (.call ⟨.builtin .append, args, ts⟩) a w r k := by
  unfold appS at hk
  split at hk <;> try exact hk.elim
  rename_i s x u u2 us hargs hts
  obtain ⟨d, hd, hk⟩ := td_spec hT hk
  have hkk := hd.kind
  split at hk <;> try exact hk.elim
  rename_i e hkd
  rw [hkd] at hkk
  simp only [TK.Ok] at hkk
  obtain ⟨de, hde, hk⟩ := td_spec hT hk
  obtain ⟨d2, hd2, hk⟩ := td_spec hT hk
  split at hk <;> try exact hk.elim
  rename_i sz by_ hi2 hsz hby
  obtain ⟨v2, hu2, hv2⟩ := und_int hd2 hi2
  have hsz : de.size = sz + 1 := hsz
  have hby : de.bytes = by_ + 1 := hby
  rw [← hsz] at hk
  obtain ⟨m, g, hk, hl, vs, hvs, hfc⟩ := srcC_spec ok hk
  have hvl : vs.length = m * de.size := by rw [← hvs.1]; simp
  have hfc' : ∀ w', (∀ (B o : Nat) v, w.cell? ⟨B, o, none⟩ = some v → w'.cell? ⟨B, o, none⟩ = some v) → (Builtin.firstCells de.size m (a.eval x)).run C.P w' = .ok vs.toArray w' := fun w' hw => by
    have := hfc m (Nat.le_refl _) w' hw
    rwa [List.take_of_length_le (by omega)] at this
  have hv := ok.ev s
  have run : ∀ (o : Oper) {v w'}, (∀ ty, (Builtin.append_ ts ty #[a.eval s, a.eval x]).run C.P w = .ok v w') → o.op = .call ⟨.builtin .append, args, ts⟩ → (execOp a.eval o).run C.P w = .ok (.value v) w' := by
    intro o v w' hr ho
    simp only [execOp, ho, resolve]
    refine exec_v ?_
    rw [map_eval2 hargs]
    exact hr _
  have hb0 : de.bytes ≠ 0 := by omega
  split at hk <;> try exact hk.elim
  · rename_i n c e'
    simp only [e'] at hv
    obtain ⟨⟨rfl, rfl⟩, hb, hk0, hk1⟩ := hk
    have hv : a.eval s = .slice none 0 0 := hv
    rcases Nat.eq_zero_or_pos m with hm | hm
    · subst hm
      refine ⟨_, _, _, _, _, hk0 rfl, rfl, RLe.refl _, ok.heap, Tch.none (Ext.refl _ _), fun o ho => .inl (run o (fun ty => ?_) ho)⟩
      rw [hv]
      exact run_app_fit hts hkk hu2 hv2 hde ty hl (hfc' w (fun _ _ _ h => h)) (by omega) rfl
    · have hgr : ∀ ty : TypeId, ∃ c', 0 + m ≤ c' ∧ _ := fun ty => run_app_grow (base := none) (n := 0) (c := 0) (xv := a.eval x) (w := w) (os := []) hts hkk hu2 hv2 hde ty hl (hfc' w.drew (fun _ _ _ h => h)) (by omega) hb0 (by rw [hby]; simpa using hb) (by simp [Builtin.firstCells, pure])
      obtain ⟨c', hc', _⟩ := hgr 0
      have same : ∀ ty : TypeId, (Builtin.append_ ts ty #[.slice none 0 0, a.eval x]).run C.P w = (Builtin.append_ ts 0 #[.slice none 0 0, a.eval x]).run C.P w := fun _ => rfl
      obtain ⟨c', hc', hrun⟩ := hgr 0
      have hk1 := hk1 hm c' (by omega)
      rw [addH_eq, Nat.zero_add, scale_eq, scale_eq] at hk1
      obtain ⟨z1, z2⟩ := zeroCells_one hde (c' - (0 + m))
      have hnew := ok.heap.drew.new (l := [.row (c' * de.size) (newF (m * de.size) g)]) (cs := #[] ++ vs.toArray ++ Builtin.zeroCells de.zeroVal.cells (c' - (0 + m))) (by
        have := newF_is (N := c' * de.size) hvs (by rw [z1, ← Nat.add_mul]; congr 1; omega) z2
        simpa using this) e
      refine ⟨_, _, _, _, _, hk1, ⟨w.heap.size, 0, by show (r ++ [(w.heap.size, 0)])[h.length]? = _; rw [← show r.length = h.length from ok.heap.len]; simp, rfl⟩, RLe.snoc _ _, hnew, Tch.none (((Ext.refl _ _).drew).alloc _), fun o ho => .inl (run o (fun ty => ?_) ho)⟩
      rw [hv, same, hrun]
      simp
  · rename_i i o n c e'
    simp only [e'] at hv
    obtain ⟨B, f, hr, hv⟩ := hv
    split at hk <;> try exact hk.elim
    rename_i N ff hro hch
    have hroi := ble_le hro
    obtain ⟨⟨hnc, hN, hb⟩, hk⟩ := hk
    rw [scale_eq] at hN
    have hil : i < h.length := by
      rw [← ok.heap.len]
      rcases Nat.lt_or_ge i r.length with h | h
      · exact h
      · rw [List.getElem?_eq_none h] at hr; cases hr
    have hi : h[i]? = some [.row N ff] := by
      have := getH_eq h i
      rw [hch, List.getElem?_eq_getElem hil] at this
      rw [List.getElem?_eq_getElem hil]
      simp at this
      rw [← this]
    have hA : At (Nat.ble C.ro i) r w B f (flat [.row N ff]) := ok.heap.chunks i _ B f hi hr
    have hcell : ∀ q, q < N → ∃ v, w.cell? ⟨B, f + q, none⟩ = some v ∧ (ff q).Is r v ∧ w.frozen? ⟨B, f + q, none⟩ = false := fun q hq => by
      obtain ⟨v, e1, e2, e3⟩ := hA q (ff q) (by rw [flat_row_lt _ _ _ hq])
      exact ⟨v, e1, e2, (e3 hro).fr e1⟩
    have hsub : At (Nat.ble C.ro i) r w B (f + (0 + o)) ((List.range (n * de.size)).map fun q => ff (q + o)) := hA.sub (d := 0 + o) (fun q y e => by
      have hq : q < n * de.size := by
        rcases Nat.lt_or_ge q (n * de.size) with h | h
        · exact h
        · rw [List.getElem?_eq_none (by simpa using h)] at e; cases e
      simp [hq] at e
      have : n * de.size ≤ c * de.size := Nat.mul_le_mul_right _ hnc
      rw [show 0 + o + q = q + o by omega, flat_row_lt _ _ _ (by omega), e])
    obtain ⟨os, hos, hoc⟩ := hsub.vals
    have hol : os.length = n * de.size := by rw [← hos.1]; simp
    by_cases hfit : n + m ≤ c
    · -- in place: the row goes on under a new name
      have hk := hk c hfit
      rw [setH_eq, addH_eq, Nat.zero_add, scale_eq, scale_eq, scale_eq] at hk
      have hmul : (n + m) * de.size ≤ c * de.size := Nat.mul_le_mul_right _ hfit
      rw [Nat.add_mul] at hmul
      have hst := run_storeCells_cells (P := C.P) B (f + (0 + o) + n * de.size) vs 0 w (fun j hj => by
          obtain ⟨v, e1, _⟩ := hcell (o + n * de.size + j) (by omega)
          rw [show f + (0 + o) + n * de.size + 0 + j = f + (o + n * de.size + j) by omega, e1]; rfl) (fun j hj => by
          obtain ⟨v, _, _, e3⟩ := hcell (o + n * de.size + j) (by omega)
          rw [show f + (0 + o) + n * de.size + 0 + j = f + (o + n * de.size + j) by omega]; exact e3) hvs.one
      rw [Nat.add_zero] at hst
      -- the old row's pieces are given up
      have hput := ok.heap.put (new := [.row (m * de.size) g]) (l' := [.row N (updN ff (o + n * de.size) (m * de.size) g)]) (at_ := o + n * de.size) hr hi (by simp) (Put.in_row (by simp [flat]; omega) (fun j h1 h2 => by
          simp [flat] at h2
          have : j - (o + n * de.size) < m * de.size := by omega
          simp [flat, updN, this, h1, h2]) (fun j hj hc => by
          simp [flat] at hc
          have : ¬ (o + n * de.size ≤ j ∧ j < o + n * de.size + m * de.size) := by omega
          simp [updN, this])) (vs := vs) (by simpa [flat] using hvs) hroi
      rw [show f + (o + n * de.size) = f + (0 + o) + n * de.size by omega] at hput
      have hAp := hput.chunks i [.row N (updN ff (o + n * de.size) (m * de.size) g)] B f (by simp [hil]) hr
      have hlen : r.length = (h.set i []).length := by simp [ok.heap.len]
      have hnew : HeapOk C (h.set i [] ++ [[.row (c * de.size) (appF ff o (n * de.size) (m * de.size) g)]]) (r ++ [(B, f + o)]) (w.setCells B (f + (0 + o) + n * de.size) vs) := by
        have hr2 : ∀ (j B' f' : Nat), (r ++ [(B, f + o)])[j]? = some (B', f') → (j < h.length ∧ r[j]? = some (B', f')) ∨ (j = h.length ∧ B' = B ∧ f' = f + o) := by
          intro j B' f' e
          rcases Nat.lt_trichotomy j h.length with hj | hj | hj
          · rw [List.getElem?_append_left (by rw [ok.heap.len]; exact hj)] at e; exact .inl ⟨hj, e⟩
          · subst hj; rw [← ok.heap.len] at e; simp at e; exact .inr ⟨rfl, e.1.symm, e.2.symm⟩
          · rw [List.getElem?_eq_none (by simp [ok.heap.len]; omega)] at e; cases e
        have hh2 : ∀ (j : Nat) (ch : List Seg), (h.set i [] ++ [[.row (c * de.size) (appF ff o (n * de.size) (m * de.size) g)]])[j]? = some ch → (j < h.length ∧ ((j = i ∧ ch = []) ∨ (j ≠ i ∧ h[j]? = some ch))) ∨ (j = h.length ∧ ch = [.row (c * de.size) (appF ff o (n * de.size) (m * de.size) g)]) := by
          intro j ch e
          rcases Nat.lt_trichotomy j h.length with hj | hj | hj
          · rw [List.getElem?_append_left (by simpa using hj)] at e
            by_cases hji : j = i
            · subst hji; simp [hj] at e; exact .inl ⟨hj, .inl ⟨rfl, e⟩⟩
            · rw [List.getElem?_set_ne (Ne.symm hji)] at e; exact .inl ⟨hj, .inr ⟨hji, e⟩⟩
          · subst hj; rw [List.getElem?_append_right (by simp)] at e; simp at e; exact .inr ⟨rfl, e.symm⟩
          · rw [List.getElem?_eq_none (by simp; omega)] at e; cases e
        have other : ∀ (j : Nat) (ch : List Seg) (B' f' : Nat), j ≠ i → C.ro ≤ j → h[j]? = some ch → r[j]? = some (B', f') → ch = [] ∨ B' ≠ B := by
          intro j ch B' f' hji ho hj hrj
          by_cases hB : B' = B
          · subst hB
            rcases ok.heap.apart j i B' f' f ch _ hji ho hroi hj hi hrj hr with h | h
            · exact .inl h
            · cases h
          · exact .inr hB
        have hrl := ok.heap.rlen
        have hrl2 := ok.heap.rol
        have hrl3 := ok.heap.len
        refine ⟨hput.ext, hput.agree.trans (RLe.snoc _ _), ok.heap.rol, by simp [ok.heap.len], fun j ch B' f' hj hrj => ?_, fun j B' f' ho hrj => ?_, fun j B' f' ho hrj => ?_, fun j B' f' ho hlv hrj => ?_, fun j ch ho hlv hj => ?_, fun j l B' f1 f2 ch ch' hjl o1 o2 hj hl' hr1 hr3 => ?_⟩
        · rcases hh2 j ch hj with ⟨h1, ⟨rfl, rfl⟩ | ⟨h2, h3⟩⟩ | ⟨h1, rfl⟩
          · intro q y e; simp [flat] at e
          · rcases hr2 j B' f' hrj with ⟨_, h4⟩ | ⟨h4, _⟩
            · exact (hput.chunks j ch B' f' (by rw [List.getElem?_set_ne (Ne.symm h2)]; exact h3) h4).mono (RLe.snoc _ _)
            · omega
          · rcases hr2 j B' f' hrj with ⟨h4, _⟩ | ⟨_, rfl, rfl⟩
            · omega
            · intro q y e
              have hq : q < c * de.size := by
                rcases Nat.lt_or_ge q (c * de.size) with h | h
                · exact h
                · rw [List.getElem?_eq_none (by simpa [flat] using h)] at e; cases e
              rw [flat_row_lt _ _ _ hq] at e
              injection e with e
              subst e
              obtain ⟨v, e1, e2, e3⟩ := hAp (o + q) (updN ff (o + n * de.size) (m * de.size) g (o + q)) (by rw [flat_row_lt _ _ _ (by omega)])
              refine ⟨v, by rw [show f + o + q = f + (o + q) by omega]; exact e1, ?_, fun _ => e3 hro⟩
              have e2 := e2.mono (RLe.snoc r (B', f + o))
              by_cases h5 : q < n * de.size
              · have h6 : ¬ (o + n * de.size ≤ o + q ∧ o + q < o + n * de.size + m * de.size) := by omega
                simp only [updN, if_neg h6] at e2
                simp only [appF, if_pos h5, Nat.add_comm q o]
                exact e2
              · by_cases h6 : q < n * de.size + m * de.size
                · have h7 : o + n * de.size ≤ o + q ∧ o + q < o + n * de.size + m * de.size := by omega
                  simp only [updN, if_pos h7] at e2
                  simp only [appF, if_neg h5, if_pos h6]
                  rwa [show o + q - (o + n * de.size) = q - n * de.size by omega] at e2
                · simp only [appF, if_neg h5, if_neg h6]
                  exact SC.Is.one e2
        · rcases hr2 j B' f' hrj with ⟨_, h4⟩ | ⟨_, rfl, _⟩
          · exact hput.lt j B' f' ho h4
          · exact hput.lt i B' f hroi hr
        · rcases hr2 j B' f' hrj with ⟨_, h4⟩ | ⟨_, rfl, _⟩
          · exact hput.own j B' f' ho h4
          · exact hput.own i B' f hroi hr
        · rcases hr2 j B' f' hrj with ⟨_, h4⟩ | ⟨h4, _⟩
          · exact ok.heap.ros j B' f' ho hlv h4
          · omega
        · rcases hh2 j ch hj with ⟨h1, ⟨rfl, rfl⟩ | ⟨h2, h3⟩⟩ | ⟨h1, rfl⟩
          · omega
          · exact ok.heap.dead j ch ho hlv h3
          · omega
        · rcases hh2 j ch hj with ⟨h1, ⟨rfl, rfl⟩ | ⟨h2, h3⟩⟩ | ⟨h1, rfl⟩
          · exact .inl rfl
          · rcases hh2 l ch' hl' with ⟨g1, ⟨rfl, rfl⟩ | ⟨g2, g3⟩⟩ | ⟨g1, rfl⟩
            · exact .inr rfl
            · rcases hr2 j B' f1 hr1 with ⟨_, a1⟩ | ⟨a1, _⟩ <;> rcases hr2 l B' f2 hr3 with ⟨_, a2⟩ | ⟨a2, _⟩
              · exact ok.heap.apart j l B' f1 f2 ch ch' hjl o1 o2 h3 g3 a1 a2
              · omega
              · omega
              · omega
            · rcases hr2 j B' f1 hr1 with ⟨_, a1⟩ | ⟨a1, _⟩ <;> rcases hr2 l B' f2 hr3 with ⟨a2, _⟩ | ⟨_, a2, _⟩
              · omega
              · subst a2
                rcases other j ch B' f1 h2 o1 h3 a1 with h | h
                · exact .inl h
                · exact absurd rfl h
              · omega
              · omega
          · rcases hh2 l ch' hl' with ⟨g1, ⟨rfl, rfl⟩ | ⟨g2, g3⟩⟩ | ⟨g1, rfl⟩
            · exact .inr rfl
            · rcases hr2 j B' f1 hr1 with ⟨a1, _⟩ | ⟨_, a1, _⟩ <;> rcases hr2 l B' f2 hr3 with ⟨_, a2⟩ | ⟨a2, _⟩
              · omega
              · omega
              · subst a1
                rcases other l ch' B' f2 g2 o2 g3 a2 with h | h
                · exact .inr h
                · exact absurd rfl h
              · omega
            · omega
      refine ⟨.slice (some ⟨B, f + (0 + o), none⟩) (n + m) c, _, _, _, _, hk, ⟨B, f + o, by rw [List.length_set, ← show r.length = h.length from ok.heap.len]; simp, by rw [show f + o + (0 + 0) = f + (0 + o) by omega]⟩, RLe.snoc _ _, hnew, ⟨[B], Ext.setCells B (.inl (by simp)) _ _ (Ext.refl _ _), fun B' hB' => ⟨s, by simp [tgtOf, hargs], by rw [hv]; simp at hB'; simp [blockOf, hB']⟩⟩, fun o' ho => .inl (run o' (fun ty => ?_) ho)⟩
      rw [hv]
      have := run_app_fit (base := some ⟨B, f + (0 + o), none⟩) hts hkk hu2 hv2 hde ty hl (hfc' w (fun _ _ _ h => h)) hfit (w' := w.setCells B (f + (0 + o) + n * de.size) vs) (by
        simp only [add_none]
        exact hst)
      exact this
    · have hgr := fun ty => run_app_grow (base := some ⟨B, f + (0 + o), none⟩) (n := n) (c := c) (xv := a.eval x) (w := w) (os := os) hts hkk hu2 hv2 hde ty hl (hfc' w.drew (fun _ _ _ h => h)) hfit hb0 (by rw [hby]; exact hb) (by
        have := run_loadCells_list (P := C.P) w.drew ⟨B, f + (0 + o), none⟩ os (fun j v e => by rw [add_none]; exact hoc j v e)
        rw [hol] at this
        exact this)
      have same : ∀ ty : TypeId, (Builtin.append_ ts ty #[.slice (some ⟨B, f + (0 + o), none⟩) n c, a.eval x]).run C.P w = (Builtin.append_ ts 0 #[.slice (some ⟨B, f + (0 + o), none⟩) n c, a.eval x]).run C.P w := fun _ => rfl
      obtain ⟨c', hc', hrun⟩ := hgr 0
      have hk := hk c' hc'
      rw [setH_eq, addH_eq, Nat.zero_add, scale_eq, scale_eq, scale_eq] at hk
      obtain ⟨z1, z2⟩ := zeroCells_one hde (c' - (n + m))
      have happ : IsL r (flat [Seg.row (c' * de.size) (appF ff o (n * de.size) (m * de.size) g)]) (os ++ vs ++ (Builtin.zeroCells de.zeroVal.cells (c' - (n + m))).toList) := by
        have hcc : (n + m) * de.size + (c' - (n + m)) * de.size = c' * de.size := by rw [← Nat.add_mul]; congr 1; omega
        rw [Nat.add_mul] at hcc
        refine ⟨by simp [flat, hol, hvl, z1]; omega, fun j y e => ?_⟩
        have hj : j < c' * de.size := by
          rcases Nat.lt_or_ge j (c' * de.size) with h | h
          · exact h
          · rw [List.getElem?_eq_none (by simpa [flat] using h)] at e; cases e
        rw [flat_row_lt _ _ _ hj] at e
        injection e with e
        subst e
        by_cases h5 : j < n * de.size
        · obtain ⟨v, e1, e2⟩ := hos.2 j (ff (j + o)) (by simp [h5])
          exact ⟨v, by rw [List.append_assoc, List.getElem?_append_left (by omega)]; exact e1, by simp only [appF, if_pos h5]; exact e2⟩
        · by_cases h6 : j < n * de.size + m * de.size
          · obtain ⟨v, e1, e2⟩ := hvs.2 (j - n * de.size) (g (j - n * de.size)) (by rw [List.getElem?_map, List.getElem?_range (by omega)]; rfl)
            exact ⟨v, by rw [List.append_assoc, List.getElem?_append_right (by omega), List.getElem?_append_left (by omega), hol]; exact e1, by simp only [appF, if_neg h5, if_pos h6]; exact e2⟩
          · have hz' : j - (n * de.size + m * de.size) < (Builtin.zeroCells de.zeroVal.cells (c' - (n + m))).toList.length := by rw [z1]; omega
            refine ⟨(Builtin.zeroCells de.zeroVal.cells (c' - (n + m))).toList[j - (n * de.size + m * de.size)], ?_, ?_⟩
            · rw [List.getElem?_append_right (by simp; omega)]
              rw [show j - (os ++ vs).length = j - (n * de.size + m * de.size) by simp [hol, hvl]]
              exact List.getElem?_eq_getElem hz'
            · simp only [appF, if_neg h5, if_neg h6]
              exact z2 _ (List.getElem_mem _)
      -- the old row is forgotten
      have hforget : HeapOk C (h.set i []) r w.drew := by
        refine ⟨ok.heap.drew.ext, ok.heap.agree, ok.heap.rol, by simp [ok.heap.len], fun j ch B' f' hj hrj => ?_, ok.heap.drew.lt, ok.heap.own, ok.heap.ros, fun j ch ho hlv hj => ?_, fun j l B' f1 f2 ch ch' hjl o1 o2 hj hl' hr1 hr3 => ?_⟩
        · by_cases hji : j = i
          · subst hji
            simp [hil] at hj
            subst hj
            intro q y e; simp [flat] at e
          · rw [List.getElem?_set_ne (Ne.symm hji)] at hj
            exact ok.heap.drew.chunks j ch B' f' hj hrj
        · have hji : j ≠ i := fun e => by subst e; omega
          rw [List.getElem?_set_ne (Ne.symm hji)] at hj
          exact ok.heap.dead j ch ho hlv hj
        · by_cases hji : j = i
          · subst hji
            simp [hil] at hj
            exact .inl hj
          · by_cases hli : l = i
            · subst hli
              simp [hil] at hl'
              exact .inr hl'
            · rw [List.getElem?_set_ne (Ne.symm hji)] at hj
              rw [List.getElem?_set_ne (Ne.symm hli)] at hl'
              exact ok.heap.apart j l B' f1 f2 ch ch' hjl o1 o2 hj hl' hr1 hr3
      have hnew := hforget.new (l := [.row (c' * de.size) (appF ff o (n * de.size) (m * de.size) g)]) (cs := os.toArray ++ vs.toArray ++ Builtin.zeroCells de.zeroVal.cells (c' - (n + m))) (by simpa using happ) e
      refine ⟨_, _, _, _, _, hk, ⟨w.heap.size, 0, by show (r ++ [(w.heap.size, 0)])[(h.set i []).length]? = _; rw [List.length_set, ← show r.length = h.length from ok.heap.len]; simp, rfl⟩, RLe.snoc _ _, hnew, Tch.none (((Ext.refl _ _).drew).alloc _), fun o' ho => .inl (run o' (fun ty => ?_) ho)⟩
      rw [hv, same, hrun]
end
end Sx
end Go.Proofs.Ytndlhhhebijknaa
