/-
  Readers, the others. Over any program. No condition of its own.
-/
import Derived.Test.YtndlhhhebijknaaSxi
import Derived.Laws.Tables
namespace Go.Proofs.Ytndlhhhebijknaa
set_option linter.unusedVariables false
namespace Sx
open Go.RowKit

theorem toSegs_spec {x : SV} {K : List Seg → Prop} (h : toSegs x K) : ∃ l, K l ∧ ∀ (r : Rho) v, x.Is r v → ∃ vs : List Value, v.cells = vs.toArray ∧ IsL r (flat l) vs := by
  unfold toSegs at h
  split at h
  · rename_i y
    refine ⟨_, h, fun r v hv => ⟨[v], ?_, by simp [flat], fun j x e => ?_⟩⟩
    · have h1 : v.oneCell' = true := SC.Is.one (x := y) hv
      cases v <;> first | rfl | cases h1
    · cases j with
      | zero => simp [flat] at e; subst e; exact ⟨v, rfl, hv⟩
      | succ j => simp [flat] at e
  · refine ⟨_, h, fun r v hv => ?_⟩
    obtain ⟨vs, rfl, hi⟩ := hv
    exact ⟨vs, rfl, hi⟩
  · exact h.elim
theorem fold_set (off : Nat) : ∀ (vs : List Value) (k : Nat) (cs : Array Value), ((vs.zipIdx k).foldl (fun cs (x : Value × Nat) => cs.setIfInBounds (off + x.2) x.1) cs).size = cs.size ∧
    ∀ j, j < cs.size → ((vs.zipIdx k).foldl (fun cs (x : Value × Nat) => cs.setIfInBounds (off + x.2) x.1) cs)[j]? = if off + k ≤ j ∧ j < off + k + vs.length then vs[j - (off + k)]? else cs[j]?
  | [], k, cs => ⟨rfl, fun j hj => by simp; omega⟩
  | v :: vs, k, cs => by
    obtain ⟨h1, h2⟩ := fold_set off vs (k + 1) (cs.setIfInBounds (off + k) v)
    simp only [List.zipIdx_cons, List.foldl_cons]
    refine ⟨by rw [h1]; simp, fun j hj => ?_⟩
    rw [h2 j (by simpa using hj)]
    by_cases hc : off + (k + 1) ≤ j ∧ j < off + (k + 1) + vs.length
    · rw [if_pos hc, if_pos (by simp; omega), show j - (off + k) = (j - (off + (k + 1))) + 1 by omega]; rfl
    · rw [if_neg hc]
      by_cases he : j = off + k
      · subst he
        rw [if_pos (by simp), Nat.sub_self]
        simp [hj]
      · rw [if_neg (by simp; omega), Array.getElem?_setIfInBounds_ne (by omega)]
/-- New values in the place of others. -/
theorem IsL.put {r : Rho} {l l' new : List Seg} {at_ : Nat} (h : Put new l l' at_) {cs : Array Value} {vs : List Value} (hc : IsL r (flat l) cs.toList) (hv : IsL r (flat new) vs) :
    IsL r (flat l') ((vs.zipIdx.foldl (fun cs (x : Value × Nat) => cs.setIfInBounds (at_ + x.2) x.1) cs)).toList ∧ at_ + vs.length ≤ cs.size := by
  obtain ⟨h1, h2, h3⟩ := h
  obtain ⟨f1, f2⟩ := fold_set at_ vs 0 cs
  have hlen : cs.size = (flat l).length := by rw [hc.1]; simp
  refine ⟨⟨by rw [h2, hc.1]; simp [f1], fun j x e => ?_⟩, by rw [← hv.1, hlen]; exact h1⟩
  have hj : j < cs.size := by
    rw [hlen, ← h2]
    rcases Nat.lt_or_ge j (flat l').length with h | h
    · exact h
    · rw [List.getElem?_eq_none h] at e; cases e
  rw [Array.getElem?_toList, f2 j hj]
  rw [h3] at e
  rw [← hv.1]
  by_cases hh : at_ ≤ j ∧ j < at_ + (flat new).length
  · rw [if_pos hh] at e
    rw [if_pos (by simpa using hh)]
    exact hv.2 _ x e
  · rw [if_neg hh] at e
    rw [if_neg (by simpa using hh)]
    obtain ⟨v, e1, e2⟩ := hc.2 j x e
    exact ⟨v, by simpa using e1, e2⟩
section
variable {C : Cx} {t : List SV} {h : List (List Seg)} {r : Rho} {a : Act} {w : World} {k : SV → Prop}
theorem buildL_spec {place : Nat → (Nat → Nat → Nat → Prop) → Prop} {pl : Nat → Option (Nat × Nat)} (ok : Ok C ⟨t, h⟩ r a w) (hpl : ∀ i F, place i F → ∃ b o n, F b o n ∧ pl i = some (b + o, n)) :
    ∀ {parts : List (Nat × Operand)} {l : List Seg} {K : List Seg → Prop} {cs : Array Value}, buildL t place parts l K → IsL r (flat l) cs.toList →
      ∃ l' cs', K l' ∧ IsL r (flat l') cs'.toList ∧ (flat l').length = (flat l).length ∧ Instr.fill pl cs (parts.map fun p => (p.1, a.eval p.2)) = some cs'
  | [], l, K, cs, hk, hc => ⟨l, cs, hk, hc, rfl, rfl⟩
  | (i, x) :: parts, l, K, cs, hk, hc => by
    obtain ⟨b, o, n, hk, hp⟩ := hpl _ _ hk
    obtain ⟨new, hk, hn⟩ := toSegs_spec hk
    obtain ⟨hlen, hk⟩ := hk
    obtain ⟨l', hk, hput⟩ := putS_spec hk
    obtain ⟨vs, hvs, hv⟩ := hn r _ (ok.ev x)
    obtain ⟨hc', hb⟩ := IsL.put hput hc hv
    obtain ⟨l'', cs'', h1, h2, h3, h4⟩ := buildL_spec (pl := pl) ok hpl hk hc'
    refine ⟨l'', cs'', h1, h2, by rw [h3, hput.2.1], ?_⟩
    simp only [List.map_cons, Instr.fill, hp, hvs]
    have hs : vs.toArray.size = n := by rw [← hlen, hv.1]; simp
    rw [if_neg (by rw [hs]; simp; rw [← hs]; simpa using hb)]
    rw [← h4]
    congr 1
    rw [← Array.foldl_toList, Array.toList_zipIdx]
theorem setC_spec : ∀ {l : List SC} {i : Nat} {x : SC} {K : List SC → Prop}, buildR.setC l i x K → i < l.length ∧ K (l.set i x)
  | [], _, _, _, h => h.elim
  | _ :: r, 0, x, K, h => ⟨by simp, h⟩
  | y :: r, n + 1, x, K, h => by
    obtain ⟨h1, h2⟩ := setC_spec (l := r) (i := n) h
    exact ⟨by simp; omega, h2⟩
theorem cells_one {v : Value} (h : v.oneCell' = true) : v.cells = #[v] := by
  cases v <;> first | rfl | cases h
theorem buildR_spec (ok : Ok C ⟨t, h⟩ r a w) :
    ∀ {parts : List (Nat × Operand)} {l : List SC} {K : List SC → Prop} {cs : Array Value}, buildR t parts l K → IsL r l cs.toList →
      ∃ l' cs', K l' ∧ IsL r l' cs'.toList ∧ l'.length = l.length ∧ Instr.fill (fun i => some (i, 1)) cs (parts.map fun p => (p.1, a.eval p.2)) = some cs'
  | [], l, K, cs, hk, hc => ⟨l, cs, hk, hc, rfl, rfl⟩
  | (i, x) :: parts, l, K, cs, hk, hc => by
    obtain ⟨p, hk, hp, _⟩ := ev_c ok hk
    obtain ⟨hi, hk⟩ := setC_spec hk
    have hlen : cs.size = l.length := by rw [hc.1]; simp
    have hc' : IsL r (l.set i p) (cs.setIfInBounds i (a.eval x)).toList := by
      refine ⟨by simp [hlen], fun j y e => ?_⟩
      rw [List.getElem?_set] at e
      by_cases hj : i = j
      · subst hj
        simp [hi] at e
        subst e
        exact ⟨_, by simp [hlen, hi], hp⟩
      · rw [if_neg hj] at e
        obtain ⟨v, e1, e2⟩ := hc.2 j y e
        exact ⟨v, by rw [Array.getElem?_toList, Array.getElem?_setIfInBounds_ne hj]; simpa using e1, e2⟩
    obtain ⟨l'', cs'', h1, h2, h3, h4⟩ := buildR_spec ok hk hc'
    refine ⟨l'', cs'', h1, h2, by rw [h3]; simp, ?_⟩
    simp only [List.map_cons, Instr.fill, cells_one hp.one]
    rw [if_neg (by simp; omega), ← h4]
    congr 1
theorem zero_cells {P : Program} {u : TypeId} {d : TD} (hd : TdOk P u d) (r : Rho) : IsL r (flat d.zero) ((flat d.zero).map SC.val) :=
  ⟨by simp, fun j x e => ⟨x.val, by simp [e], SC.is_val r (by have := List.all_eq_true.1 hd.plain x (List.mem_of_getElem? e); exact this)⟩⟩
theorem zeroVal_agg {d : TD} (h : d.isAgg = true) : d.zeroVal.cells = ((flat d.zero).map SC.val).toArray := by
  unfold TD.zeroVal
  rw [if_pos h]; rfl
theorem allIn_spec {P : Program} {T : List (Nat × TD)} (hT : AllT P T) : ∀ {fs : List (Nat × Nat)}, allIn T fs = true → ∀ f ∈ fs, ∃ d, TdOk P f.1 d
  | [], _, f, hf => by cases hf
  | (e, o) :: fs, h, f, hf => by
    simp only [allIn] at h
    split at h
    · rename_i d hd
      cases hf with
      | head => exact ⟨d, hT.find hd⟩
      | tail _ hf => exact allIn_spec hT h f hf
    · cases h
theorem map_parts (parts : Array (Nat × Operand)) (f : Operand → Value) : (parts.map fun (i, x) => (i, f x)).toList = parts.toList.map fun p => (p.1, f p.2) := by
  rw [Array.toList_map]
theorem places_of {P : Program} {T : List (Nat × TD)} (hT : AllT P T) : ∀ {fs : List Field}, allIn T (fs.map fun f => (f.type, f.offset)) = true → fs.mapM (fun f => (P.info? f.type).map fun i => (f.offset, i.size)) = some (fs.map fun f => (f.offset, ((P.info? f.type).map (·.size)).getD 0))
  | [], _ => rfl
  | f :: fs, h => by
    simp only [List.map_cons, allIn] at h
    split at h
    · rename_i d hd
      obtain ⟨i, hi, _⟩ := (hT.find hd).inf
      simp [List.mapM_cons, places_of hT h, hi]
    · cases h
theorem rd_build {u : TypeId} {parts : Array (Nat × Operand)} (hT : AllT C.P C.T) (ok : Ok C ⟨t, h⟩ r a w) (hk : stepR C (.build u parts) t h k) : RdOk C t (.build u parts) a w r k := by
  unfold stepR at hk
  obtain ⟨d, hd, hk⟩ := td_spec hT hk
  have hkk := hd.kind
  obtain ⟨it, hit, _, _, hz⟩ := hd.inf
  have fin : ∀ {l' : List Seg} {cs' : Array Value}, k (.a (.agg l')) → IsL r (flat l') cs'.toList → C.P.built u (parts.map fun (i, x) => (i, a.eval x)).toList = some cs' → RdOk C t (.build u parts) a w r k := by
    intro l' cs' h1 h2 h3
    refine ⟨_, _, h1, ⟨cs'.toList, rfl, h2⟩, fun o w' ho _ => ?_⟩
    simp only [execOp, ho]
    exact exec_v (run_build w' u _ cs' h3)
  split at hk
  · rename_i fs hkd
    rw [hkd] at hkk
    have hag : d.isAgg = true := by simp [TD.isAgg, hkd]
    split at hk <;> try exact hk.elim
    rename_i hall
    simp only [TK.Ok] at hkk
    unfold fieldsOf at hkk
    split at hkk <;> try (cases hkk)
    rename_i gs hu
    obtain ⟨l', cs', h1, h2, h3, h4⟩ := buildL_spec (pl := fun i => ((gs.toList.map fun f => (f.offset, ((C.P.info? f.type).map (·.size)).getD 0)).toArray)[i]?) ok (fun i F hF => by
      split at hF <;> try exact hF.elim
      rename_i e off hf
      obtain ⟨de, hde, hF⟩ := td_spec hT hF
      refine ⟨_, _, _, hF, ?_⟩
      rw [nthF_eq, List.getElem?_map, Option.map_eq_some_iff] at hf
      obtain ⟨g, hg, e'⟩ := hf
      simp only [Prod.mk.injEq] at e'
      obtain ⟨rfl, rfl⟩ := e'
      obtain ⟨i', hi', hs', _⟩ := hde.inf
      simp [hg, hi', hs']) hk (cs := ((flat d.zero).map SC.val).toArray) (by simpa using zero_cells hd r)
    refine fin h1 h2 ?_
    rw [map_parts]
    unfold Program.built
    simp only [hit, hu, hz, places_of hT hall, zeroVal_agg hag]
    exact h4
  · rename_i len e hkd
    rw [hkd] at hkk
    have hag : d.isAgg = true := by simp [TD.isAgg, hkd]
    simp only [TK.Ok] at hkk
    obtain ⟨de, hde, hk⟩ := td_spec hT hk
    obtain ⟨ie, hie, hsz, _, _⟩ := hde.inf
    have gen : ∀ {l' : List Seg} {cs' : Array Value}, k (.a (.agg l')) → IsL r (flat l') cs'.toList → Instr.fill (fun i => some (i * de.size, de.size)) ((flat d.zero).map SC.val).toArray (parts.toList.map fun p => (p.1, a.eval p.2)) = some cs' → RdOk C t (.build u parts) a w r k := by
      intro l' cs' h1 h2 h3
      refine fin h1 h2 ?_
      rw [map_parts]
      unfold Program.built
      simp only [hit, hkk, hz, hie, zeroVal_agg hag, hsz]
      exact h3
    split at hk
    · rename_i zz m f hz1 hz2
      have hs1 : de.size = 1 := by rw [← hde.len, hz1]; rfl
      rw [rowSC_eq] at hk
      have hfl : flat d.zero = (List.range' 0 m).map f := by rw [hz2]; simp [flat, List.range_eq_range']
      obtain ⟨l', cs', h1, h2, h3, h4⟩ := buildR_spec ok hk (cs := ((flat d.zero).map SC.val).toArray) (by rw [← hfl]; simpa using zero_cells hd r)
      refine gen h1 ?_ (by rw [hs1]; simpa using h4)
      have hm : l'.length = m := by rw [h3]; simp
      have : flat [Seg.row m (nthC l')] = l' := by
        simp only [flat, List.append_nil]
        apply List.ext_getElem?
        intro j
        by_cases hj : j < m
        · simp [hj, nthC_eq, hm]
        · simp [hj, hm]
      rw [this]; exact h2
    · obtain ⟨l', cs', h1, h2, h3, h4⟩ := buildL_spec (pl := fun i => some (i * de.size, de.size)) ok (fun i F hF => by
        rw [frcN_eq] at hF
        exact ⟨_, _, _, hF, by simp⟩) hk (cs := ((flat d.zero).map SC.val).toArray) (by simpa using zero_cells hd r)
      exact gen h1 h2 h4
  · exact hk.elim
theorem rd_field {u : TypeId} {x : Operand} {f : Nat} (hT : AllT C.P C.T) (ok : Ok C ⟨t, h⟩ r a w) (hk : stepR C (.field u x f) t h k) : RdOk C t (.field u x f) a w r k := by
  unfold stepR at hk
  obtain ⟨d, hd, hk⟩ := td_spec hT hk
  split at hk <;> try exact hk.elim
  rename_i fs l hkd hx
  have hkk := hd.kind
  rw [hkd] at hkk
  split at hk <;> try exact hk.elim
  rename_i e off hf
  obtain ⟨gs, g, hu, hg, ht, hoff⟩ := struct_field hkk hf
  obtain ⟨de, hde, hk⟩ := td_spec hT hk
  obtain ⟨l', hk, hl, hs⟩ := loadS_spec hk
  rw [tot_shape, hde.len] at hl
  have hv := ok.ev x
  simp only [hx] at hv
  obtain ⟨vs, e1, hv⟩ := hv
  obtain ⟨v, z, h1, h2, h3⟩ := part_core (P := C.P) hde hk hl hv (off := off) (by simpa using hs)
  refine ⟨v, z, h1, h2, fun o' w' ho hx => ?_⟩
  simp only [execOp, ho]
  refine exec_v ?_
  simp only [Instr.field, Sem.run_bind, run_underlying hu, Result.andThen_ok, hg, e1, asAgg, ht, hoff]
  exact h3 w'
theorem nthA_spec : ∀ {l : List SA} {i : Nat} {K : SA → Prop}, nthA l i K → ∃ x, l[i]? = some x ∧ K x
  | .c _ :: _, 0, _, h => ⟨_, rfl, h⟩
  | .agg _ :: _, 0, _, h => ⟨_, rfl, h⟩
  | .c _ :: r, _ + 1, _, h => nthA_spec (l := r) h
  | .agg _ :: r, _ + 1, _, h => nthA_spec (l := r) h
  | [], _, _, h => h.elim
theorem rd_extract {x : Operand} {i : Nat} (ok : Ok C ⟨t, h⟩ r a w) (hk : stepR C (.extract x i) t h k) : RdOk C t (.extract x i) a w r k := by
  have hk : (match ev t x with
    | .tup l => nthA l i fun v => k (.a v)
    | _ => False) := hk
  split at hk <;> try exact hk.elim
  rename_i l hx
  obtain ⟨y, hy, hk⟩ := nthA_spec hk
  have hv := ok.ev x
  simp only [hx] at hv
  obtain ⟨vs, e1, _, hv⟩ := hv
  obtain ⟨u, e2, hu⟩ := hv i y hy
  refine ⟨u, _, hk, hu, fun o' w' ho hx => ?_⟩
  simp only [execOp, ho]
  refine exec_v ?_
  simp only [Instr.extract, e1]
  simp [e2]
theorem rd_index {u : TypeId} {x ix : Operand} (hT : AllT C.P C.T) (ok : Ok C ⟨t, h⟩ r a w) (hk : stepR C (.index u x ix) t h k) : RdOk C t (.index u x ix) a w r k := by
  unfold stepR at hk
  obtain ⟨d, hd, hk⟩ := td_spec hT hk
  obtain ⟨q, hk, hq, _⟩ := ev_c ok hk
  obtain ⟨n, hk, hn⟩ := idx_spec hk
  obtain ⟨kk, hn⟩ := hn _ _ hq
  have hkk := hd.kind
  split at hk <;> try exact hk.elim
  · rename_i l hkd hx
    rw [hkd] at hkk
    simp only [TK.Ok] at hkk
    have hv := ok.ev x
    simp only [hx] at hv
    have hv : a.eval x = .string ⟨l.toArray⟩ := hv
    obtain ⟨hin, hk⟩ := hk
    have hlt : n.toNat < l.length := by omega
    refine ⟨.int .u8 ((l.getD n.toNat 0).toNat : Int), _, hk, rfl, fun o' w' ho hx => ?_⟩
    simp only [execOp, ho]
    refine exec_v ?_
    simp only [Instr.index, hn, hv, Sem.run_bind, run_asInt, run_underlying hkk, Result.andThen_ok]
    have e : (⟨l.toArray⟩ : ByteArray)[n.toNat]? = some (l.getD n.toNat 0) := by
      have hs : n.toNat < (⟨l.toArray⟩ : ByteArray).size := hlt
      rw [getElem?_pos (⟨l.toArray⟩ : ByteArray) n.toNat hs]
      simp only [List.getD, List.getElem?_eq_getElem hlt]
      rfl
    simp [hin.1, e, pure]
  · rename_i len e l hkd hx
    rw [hkd] at hkk
    simp only [TK.Ok] at hkk
    obtain ⟨de, hde, hk⟩ := td_spec hT hk
    obtain ⟨hin, hk⟩ := hk
    obtain ⟨l', hk, hl, hs⟩ := loadS_spec (elt_spec hk)
    rw [tot_shape, hde.len] at hl
    have hv := ok.ev x
    simp only [hx] at hv
    obtain ⟨vs, e1, hv⟩ := hv
    obtain ⟨v, z, h1, h2, h3⟩ := part_core (P := C.P) hde hk hl hv (off := n.toNat * de.size) (by simpa using hs)
    refine ⟨v, z, h1, h2, fun o' w' ho hx => ?_⟩
    simp only [execOp, ho]
    refine exec_v ?_
    simp only [Instr.index, hn, e1, Sem.run_bind, run_asInt, run_underlying hkk, Result.andThen_ok]
    simp only [hin, if_true, true_and]
    simp only [Sem.run_bind, hde.sizeOf, Result.andThen_ok]
    exact h3 w'
end
end Sx
end Go.Proofs.Ytndlhhhebijknaa
