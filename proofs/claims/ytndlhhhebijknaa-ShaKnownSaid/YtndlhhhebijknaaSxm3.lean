/-
  copy, []byte of a string; all that makes or turns memory. Over any program. No condition of its own.
-/
import Derived.Test.YtndlhhhebijknaaSxm2
import Derived.Laws.IdiomStrings
namespace Go.Proofs.Ytndlhhhebijknaa
set_option linter.unusedVariables false
namespace Sx
open Go.RowKit

theorem putRow_spec : ∀ {l : List Seg} {b o m : Nat} {g : Nat → SC} {K : List Seg → Prop}, cpS.putRow l b o m g K → ∃ l', K l' ∧ Put [.row m g] l l' (b + o)
  | .row n f :: r, 0, o, m, g, K, h => by
    obtain ⟨h1, h2⟩ := (show o + m ≤ n ∧ K (.row n (updN f o m g) :: r) from h)
    refine ⟨_, h2, ?_⟩
    rw [Nat.zero_add]
    refine Put.in_row (by simp [flat]; omega) (fun j a b => ?_) (fun j hj hc => ?_)
    · simp [flat] at b
      have : j - o < m := by omega
      simp [flat, updN, this, a, b]
    · simp [flat] at hc
      have : ¬ (o ≤ j ∧ j < o + m) := by omega
      simp [updN, this]
  | .one y :: r, b + 1, o, m, g, K, h => by
    obtain ⟨l', h1, h2⟩ := putRow_spec (l := r) (b := b) (o := o) (show cpS.putRow r b o m g (fun l => K (.one y :: l)) from h)
    exact ⟨_, h1, by have := h2.one y; rwa [show b + o + 1 = b + 1 + o by omega] at this⟩
  | .row n f :: r, b + 1, o, m, g, K, h => by
    unfold cpS.putRow at h
    split at h
    · rename_i hb
      have hn := Nat.le_of_ble_eq_true hb
      obtain ⟨l', h1, h2⟩ := putRow_spec (l := r) (b := b + 1 - n) (o := o) h
      exact ⟨_, h1, by have := h2.row (n := n) f; rwa [show b + 1 - n + o + n = b + 1 + o by omega] at this⟩
    · exact h.elim
  | [], _, _, _, _, _, h => h.elim
  | .one _ :: _, 0, _, _, _, _, h => h.elim
theorem putRow_ne {l : List Seg} {b o m : Nat} {g : Nat → SC} {K : List Seg → Prop} (h : cpS.putRow l b o m g K) : l ≠ [] := by
  rintro rfl
  cases b <;> exact h
section
variable {C : Cx} {t : List SV} {h : List (List Seg)} {r : Rho} {a : Act} {w : World} {k : SV → List (List Seg) → Prop}
theorem ch_copy {args : Array Operand} {ts : Array TypeId} (hT : AllT C.P C.T) (ok : Ok C ⟨t, h⟩ r a w) (hk : cpS C t h args.toList ts.toList k) : ChOk C (.call ⟨.builtin .copy, args, ts⟩) a w r k := by
  unfold cpS at hk
  split at hk <;> try exact hk.elim
  rename_i s x u us hargs hts
  obtain ⟨d, hd, hk⟩ := td_spec hT hk
  have hkk := hd.kind
  split at hk <;> try exact hk.elim
  rename_i e hkd
  rw [hkd] at hkk
  simp only [TK.Ok] at hkk
  obtain ⟨de, hde, hk⟩ := td_spec hT hk
  split at hk <;> try exact hk.elim
  rename_i hsz
  obtain ⟨m, g, hk, hl, vs, hvs, hfc⟩ := srcC_spec ok hk
  simp only [Nat.mul_one] at hvs hfc
  have hv := ok.ev s
  have hvl : vs.length = m := by rw [← hvs.1]; simp
  have run : ∀ (o : Oper) {v w'}, (∀ ty, (Builtin.copy_ ts ty #[a.eval s, a.eval x]).run C.P w = .ok v w') → o.op = .call ⟨.builtin .copy, args, ts⟩ → (execOp a.eval o).run C.P w = .ok (.value v) w' := by
    intro o v w' hr ho
    simp only [execOp, ho, resolve]
    refine exec_v ?_
    rw [map_eval2 hargs]
    exact hr _
  have h0 : ts[0]? = some u := by rw [← Array.getElem?_toList, hts]; rfl
  have cp : ∀ {base : Option Addr} {n c : Nat} {w' : World} (ty : TypeId), (match base with | some a => storeCells a (vs.take (min m n)) | none => pure () : Sem Unit).run C.P w = .ok () w' → (Builtin.copy_ ts ty #[.slice base n c, a.eval x]).run C.P w = .ok (.int .i64 ((min m n : Nat) : Int)) w' := by
    intro base n c w' ty hst
    have e0 : (#[Value.slice base n c, a.eval x] : Array Value)[0]? = some (.slice base n c) := rfl
    have e1 : (#[Value.slice base n c, a.eval x] : Array Value)[1]? = some (a.eval x) := rfl
    have hf := hfc (min m n) (Nat.min_le_left _ _) w (fun _ _ _ h => h)
    simp only [Builtin.copy_, h0, e0, e1, Sem.run_bind, run_underlying hkk, Result.andThen_ok, hl, hde.sizeOf, hsz]
    rw [show Nat.min m n = min m n from rfl, hf]
    cases base with
    | none =>
      simp only [Sem.run_pure] at hst
      injection hst with _ hst
      simp only [Result.andThen_ok, Sem.run_pure, hst, goInt]
    | some a =>
      simp only at hst
      simp only [Result.andThen_ok, Sem.run_bind, hst, Sem.run_pure, goInt]
  split at hk <;> try exact hk.elim
  · rename_i i b o n c e'
    simp only [e'] at hv
    split at hk <;> try exact hk.elim
    rename_i hro
    obtain ⟨B, f, hr, hv⟩ := hv
    have hne := putRow_ne hk
    obtain ⟨l', hk, hput⟩ := putRow_spec hk
    rw [setH_eq] at hk
    have hil : i < h.length := by
      rw [← show r.length = h.length from ok.heap.len]
      rcases Nat.lt_or_ge i r.length with h | h
      · exact h
      · rw [List.getElem?_eq_none h] at hr; cases hr
    have hi : h[i]? = some (getH h i) := by rw [getH_eq, List.getElem?_eq_getElem hil]; rfl
    have hA := ok.heap.chunks i _ B f hi hr
    have hvt : IsL r (flat [Seg.row (min m n) g]) (vs.take (min m n)) := by
      refine ⟨by simp [flat, hvl], fun j y e => ?_⟩
      have hj : j < min m n := by
        rcases Nat.lt_or_ge j (min m n) with h | h
        · exact h
        · rw [List.getElem?_eq_none (by simpa [flat] using h)] at e; cases e
      rw [flat_row_lt _ _ _ hj] at e
      injection e with e
      subst e
      obtain ⟨v, e1, e2⟩ := hvs.2 j (g j) (by rw [List.getElem?_map, List.getElem?_range (by omega)]; rfl)
      exact ⟨v, by rw [List.getElem?_take, if_pos hj]; exact e1, e2⟩
    have hst := run_storeCells_cells (P := C.P) B (f + (b + o)) (vs.take (min m n)) 0 w (fun j hj => by
        have hq : b + o + j < (flat (getH h i)).length := by have := hput.1; rw [hvt.1] at this; omega
        obtain ⟨u', e1, _⟩ := hA _ _ (List.getElem?_eq_getElem hq)
        rw [show f + (b + o) + 0 + j = f + (b + o + j) by omega, e1]; rfl) (fun j hj => by
        have hq : b + o + j < (flat (getH h i)).length := by have := hput.1; rw [hvt.1] at this; omega
        obtain ⟨u', e1, _, e3⟩ := hA _ _ (List.getElem?_eq_getElem hq)
        rw [show f + (b + o) + 0 + j = f + (b + o + j) by omega]; exact (e3 hro).fr e1) hvt.one
    rw [Nat.add_zero] at hst
    exact ⟨_, _, _, _, _, hk, rfl, RLe.refl _, ok.heap.put hr hi hne hput hvt (ble_le hro), ⟨[B], Ext.setCells B (.inl (by simp)) _ _ (Ext.refl _ _), fun B' hB' => ⟨s, by simp [tgtOf, hargs], by rw [hv]; simp at hB'; simp [blockOf, hB']⟩⟩, fun o' ho => .inl (run o' (fun ty => by rw [hv]; exact cp ty hst) ho)⟩
  · rename_i n c e'
    simp only [e'] at hv
    obtain ⟨rfl, hk⟩ := hk
    have hv : a.eval s = .slice none 0 c := hv
    exact ⟨_, _, _, _, _, hk, rfl, RLe.refl _, ok.heap, Tch.none (Ext.refl _ _), fun o' ho => .inl (run o' (fun ty => by rw [hv]; have := cp (base := none) (n := 0) (c := c) ty rfl; simpa using this) ho)⟩
theorem ch_bytes {u v : TypeId} {x : Operand} (hT : AllT C.P C.T) (ok : Ok C ⟨t, h⟩ r a w) (hk : stepC C (.convert u v x) t h k) : ChOk C (.convert u v x) a w r k := by
  unfold stepC at hk
  obtain ⟨du, hdu, hk⟩ := td_spec hT hk
  obtain ⟨dv, hdv, hk⟩ := td_spec hT hk
  have h1 := hdu.kind
  have h2 := hdv.kind
  split at hk <;> try exact hk.elim
  rename_i e l e1 e2 e3
  rw [e1] at h1
  rw [e2] at h2
  simp only [TK.Ok] at h1 h2
  obtain ⟨de, hde, hk⟩ := td_spec hT hk
  have h3 := hde.kind
  split at hk <;> try exact hk.elim
  rename_i e4
  rw [e4] at h3
  simp only [TK.Ok] at h3
  have hv := ok.ev x
  simp only [e3] at hv
  have hv : a.eval x = .string ⟨l.toArray⟩ := hv
  have hrun := run_bytes_of_string (P := C.P) w u v e ⟨l.toArray⟩ h1 h2 h3
  have hsz : (⟨l.toArray⟩ : ByteArray).size = l.length := rfl
  rw [hsz] at hrun
  have hcap : l.length ≤ grownCap w l.length 0 e := by unfold grownCap Question.cut; exact Nat.le_add_right _ _
  generalize grownCap w l.length 0 e = cap at hrun hcap
  have hk := hk cap hcap
  rw [addH_eq, Nat.zero_add] at hk
  have hrs : (bytesRow ⟨l.toArray⟩ cap).size = cap := by simp [bytesRow, hsz]; omega
  have hnew := ok.heap.drew.newF (l := [.row cap (fun q => if q < l.length then .w8 (l.getD q 0).toBitVec else .w8 0)]) (cs := bytesRow ⟨l.toArray⟩ cap) (by
    refine ⟨by simp [flat, hrs], fun j y ey => ?_⟩
    have hj : j < cap := by
      rcases Nat.lt_or_ge j cap with h | h
      · exact h
      · rw [List.getElem?_eq_none (by simpa [flat] using h)] at ey; cases ey
    rw [flat_row_lt _ _ _ hj] at ey
    injection ey with ey
    subst ey
    by_cases hjl : j < l.length
    · rw [if_pos hjl]
      refine ⟨.int .u8 (l[j].toNat : Int), ?_, ?_⟩
      · simp only [bytesRow, Array.getElem?_toList]
        rw [Array.getElem?_append_left (by simpa using hjl)]
        simp [hjl]
      · simp [SC.Is, hjl]
    · rw [if_neg hjl]
      refine ⟨.int .u8 0, ?_, rfl⟩
      simp only [bytesRow, Array.getElem?_toList]
      rw [Array.getElem?_append_right (by simpa using Nat.le_of_not_lt hjl)]
      rw [Array.getElem?_replicate, if_pos (by simp [hsz]; omega)]) e (cap, cap + 1) (.inr (by rw [hrs]; exact Nat.le_refl _))
  rw [hrs] at hrun
  refine ⟨_, _, _, _, _, hk, ⟨w.heap.size, 0, by show (r ++ [(w.heap.size, 0)])[h.length]? = _; rw [← show r.length = h.length from ok.heap.len]; simp, rfl⟩, RLe.snoc _ _, hnew, Tch.none (((Ext.refl _ _).drew).alloc _), fun o ho => .inl ?_⟩
  simp only [execOp, ho]
  refine exec_v ?_
  rw [hv]
  exact hrun
/-- All of them. -/
theorem stepC_sound {op : Op} (hT : AllT C.P C.T) (ok : Ok C ⟨t, h⟩ r a w) (hk : stepC C op t h k) : ChOk C op a w r k := by
  cases op <;> try exact hk.elim
  case alloc => exact ch_alloc hT ok hk
  case box => exact ch_box hT ok hk
  case store => exact ch_store hT ok hk
  case buildSlice => exact ch_buildSlice hT ok hk
  case makeSlice => exact ch_makeSlice hT ok hk
  case convert => exact ch_bytes hT ok hk
  case call c =>
    obtain ⟨callee, args, ts⟩ := c
    cases callee <;> try exact hk.elim
    rename_i b
    cases b <;> try exact hk.elim
    case append => exact ch_append hT ok hk
    case copy => exact ch_copy hT ok hk
end
end Sx
end Go.Proofs.Ytndlhhhebijknaa
