/-
  Readers, each in turn. Over any program. No condition of its own.
-/
import Derived.Test.YtndlhhhebijknaaSxh
import Derived.Laws.StructEq
import Derived.ChangeKeysEq
import Derived.Laws.IdiomStrings
namespace Go.Proofs.Ytndlhhhebijknaa
set_option linter.unusedVariables false
namespace Sx
open Go.RowKit

/-- An operation reads a value, whatever new blocks there are. -/
def RdOk (C : Cx) (t : List SV) (op : Op) (a : Act) (w : World) (r : Rho) (k : SV → Prop) : Prop :=
  ∃ v x, k x ∧ x.Is r v ∧ ∀ (o : Oper) (w' : World), o.op = op → Near C r (seen t op) w w' → (execOp a.eval o).run C.P w' = .ok (.value v) w'
section
variable {C : Cx} {t : List SV} {h : List (List Seg)} {r : Rho} {a : Act} {w : World} {k : SV → Prop}
theorem rd_move (ok : Ok C ⟨t, h⟩ r a w) {x : Operand} (hk : k (ev t x)) : RdOk C t (.move x) a w r k := ⟨_, _, hk, ok.ev x, fun o w' ho _ => by simp only [execOp, ho]; rfl⟩
theorem rd_assign (ok : Ok C ⟨t, h⟩ r a w) {x : Operand} (hk : k (ev t x)) : RdOk C t (.assign x) a w r k := ⟨_, _, hk, ok.ev x, fun o w' ho _ => by simp only [execOp, ho]; rfl⟩
theorem ev_c (ok : Ok C ⟨t, h⟩ r a w) {x : Operand} {K : SC → Prop} (h : asC (ev t x) K) : ∃ y, K y ∧ y.Is r (a.eval x) ∧ ev t x = .a (.c y) := by
  obtain ⟨y, e, hk⟩ := asC_spec h
  have := ok.ev x
  simp only [e] at this
  exact ⟨y, hk, this, e⟩
theorem rd_pick (ok : Ok C ⟨t, h⟩ r a w) {c x y : Operand} (hk : stepR C (.pick c x y) t h k) : RdOk C t (.pick c x y) a w r k := by
  simp only [stepR] at hk
  obtain ⟨b, hk, hb, _⟩ := ev_c ok hk
  cases b <;> try exact hk.elim
  rename_i v _
  have hb : a.eval c = .bool v := hb
  cases v
  · exact ⟨_, _, hk.2 rfl, ok.ev y, fun o w' ho _ => by simp only [execOp, ho, hb]; rfl⟩
  · exact ⟨_, _, hk.1 rfl, ok.ev x, fun o w' ho _ => by simp only [execOp, ho, hb]; rfl⟩
theorem rd_nilCheck (ok : Ok C ⟨t, h⟩ r a w) {x : Operand} (hk : stepR C (.nilCheck x) t h k) : RdOk C t (.nilCheck x) a w r k := by
  simp only [stepR] at hk
  obtain ⟨y, hk, hy, _⟩ := ev_c ok hk
  split at hk
  · have hy' := hy
    obtain ⟨B, f, _, e⟩ := hy'
    exact ⟨_, _, hk, hy, fun o w' ho _ => by simp only [execOp, ho, e]; rfl⟩
  · have e : a.eval x = _ := hy
    exact ⟨_, _, hk, hy, fun o w' ho _ => by simp only [execOp, ho, e]; rfl⟩
  · have e : a.eval x = _ := hy
    exact ⟨_, _, hk, hy, fun o w' ho _ => by simp only [execOp, ho, e]; rfl⟩
  · exact hk.elim
theorem amt_spec (ok : Ok C ⟨t, h⟩ r a w) {y : Operand} {K : Nat → Prop} (h : amt t y K) : ∃ n, K n ∧ ∃ kk, a.eval y = .int kk (n : Int) := by
  unfold amt at h
  split at h
  · exact ⟨_, h, _, rfl⟩
  · obtain ⟨z, hz, hi, _⟩ := ev_c ok h
    obtain ⟨n, hn, e⟩ := amount_spec hz
    exact ⟨n, hn, e _ _ hi⟩
def numOf : SC → Int
  | .int _ n => n
  | .w8 x => x.toNat
  | .w16 x => x.toNat
  | .w32 x => x.toNat
  | .w64 x => x.toNat
  | _ => 0
theorem num_is {kk : IntKind} {x : SC} (hx : isNum kk x = true) {v : Value} (h : x.Is r v) : v = .int kk (numOf x) := by
  unfold isNum at hx
  split at hx <;> first | exact h | cases hx
def numBack (kk : IntKind) (n : Int) : SC := match kk with
  | .u8 => .w8 (BitVec.ofInt 8 n)
  | .u16 => .w16 (BitVec.ofInt 16 n)
  | .u32 => .w32 (BitVec.ofInt 32 n)
  | .u64 => .w64 (BitVec.ofInt 64 n)
  | _ => .int .i64 n
theorem num_back {kk : IntKind} {x : SC} (hx : isNum kk x = true) : x = numBack kk (numOf x) := by
  unfold isNum at hx
  split at hx <;> first | (cases hx; done) | simp [numOf, numBack, ofInt_w]
theorem num_inj {kk : IntKind} {x y : SC} (hx : isNum kk x = true) (hy : isNum kk y = true) : (numOf x = numOf y) ↔ x = y :=
  ⟨fun h => by rw [num_back hx, num_back hy, h], fun h => by rw [h]⟩
theorem run_equalIn_nums {P : Program} (d : Nat) (t e : TypeId) (n : Nat) {kk : IntKind} {de : TD} (hde : TdOk P e de) (hag : de.isAgg = false) (h1 : de.size = 1) (ht : P.underlying t = some (.array n e)) (he : P.underlying e = some (.int kk)) (w : World)
    (xs ys : List Int) (hx : xs.length = n) (hy : ys.length = n) :
    (Op.equalIn (d + 2) t (.agg (xs.map (Value.int kk)).toArray) (.agg (ys.map (Value.int kk)).toArray)).run P w = .ok ((List.range n).all fun i => xs.getD i 0 == ys.getD i 0) w := by
  rw [List.range_eq_range', Op.equalIn]
  simp only [Sem.run_bind, run_underlying ht, Result.andThen_ok, hde.sizeOf, h1, Std.Legacy.Range.forIn_eq_forIn_range', Std.Legacy.Range.size, Nat.sub_zero, Nat.add_sub_cancel, Nat.div_one]
  have hl : ∀ i ∈ List.range' 0 n 1, i < n := fun i hi => by simpa using (List.mem_range'_1.1 hi).2
  generalize List.range' 0 n 1 = l at hl ⊢
  induction l with
  | nil => simp
  | cons i l ih =>
    have hi : i < n := hl i (by simp)
    have px : (part e (xs.map (Value.int kk)).toArray (i * 1)).run P w = .ok (Value.int kk (xs.getD i 0)) w := by
      simp [part, hde.isAgg, hag, List.getD, List.getElem?_eq_getElem (show i < xs.length by omega)]
    have py : (part e (ys.map (Value.int kk)).toArray (i * 1)).run P w = .ok (Value.int kk (ys.getD i 0)) w := by
      simp [part, hde.isAgg, hag, List.getD, List.getElem?_eq_getElem (show i < ys.length by omega)]
    have pe : (Op.equalIn (d + 1) e (Value.int kk (xs.getD i 0)) (Value.int kk (ys.getD i 0))).run P w = .ok (xs.getD i 0 == ys.getD i 0) w :=
      run_equalIn_int w d e kk kk _ _ he
    simp only [List.forIn_cons, Sem.run_bind, px, py, pe, Result.andThen_ok, List.all_cons]
    cases hb : (xs.getD i 0 == ys.getD i 0)
    · simp
    · simp only [Bool.not_true, Bool.false_eq_true, if_false, Sem.run_pure, Result.andThen_ok, Bool.true_and]
      exact ih fun j hj => hl j (by simp [hj])
theorem guard_nums {P : Program} {op : BinOp} {t e : TypeId} {n : Nat} {kk : IntKind} (ht : P.underlying t = some (.array n e)) (he : P.underlying e = some (.int kk)) {X Y : Operand} {p q : Array Value} (w : World) : (eqGuard op t X Y (.agg p) (.agg q)).run P w = .ok () w := by
  have hd : P.depth = (2 * (P.types.size + Made.depth)) + 1 + 1 := rfl
  have h1 : P.eqGuardType P.depth t = false := by rw [hd, Program.eqGuardType, ht]; simp only [Program.eqGuardType, he]
  unfold eqGuard
  cases op <;> try rfl
  all_goals simp [h1]
theorem rd_binOp (hT : AllT C.P C.T) (ok : Ok C ⟨t, h⟩ r a w) {op : BinOp} {u v : TypeId} {x y : Operand} (hk : stepR C (.binOp op u x y v) t h k) : RdOk C t (.binOp op u x y v) a w r k := by
  have shf : ∀ {left : Bool}, (asC (ev t x) fun p => amt t y fun n => sh left p n fun v => k (.a (.c v))) → RdOk C t (.binOp (if left then .shl else .shr) u x y v) a w r k := by
    intro left hk
    obtain ⟨p, hk, hp, _⟩ := ev_c ok hk
    obtain ⟨n, hk, kk, hn⟩ := amt_spec ok hk
    obtain ⟨z, q, h1, h2, h3⟩ := sh_spec (P := C.P) u hk hp
    refine ⟨q, _, h1, h2 r, fun o w' ho _ => ?_⟩
    simp only [execOp, ho]
    refine exec_v ?_
    have := h3 kk w'
    rw [← hn] at this
    cases left <;> exact this
  have arr : ∀ {d : TD} {n e : Nat}, TdOk C.P u d → arrS C op n e (ev t x) (ev t y) k → d.k = .array n e → RdOk C t (.binOp op u x y v) a w r k := by
    intro d n e hd hk hkd
    have hkk := hd.kind
    rw [hkd] at hkk
    simp only [TK.Ok] at hkk
    unfold arrS at hk
    obtain ⟨de, hde, hk⟩ := td_spec hT hk
    split at hk <;> try exact hk.elim
    rename_i kk hk1 hag
    have he := hde.kind
    rw [hk1] at he
    simp only [TK.Ok] at he
    have hsz : de.size = 1 := by
      have hs := hde.sing
      rw [hag] at hs
      simp only [Bool.false_or] at hs
      split at hs
      · rename_i hz; rw [← hde.len, hz]; rfl
      · cases hs
    have hx := ok.ev x
    have hy := ok.ev y
    split at hk <;> try exact hk.elim
    rename_i n1 f n2 g e1 e2
    obtain ⟨⟨hn1, hn2, hf, hg⟩, hk⟩ := hk
    rw [hn1] at e1
    rw [hn2] at e2
    simp only [e1] at hx
    simp only [e2] at hy
    obtain ⟨vs, ev1, hvs⟩ := hx
    obtain ⟨us, ev2, hus⟩ := hy
    have lst : ∀ {f : Nat → SC} {vs : List Value}, (∀ j, j < n → isNum kk (f j) = true) → IsL r (flat [Seg.row n f]) vs → vs = ((List.range n).map fun j => numOf (f j)).map (Value.int kk) := by
      intro f vs hf hv
      apply List.ext_getElem?
      intro j
      by_cases hj : j < n
      · obtain ⟨v, e, hi⟩ := hv.2 j (f j) (by rw [flat_row_lt _ _ _ hj])
        rw [e, num_is (hf j hj) hi]
        simp [hj]
      · have hl : vs.length = n := by rw [← hv.1]; simp [flat]
        rw [List.getElem?_eq_none (by omega)]
        simp [hj]
    have l1 := lst hf hvs
    have l2 := lst hg hus
    have hrun := fun w => run_equalIn_nums (P := C.P) 9998 u e n hde hag hsz hkk he w ((List.range n).map fun j => numOf (f j)) ((List.range n).map fun j => numOf (g j)) (by simp) (by simp)
    have hb : ((List.range n).all fun i => ((List.range n).map fun j => numOf (f j)).getD i 0 == ((List.range n).map fun j => numOf (g j)).getD i 0) = true ↔ ∀ j, j < n → f j = g j := by
      simp only [List.all_eq_true, List.mem_range, beq_iff_eq]
      refine ⟨fun h j hj => ?_, fun h j hj => ?_⟩
      · have := h j hj
        simp [hj] at this
        exact (num_inj (hf j hj) (hg j hj)).1 this
      · simp [hj, h j hj]
    have hk := hk _ hb
    have run : ∀ {z q : Value}, (∀ w, (binOp op u (a.eval x) (a.eval y)).run C.P w = .ok q w) → ∀ (o : Oper) (w' : World), o.op = .binOp op u x y v → (execOp a.eval o).run C.P w' = .ok (.value q) w' := by
      intro z q h o w' ho
      simp only [execOp, ho]
      refine exec_v ?_
      rw [Sem.run_bind, ev1, ev2, guard_nums hkk he, ← ev1, ← ev2]
      exact h w'
    cases op <;> try exact hk.elim
    case eql =>
      refine ⟨_, _, hk, rfl, fun o w' ho _ => run (z := .nilFunc) (fun w => ?_) o w' ho⟩
      rw [ev1, ev2, l1, l2, run_eql_struct, hrun]; rfl
    case neq =>
      refine ⟨_, _, hk, rfl, fun o w' ho _ => run (z := .nilFunc) (fun w => ?_) o w' ho⟩
      rw [ev1, ev2, l1, l2, run_neq_struct, hrun]; rfl
  have oth : (td C u fun d => match d.k with
     | .array n e => arrS C op n e (ev t x) (ev t y) k
     | _ => asC (ev t x) fun p => asC (ev t y) fun q => bin op d.k (isConst x || isConst y) p q fun v => k (.a (.c v))) → RdOk C t (.binOp op u x y v) a w r k := by
    intro hk
    obtain ⟨d, hd, hk⟩ := td_spec hT hk
    split at hk
    · exact arr hd hk (by assumption)
    obtain ⟨p, hk, hp, _⟩ := ev_c ok hk
    obtain ⟨q, hk, hq, _⟩ := ev_c ok hk
    obtain ⟨z, v, h1, h2, h3⟩ := bin_spec (P := C.P) hd.kind hk hp hq
    refine ⟨v, _, h1, h2 r, fun o w' ho _ => ?_⟩
    simp only [execOp, ho]
    exact exec_v (h3 w')
  cases op
  case shl => exact shf (left := true) hk
  case shr => exact shf (left := false) hk
  all_goals exact oth hk
theorem rd_unOp {op : UnOp} {u : TypeId} {x : Operand} (ok : Ok C ⟨t, h⟩ r a w) (hk : stepR C (.unOp op u x) t h k) : RdOk C t (.unOp op u x) a w r k := by
  obtain ⟨p, hk, hp, _⟩ := ev_c ok hk
  obtain ⟨z, v, h1, h2, h3⟩ := un_spec (P := C.P) hk hp
  refine ⟨v, _, h1, h2 r, fun o w' ho _ => ?_⟩
  simp only [execOp, ho]
  exact exec_v (h3 w')
theorem SC.is_eq {x : SC} {v : Value} (hp : x.plain = true) (h : x.Is r v) : v = x.val := by
  cases x <;> first | exact h | cases hp
theorem rd_iface {u : TypeId} {x : Operand} (hT : AllT C.P C.T) (ok : Ok C ⟨t, h⟩ r a w) (hk : stepR C (.makeInterface u x) t h k) : RdOk C t (.makeInterface u x) a w r k := by
  unfold stepR at hk
  obtain ⟨d, hd, hk⟩ := td_spec hT hk
  have hk : (∃ v, C.P.underlying u = some v ∧ ∀ ms, v ≠ .interface ms) ∧ asC (ev t x) fun a => match a.plain with
      | true => k (.a (.c (.ifc u a.val)))
      | false => False := by
    obtain ⟨v, hv, _⟩ := hd.und
    have hkd := hd.kind
    cases e : d.k <;> rw [e] at hkd hk <;> simp only [TK.Ok] at hkd
    case ifc => exact hk.elim
    case struct =>
      refine ⟨⟨v, hv, fun ms e => ?_⟩, hk⟩
      rw [hv, e] at hkd; cases hkd
    case fn =>
      refine ⟨⟨v, hv, fun ms e => ?_⟩, hk⟩
      rw [hv, e] at hkd; cases hkd
    all_goals exact ⟨⟨_, hkd, by simp⟩, hk⟩
  obtain ⟨⟨v, hv, hne⟩, hk⟩ := hk
  obtain ⟨p, hk, hp, _⟩ := ev_c ok hk
  split at hk
  · rename_i hpl
    refine ⟨_, _, hk, rfl, fun o w' ho _ => ?_⟩
    simp only [execOp, ho]
    refine exec_v ?_
    simp only [Instr.makeInterface, Sem.run_bind, run_underlying hv, Result.andThen_ok, SC.is_eq hpl hp]
    cases v <;> first | rfl | exact absurd rfl (hne _)
  · exact hk.elim
theorem rd_func {fn : Fn} {first cap : Array Operand} (ok : Ok C ⟨t, h⟩ r a w) (hk : stepR C (.makeFunc fn first cap) t h k) : RdOk C t (.makeFunc fn first cap) a w r k := by
  cases fn <;> try exact hk.elim
  simp only [stepR] at hk
  split at hk
  · rename_i h1 h2
    refine ⟨_, _, hk, rfl, fun o w' ho _ => ?_⟩
    simp only [execOp, ho]
    have e1 : first = #[] := by simpa using h1
    have e2 : cap = #[] := by simpa using h2
    subst e1; subst e2
    simp [Instr.makeFunc, pure]
  · rename_i x h1 h2
    obtain ⟨p, hk, hp, _⟩ := ev_c ok hk
    split at hk <;> try exact hk.elim
    obtain ⟨B, f', hr, hp⟩ := hp
    have e1 : first = #[x] := by rw [← Array.toList_inj]; exact h1
    have e2 : cap = #[] := by simpa using h2
    subst e1; subst e2
    refine ⟨_, _, hk, ⟨B, f', hr, rfl⟩, fun o w' ho _ => ?_⟩
    simp only [execOp, ho]
    refine exec_v ?_
    simp [Instr.makeFunc, pure, hp]
  · exact hk.elim
theorem RawAt.vals {b : Addr} {l : List SC} (hr : RawAt C b l) : ∃ vs, IsL r l vs ∧ ∀ w', Ext C.m C.w0 w' → ∀ (j : Nat) v, vs[j]? = some v → w'.cell? ⟨b.block, b.off + j, none⟩ = some v := by
  obtain ⟨hs, hlt, hm, hc⟩ := hr
  refine ⟨(List.range l.length).map fun j => (C.w0.cell? ⟨b.block, b.off + j, none⟩).getD undef, ⟨by simp, fun j x e => ?_⟩, fun w' hx j v e => ?_⟩
  · obtain ⟨v, e1, e2⟩ := hc j x e
    have hj : j < l.length := by
      rcases Nat.lt_or_ge j l.length with h | h
      · exact h
      · rw [List.getElem?_eq_none h] at e; cases e
    exact ⟨v, by simp [hj, e1], e2.mono (fun i x e => by cases e)⟩
  · have hj : j < l.length := by
      rcases Nat.lt_or_ge j l.length with h | h
      · exact h
      · rw [List.getElem?_eq_none (by simpa using h)] at e; cases e
    obtain ⟨u, e1, _⟩ := hc j _ (List.getElem?_eq_getElem hj)
    simp [hj, e1] at e
    rw [← e]
    exact hx.cell (p := ⟨b.block, b.off + j, none⟩) hm e1
theorem rd_load {u : TypeId} {x : Operand} (hT : AllT C.P C.T) (ok : Ok C ⟨t, h⟩ r a w) (hk : stepR C (.load u x) t h k) : RdOk C t (.load u x) a w r k := by
  unfold stepR at hk
  obtain ⟨d, hd, hk⟩ := td_spec hT hk
  obtain ⟨p, hk, hp, he⟩ := ev_c ok hk
  split at hk
  · rename_i i b o
    obtain ⟨B, f, hr, e⟩ := hp
    obtain ⟨l, hk, hl, hs⟩ := loadS_spec hk
    rw [tot_shape, hd.len] at hl
    have hA := (ok.heap.chunk hr).sub (d := b + o) hs
    obtain ⟨vs, hv, hc⟩ := hA.vals
    obtain ⟨v, z, h1, h2, h3⟩ := load_core (P := C.P) hd hk hl (B := B) (off := f + (b + o)) hv (S := fun w' => Near C r (seen t (.load u x)) w w') (fun w' hx j v e => by
      have hcv := hc j v e
      have hj : j < (flat l).length := by
        rw [hv.1]
        rcases Nat.lt_or_ge j vs.length with h | h
        · exact h
        · rw [List.getElem?_eq_none h] at e; cases e
      rw [World.cell?_of_block (ok.heap.near hr hx (by simp [seen, he, nmV]) (fun hn => by have := hs j _ (List.getElem?_eq_getElem hj); rw [hn] at this; cases this) (cell_lt hcv))]
      exact hcv)
    refine ⟨v, z, h1, h2, fun o' w' ho hx => ?_⟩
    simp only [execOp, ho, e]
    exact exec_v (h3 w' hx)
  · rename_i b
    have e : a.eval x = .pointer (some b) := hp
    obtain ⟨l, ⟨hr, hl⟩, hk⟩ := hk
    have hsp : b = ⟨b.block, b.off, none⟩ := by
      have := hr.1
      cases b; simp at this; subst this; rfl
    obtain ⟨vs, hv, hc⟩ := RawAt.vals (r := r) hr
    obtain ⟨v, z, h1, h2, h3⟩ := load_core (P := C.P) hd hk hl (B := b.block) (off := b.off) hv (S := fun w' => Ext C.m C.w0 w') hc
    refine ⟨v, z, h1, h2, fun o' w' ho hx => ?_⟩
    simp only [execOp, ho, e]
    rw [hsp]
    exact exec_v (h3 w' hx.1)
  · exact hk.elim
theorem nthF_eq : ∀ (l : List (Nat × Nat)) (n : Nat), nthF l n = l[n]?
  | [], _ => rfl
  | _ :: _, 0 => rfl
  | _ :: r, n + 1 => nthF_eq r n
theorem struct_field {P : Program} {u : TypeId} {fs : List (Nat × Nat)} (h : TK.Ok P u (.struct fs)) {f e off : Nat} (hf : nthF fs f = some (e, off)) :
    ∃ gs g, P.underlying u = some (.struct gs) ∧ gs[f]? = some g ∧ g.type = e ∧ g.offset = off := by
  simp only [TK.Ok] at h
  unfold fieldsOf at h
  split at h
  · rename_i gs hu
    injection h with h
    rw [nthF_eq, ← h, List.getElem?_map, Option.map_eq_some_iff] at hf
    obtain ⟨g, hg, e'⟩ := hf
    simp only [Prod.mk.injEq] at e'
    exact ⟨gs, g, hu, by simpa using hg, e'.1, e'.2⟩
  · cases h
theorem rd_fieldAddr {u : TypeId} {x : Operand} {f : Nat} (hT : AllT C.P C.T) (ok : Ok C ⟨t, h⟩ r a w) (hk : stepR C (.fieldAddr u x f) t h k) : RdOk C t (.fieldAddr u x f) a w r k := by
  unfold stepR at hk
  obtain ⟨d, hd, hk⟩ := td_spec hT hk
  split at hk <;> try exact hk.elim
  rename_i fs hkd
  have hkk := hd.kind
  rw [hkd] at hkk
  split at hk <;> try exact hk.elim
  rename_i e off hf
  obtain ⟨gs, g, hu, hg, ht, hoff⟩ := struct_field hkk hf
  obtain ⟨de, hde, hk⟩ := td_spec hT hk
  split at hk <;> try exact hk.elim
  rename_i m hm
  obtain ⟨p, hk, hp, _⟩ := ev_c ok hk
  have run : ∀ (b : Addr) (w' : World), a.eval x = .pointer (some b) → (Instr.fieldAt u (a.eval x) f).run C.P w' = .ok (.pointer (some (b.add off))) w' := by
    intro b w' hb
    have hsz := hde.sizeOf w'
    rw [hm] at hsz
    simp only [Instr.fieldAt, Sem.run_bind, run_underlying hu, Result.andThen_ok, hg, hb, Instr.sureAddr, fieldPlace, ht]
    simp [hsz, hoff, pure]
  split at hk
  · rename_i i b o _
    obtain ⟨B, fo, hr, hb⟩ := hp
    have fin : ∀ (b' o' : Nat), b' + o' = b + o + off → k (.a (.c (.p i b' o'))) → RdOk C t (.fieldAddr u x f) a w r k := by
      intro b' o' he hk
      refine ⟨_, _, hk, ⟨B, fo, hr, rfl⟩, fun o'' w' ho _ => ?_⟩
      simp only [execOp, ho]
      have := run _ w' hb
      rw [add_none] at this
      rw [show fo + (b' + o') = fo + (b + o) + off by omega]
      exact exec_v this
    split at hk
    · exact fin _ _ (by omega) hk
    · exact fin _ _ (by omega) hk
  · rename_i b _
    refine ⟨_, _, hk, rfl, fun o'' w' ho _ => ?_⟩
    simp only [execOp, ho]
    exact exec_v (run _ w' hp)
  · exact hk.elim
theorem run_asInt {P : Program} (kk : IntKind) (n : Int) (w : World) : (asIntOf (.int kk n)).run P w = .ok (kk, n) w := rfl
theorem rd_indexAddr {u : TypeId} {x ix : Operand} (hT : AllT C.P C.T) (ok : Ok C ⟨t, h⟩ r a w) (hk : stepR C (.indexAddr u x ix) t h k) : RdOk C t (.indexAddr u x ix) a w r k := by
  unfold stepR at hk
  obtain ⟨d, hd, hk⟩ := td_spec hT hk
  obtain ⟨q, hk, hq, _⟩ := ev_c ok hk
  obtain ⟨n, hk, hn⟩ := idx_spec hk
  obtain ⟨kk, hn⟩ := hn _ _ hq
  have hkk := hd.kind
  have cellP : ∀ {i b o o' : Nat} {B fo m : Nat} {e : TypeId}, r[i]? = some (B, fo) → o' = n.toNat * m + o → k (.a (.c (.p i b o'))) → (∀ w' : World, (Instr.indexAt u (a.eval x) (a.eval ix)).run C.P w' = .ok (.pointer (some ((⟨B, fo + (b + o), none⟩ : Addr).add (n.toNat * m)))) w') → RdOk C t (.indexAddr u x ix) a w r k := by
    intro i b o o' B fo m e hr ho' hk hrun
    refine ⟨_, _, hk, ⟨B, fo, hr, rfl⟩, fun o'' w' ho _ => ?_⟩
    simp only [execOp, ho]
    have := hrun w'
    rw [add_none] at this
    rw [show fo + (b + o') = fo + (b + o) + n.toNat * m by omega]
    exact exec_v this
  split at hk
  · rename_i len e hkd
    rw [hkd] at hkk
    simp only [TK.Ok] at hkk
    obtain ⟨de, hde, hk⟩ := td_spec hT hk
    obtain ⟨p, hk, hp, _⟩ := ev_c ok hk
    have run : ∀ (b : Addr) (w' : World), a.eval x = .pointer (some b) → (0 ≤ n ∧ n < (len : Int)) → (Instr.indexAt u (a.eval x) (a.eval ix)).run C.P w' = .ok (.pointer (some (b.add (n.toNat * de.size)))) w' := by
      intro b w' hb hin
      simp only [Instr.indexAt, hn, hb, Sem.run_bind, run_asInt, run_underlying hkk, Result.andThen_ok, Instr.sureAddr]
      simp [hin, hde.sizeOf, pure]
    split at hk
    · rename_i i b o _
      obtain ⟨B, fo, hr, hb⟩ := hp
      exact cellP (e := e) hr rfl (elt_spec hk.2) (fun w' => run _ w' hb hk.1)
    · rename_i b _
      refine ⟨_, _, hk.2, rfl, fun o'' w' ho _ => ?_⟩
      simp only [execOp, ho]
      exact exec_v (run _ w' hp hk.1)
    · exact hk.elim
  · rename_i e hkd
    rw [hkd] at hkk
    simp only [TK.Ok] at hkk
    obtain ⟨de, hde, hk⟩ := td_spec hT hk
    obtain ⟨p, hk, hp, _⟩ := ev_c ok hk
    have run : ∀ (b : Addr) (len c : Nat) (w' : World), a.eval x = .slice (some b) len c → (0 ≤ n ∧ n < (len : Int)) → (Instr.indexAt u (a.eval x) (a.eval ix)).run C.P w' = .ok (.pointer (some (b.add (n.toNat * de.size)))) w' := by
      intro b len c w' hb hin
      simp only [Instr.indexAt, hn, hb, Sem.run_bind, run_asInt, run_underlying hkk, Result.andThen_ok]
      simp [hin, hde.sizeOf, pure]
    split at hk
    · rename_i i b o len c _
      obtain ⟨B, fo, hr, hb⟩ := hp
      exact cellP (e := e) hr rfl (elt_spec hk.2) (fun w' => run _ _ _ w' hb hk.1)
    · rename_i b len c _
      refine ⟨_, _, hk.2, rfl, fun o'' w' ho _ => ?_⟩
      simp only [execOp, ho]
      exact exec_v (run _ _ _ w' hp hk.1)
    · rename_i z i b o len c _
      rcases hp with ⟨_, _, rfl, _⟩ | ⟨_, B, fo, hr, hb⟩
      · have := hk.1; omega
      · exact cellP (e := e) hr rfl (elt_spec hk.2) (fun w' => run _ _ _ w' hb hk.1)
    · exact hk.elim
  · exact hk.elim
theorem srcC_cells (ok : Ok C ⟨t, h⟩ r a w) {x : Operand} {K : Nat → (Nat → SC) → Prop} (hk : srcC C 1 h (ev t x) K) :
    ∃ m g, K m g ∧ ((∃ l : List UInt8, a.eval x = .string ⟨l.toArray⟩ ∧ m = l.length ∧ g = fun q => .w8 (l.getD q 0).toBitVec) ∨ (∃ c, m = 0 ∧ a.eval x = .slice none 0 c) ∨ ∃ B off c, a.eval x = .slice (some ⟨B, off, none⟩) m c ∧ ∃ vs : List Value, IsL r ((List.range m).map g) vs ∧ ∀ w', Near C r (nmV (ev t x)) w w' → ∀ (j : Nat) v, vs[j]? = some v → w'.cell? ⟨B, off + j, none⟩ = some v) := by
  have hv := ok.ev x
  unfold srcC at hk
  split at hk
  · rename_i j b o m c e0
    simp only [e0] at hv
    obtain ⟨B, f, hr, hv⟩ := hv
    split at hk <;> try exact hk.elim
    rename_i N g tl hs
    obtain ⟨hN, hk⟩ := hk
    rw [scale_eq, Nat.mul_one] at hN
    have hA := (ok.heap.chunk hr).sub (d := b + o) (l' := (List.range m).map fun q => g (q + o)) (fun q y e => by
      have hq : q < m := by
        rcases Nat.lt_or_ge q m with h | h
        · exact h
        · rw [List.getElem?_eq_none (by simpa using h)] at e; cases e
      simp [hq] at e
      rw [show b + o + q = b + (q + o) by omega, ← segs?_spec hs, flat_row_lt _ _ _ (by omega), e])
    obtain ⟨vs, h1, h2⟩ := hA.vals
    refine ⟨m, _, hk, .inr (.inr ⟨B, f + (b + o), c, hv, vs, h1, fun w' hx j v e => ?_⟩)⟩
    have hcv := h2 j v e
    have hjm : j < m := by
      have := h1.1
      rcases Nat.lt_or_ge j vs.length with h | h
      · simp at this; omega
      · rw [List.getElem?_eq_none h] at e; cases e
    have hne : ∀ l : List SC, flat (getH h _) = l → l ≠ [] := fun l hl hn => by
      have e1 := segs?_spec hs (j + o)
      rw [hl, hn, flat_row_lt _ _ _ (by omega)] at e1
      cases e1
    rw [World.cell?_of_block (ok.heap.near hr hx (by rw [e0]; simp [nmV]) (hne _ rfl) (cell_lt hcv))]
    exact hcv
  · rename_i m c e
    simp only [e] at hv
    obtain ⟨rfl, hk⟩ := hk
    exact ⟨0, _, hk, .inr (.inl ⟨c, rfl, hv⟩)⟩
  · rename_i ad m c e
    simp only [e] at hv
    obtain ⟨g, hr, hk⟩ := hk
    have hv : a.eval x = .slice (some ad) m c := hv
    have hsp : ad = ⟨ad.block, ad.off, none⟩ := by
      have := hr.1
      cases ad; simp at this; subst this; rfl
    obtain ⟨vs, h1, h2⟩ := RawAt.vals (r := r) hr
    rw [hsp] at hv
    simp only [Nat.mul_one] at h1
    exact ⟨m, g, hk, .inr (.inr ⟨ad.block, ad.off, c, hv, vs, h1, fun w' hx j v e => h2 w' hx.1 j v e⟩)⟩
  · rename_i l e
    simp only [e] at hv
    exact ⟨_, _, hk, .inl ⟨l, hv, rfl, rfl⟩⟩
  · rename_i z j b o m c e0
    simp only [e0] at hv
    obtain ⟨g', ⟨_, hsn⟩, hk⟩ := hk
    rcases hv with ⟨_, hv, rfl, rfl⟩ | ⟨hz, B, f, hr, hv⟩
    · exact ⟨0, _, hk, .inr (.inl ⟨0, rfl, hv⟩)⟩
    obtain ⟨N, g, tl, hs, hN, hg'⟩ := hsn hz
    rw [scale_eq, Nat.mul_one] at hN hg'
    have hA := (ok.heap.chunk hr).sub (d := b + o) (l' := (List.range m).map g') (fun q y e => by
      have hq : q < m := by
        rcases Nat.lt_or_ge q m with h | h
        · exact h
        · rw [List.getElem?_eq_none (by simpa using h)] at e; cases e
      simp [hq] at e
      rw [show b + o + q = b + (q + o) by omega, ← segs?_spec hs, flat_row_lt _ _ _ (by omega), ← hg' q hq, e])
    obtain ⟨vs, h1, h2⟩ := hA.vals
    refine ⟨m, _, hk, .inr (.inr ⟨B, f + (b + o), c, hv, vs, h1, fun w' hx j v e => ?_⟩)⟩
    have hcv := h2 j v e
    have hjm : j < m := by
      have := h1.1
      rcases Nat.lt_or_ge j vs.length with h | h
      · simp at this; omega
      · rw [List.getElem?_eq_none h] at e; cases e
    have hne : ∀ l : List SC, flat (getH h _) = l → l ≠ [] := fun l hl hn => by
      have e1 := segs?_spec hs (j + o)
      rw [hl, hn, flat_row_lt _ _ _ (by omega)] at e1
      cases e1
    rw [World.cell?_of_block (ok.heap.near hr hx (by rw [e0]; simp [nmV]) (hne _ rfl) (cell_lt hcv))]
    exact hcv
  · exact hk.elim
theorem rd_convert {u d : TypeId} {x : Operand} (hT : AllT C.P C.T) (ok : Ok C ⟨t, h⟩ r a w) (hk : stepR C (.convert u d x) t h k) : RdOk C t (.convert u d x) a w r k := by
  unfold stepR at hk
  obtain ⟨du, hu, hk⟩ := td_spec hT hk
  obtain ⟨dd, hd, hk⟩ := td_spec hT hk
  split at hk
  · rename_i e ek1 ek2
    have h1 := hu.kind
    have h2 := hd.kind
    rw [ek1] at h1
    rw [ek2] at h2
    simp only [TK.Ok] at h1 h2
    obtain ⟨de, hde, hk⟩ := td_spec hT hk
    have h3 := hde.kind
    split at hk <;> try exact hk.elim
    rename_i ek3
    rw [ek3] at h3
    simp only [TK.Ok] at h3
    obtain ⟨m, g, ⟨l, ⟨hl, hg⟩, hk⟩, hc⟩ := srcC_cells ok hk
    refine ⟨.string ⟨l.toArray⟩, _, hk, rfl, fun o w' ho hx => ?_⟩
    simp only [execOp, ho]
    refine exec_v ?_
    rcases hc with ⟨l', hc, rfl, rfl⟩ | ⟨c, rfl, hc⟩ | ⟨B, off, c, hc, vs, hvs, hcell⟩
    · have hll : l = l' := by
        apply List.ext_getElem hl
        intro j h1 h2
        have := hg j h2
        injection this with this
        have e := congrArg UInt8.ofBitVec this
        simp [h1, h2] at e
        exact e.symm
      subst hll
      rw [hc]
      simp only [convert, Sem.run_bind, run_underlying h1, run_underlying h2, Result.andThen_ok]
      rfl
    · have : l = [] := List.eq_nil_of_length_eq_zero hl
      subst this
      rw [hc, run_convert_bytes_string w' u d e none 0 c h1 h3 h2]
      rfl
    · rw [hc, ← hl]
      refine run_convert_bytes_back w' u d e ⟨B, off, none⟩ c l h1 h3 h2 (fun j hj => ?_)
      rw [add_none]
      obtain ⟨v, e1, e2⟩ := hvs.2 j (g j) (by rw [List.getElem?_map, List.getElem?_range (by omega)]; rfl)
      rw [hg j (by omega)] at e2
      rw [hcell w' hx j v e1]
      have e2 : v = .int .u8 (((l.getD j 0).toBitVec).toNat : Int) := e2
      rw [e2]
      simp [hj]
  · obtain ⟨p, hk, hp, _⟩ := ev_c ok hk
    obtain ⟨z, v, h1, h2, h3⟩ := conv_spec hu hd hk hp
    refine ⟨v, _, h1, h2 r, fun o w' ho _ => ?_⟩
    simp only [execOp, ho]
    exact exec_v (h3 w')
end
end Sx
end Go.Proofs.Ytndlhhhebijknaa
