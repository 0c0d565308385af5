/-
  Texts of this claim, part 2: Sxi, Sxu, Sxj, Sxk, Sxl, Sxm, Sxm2, Sxm3. No condition of its own.
-/
import Derived.Laws.StructEq
import Derived.ChangeKeysEq
import Derived.Laws.IdiomStrings
import Derived.MapKept
import Derived.Laws.Tables
import Derived.Test.YtnehmcpkeamghaaDoorG1
section
/-
  Readers, each in turn. Over any program. No condition of its own.
-/
namespace Go.Proofs.YtnehmcpkeamghaaDoor
set_option linter.unusedVariables false
namespace Sx
open Go.RowKit

/-- An operation reads a value, whatever new blocks there are. -/
def RdOk (C : Cx) (t : List SV) (h : List (List Seg)) (op : Op) (a : Act) (w : World) (r : Rho) (k : SV → Prop) : Prop :=
  ∃ v x, k x ∧ x.Is r v ∧ ∀ (o : Oper) (w' : World), o.op = op → (pureOp op = false → Near C h r (seen t op) w w') → (execOp a.eval o).run C.P w' = .ok (.value v) w'
section
variable {C : Cx} {t : List SV} {h : List (List Seg)} {r : Rho} {a : Act} {w : World} {k : SV → Prop}
theorem rd_move (ok : Ok C ⟨t, h⟩ r a w) {x : Operand} (hk : k (ev t x)) : RdOk C t h (.move x) a w r k := ⟨_, _, hk, ok.ev x, fun o w' ho _ => by simp only [execOp, ho]; rfl⟩
theorem rd_assign (ok : Ok C ⟨t, h⟩ r a w) {x : Operand} (hk : k (ev t x)) : RdOk C t h (.assign x) a w r k := ⟨_, _, hk, ok.ev x, fun o w' ho _ => by simp only [execOp, ho]; rfl⟩
theorem ev_c (ok : Ok C ⟨t, h⟩ r a w) {x : Operand} {K : SC → Prop} (h : asC (ev t x) K) : ∃ y, K y ∧ y.Is r (a.eval x) ∧ ev t x = .a (.c y) := by
  obtain ⟨y, e, hk⟩ := asC_spec h
  have := ok.ev x
  simp only [e] at this
  exact ⟨y, hk, this, e⟩
theorem rd_pick (ok : Ok C ⟨t, h⟩ r a w) {c x y : Operand} (hk : stepR C (.pick c x y) t h k) : RdOk C t h (.pick c x y) a w r k := by
  simp only [stepR] at hk
  obtain ⟨b, hk, hb, _⟩ := ev_c ok hk
  cases b <;> try exact hk.elim
  rename_i v _
  have hb : a.eval c = .bool v := hb
  cases v
  · exact ⟨_, _, hk.2 rfl, ok.ev y, fun o w' ho _ => by simp only [execOp, ho, hb]; rfl⟩
  · exact ⟨_, _, hk.1 rfl, ok.ev x, fun o w' ho _ => by simp only [execOp, ho, hb]; rfl⟩
theorem rd_nilCheck (ok : Ok C ⟨t, h⟩ r a w) {x : Operand} (hk : stepR C (.nilCheck x) t h k) : RdOk C t h (.nilCheck x) a w r k := by
  simp only [stepR] at hk
  obtain ⟨y, hk, hy, _⟩ := ev_c ok hk
  split at hk
  · have hy' := hy
    obtain ⟨B, f, _, e⟩ := hy'
    exact ⟨_, _, hk, hy, fun o w' ho _ => by simp only [execOp, ho, e]; rfl⟩
  · have e : a.eval x = _ := hy
    exact ⟨_, _, hk, hy, fun o w' ho _ => by simp only [execOp, ho, e]; rfl⟩
  · have e : a.eval x = _ := hy
    exact ⟨_, _, hk, hy, fun o w' ho _ => by simp only [execOp, ho, e]; rfl⟩
  · exact hk.elim
theorem amt_spec (ok : Ok C ⟨t, h⟩ r a w) {y : Operand} {K : Nat → Prop} (h : amt t y K) : ∃ n, K n ∧ ∃ kk, a.eval y = .int kk (n : Int) := by
  unfold amt at h
  split at h
  · exact ⟨_, h, _, rfl⟩
  · obtain ⟨z, hz, hi, _⟩ := ev_c ok h
    obtain ⟨n, hn, e⟩ := amount_spec hz
    exact ⟨n, hn, e _ _ hi⟩
def numOf : SC → Int
  | .int _ n => n
  | .w8 x => x.toNat
  | .w16 x => x.toNat
  | .w32 x => x.toNat
  | .w64 x => x.toNat
  | _ => 0
theorem num_is {kk : IntKind} {x : SC} (hx : isNum kk x = true) {v : Value} (h : x.Is r v) : v = .int kk (numOf x) := by
  unfold isNum at hx
  split at hx <;> first | exact h | cases hx
def numBack (kk : IntKind) (n : Int) : SC := match kk with
  | .u8 => .w8 (BitVec.ofInt 8 n)
  | .u16 => .w16 (BitVec.ofInt 16 n)
  | .u32 => .w32 (BitVec.ofInt 32 n)
  | .u64 => .w64 (BitVec.ofInt 64 n)
  | _ => .int .i64 n
theorem num_back {kk : IntKind} {x : SC} (hx : isNum kk x = true) : x = numBack kk (numOf x) := by
  unfold isNum at hx
  split at hx <;> first | (cases hx; done) | simp [numOf, numBack]
theorem num_inj {kk : IntKind} {x y : SC} (hx : isNum kk x = true) (hy : isNum kk y = true) : (numOf x = numOf y) ↔ x = y :=
  ⟨fun h => by rw [num_back hx, num_back hy, h], fun h => by rw [h]⟩
theorem run_equalIn_nums {P : Program} (d : Nat) (t e : TypeId) (n : Nat) {kk : IntKind} {de : TD} (hde : TdOk P e de) (hag : de.isAgg = false) (h1 : de.size = 1) (ht : P.underlying t = some (.array n e)) (he : P.underlying e = some (.int kk)) (w : World)
    (xs ys : List Int) (hx : xs.length = n) (hy : ys.length = n) :
    (Op.equalIn (d + 2) t (.agg (xs.map (Value.int kk)).toArray) (.agg (ys.map (Value.int kk)).toArray)).run P w = .ok ((List.range n).all fun i => xs.getD i 0 == ys.getD i 0) w := by
  rw [List.range_eq_range', Op.equalIn]
  simp only [Sem.run_bind, run_underlying ht, Result.andThen_ok, hde.sizeOf, h1, Std.Legacy.Range.forIn_eq_forIn_range', Std.Legacy.Range.size, Nat.sub_zero, Nat.add_sub_cancel, Nat.div_one]
  have hl : ∀ i ∈ List.range' 0 n 1, i < n := fun i hi => by simpa using (List.mem_range'_1.1 hi).2
  generalize List.range' 0 n 1 = l at hl ⊢
  induction l with
  | nil => simp
  | cons i l ih =>
    have hi : i < n := hl i (by simp)
    have px : (part e (xs.map (Value.int kk)).toArray (i * 1)).run P w = .ok (Value.int kk (xs.getD i 0)) w := by
      simp [part, hde.isAgg, hag, List.getD, List.getElem?_eq_getElem (show i < xs.length by omega)]
    have py : (part e (ys.map (Value.int kk)).toArray (i * 1)).run P w = .ok (Value.int kk (ys.getD i 0)) w := by
      simp [part, hde.isAgg, hag, List.getD, List.getElem?_eq_getElem (show i < ys.length by omega)]
    have pe : (Op.equalIn (d + 1) e (Value.int kk (xs.getD i 0)) (Value.int kk (ys.getD i 0))).run P w = .ok (xs.getD i 0 == ys.getD i 0) w :=
      run_equalIn_int w d e kk kk _ _ he
    simp only [List.forIn_cons, Sem.run_bind, px, py, pe, Result.andThen_ok, List.all_cons]
    cases hb : (xs.getD i 0 == ys.getD i 0)
    · simp
    · simp only [Bool.not_true, Bool.false_eq_true, if_false, Sem.run_pure, Result.andThen_ok, Bool.true_and]
      exact ih fun j hj => hl j (by simp [hj])
theorem run_equalIn_same {P : Program} (d : Nat) (t e : TypeId) (n : Nat) {de : TD} (hde : TdOk P e de) (hag : de.isAgg = false) (h1 : de.size = 1) (ht : P.underlying t = some (.array n e)) (w : World)
    (vs : List Value) (hx : vs.length = n) (he : ∀ v ∈ vs, (Op.equalIn (d + 1) e v v).run P w = .ok true w) :
    (Op.equalIn (d + 2) t (.agg vs.toArray) (.agg vs.toArray)).run P w = .ok true w := by
  rw [Op.equalIn]
  simp only [Sem.run_bind, run_underlying ht, Result.andThen_ok, hde.sizeOf, h1, Std.Legacy.Range.forIn_eq_forIn_range', Std.Legacy.Range.size, Nat.sub_zero, Nat.add_sub_cancel, Nat.div_one]
  have hl : ∀ i ∈ List.range' 0 n 1, i < n := fun i hi => by simpa using (List.mem_range'_1.1 hi).2
  generalize List.range' 0 n 1 = l at hl ⊢
  induction l with
  | nil => simp
  | cons i l ih =>
    have hi : i < n := hl i (by simp)
    have hv : i < vs.length := by omega
    have px : (part e vs.toArray (i * 1)).run P w = .ok vs[i] w := by
      simp [part, hde.isAgg, hag, List.getElem?_eq_getElem hv]
    have pe := he vs[i] (List.getElem_mem hv)
    simp only [List.forIn_cons, Sem.run_bind, px, pe, Result.andThen_ok]
    simp only [Bool.not_true, Bool.false_eq_true, if_false, Sem.run_pure, Result.andThen_ok]
    exact ih fun j hj => hl j (by simp [hj])
theorem guard_strs {P : Program} {op : BinOp} {t e : TypeId} {n : Nat} (ht : P.underlying t = some (.array n e)) (he : P.underlying e = some .string) {X Y : Operand} {p q : Array Value} (w : World) : (eqGuard op t X Y (.agg p) (.agg q)).run P w = .ok () w := by
  have hd : P.depth = (2 * (P.types.size + Made.depth)) + 1 + 1 := rfl
  have h1 : P.eqGuardType P.depth t = false := by rw [hd, Program.eqGuardType, ht]; simp only [Program.eqGuardType, he]
  unfold eqGuard
  cases op <;> try rfl
  all_goals simp [h1]
theorem guard_nums {P : Program} {op : BinOp} {t e : TypeId} {n : Nat} {kk : IntKind} (ht : P.underlying t = some (.array n e)) (he : P.underlying e = some (.int kk)) {X Y : Operand} {p q : Array Value} (w : World) : (eqGuard op t X Y (.agg p) (.agg q)).run P w = .ok () w := by
  have hd : P.depth = (2 * (P.types.size + Made.depth)) + 1 + 1 := rfl
  have h1 : P.eqGuardType P.depth t = false := by rw [hd, Program.eqGuardType, ht]; simp only [Program.eqGuardType, he]
  unfold eqGuard
  cases op <;> try rfl
  all_goals simp [h1]
theorem eqFields_true {P : Program} {xs ys : Array Value} (d : Nat) : ∀ (fs : List Field) (w : World), (∀ f ∈ fs, ∃ a b : Value, (∀ w, (part f.type xs f.offset).run P w = .ok a w) ∧ (∀ w, (part f.type ys f.offset).run P w = .ok b w) ∧ ∀ w, (Op.equalIn d f.type a b).run P w = .ok true w) →
    (Op.eqFields d xs ys fs).run P w = .ok true w
  | [], w, _ => by simp [Op.eqFields]
  | f :: fs, w, h => by
    obtain ⟨a, b, h1, h2, h3⟩ := h f (by simp)
    have ih := eqFields_true d fs w (fun g hg => h g (by simp [hg]))
    simp only [Op.eqFields, Sem.run_ite]
    split
    · simp only [Sem.run_bind, h1, h2, h3, Result.andThen_ok]
      simpa using ih
    · exact ih
theorem nthC_some {kk : IntKind} : ∀ {l : List SC} {i : Nat}, isNum kk (nthC l i) = true → l[i]? = some (nthC l i)
  | [], i, h => by simp [nthC, isNum] at h
  | x :: l, 0, h => rfl
  | x :: l, i + 1, h => by
    simp only [nthC] at h
    simp only [List.getElem?_cons_succ, nthC]
    exact nthC_some h
theorem part_nums {P : Program} {t e : TypeId} {d : TD} {n o : Nat} {kk : IntKind} {l : List SC} {vs : List Value} (hd : TdOk P t d) (hk : d.k = .array n e) (hs : d.size = n) (hv : IsL r l vs) (hn : ∀ j, j < n → isNum kk (nthC l (o + j)) = true) (w : World) :
    (part t vs.toArray o).run P w = .ok (.agg (((List.range n).map fun j => numOf (nthC l (o + j))).map (Value.int kk)).toArray) w := by
  have ha : d.isAgg = true := by unfold TD.isAgg; rw [hk]
  have hlen : ∀ j, j < n → o + j < vs.length := fun j hj => by
    have := nthC_some (hn j hj)
    rw [← hv.1]
    exact (List.getElem?_eq_some_iff.1 this).1
  simp only [part, Sem.run_bind, hd.isAgg, ha, Result.andThen_ok, if_true, hd.sizeOf, hs, Sem.run_pure]
  congr 2
  apply Array.ext'
  simp only [Array.toList_extract, List.extract_eq_take_drop, Nat.add_sub_cancel_left]
  apply List.ext_getElem?
  intro j
  by_cases hj : j < n
  · obtain ⟨v, e1, hi⟩ := hv.2 (o + j) _ (nthC_some (hn j hj))
    rw [List.getElem?_take, if_pos hj, List.getElem?_drop, e1, num_is (hn j hj) hi]
    simp [hj]
  · rw [List.getElem?_take, if_neg hj]
    simp [hj]
theorem run_sameAddr_off {P : Program} {w : World} {a b : Addr} {ca cb : Array Value} {ta tb : TypeId} {la lb : Nat} (hne : a ≠ b) (ha : w.heap[a.block]? = some (.cells ca ta (la, la))) (hb : w.heap[b.block]? = some (.cells cb tb (lb, lb))) :
    (sameAddr a b).run P w = .ok false w := by
  have off : ∀ n l : Nat, (decide (l ≤ n) && decide (n < l)) = false := fun n l => by
    rw [Bool.and_eq_false_iff]; simp only [decide_eq_false_iff_not]; omega
  by_cases hbl : a.block = b.block
  · simp [sameAddr, hbl, hne]
  · simp [sameAddr, hbl, World.frozen?, ha, hb, noView, viewAt, World.shape?, mayBeOne, stringish, off]
theorem run_eql_ptr_off {P : Program} (w : World) {tp te : TypeId} {j : TypeInfo} {a b : Addr} {ca cb : Array Value} {ta tb : TypeId} {la lb : Nat} (hp : P.underlying tp = some (.pointer te)) (hte : P.info? te = some j) (hsz : j.size ≠ 0)
    (hne : a ≠ b) (ha : w.heap[a.block]? = some (.cells ca ta (la, la))) (hb : w.heap[b.block]? = some (.cells cb tb (lb, lb))) :
    (binOp .eql tp (.pointer (some a)) (.pointer (some b))).run P w = .ok (.bool false) w := by
  have h : ∀ d : Nat, (Op.equalIn (d + 1) tp (.pointer (some a)) (.pointer (some b))).run P w = .ok false w := fun d => by
    simp [Op.equalIn, run_underlying hp, sizeOf, typeInfo, hte, hsz, run_sameAddr_off hne ha hb]
  simp only [binOp]
  simp [Op.equal, Op.maxDepth, h 9999]
theorem rd_binOp (hT : AllT C.P C.T) (ok : Ok C ⟨t, h⟩ r a w) {op : BinOp} {u v : TypeId} {x y : Operand} (hk : stepR C (.binOp op u x y v) t h k) : RdOk C t h (.binOp op u x y v) a w r k := by
  have shf : ∀ {left : Bool}, (asC (ev t x) fun p => amt t y fun n => sh left p n fun v => k (.a (.c v))) → RdOk C t h (.binOp (if left then .shl else .shr) u x y v) a w r k := by
    intro left hk
    obtain ⟨p, hk, hp, _⟩ := ev_c ok hk
    obtain ⟨n, hk, kk, hn⟩ := amt_spec ok hk
    obtain ⟨z, q, h1, h2, h3⟩ := sh_spec (P := C.P) u hk hp
    refine ⟨q, _, h1, h2 r, fun o w' ho _ => ?_⟩
    simp only [execOp, ho]
    refine exec_v ?_
    have := h3 kk w'
    rw [← hn] at this
    cases left <;> exact this
  have arr : ∀ {d : TD} {n e : Nat}, TdOk C.P u d → arrS C op n e (ev t x) (ev t y) k → d.k = .array n e → RdOk C t h (.binOp op u x y v) a w r k := by
    intro d n e hd hk hkd
    have hkk := hd.kind
    rw [hkd] at hkk
    simp only [TK.Ok] at hkk
    unfold arrS at hk
    obtain ⟨de, hde, hk⟩ := td_spec hT hk
    split at hk
    case h_1 kk hk1 hag =>
      have he := hde.kind
      rw [hk1] at he
      simp only [TK.Ok] at he
      have hsz : de.size = 1 := by
        have hs := hde.sing
        rw [hag] at hs
        simp only [Bool.false_or] at hs
        split at hs
        · rename_i hz; rw [← hde.len, hz]; rfl
        · cases hs
      have hx := ok.ev x
      have hy := ok.ev y
      split at hk <;> try exact hk.elim
      rename_i n1 f n2 g e1 e2
      obtain ⟨⟨hn1, hn2, hf, hg⟩, hk⟩ := hk
      rw [hn1] at e1
      rw [hn2] at e2
      simp only [e1] at hx
      simp only [e2] at hy
      obtain ⟨vs, ev1, hvs⟩ := hx
      obtain ⟨us, ev2, hus⟩ := hy
      have lst : ∀ {f : Nat → SC} {vs : List Value}, (∀ j, j < n → isNum kk (f j) = true) → IsL r (flat [Seg.row n f]) vs → vs = ((List.range n).map fun j => numOf (f j)).map (Value.int kk) := by
        intro f vs hf hv
        apply List.ext_getElem?
        intro j
        by_cases hj : j < n
        · obtain ⟨v, e, hi⟩ := hv.2 j (f j) (by rw [flat_row_lt _ _ _ hj])
          rw [e, num_is (hf j hj) hi]
          simp [hj]
        · have hl : vs.length = n := by rw [← hv.1]; simp [flat]
          rw [List.getElem?_eq_none (by omega)]
          simp [hj]
      have l1 := lst hf hvs
      have l2 := lst hg hus
      have hrun := fun w => run_equalIn_nums (P := C.P) 9998 u e n hde hag hsz hkk he w ((List.range n).map fun j => numOf (f j)) ((List.range n).map fun j => numOf (g j)) (by simp) (by simp)
      have hb : ((List.range n).all fun i => ((List.range n).map fun j => numOf (f j)).getD i 0 == ((List.range n).map fun j => numOf (g j)).getD i 0) = true ↔ ∀ j, j < n → f j = g j := by
        simp only [List.all_eq_true, List.mem_range, beq_iff_eq]
        refine ⟨fun h j hj => ?_, fun h j hj => ?_⟩
        · have := h j hj
          simp [hj] at this
          exact (num_inj (hf j hj) (hg j hj)).1 this
        · simp [hj, h j hj]
      have hk := hk _ hb
      have run : ∀ {z q : Value}, (∀ w, (binOp op u (a.eval x) (a.eval y)).run C.P w = .ok q w) → ∀ (o : Oper) (w' : World), o.op = .binOp op u x y v → (execOp a.eval o).run C.P w' = .ok (.value q) w' := by
        intro z q h o w' ho
        simp only [execOp, ho]
        refine exec_v ?_
        rw [Sem.run_bind, ev1, ev2, guard_nums hkk he, ← ev1, ← ev2]
        exact h w'
      cases op <;> try exact hk.elim
      case eql =>
        refine ⟨_, _, hk, rfl, fun o w' ho _ => run (z := .nilFunc) (fun w => ?_) o w' ho⟩
        rw [ev1, ev2, l1, l2, run_eql_struct, hrun]; rfl
      case neq =>
        refine ⟨_, _, hk, rfl, fun o w' ho _ => run (z := .nilFunc) (fun w => ?_) o w' ho⟩
        rw [ev1, ev2, l1, l2, run_neq_struct, hrun]; rfl
    case h_2 hk1 hag =>
      have he := hde.kind
      rw [hk1] at he
      simp only [TK.Ok] at he
      have hsz : de.size = 1 := by
        have hs := hde.sing
        rw [hag] at hs
        simp only [Bool.false_or] at hs
        split at hs
        · rename_i hz; rw [← hde.len, hz]; rfl
        · cases hs
      have hx := ok.ev x
      have hy := ok.ev y
      split at hk <;> try exact hk.elim
      rename_i n1 f n2 g e1 e2
      obtain ⟨⟨hn1, hn2, hf⟩, hk⟩ := hk
      rw [hn1] at e1
      rw [hn2] at e2
      simp only [e1] at hx
      simp only [e2] at hy
      obtain ⟨vs, ev1, hvs⟩ := hx
      obtain ⟨us, ev2, hus⟩ := hy
      have lv : vs.length = n := by rw [← hvs.1]; simp [flat]
      have lu : us.length = n := by rw [← hus.1]; simp [flat]
      have cell : ∀ j, j < n → ∃ s : List UInt8, vs[j]? = some (.string ⟨s.toArray⟩) ∧ us[j]? = some (.string ⟨s.toArray⟩) := by
        intro j hj
        obtain ⟨s, h1, h2⟩ := hf j hj
        obtain ⟨v, e, hi⟩ := hvs.2 j (f j) (by rw [flat_row_lt _ _ _ hj])
        obtain ⟨v', e', hi'⟩ := hus.2 j (g j) (by rw [flat_row_lt _ _ _ hj])
        rw [h1] at hi
        rw [h2] at hi'
        exact ⟨s, by rw [e]; exact congrArg some hi, by rw [e']; exact congrArg some hi'⟩
      obtain rfl : us = vs := List.ext_getElem? fun j => by
        by_cases hj : j < n
        · obtain ⟨s, h1, h2⟩ := cell j hj
          rw [h1, h2]
        · rw [List.getElem?_eq_none (by omega), List.getElem?_eq_none (by omega)]
      have hrun : ∀ w, (Op.equalIn 10000 u (.agg us.toArray) (.agg us.toArray)).run C.P w = .ok true w := fun w => run_equalIn_same (P := C.P) 9998 u e n hde hag hsz hkk w us lu fun v hv => by
        obtain ⟨j, hj, rfl⟩ := List.getElem_of_mem hv
        obtain ⟨s, h1, _⟩ := cell j (by omega)
        rw [List.getElem?_eq_getElem hj] at h1
        injection h1 with h1
        rw [h1, run_equalIn_string (P := C.P) _ _ e _ _ he]
        simp
      have run : ∀ {q : Value}, (∀ w, (binOp op u (a.eval x) (a.eval y)).run C.P w = .ok q w) → ∀ (o : Oper) (w' : World), o.op = .binOp op u x y v → (execOp a.eval o).run C.P w' = .ok (.value q) w' := by
        intro q h o w' ho
        simp only [execOp, ho]
        refine exec_v ?_
        rw [Sem.run_bind, ev1, ev2, guard_strs hkk he]
        have := h w'
        rw [ev1, ev2] at this
        exact this
      cases op <;> try exact hk.elim
      case eql =>
        refine ⟨_, _, hk, rfl, fun o w' ho _ => run (fun w => ?_) o w' ho⟩
        rw [ev1, ev2, run_eql_struct, hrun]; rfl
      case neq =>
        refine ⟨_, _, hk, rfl, fun o w' ho _ => run (fun w => ?_) o w' ho⟩
        rw [ev1, ev2, run_neq_struct, hrun]; rfl
    case h_3 => exact hk.elim
  have str : ∀ {d : TD} {fs : List (Nat × Nat)}, TdOk C.P u d → strS C op u fs (ev t x) (ev t y) k → d.k = .struct fs → RdOk C t h (.binOp op u x y v) a w r k := by
    intro d fs hd hk hkd
    have hkk := hd.kind
    rw [hkd] at hkk
    simp only [TK.Ok] at hkk
    unfold strS at hk
    have hx := ok.ev x
    have hy := ok.ev y
    split at hk <;> try exact hk.elim
    rename_i l1 l2 e1 e2
    obtain ⟨⟨hst, hgt, hf⟩, hk⟩ := hk
    simp only [e1] at hx
    simp only [e2] at hy
    obtain ⟨vs, ev1, hvs⟩ := hx
    obtain ⟨us, ev2, hus⟩ := hy
    obtain ⟨gs, hgs, hfs⟩ : ∃ gs, C.P.underlying u = some (.struct gs) ∧ fs = gs.toList.map fun f => (f.type, f.offset) := by
      unfold fieldsOf at hkk
      split at hkk
      · rename_i gs h1
        exact ⟨gs, h1, by injection hkk with hkk; exact hkk.symm⟩
      · cases hkk
    have hu : C.P.underlying u = some (.struct (C.P.fieldsOf u)) := by simp [Program.fieldsOf, hgs]
    have hug : (C.P.fieldsOf u).toList = gs.toList := by simp [Program.fieldsOf, hgs]
    have hall : ∀ (L : List Field), strOk C (nthC (flat l1)) (nthC (flat l2)) (L.map fun f => (f.type, f.offset)) → ∀ f ∈ L, ∃ p q : Value, (∀ w, (part f.type vs.toArray f.offset).run C.P w = .ok p w) ∧ (∀ w, (part f.type us.toArray f.offset).run C.P w = .ok q w) ∧ ∀ w, (Op.equalIn 9999 f.type p q).run C.P w = .ok true w := by
      intro L
      induction L with
      | nil => intro _ f hf; cases hf
      | cons g L ih =>
        intro hL f hf
        simp only [List.map_cons, strOk] at hL
        obtain ⟨hg, hL⟩ := hL
        cases hf with
        | tail _ hf => exact ih hL f hf
        | head =>
          obtain ⟨d', hd', hg⟩ := td_spec hT hg
          split at hg <;> try exact hg.elim
          rename_i n e hk'
          obtain ⟨de, hde, hg⟩ := td_spec hT hg
          split at hg <;> try exact hg.elim
          rename_i kk hk1 hag
          obtain ⟨hs, hg⟩ := hg
          have hkind := hd'.kind
          rw [hk'] at hkind
          simp only [TK.Ok] at hkind
          have he := hde.kind
          rw [hk1] at he
          simp only [TK.Ok] at he
          have hsz : de.size = 1 := by
            have hs := hde.sing
            rw [hag] at hs
            simp only [Bool.false_or] at hs
            split at hs
            · rename_i hz; rw [← hde.len, hz]; rfl
            · cases hs
          have h1 := fun w => part_nums (P := C.P) (o := g.offset) hd' hk' hs hvs (fun j hj => (hg j hj).1) w
          have h2 := fun w => part_nums (P := C.P) (o := g.offset) hd' hk' hs hus (fun j hj => by rw [← (hg j hj).2]; exact (hg j hj).1) w
          refine ⟨_, _, h1, h2, fun w => ?_⟩
          rw [run_equalIn_nums (P := C.P) 9997 g.type e n hde hag hsz hkind he w _ _ (by simp) (by simp)]
          congr 1
          simp only [List.all_eq_true, List.mem_range, beq_iff_eq]
          intro j hj
          have := (hg j hj).2
          simp [hj, this]
    have heq := fun w => eqFields_true (P := C.P) 9999 gs.toList w (hall gs.toList (by rw [← hfs]; exact hf))
    have hrun : ∀ w, (Op.equalIn 10000 u (.agg vs.toArray) (.agg us.toArray)).run C.P w = .ok true w := fun w => by
      rw [run_equalIn_struct w 9999 u _ _ hu hst, hug]; exact heq w
    have run : ∀ {q : Value}, (∀ w, (binOp op u (a.eval x) (a.eval y)).run C.P w = .ok q w) → ∀ (o : Oper) (w' : World), o.op = .binOp op u x y v → (execOp a.eval o).run C.P w' = .ok (.value q) w' := by
      intro q h o w' ho
      simp only [execOp, ho]
      refine exec_v ?_
      rw [Sem.run_bind, ev1, ev2, run_eqGuard_agg _ _ _ _ _ _ _ hgt, ← ev1, ← ev2]
      exact h w'
    cases op <;> try exact hk.elim
    case eql =>
      refine ⟨_, _, hk, rfl, fun o w' ho _ => run (fun w => ?_) o w' ho⟩
      rw [ev1, ev2, run_eql_struct, hrun]; rfl
    case neq =>
      refine ⟨_, _, hk, rfl, fun o w' ho _ => run (fun w => ?_) o w' ho⟩
      rw [ev1, ev2, run_neq_struct, hrun]; rfl
  have ptr : ∀ {d : TD} {e : Nat}, TdOk C.P u d → ptrS C h op u e (isConst x || isConst y) (ev t x) (ev t y) k → d.k = .ptr e → RdOk C t h (.binOp op u x y v) a w r k := by
    intro d e hd hk hkd
    have hkk := hd.kind
    rw [hkd] at hkk
    have hkt : TK.Ok C.P u (.ptr e) := hkk
    simp only [TK.Ok] at hkk
    unfold ptrS at hk
    split at hk
    · rename_i p q e1 e2
      have hx := ok.ev x
      have hy := ok.ev y
      simp only [e1] at hx
      simp only [e2] at hy
      have hx : a.eval x = .pointer (some p) := hx
      have hy : a.eval y = .pointer (some q) := hy
      cases op <;> try exact hk.elim
      obtain ⟨hm, hk⟩ := hk
      obtain ⟨de, hde, hk⟩ := td_spec hT hk
      split at hk
      · exact hk.elim
      rename_i n hsz
      obtain ⟨j, hj, hjs⟩ : ∃ j, C.P.info? e = some j ∧ j.size = de.size := by
        have := hde.info
        cases hi : C.P.info? e with
        | none => rw [hi] at this; simp at this
        | some j => rw [hi] at this; simp at this; exact ⟨j, rfl, this.1⟩
      obtain ⟨hk1, hk2⟩ := hk
      by_cases hpq : p = q
      · subst hpq
        refine ⟨.bool true, _, hk1 rfl, rfl, fun o w' ho _ => ?_⟩
        simp only [execOp, ho]
        refine exec_v ?_
        rw [Sem.run_bind, hx, hy, eqGuard_ok (by simp)]
        exact run_eql_ptr_same w' p hkk hj
      · obtain ⟨⟨i, W, ms, hi, hp, hq⟩, hk⟩ := hk2 hpq
        refine ⟨.bool false, _, hk, rfl, fun o w' ho hn => ?_⟩
        have hE := (hn (by simp [pureOp, hm])).2.2 i W ms hi
        obtain ⟨_, p1, p2, cp, tp, lp, p3, p4⟩ := hp
        obtain ⟨_, q1, q2, cq, tq, lq, q3, q4⟩ := hq
        have hp' := (hE.block _ p1 p2).trans p3
        have hq' := (hE.block _ q1 q2).trans q3
        simp only [execOp, ho]
        refine exec_v ?_
        rw [Sem.run_bind, hx, hy, eqGuard_ok (by simp)]
        exact run_eql_ptr_off w' hkk hj (by omega) hpq hp' hq'
    · obtain ⟨p, hk, hp, _⟩ := ev_c ok hk
      obtain ⟨q, hk, hq, _⟩ := ev_c ok hk
      obtain ⟨z, v, h1, h2, h3⟩ := bin_spec (P := C.P) hkt hk hp hq
      refine ⟨v, _, h1, h2 r, fun o w' ho _ => ?_⟩
      simp only [execOp, ho]
      exact exec_v (h3 w')
  have oth : (td C u fun d => match d.k with
     | .array n e => arrS C op n e (ev t x) (ev t y) k
     | .struct fs => strS C op u fs (ev t x) (ev t y) k
     | .ptr e => ptrS C h op u e (isConst x || isConst y) (ev t x) (ev t y) k
     | _ => asC (ev t x) fun p => asC (ev t y) fun q => bin op d.k (isConst x || isConst y) p q fun v => k (.a (.c v))) → RdOk C t h (.binOp op u x y v) a w r k := by
    intro hk
    obtain ⟨d, hd, hk⟩ := td_spec hT hk
    split at hk
    · exact arr hd hk (by assumption)
    · exact str hd hk (by assumption)
    · exact ptr hd hk (by assumption)
    obtain ⟨p, hk, hp, _⟩ := ev_c ok hk
    obtain ⟨q, hk, hq, _⟩ := ev_c ok hk
    obtain ⟨z, v, h1, h2, h3⟩ := bin_spec (P := C.P) hd.kind hk hp hq
    refine ⟨v, _, h1, h2 r, fun o w' ho _ => ?_⟩
    simp only [execOp, ho]
    exact exec_v (h3 w')
  cases op
  case shl => exact shf (left := true) hk
  case shr => exact shf (left := false) hk
  all_goals exact oth hk
theorem rd_unOp {op : UnOp} {u : TypeId} {x : Operand} (ok : Ok C ⟨t, h⟩ r a w) (hk : stepR C (.unOp op u x) t h k) : RdOk C t h (.unOp op u x) a w r k := by
  obtain ⟨p, hk, hp, _⟩ := ev_c ok hk
  obtain ⟨z, v, h1, h2, h3⟩ := un_spec (P := C.P) hk hp
  refine ⟨v, _, h1, h2 r, fun o w' ho _ => ?_⟩
  simp only [execOp, ho]
  exact exec_v (h3 w')
theorem SC.is_eq {x : SC} {v : Value} (hp : x.plain = true) (h : x.Is r v) : v = x.val := by
  cases x <;> first | exact h | cases hp
theorem rd_iface {u : TypeId} {x : Operand} (hT : AllT C.P C.T) (ok : Ok C ⟨t, h⟩ r a w) (hk : stepR C (.makeInterface u x) t h k) : RdOk C t h (.makeInterface u x) a w r k := by
  unfold stepR at hk
  obtain ⟨d, hd, hk⟩ := td_spec hT hk
  have hk : (∃ v, C.P.underlying u = some v ∧ ∀ ms, v ≠ .interface ms) ∧ asC (ev t x) fun a => match a.plain with
      | true => k (.a (.c (.ifc u a.val)))
      | false => False := by
    obtain ⟨v, hv, _⟩ := hd.und
    have hkd := hd.kind
    cases e : d.k <;> rw [e] at hkd hk <;> simp only [TK.Ok] at hkd
    case ifc => exact hk.elim
    case struct =>
      refine ⟨⟨v, hv, fun ms e => ?_⟩, hk⟩
      rw [hv, e] at hkd; cases hkd
    case fn =>
      refine ⟨⟨v, hv, fun ms e => ?_⟩, hk⟩
      rw [hv, e] at hkd; cases hkd
    case map =>
      obtain ⟨k', e', hkd, _⟩ := hkd
      exact ⟨⟨_, hkd, by simp⟩, hk⟩
    all_goals exact ⟨⟨_, hkd, by simp⟩, hk⟩
  obtain ⟨⟨v, hv, hne⟩, hk⟩ := hk
  obtain ⟨p, hk, hp, _⟩ := ev_c ok hk
  split at hk
  · rename_i hpl
    refine ⟨_, _, hk, rfl, fun o w' ho _ => ?_⟩
    simp only [execOp, ho]
    refine exec_v ?_
    simp only [Instr.makeInterface, Sem.run_bind, run_underlying hv, Result.andThen_ok, SC.is_eq hpl hp]
    cases v <;> first | rfl | exact absurd rfl (hne _)
  · exact hk.elim
theorem rd_func {fn : Fn} {first cap : Array Operand} (ok : Ok C ⟨t, h⟩ r a w) (hk : stepR C (.makeFunc fn first cap) t h k) : RdOk C t h (.makeFunc fn first cap) a w r k := by
  cases fn <;> try exact hk.elim
  simp only [stepR] at hk
  split at hk
  · rename_i h1 h2
    refine ⟨_, _, hk, rfl, fun o w' ho _ => ?_⟩
    simp only [execOp, ho]
    have e1 : first = #[] := by simpa using h1
    have e2 : cap = #[] := by simpa using h2
    subst e1; subst e2
    simp [Instr.makeFunc, pure]
  · rename_i x h1 h2
    obtain ⟨p, hk, hp, _⟩ := ev_c ok hk
    split at hk <;> try exact hk.elim
    obtain ⟨B, f', hr, hp⟩ := hp
    have e1 : first = #[x] := by rw [← Array.toList_inj]; exact h1
    have e2 : cap = #[] := by simpa using h2
    subst e1; subst e2
    refine ⟨_, _, hk, ⟨B, f', hr, rfl⟩, fun o w' ho _ => ?_⟩
    simp only [execOp, ho]
    refine exec_v ?_
    simp [Instr.makeFunc, pure, hp]
  · rename_i x h1 h2
    obtain ⟨p, hk, hp, _⟩ := ev_c ok hk
    split at hk <;> try exact hk.elim
    obtain ⟨B, f', hr, hp⟩ := hp
    have e1 : first = #[] := by simpa using h1
    have e2 : cap = #[x] := by rw [← Array.toList_inj]; exact h2
    subst e1; subst e2
    refine ⟨_, _, hk, ⟨B, f', hr, rfl⟩, fun o w' ho _ => ?_⟩
    simp only [execOp, ho]
    refine exec_v ?_
    simp [Instr.makeFunc, pure, hp]
  · rename_i x y h1 h2
    obtain ⟨p, hk, hp, _⟩ := ev_c ok hk
    split at hk <;> try exact hk.elim
    obtain ⟨B, f', hr, hp⟩ := hp
    obtain ⟨p2, hk, hp2, _⟩ := ev_c ok hk
    split at hk <;> try exact hk.elim
    obtain ⟨B2, f2, hr2, hp2⟩ := hp2
    have e1 : first = #[] := by simpa using h1
    have e2 : cap = #[x, y] := by rw [← Array.toList_inj]; exact h2
    subst e1; subst e2
    refine ⟨_, _, hk, ⟨B, f', hr, B2, f2, hr2, rfl⟩, fun o w' ho _ => ?_⟩
    simp only [execOp, ho]
    refine exec_v ?_
    simp [Instr.makeFunc, pure, hp, hp2]
  · exact hk.elim
theorem cells_vals {W : World} {b : Addr} {l : List SC} (hc : ∀ (j : Nat) (x : SC), l[j]? = some x → ∃ v, W.cell? ⟨b.block, b.off + j, none⟩ = some v ∧ x.Is [] v) :
    ∃ vs, IsL r l vs ∧ ∀ (j : Nat) v, vs[j]? = some v → W.cell? ⟨b.block, b.off + j, none⟩ = some v := by
  refine ⟨(List.range l.length).map fun j => (W.cell? ⟨b.block, b.off + j, none⟩).getD undef, ⟨by simp, fun j x e => ?_⟩, fun j v e => ?_⟩
  · obtain ⟨v, e1, e2⟩ := hc j x e
    have hj : j < l.length := by
      rcases Nat.lt_or_ge j l.length with h | h
      · exact h
      · rw [List.getElem?_eq_none h] at e; cases e
    exact ⟨v, by simp [hj, e1], e2.mono (fun i x e => by cases e)⟩
  · have hj : j < l.length := by
      rcases Nat.lt_or_ge j l.length with h | h
      · exact h
      · rw [List.getElem?_eq_none (by simpa using h)] at e; cases e
    obtain ⟨u, e1, _⟩ := hc j _ (List.getElem?_eq_getElem hj)
    simp [hj, e1] at e
    rw [← e]
    exact e1
theorem RawAt.spot {b : Addr} {l : List SC} (hr : RawAt C h b l) : b = ⟨b.block, b.off, none⟩ := by
  have : b.spot = none := by
    rcases hr with hr | ⟨_, _, _, _, hr⟩
    · exact hr.1
    · exact hr.1
  cases b; simp at this; subst this; rfl
theorem RawAt.vals {b : Addr} {l : List SC} (hr : RawAt C h b l) : ∃ vs, IsL r l vs ∧ ∀ w', Ext C.m C.w0 w' → (∀ (i : Nat) (W : World) (ms : List Nat), h[i]? = some [.past W ms] → Ext ms W w') → ∀ (j : Nat) v, vs[j]? = some v → w'.cell? ⟨b.block, b.off + j, none⟩ = some v := by
  rcases hr with ⟨hs, hlt, hm, hc⟩ | ⟨i, W, ms, hi, hs, hlt, hm, hc⟩
  · obtain ⟨vs, h1, h2⟩ := cells_vals (r := r) hc
    exact ⟨vs, h1, fun w' hx _ j v e => hx.cell (p := ⟨b.block, b.off + j, none⟩) hm (h2 j v e)⟩
  · obtain ⟨vs, h1, h2⟩ := cells_vals (r := r) hc
    exact ⟨vs, h1, fun w' _ hp j v e => (hp i W ms hi).cell (p := ⟨b.block, b.off + j, none⟩) hm (h2 j v e)⟩
theorem rd_load {u : TypeId} {x : Operand} (hT : AllT C.P C.T) (ok : Ok C ⟨t, h⟩ r a w) (hk : stepR C (.load u x) t h k) : RdOk C t h (.load u x) a w r k := by
  unfold stepR at hk
  obtain ⟨d, hd, hk⟩ := td_spec hT hk
  obtain ⟨p, hk, hp, he⟩ := ev_c ok hk
  split at hk
  · rename_i i b o
    obtain ⟨B, f, hr, e⟩ := hp
    obtain ⟨l, hk, hl, hs⟩ := loadS_spec hk
    rw [tot_shape, hd.len] at hl
    have hA := (ok.heap.chunk hr).sub (d := b + o) hs
    obtain ⟨vs, hv, hc⟩ := hA.vals
    obtain ⟨v, z, h1, h2, h3⟩ := load_core (P := C.P) hd hk hl (B := B) (off := f + (b + o)) hv (S := fun w' => Near C h r (seen t (.load u x)) w w') (fun w' hx j v e => by
      have hcv := hc j v e
      have hj : j < (flat l).length := by
        rw [hv.1]
        rcases Nat.lt_or_ge j vs.length with h | h
        · exact h
        · rw [List.getElem?_eq_none h] at e; cases e
      rw [World.cell?_of_block (ok.heap.near hr hx (by simp [seen, he, nmV]) (fun hn => by have := hs j _ (List.getElem?_eq_getElem hj); rw [hn] at this; cases this) (cell_lt hcv))]
      exact hcv)
    refine ⟨v, z, h1, h2, fun o' w' ho hx => ?_⟩
    have hx := hx rfl
    simp only [execOp, ho, e]
    exact exec_v (h3 w' hx)
  · rename_i b
    have e : a.eval x = .pointer (some b) := hp
    obtain ⟨l, ⟨hr, hl⟩, hk⟩ := hk
    have hsp := hr.spot
    obtain ⟨vs, hv, hc⟩ := RawAt.vals (r := r) hr
    obtain ⟨v, z, h1, h2, h3⟩ := load_core (P := C.P) hd hk hl (B := b.block) (off := b.off) hv (S := fun w' => Near C h r (seen t (.load u x)) w w') (fun w' hx j v e => hc w' hx.1 hx.2.2 j v e)
    refine ⟨v, z, h1, h2, fun o' w' ho hx => ?_⟩
    have hx := hx rfl
    simp only [execOp, ho, e]
    rw [hsp]
    exact exec_v (h3 w' hx)
  · exact hk.elim
theorem nthF_eq : ∀ (l : List (Nat × Nat)) (n : Nat), nthF l n = l[n]?
  | [], _ => rfl
  | _ :: _, 0 => rfl
  | _ :: r, n + 1 => nthF_eq r n
theorem struct_field {P : Program} {u : TypeId} {fs : List (Nat × Nat)} (h : TK.Ok P u (.struct fs)) {f e off : Nat} (hf : nthF fs f = some (e, off)) :
    ∃ gs g, P.underlying u = some (.struct gs) ∧ gs[f]? = some g ∧ g.type = e ∧ g.offset = off := by
  simp only [TK.Ok] at h
  unfold fieldsOf at h
  split at h
  · rename_i gs hu
    injection h with h
    rw [nthF_eq, ← h, List.getElem?_map, Option.map_eq_some_iff] at hf
    obtain ⟨g, hg, e'⟩ := hf
    simp only [Prod.mk.injEq] at e'
    exact ⟨gs, g, hu, by simpa using hg, e'.1, e'.2⟩
  · cases h
theorem rd_fieldAddr {u : TypeId} {x : Operand} {f : Nat} (hT : AllT C.P C.T) (ok : Ok C ⟨t, h⟩ r a w) (hk : stepR C (.fieldAddr u x f) t h k) : RdOk C t h (.fieldAddr u x f) a w r k := by
  unfold stepR at hk
  obtain ⟨d, hd, hk⟩ := td_spec hT hk
  split at hk <;> try exact hk.elim
  rename_i fs hkd
  have hkk := hd.kind
  rw [hkd] at hkk
  split at hk <;> try exact hk.elim
  rename_i e off hf
  obtain ⟨gs, g, hu, hg, ht, hoff⟩ := struct_field hkk hf
  obtain ⟨de, hde, hk⟩ := td_spec hT hk
  split at hk <;> try exact hk.elim
  rename_i m hm
  obtain ⟨p, hk, hp, _⟩ := ev_c ok hk
  have run : ∀ (b : Addr) (w' : World), a.eval x = .pointer (some b) → (Instr.fieldAt u (a.eval x) f).run C.P w' = .ok (.pointer (some (b.add off))) w' := by
    intro b w' hb
    have hsz := hde.sizeOf w'
    rw [hm] at hsz
    simp only [Instr.fieldAt, Sem.run_bind, run_underlying hu, Result.andThen_ok, hg, hb, Instr.sureAddr, fieldPlace, ht]
    simp [hsz, hoff, pure]
  split at hk
  · rename_i i b o _
    obtain ⟨B, fo, hr, hb⟩ := hp
    have fin : ∀ (b' o' : Nat), b' + o' = b + o + off → k (.a (.c (.p i b' o'))) → RdOk C t h (.fieldAddr u x f) a w r k := by
      intro b' o' he hk
      refine ⟨_, _, hk, ⟨B, fo, hr, rfl⟩, fun o'' w' ho _ => ?_⟩
      simp only [execOp, ho]
      have := run _ w' hb
      rw [add_none] at this
      rw [show fo + (b' + o') = fo + (b + o) + off by omega]
      exact exec_v this
    split at hk
    · exact fin _ _ (by omega) hk
    · exact fin _ _ (by omega) hk
  · rename_i b _
    refine ⟨_, _, hk, rfl, fun o'' w' ho _ => ?_⟩
    simp only [execOp, ho]
    exact exec_v (run _ w' hp)
  · exact hk.elim
theorem run_asInt {P : Program} (kk : IntKind) (n : Int) (w : World) : (asIntOf (.int kk n)).run P w = .ok (kk, n) w := rfl
theorem rd_indexAddr {u : TypeId} {x ix : Operand} (hT : AllT C.P C.T) (ok : Ok C ⟨t, h⟩ r a w) (hk : stepR C (.indexAddr u x ix) t h k) : RdOk C t h (.indexAddr u x ix) a w r k := by
  unfold stepR at hk
  obtain ⟨d, hd, hk⟩ := td_spec hT hk
  obtain ⟨q, hk, hq, _⟩ := ev_c ok hk
  obtain ⟨n, hk, hn⟩ := idx_spec hk
  obtain ⟨kk, hn⟩ := hn _ _ hq
  have hkk := hd.kind
  have cellP : ∀ {i b o o' : Nat} {B fo m : Nat} {e : TypeId}, r[i]? = some (B, fo) → o' = n.toNat * m + o → k (.a (.c (.p i b o'))) → (∀ w' : World, (Instr.indexAt u (a.eval x) (a.eval ix)).run C.P w' = .ok (.pointer (some ((⟨B, fo + (b + o), none⟩ : Addr).add (n.toNat * m)))) w') → RdOk C t h (.indexAddr u x ix) a w r k := by
    intro i b o o' B fo m e hr ho' hk hrun
    refine ⟨_, _, hk, ⟨B, fo, hr, rfl⟩, fun o'' w' ho _ => ?_⟩
    simp only [execOp, ho]
    have := hrun w'
    rw [add_none] at this
    rw [show fo + (b + o') = fo + (b + o) + n.toNat * m by omega]
    exact exec_v this
  split at hk
  · rename_i len e hkd
    rw [hkd] at hkk
    simp only [TK.Ok] at hkk
    obtain ⟨de, hde, hk⟩ := td_spec hT hk
    obtain ⟨p, hk, hp, _⟩ := ev_c ok hk
    have run : ∀ (b : Addr) (w' : World), a.eval x = .pointer (some b) → (0 ≤ n ∧ n < (len : Int)) → (Instr.indexAt u (a.eval x) (a.eval ix)).run C.P w' = .ok (.pointer (some (b.add (n.toNat * de.size)))) w' := by
      intro b w' hb hin
      simp only [Instr.indexAt, hn, hb, Sem.run_bind, run_asInt, run_underlying hkk, Result.andThen_ok, Instr.sureAddr]
      simp [hin, hde.sizeOf, pure]
    split at hk
    · rename_i i b o _
      obtain ⟨B, fo, hr, hb⟩ := hp
      exact cellP (e := e) hr rfl (elt_spec hk.2) (fun w' => run _ w' hb hk.1)
    · rename_i b _
      refine ⟨_, _, hk.2, rfl, fun o'' w' ho _ => ?_⟩
      simp only [execOp, ho]
      exact exec_v (run _ w' hp hk.1)
    · exact hk.elim
  · rename_i e hkd
    rw [hkd] at hkk
    simp only [TK.Ok] at hkk
    obtain ⟨de, hde, hk⟩ := td_spec hT hk
    obtain ⟨p, hk, hp, _⟩ := ev_c ok hk
    have run : ∀ (b : Addr) (len c : Nat) (w' : World), a.eval x = .slice (some b) len c → (0 ≤ n ∧ n < (len : Int)) → (Instr.indexAt u (a.eval x) (a.eval ix)).run C.P w' = .ok (.pointer (some (b.add (n.toNat * de.size)))) w' := by
      intro b len c w' hb hin
      simp only [Instr.indexAt, hn, hb, Sem.run_bind, run_asInt, run_underlying hkk, Result.andThen_ok]
      simp [hin, hde.sizeOf, pure]
    split at hk
    · rename_i i b o len c _
      obtain ⟨B, fo, hr, hb⟩ := hp
      exact cellP (e := e) hr rfl (elt_spec hk.2) (fun w' => run _ _ _ w' hb hk.1)
    · rename_i b len c _
      refine ⟨_, _, hk.2, rfl, fun o'' w' ho _ => ?_⟩
      simp only [execOp, ho]
      exact exec_v (run _ _ _ w' hp hk.1)
    · rename_i z i b o len c _
      rcases hp with ⟨_, _, rfl, _⟩ | ⟨_, B, fo, hr, hb⟩ | ⟨_, rfl, _, _⟩
      · have := hk.1; omega
      · exact cellP (e := e) hr rfl (elt_spec hk.2) (fun w' => run _ _ _ w' hb hk.1)
      · have := hk.1; omega
    · exact hk.elim
  · exact hk.elim
theorem srcC_cells (ok : Ok C ⟨t, h⟩ r a w) {x : Operand} {K : Nat → (Nat → SC) → Prop} (hk : srcC C 1 h (ev t x) K) :
    ∃ m g, K m g ∧ ((∃ l : List UInt8, a.eval x = .string ⟨l.toArray⟩ ∧ m = l.length ∧ g = fun q => .w8 (l.getD q 0).toBitVec) ∨ (∃ c, m = 0 ∧ a.eval x = .slice none 0 c) ∨ ∃ (ad : Addr) (c : Nat), a.eval x = .slice (some ad) m c ∧ ∃ vs : List Value, IsL r ((List.range m).map g) vs ∧ ∀ w', Near C h r (nmV (ev t x)) w w' → ∀ (j : Nat) v, vs[j]? = some v → w'.cell? (ad.add j) = some v) := by
  have hv := ok.ev x
  unfold srcC at hk
  split at hk
  · rename_i j b o m c e0
    simp only [e0] at hv
    obtain ⟨B, f, hr, hv⟩ := hv
    split at hk <;> try exact hk.elim
    rename_i N g tl hs
    obtain ⟨hN, hk⟩ := hk
    rw [scale_eq, Nat.mul_one] at hN
    have hA := (ok.heap.chunk hr).sub (d := b + o) (l' := (List.range m).map fun q => g (q + o)) (fun q y e => by
      have hq : q < m := by
        rcases Nat.lt_or_ge q m with h | h
        · exact h
        · rw [List.getElem?_eq_none (by simpa using h)] at e; cases e
      simp [hq] at e
      rw [show b + o + q = b + (q + o) by omega, ← segs?_spec hs, flat_row_lt _ _ _ (by omega), e])
    obtain ⟨vs, h1, h2⟩ := hA.vals
    refine ⟨m, _, hk, .inr (.inr ⟨⟨B, f + (b + o), none⟩, c, hv, vs, h1, fun w' hx j v e => ?_⟩)⟩
    rw [add_none]
    have hcv := h2 j v e
    have hjm : j < m := by
      have := h1.1
      rcases Nat.lt_or_ge j vs.length with h | h
      · simp at this; omega
      · rw [List.getElem?_eq_none h] at e; cases e
    have hne : ∀ l : List SC, flat (getH h _) = l → l ≠ [] := fun l hl hn => by
      have e1 := segs?_spec hs (j + o)
      rw [hl, hn, flat_row_lt _ _ _ (by omega)] at e1
      cases e1
    rw [World.cell?_of_block (ok.heap.near hr hx (by rw [e0]; simp [nmV]) (hne _ rfl) (cell_lt hcv))]
    exact hcv
  · rename_i m c e
    simp only [e] at hv
    obtain ⟨rfl, hk⟩ := hk
    exact ⟨0, _, hk, .inr (.inl ⟨c, rfl, hv⟩)⟩
  · rename_i ad m c e
    simp only [e] at hv
    obtain ⟨g, hr, hk⟩ := hk
    have hv : a.eval x = .slice (some ad) m c := hv
    rcases hr with rfl | hr
    · exact ⟨0, _, hk, .inr (.inr ⟨ad, c, hv, [], ⟨by simp, fun j y e => by simp at e⟩, fun w' hx j v e => by simp at e⟩)⟩
    have hsp := hr.spot
    obtain ⟨vs, h1, h2⟩ := RawAt.vals (r := r) hr
    rw [hsp] at hv
    simp only [Nat.mul_one] at h1
    exact ⟨m, g, hk, .inr (.inr ⟨⟨ad.block, ad.off, none⟩, c, hv, vs, h1, fun w' hx j v e => by rw [add_none]; exact h2 w' hx.1 hx.2.2 j v e⟩)⟩
  · rename_i l e
    simp only [e] at hv
    exact ⟨_, _, hk, .inl ⟨l, hv, rfl, rfl⟩⟩
  · rename_i z j b o m c e0
    simp only [e0] at hv
    obtain ⟨g', ⟨_, hsn⟩, hk⟩ := hk
    rcases hv with ⟨_, hv, rfl, rfl⟩ | ⟨hz, B, f, hr, hv⟩ | ⟨_, rfl, rfl, B, f, s, hv⟩
    · exact ⟨0, _, hk, .inr (.inl ⟨0, rfl, hv⟩)⟩
    rotate_left
    · exact ⟨0, _, hk, .inr (.inr ⟨⟨B, f, s⟩, 0, hv, [], ⟨by simp, fun j y e => by simp at e⟩, fun w' hx j v e => by simp at e⟩)⟩
    obtain ⟨N, g, tl, hs, hN, hg'⟩ := hsn hz
    rw [scale_eq, Nat.mul_one] at hN hg'
    have hA := (ok.heap.chunk hr).sub (d := b + o) (l' := (List.range m).map g') (fun q y e => by
      have hq : q < m := by
        rcases Nat.lt_or_ge q m with h | h
        · exact h
        · rw [List.getElem?_eq_none (by simpa using h)] at e; cases e
      simp [hq] at e
      rw [show b + o + q = b + (q + o) by omega, ← segs?_spec hs, flat_row_lt _ _ _ (by omega), ← hg' q hq, e])
    obtain ⟨vs, h1, h2⟩ := hA.vals
    refine ⟨m, _, hk, .inr (.inr ⟨⟨B, f + (b + o), none⟩, c, hv, vs, h1, fun w' hx j v e => ?_⟩)⟩
    rw [add_none]
    have hcv := h2 j v e
    have hjm : j < m := by
      have := h1.1
      rcases Nat.lt_or_ge j vs.length with h | h
      · simp at this; omega
      · rw [List.getElem?_eq_none h] at e; cases e
    have hne : ∀ l : List SC, flat (getH h _) = l → l ≠ [] := fun l hl hn => by
      have e1 := segs?_spec hs (j + o)
      rw [hl, hn, flat_row_lt _ _ _ (by omega)] at e1
      cases e1
    rw [World.cell?_of_block (ok.heap.near hr hx (by rw [e0]; simp [nmV]) (hne _ rfl) (cell_lt hcv))]
    exact hcv
  · exact hk.elim
theorem rd_convert {u d : TypeId} {x : Operand} (hT : AllT C.P C.T) (ok : Ok C ⟨t, h⟩ r a w) (hk : stepR C (.convert u d x) t h k) : RdOk C t h (.convert u d x) a w r k := by
  unfold stepR at hk
  obtain ⟨du, hu, hk⟩ := td_spec hT hk
  obtain ⟨dd, hd, hk⟩ := td_spec hT hk
  split at hk
  · rename_i e ek1 ek2
    have h1 := hu.kind
    have h2 := hd.kind
    rw [ek1] at h1
    rw [ek2] at h2
    simp only [TK.Ok] at h1 h2
    obtain ⟨de, hde, hk⟩ := td_spec hT hk
    have h3 := hde.kind
    split at hk <;> try exact hk.elim
    rename_i ek3
    rw [ek3] at h3
    simp only [TK.Ok] at h3
    obtain ⟨m, g, ⟨l, ⟨hl, hg⟩, hk⟩, hc⟩ := srcC_cells ok hk
    refine ⟨.string ⟨l.toArray⟩, _, hk, rfl, fun o w' ho hx => ?_⟩
    simp only [execOp, ho]
    refine exec_v ?_
    rcases hc with ⟨l', hc, rfl, rfl⟩ | ⟨c, rfl, hc⟩ | ⟨ad, c, hc, vs, hvs, hcell⟩
    · have hll : l = l' := by
        apply List.ext_getElem hl
        intro j h1 h2
        have := hg j h2
        injection this with this
        have e := congrArg UInt8.ofBitVec this
        simp [h1, h2] at e
        exact e.symm
      subst hll
      rw [hc]
      simp only [convert, Sem.run_bind, run_underlying h1, run_underlying h2, Result.andThen_ok]
      rfl
    · have : l = [] := List.eq_nil_of_length_eq_zero hl
      subst this
      rw [hc, run_convert_bytes_string w' u d e none 0 c h1 h3 h2]
      rfl
    · rw [hc, ← hl]
      refine run_convert_bytes_back w' u d e ad c l h1 h3 h2 (fun j hj => ?_)
      obtain ⟨v, e1, e2⟩ := hvs.2 j (g j) (by rw [List.getElem?_map, List.getElem?_range (by omega)]; rfl)
      rw [hg j (by omega)] at e2
      rw [hcell w' (hx rfl) j v e1]
      have e2 : v = .int .u8 (((l.getD j 0).toBitVec).toNat : Int) := e2
      rw [e2]
      simp [hj]
  · obtain ⟨p, hk, hp, _⟩ := ev_c ok hk
    obtain ⟨z, v, h1, h2, h3⟩ := conv_spec hu hd hk hp
    refine ⟨v, _, h1, h2 r, fun o w' ho _ => ?_⟩
    simp only [execOp, ho]
    exact exec_v (h3 w')
end
end Sx
end Go.Proofs.YtnehmcpkeamghaaDoor
end

section
/-
  Maps: made, looked into, turned. Over any program. No condition of its own.
-/
namespace Go.Proofs.YtnehmcpkeamghaaDoor
set_option linter.unusedVariables false
namespace Sx
open Go.RowKit Go.MapKept

def pairs (es : List MapEntry) : List (Value × Value) := es.map fun e => (e.key, e.val)
theorem findNow_keys {α β : Type} [DecidableEq α] {d : TypeDesc} {kv : α → Value} {vv : β → Value} (hk : ∀ a, IsKey d (kv a)) (inj : ∀ a b, kv a = kv b → a = b) (k : α) (z : β) :
    ∀ (es : List MapEntry) (l : List (α × β)) (i : Nat), pairs es = l.map (fun x => (kv x.1, vv x.2)) →
      (hasK k l = false ∧ Instr.findNow d (kv k) es i = some none ∧ lookK k z l = z ∧ ∀ v, putK k v l = l ++ [(k, v)]) ∨
      (hasK k l = true ∧ ∃ j e, Instr.findNow d (kv k) es i = some (some (i + j, vv (lookK k z l))) ∧ es[j]? = some e ∧ e.key = kv k ∧ ∀ v, pairs (es.modify j fun e => { e with key := kv k, val := vv v }) = (putK k v l).map fun x => (kv x.1, vv x.2))
  | [], l, i, h => by
    cases l with
    | nil => exact .inl ⟨rfl, rfl, rfl, fun v => rfl⟩
    | cons x l => cases h
  | e :: es, [], i, h => by cases h
  | e :: es, x :: l, i, h => by
    simp only [pairs, List.map_cons, List.cons.injEq, Prod.mk.injEq] at h
    obtain ⟨⟨h1, h2⟩, h3⟩ := h
    obtain ⟨r, hr, hiff⟩ := sameNow_of_keys (hk k) (hk x.1)
    by_cases he : k = x.1
    · have : r = true := hiff.2 (by rw [he])
      subst this
      refine .inr ⟨by simp [hasK, he], 0, e, ?_, rfl, by rw [h1, he], fun v => ?_⟩
      · simp only [Instr.findNow, h1, hr, lookK, if_pos he, h2, Nat.add_zero]
      · simp only [List.modify_zero_cons, pairs, List.map_cons, putK, if_pos he]
        rw [h3]
    · have : r = false := by
        cases r with
        | false => rfl
        | true => exact absurd (inj _ _ (hiff.1 rfl)) he
      subst this
      rcases findNow_keys hk inj k z es l (i + 1) h3 with ⟨a1, a2, a3, a4⟩ | ⟨a1, j, e', a2, a3, a4, a5⟩
      · refine .inl ⟨by simp [hasK, he, a1], ?_, by simp only [lookK, if_neg he, a3], fun v => by simp only [putK, if_neg he, a4, List.cons_append]⟩
        simp only [Instr.findNow, h1, hr, a2]
      · refine .inr ⟨by simp [hasK, a1], j + 1, e', ?_, a3, a4, fun v => ?_⟩
        · simp only [Instr.findNow, h1, hr, a2, lookK, if_neg he]
          rw [show i + 1 + j = i + (j + 1) by omega]
        · simp only [List.modify_succ_cons, pairs, List.map_cons, putK, if_neg he]
          have := a5 v
          unfold pairs at this
          rw [this, h1, h2]
theorem hasS_eq (k : List UInt8) : ∀ l : List (List UInt8), hasS k l = hasK k (l.map fun x => (x, ()))
  | [] => rfl
  | x :: l => by simp [hasS, hasK, hasS_eq k l]
theorem putL_eq (k : List UInt8) : ∀ l : List (List UInt8), (putL' k l).map (fun x => (x, ())) = putK k () (l.map fun x => (x, ()))
  | [] => rfl
  | x :: l => by
    have ih := putL_eq k l
    unfold putL' at ih ⊢
    by_cases h : k = x
    · have e : hasS k (x :: l) = true := by simp [hasS, h]
      rw [e]
      simp only [List.map_cons, putK, if_pos h]
      rw [h]
    · have e : hasS k (x :: l) = hasS k l := by simp [hasS, h]
      rw [e]
      cases hq : hasS k l with
      | true =>
        rw [hq] at ih
        simp only [List.map_cons, putK, if_neg h]
        rw [← ih]
      | false =>
        rw [hq] at ih
        simp only [List.map_append, List.map_cons, List.cons_append, putK, if_neg h]
        rw [← ih, List.map_append]
        rfl
theorem MK.key {P : Program} {kt et : TypeId} {mk : MK} (h : mk.Ok P kt et) : ∃ d, P.underlying kt = some d ∧ (mk = .w64 → d = .int .u64) ∧ (mk = .w8b → d = .int .u8) ∧ (mk = .strs → d = .string) := by
  cases mk <;> exact ⟨_, h.1, by simp, by simp, by simp⟩
theorem zero_of {P : Program} {e : TypeId} {v : Value} (h : (P.info? e).map (·.zero) = some (some v)) (w : World) : (zeroValue e).run P w = .ok v w := by
  obtain ⟨i, hi, e2⟩ := Option.map_eq_some_iff.1 h
  simp [Go.zeroValue, typeInfo, hi, e2]
/-- A map is asked, by a law for lists of pairs. -/
theorem lookup_run {α β : Type} [DecidableEq α] {P : Program} {w : World} {u kt et : TypeId} {d : TypeDesc} {kv : α → Value} {vv : β → Value} (hk : ∀ a, IsKey d (kv a)) (inj : ∀ a b, kv a = kv b → a = b) (k : α) (z : β)
    (hu : P.underlying u = some (.map kt et)) (hd : P.underlying kt = some d) (hz : (P.info? et).map (·.zero) = some (some (vv z))) {B : Nat} {es : Array MapEntry} {clock : Nat} (hb : w.heap[B]? = some (.map es clock))
    {l : List (α × β)} (hl : pairs es.toList = l.map fun x => (kv x.1, vv x.2)) (ok : Bool) :
    (Instr.lookup u (.map (some B)) (kv k) ok).run P w = .ok (if ok then .tuple #[vv (lookK k z l), .bool (hasK k l)] else vv (lookK k z l)) w := by
  rcases findNow_keys hk inj k z es.toList l 0 hl with ⟨a1, a2, a3, _⟩ | ⟨a1, j, e, a2, _⟩
  · simp [Instr.lookup, run_underlying hu, Go.MapKept.run_getObj_map hb, run_checkKey hd (hk k), run_findKey hd a2, zero_of hz, Result.andThen, a1, a3]
  · simp [Instr.lookup, run_underlying hu, Go.MapKept.run_getObj_map hb, run_checkKey hd (hk k), run_findKey hd a2, Result.andThen, a1]
/-- One more is put. -/
theorem update_run {α β : Type} [DecidableEq α] {P : Program} {w : World} {u kt et : TypeId} {d : TypeDesc} {kv : α → Value} {vv : β → Value} (hk : ∀ a, IsKey d (kv a)) (inj : ∀ a b, kv a = kv b → a = b) (k : α) (v : β)
    (hu : P.underlying u = some (.map kt et)) (hd : P.underlying kt = some d) {B : Nat} {es : Array MapEntry} {clock : Nat} (hb : w.heap[B]? = some (.map es clock))
    {l : List (α × β)} (hl : pairs es.toList = l.map fun x => (kv x.1, vv x.2)) :
    ∃ (es' : Array MapEntry) (clock' : Nat), (Instr.mapUpdate u (.map (some B)) (kv k) (vv v)).run P w = .ok () { w with heap := w.heap.setIfInBounds B (.map es' clock') } ∧ pairs es'.toList = (putK k v l).map fun x => (kv x.1, vv x.2) := by
  rcases findNow_keys hk inj k v es.toList l 0 hl with ⟨a1, a2, a3, a4⟩ | ⟨a1, j, e, a2, a3, a4, a5⟩
  · refine ⟨es.push { key := kv k, val := vv v, born := clock }, clock + 1, ?_, ?_⟩
    · simp [Instr.mapUpdate, run_underlying hu, Go.MapKept.run_getObj_map hb, run_checkKey hd (hk k), run_findKey hd a2, run_setObj_map _ hb, Result.andThen]
    · rw [a4 v]
      unfold pairs at hl ⊢
      simp [hl]
  · have hj : es[j]? = some e := by simpa using a3
    refine ⟨es.modify j fun e => { e with key := kv k, val := vv v }, clock, ?_, ?_⟩
    · simp [Instr.mapUpdate, run_underlying hu, Go.MapKept.run_getObj_map hb, run_checkKey hd (hk k), run_findKey hd a2, hj, a4, run_keyThatStays (hk k), run_setObj_map _ hb, Result.andThen]
    · rw [Array.toList_modify]
      exact a5 v
theorem kv64 : ∀ a b : BitVec 64, Value.int .u64 (a.toNat : Int) = .int .u64 (b.toNat : Int) → a = b := fun a b h => by
  injection h with _ h
  exact BitVec.eq_of_toNat_eq (by omega)
theorem kv8 : ∀ a b : BitVec 8, Value.int .u8 (a.toNat : Int) = .int .u8 (b.toNat : Int) → a = b := fun a b h => by
  injection h with _ h
  exact BitVec.eq_of_toNat_eq (by omega)
theorem kvs : ∀ a b : List UInt8, Value.string ⟨a.toArray⟩ = .string ⟨b.toArray⟩ → a = b := fun a b h => by
  injection h with h
  injection h with h
  simpa using congrArg Array.toList h
section
variable {C : Cx} {t : List SV} {h : List (List Seg)} {r : Rho} {a : Act} {w : World} {k : SV → Prop}
theorem rd_lookup {u : TypeId} {x y : Operand} {ok : Bool} (hT : AllT C.P C.T) (okk : Ok C ⟨t, h⟩ r a w) (hk : stepR C (.lookup u x y ok) t h k) : RdOk C t h (.lookup u x y ok) a w r k := by
  unfold stepR at hk
  obtain ⟨d, hd, hk⟩ := td_spec hT hk
  split at hk <;> try exact hk.elim
  rename_i mk i hdk hx
  split at hk <;> try exact hk.elim
  rename_i m hro hm
  obtain ⟨key, hk, hkey, -⟩ := ev_c okk hk
  have hp := okk.ev x
  simp only [hx] at hp
  obtain ⟨B, f, hr, hp⟩ := hp
  have hi : h[i]? = some [.obj m] := by
    rw [getH_eq] at hm
    cases e : h[i]? with
    | none => rw [e] at hm; cases hm
    | some c => rw [e] at hm; exact congrArg some hm
  have hO : ObjAt w B m := okk.heap.maps i m B f (ble_le hro) hi hr
  have hst : ∀ w', Near C h r (seen t (.lookup u x y ok)) w w' → w'.heap[B]? = w.heap[B]? := fun w' hn =>
    hn.2.1 i (by simp [seen, hx, nmV]) (ble_le hro) B f hr hO.lt
  have hkd := hd.kind
  rw [hdk] at hkd
  obtain ⟨kt, et, hu, hmk⟩ := hkd
  cases mk
  case w64 =>
    cases m with
    | w64 l =>
      cases key with
      | w64 kx =>
        have hkey : a.eval y = (fun z : BitVec 64 => Value.int .u64 (z.toNat : Int)) kx := hkey
        have hl : ∀ es : List MapEntry, es.map (fun e => (e.key, e.val)) = (MapD.w64 l).ents → pairs es = (l).map fun x => ((fun z : BitVec 64 => Value.int .u64 (z.toNat : Int)) x.1, (fun z : BitVec 64 => Value.int .u64 (z.toNat : Int)) x.2) := fun es e => e.trans (rfl)
        have run : ∀ w', Near C h r (seen t (.lookup u x y ok)) w w' → (Instr.lookup u (a.eval x) (a.eval y) ok).run C.P w' = .ok (if ok then .tuple #[(fun z : BitVec 64 => Value.int .u64 (z.toNat : Int)) (lookK kx 0#64 (l)), .bool (hasK kx (l))] else (fun z : BitVec 64 => Value.int .u64 (z.toNat : Int)) (lookK kx 0#64 (l))) w' := fun w' hn => by
          obtain ⟨es, clock, e1, e2⟩ := hO.block (hst w' hn)
          rw [hp, hkey]
          exact lookup_run (kv := (fun z : BitVec 64 => Value.int .u64 (z.toNat : Int))) (vv := (fun z : BitVec 64 => Value.int .u64 (z.toNat : Int))) (d := .int .u64) (fun _ => rfl) kv64 kx 0#64 hu hmk.1 hmk.2 e1 (hl _ e2) ok
        simp only [lookM] at hk
        cases ok with
        | true => exact ⟨_, _, hk, ⟨[(fun z : BitVec 64 => Value.int .u64 (z.toNat : Int)) (lookK kx 0#64 l), .bool (hasK kx l)], rfl, rfl, fun j z e => by
            match j, e with
            | 0, e => cases e; exact ⟨_, rfl, rfl⟩
            | 1, e => cases e; exact ⟨_, rfl, rfl⟩⟩, fun o w' ho hx => by
            simp only [execOp, ho]
            exact exec_v (run w' (hx rfl))⟩
        | false => exact ⟨_, _, hk, rfl, fun o w' ho hx => by
            simp only [execOp, ho]
            exact exec_v (run w' (hx rfl))⟩
      | _ => exact hk.elim
    | _ => exact hk.elim
  case w8b =>
    cases m with
    | w8b l =>
      cases key with
      | w8 kx =>
        have hkey : a.eval y = (fun z : BitVec 8 => Value.int .u8 (z.toNat : Int)) kx := hkey
        have hl : ∀ es : List MapEntry, es.map (fun e => (e.key, e.val)) = (MapD.w8b l).ents → pairs es = (l).map fun x => ((fun z : BitVec 8 => Value.int .u8 (z.toNat : Int)) x.1, (fun z : Bool => Value.bool z) x.2) := fun es e => e.trans (rfl)
        have run : ∀ w', Near C h r (seen t (.lookup u x y ok)) w w' → (Instr.lookup u (a.eval x) (a.eval y) ok).run C.P w' = .ok (if ok then .tuple #[(fun z : Bool => Value.bool z) (lookK kx false (l)), .bool (hasK kx (l))] else (fun z : Bool => Value.bool z) (lookK kx false (l))) w' := fun w' hn => by
          obtain ⟨es, clock, e1, e2⟩ := hO.block (hst w' hn)
          rw [hp, hkey]
          exact lookup_run (kv := (fun z : BitVec 8 => Value.int .u8 (z.toNat : Int))) (vv := (fun z : Bool => Value.bool z)) (d := .int .u8) (fun _ => rfl) kv8 kx false hu hmk.1 hmk.2 e1 (hl _ e2) ok
        simp only [lookM] at hk
        cases ok with
        | true => exact ⟨_, _, hk, ⟨[(fun z : Bool => Value.bool z) (lookK kx false l), .bool (hasK kx l)], rfl, rfl, fun j z e => by
            match j, e with
            | 0, e => cases e; exact ⟨_, rfl, rfl⟩
            | 1, e => cases e; exact ⟨_, rfl, rfl⟩⟩, fun o w' ho hx => by
            simp only [execOp, ho]
            exact exec_v (run w' (hx rfl))⟩
        | false => exact ⟨_, _, hk, rfl, fun o w' ho hx => by
            simp only [execOp, ho]
            exact exec_v (run w' (hx rfl))⟩
      | _ => exact hk.elim
    | _ => exact hk.elim
  case strs =>
    cases m with
    | strs l =>
      cases key with
      | str kx =>
        have hkey : a.eval y = (fun z : List UInt8 => Value.string ⟨z.toArray⟩) kx := hkey
        have hl : ∀ es : List MapEntry, es.map (fun e => (e.key, e.val)) = (MapD.strs l).ents → pairs es = (l.map fun x => (x, ())).map fun x => ((fun z : List UInt8 => Value.string ⟨z.toArray⟩) x.1, (fun _ : Unit => Value.agg #[]) x.2) := fun es e => e.trans (by unfold MapD.ents; rw [List.map_map]; rfl)
        have run : ∀ w', Near C h r (seen t (.lookup u x y ok)) w w' → (Instr.lookup u (a.eval x) (a.eval y) ok).run C.P w' = .ok (if ok then .tuple #[(fun _ : Unit => Value.agg #[]) (lookK kx () (l.map fun x => (x, ()))), .bool (hasK kx (l.map fun x => (x, ())))] else (fun _ : Unit => Value.agg #[]) (lookK kx () (l.map fun x => (x, ())))) w' := fun w' hn => by
          obtain ⟨es, clock, e1, e2⟩ := hO.block (hst w' hn)
          rw [hp, hkey]
          exact lookup_run (kv := (fun z : List UInt8 => Value.string ⟨z.toArray⟩)) (vv := (fun _ : Unit => Value.agg #[])) (d := .string) (fun _ => trivial) kvs kx () hu hmk.1 hmk.2 e1 (hl _ e2) ok
        simp only [lookM] at hk
        rw [hasS_eq] at hk
        cases ok with
        | true => exact ⟨_, _, hk, ⟨[(fun _ : Unit => Value.agg #[]) (lookK kx () (l.map fun x => (x, ()))), .bool (hasK kx (l.map fun x => (x, ())))], rfl, rfl, fun j z e => by
            match j, e with
            | 0, e => cases e; exact ⟨_, rfl, ⟨[], rfl, rfl, fun j x e => by simp [flat] at e⟩⟩
            | 1, e => cases e; exact ⟨_, rfl, rfl⟩⟩, fun o w' ho hx => by
            simp only [execOp, ho]
            exact exec_v (run w' (hx rfl))⟩
        | false => exact ⟨_, _, hk, ⟨[], rfl, rfl, fun j x e => by simp [flat] at e⟩, fun o w' ho hx => by
            simp only [execOp, ho]
            exact exec_v (run w' (hx rfl))⟩
      | _ => exact hk.elim
    | _ => exact hk.elim
end
end Sx
end Go.Proofs.YtnehmcpkeamghaaDoor
end

section
/-
  Readers, the others. Over any program. No condition of its own.
-/
namespace Go.Proofs.YtnehmcpkeamghaaDoor
set_option linter.unusedVariables false
namespace Sx
open Go.RowKit

theorem toSegs_spec {x : SV} {K : List Seg → Prop} (h : toSegs x K) : ∃ l, K l ∧ ∀ (r : Rho) v, x.Is r v → ∃ vs : List Value, v.cells = vs.toArray ∧ IsL r (flat l) vs := by
  unfold toSegs at h
  split at h
  · rename_i y
    refine ⟨_, h, fun r v hv => ⟨[v], ?_, by simp [flat], fun j x e => ?_⟩⟩
    · have h1 : v.oneCell' = true := SC.Is.one (x := y) hv
      cases v <;> first | rfl | cases h1
    · cases j with
      | zero => simp [flat] at e; subst e; exact ⟨v, rfl, hv⟩
      | succ j => simp [flat] at e
  · refine ⟨_, h, fun r v hv => ?_⟩
    obtain ⟨vs, rfl, hi⟩ := hv
    exact ⟨vs, rfl, hi⟩
  · exact h.elim
theorem fold_set (off : Nat) : ∀ (vs : List Value) (k : Nat) (cs : Array Value), ((vs.zipIdx k).foldl (fun cs (x : Value × Nat) => cs.setIfInBounds (off + x.2) x.1) cs).size = cs.size ∧
    ∀ j, j < cs.size → ((vs.zipIdx k).foldl (fun cs (x : Value × Nat) => cs.setIfInBounds (off + x.2) x.1) cs)[j]? = if off + k ≤ j ∧ j < off + k + vs.length then vs[j - (off + k)]? else cs[j]?
  | [], k, cs => ⟨rfl, fun j hj => by simp; omega⟩
  | v :: vs, k, cs => by
    obtain ⟨h1, h2⟩ := fold_set off vs (k + 1) (cs.setIfInBounds (off + k) v)
    simp only [List.zipIdx_cons, List.foldl_cons]
    refine ⟨by rw [h1]; simp, fun j hj => ?_⟩
    rw [h2 j (by simpa using hj)]
    by_cases hc : off + (k + 1) ≤ j ∧ j < off + (k + 1) + vs.length
    · rw [if_pos hc, if_pos (by simp; omega), show j - (off + k) = (j - (off + (k + 1))) + 1 by omega]; rfl
    · rw [if_neg hc]
      by_cases he : j = off + k
      · subst he
        rw [if_pos (by simp), Nat.sub_self]
        simp [hj]
      · rw [if_neg (by simp; omega), Array.getElem?_setIfInBounds_ne (by omega)]
/-- New values in the place of others. -/
theorem IsL.put {r : Rho} {l l' new : List Seg} {at_ : Nat} (h : Put new l l' at_) {cs : Array Value} {vs : List Value} (hc : IsL r (flat l) cs.toList) (hv : IsL r (flat new) vs) :
    IsL r (flat l') ((vs.zipIdx.foldl (fun cs (x : Value × Nat) => cs.setIfInBounds (at_ + x.2) x.1) cs)).toList ∧ at_ + vs.length ≤ cs.size := by
  obtain ⟨h1, h2, h3⟩ := h
  obtain ⟨f1, f2⟩ := fold_set at_ vs 0 cs
  have hlen : cs.size = (flat l).length := by rw [hc.1]; simp
  refine ⟨⟨by rw [h2, hc.1]; simp [f1], fun j x e => ?_⟩, by rw [← hv.1, hlen]; exact h1⟩
  have hj : j < cs.size := by
    rw [hlen, ← h2]
    rcases Nat.lt_or_ge j (flat l').length with h | h
    · exact h
    · rw [List.getElem?_eq_none h] at e; cases e
  rw [Array.getElem?_toList, f2 j hj]
  rw [h3] at e
  rw [← hv.1]
  by_cases hh : at_ ≤ j ∧ j < at_ + (flat new).length
  · rw [if_pos hh] at e
    rw [if_pos (by simpa using hh)]
    exact hv.2 _ x e
  · rw [if_neg hh] at e
    rw [if_neg (by simpa using hh)]
    obtain ⟨v, e1, e2⟩ := hc.2 j x e
    exact ⟨v, by simpa using e1, e2⟩
section
variable {C : Cx} {t : List SV} {h : List (List Seg)} {r : Rho} {a : Act} {w : World} {k : SV → Prop}
theorem buildL_spec {place : Nat → (Nat → Nat → Nat → Prop) → Prop} {pl : Nat → Option (Nat × Nat)} (ok : Ok C ⟨t, h⟩ r a w) (hpl : ∀ i F, place i F → ∃ b o n, F b o n ∧ pl i = some (b + o, n)) :
    ∀ {parts : List (Nat × Operand)} {l : List Seg} {K : List Seg → Prop} {cs : Array Value}, buildL t place parts l K → IsL r (flat l) cs.toList →
      ∃ l' cs', K l' ∧ IsL r (flat l') cs'.toList ∧ (flat l').length = (flat l).length ∧ Instr.fill pl cs (parts.map fun p => (p.1, a.eval p.2)) = some cs' ∧ (hd1 l = true → hd1 l' = true)
  | [], l, K, cs, hk, hc => ⟨l, cs, hk, hc, rfl, rfl, id⟩
  | (i, x) :: parts, l, K, cs, hk, hc => by
    obtain ⟨b, o, n, hk, hp⟩ := hpl _ _ hk
    obtain ⟨new, hk, hn⟩ := toSegs_spec hk
    obtain ⟨hlen, hk⟩ := hk
    obtain ⟨l', hk, hput, hhd⟩ := putS_spec hk
    obtain ⟨vs, hvs, hv⟩ := hn r _ (ok.ev x)
    obtain ⟨hc', hb⟩ := IsL.put hput hc hv
    obtain ⟨l'', cs'', h1, h2, h3, h4, h5⟩ := buildL_spec (pl := pl) ok hpl hk hc'
    refine ⟨l'', cs'', h1, h2, by rw [h3, hput.2.1], ?_, fun _ => h5 hhd⟩
    simp only [List.map_cons, Instr.fill, hp, hvs]
    have hs : vs.toArray.size = n := by rw [← hlen, hv.1]; simp
    rw [if_neg (by rw [hs]; simp; rw [← hs]; simpa using hb)]
    rw [← h4]
    congr 1
    rw [← Array.foldl_toList, Array.toList_zipIdx]
theorem setC_spec : ∀ {l : List SC} {i : Nat} {x : SC} {K : List SC → Prop}, buildR.setC l i x K → i < l.length ∧ K (l.set i x)
  | [], _, _, _, h => h.elim
  | _ :: r, 0, x, K, h => ⟨by simp, h⟩
  | y :: r, n + 1, x, K, h => by
    obtain ⟨h1, h2⟩ := setC_spec (l := r) (i := n) h
    exact ⟨by simp; omega, h2⟩
theorem cells_one {v : Value} (h : v.oneCell' = true) : v.cells = #[v] := by
  cases v <;> first | rfl | cases h
theorem buildR_spec (ok : Ok C ⟨t, h⟩ r a w) :
    ∀ {parts : List (Nat × Operand)} {l : List SC} {K : List SC → Prop} {cs : Array Value}, buildR t parts l K → IsL r l cs.toList →
      ∃ l' cs', K l' ∧ IsL r l' cs'.toList ∧ l'.length = l.length ∧ Instr.fill (fun i => some (i, 1)) cs (parts.map fun p => (p.1, a.eval p.2)) = some cs'
  | [], l, K, cs, hk, hc => ⟨l, cs, hk, hc, rfl, rfl⟩
  | (i, x) :: parts, l, K, cs, hk, hc => by
    obtain ⟨p, hk, hp, _⟩ := ev_c ok hk
    obtain ⟨hi, hk⟩ := setC_spec hk
    have hlen : cs.size = l.length := by rw [hc.1]; simp
    have hc' : IsL r (l.set i p) (cs.setIfInBounds i (a.eval x)).toList := by
      refine ⟨by simp [hlen], fun j y e => ?_⟩
      rw [List.getElem?_set] at e
      by_cases hj : i = j
      · subst hj
        simp [hi] at e
        subst e
        exact ⟨_, by simp [hlen, hi], hp⟩
      · rw [if_neg hj] at e
        obtain ⟨v, e1, e2⟩ := hc.2 j y e
        exact ⟨v, by rw [Array.getElem?_toList, Array.getElem?_setIfInBounds_ne hj]; simpa using e1, e2⟩
    obtain ⟨l'', cs'', h1, h2, h3, h4⟩ := buildR_spec ok hk hc'
    refine ⟨l'', cs'', h1, h2, by rw [h3]; simp, ?_⟩
    simp only [List.map_cons, Instr.fill, cells_one hp.one]
    rw [if_neg (by simp; omega), ← h4]
    congr 1
theorem zero_cells {P : Program} {u : TypeId} {d : TD} (hd : TdOk P u d) (r : Rho) : IsL r (flat d.zero) ((flat d.zero).map SC.val) :=
  ⟨by simp, fun j x e => ⟨x.val, by simp [e], SC.is_val r (by have := List.all_eq_true.1 hd.plain x (List.mem_of_getElem? e); exact this)⟩⟩
theorem zeroVal_agg {d : TD} (h : d.isAgg = true) : d.zeroVal.cells = ((flat d.zero).map SC.val).toArray := by
  unfold TD.zeroVal
  rw [if_pos h]; rfl
theorem map_parts (parts : Array (Nat × Operand)) (f : Operand → Value) : (parts.map fun (i, x) => (i, f x)).toList = parts.toList.map fun p => (p.1, f p.2) := by
  rw [Array.toList_map]
theorem places_of {P : Program} {T : List (Nat × TD)} (hT : AllT P T) : ∀ {fs : List Field}, allIn T (fs.map fun f => (f.type, f.offset)) = true → fs.mapM (fun f => (P.info? f.type).map fun i => (f.offset, i.size)) = some (fs.map fun f => (f.offset, ((P.info? f.type).map (·.size)).getD 0))
  | [], _ => rfl
  | f :: fs, h => by
    simp only [List.map_cons, allIn] at h
    split at h
    · rename_i d hd
      obtain ⟨i, hi, _⟩ := (hT.find hd).inf
      simp [List.mapM_cons, places_of hT h, hi]
    · cases h
theorem rd_build {u : TypeId} {parts : Array (Nat × Operand)} (hT : AllT C.P C.T) (ok : Ok C ⟨t, h⟩ r a w) (hk : stepR C (.build u parts) t h k) : RdOk C t h (.build u parts) a w r k := by
  unfold stepR at hk
  obtain ⟨d, hd, hk⟩ := td_spec hT hk
  have hkk := hd.kind
  obtain ⟨it, hit, _, _, hz⟩ := hd.inf
  have fin : ∀ {l' : List Seg} {cs' : Array Value}, k (.a (.agg l')) → IsL r (flat l') cs'.toList → C.P.built u (parts.map fun (i, x) => (i, a.eval x)).toList = some cs' → RdOk C t h (.build u parts) a w r k := by
    intro l' cs' h1 h2 h3
    refine ⟨_, _, h1, ⟨cs'.toList, rfl, h2⟩, fun o w' ho _ => ?_⟩
    simp only [execOp, ho]
    exact exec_v (run_build w' u _ cs' h3)
  split at hk
  · rename_i fs hkd
    rw [hkd] at hkk
    have hag : d.isAgg = true := by simp [TD.isAgg, hkd]
    split at hk <;> try exact hk.elim
    rename_i hall
    simp only [TK.Ok] at hkk
    unfold fieldsOf at hkk
    split at hkk <;> try (cases hkk)
    rename_i gs hu
    obtain ⟨l', cs', h1, h2, h3, h4, _⟩ := buildL_spec (pl := fun i => ((gs.toList.map fun f => (f.offset, ((C.P.info? f.type).map (·.size)).getD 0)).toArray)[i]?) ok (fun i F hF => by
      split at hF <;> try exact hF.elim
      rename_i e off hf
      obtain ⟨de, hde, hF⟩ := td_spec hT hF
      refine ⟨_, _, _, hF, ?_⟩
      rw [nthF_eq, List.getElem?_map, Option.map_eq_some_iff] at hf
      obtain ⟨g, hg, e'⟩ := hf
      simp only [Prod.mk.injEq] at e'
      obtain ⟨rfl, rfl⟩ := e'
      obtain ⟨i', hi', hs', _⟩ := hde.inf
      simp [hg, hi', hs']) hk (cs := ((flat d.zero).map SC.val).toArray) (by simpa using zero_cells hd r)
    refine fin h1 h2 ?_
    rw [map_parts]
    unfold Program.built
    simp only [hit, hu, hz, places_of hT hall, zeroVal_agg hag]
    exact h4
  · rename_i len e hkd
    rw [hkd] at hkk
    have hag : d.isAgg = true := by simp [TD.isAgg, hkd]
    simp only [TK.Ok] at hkk
    obtain ⟨de, hde, hk⟩ := td_spec hT hk
    obtain ⟨ie, hie, hsz, _, _⟩ := hde.inf
    have gen : ∀ {l' : List Seg} {cs' : Array Value}, k (.a (.agg l')) → IsL r (flat l') cs'.toList → Instr.fill (fun i => some (i * de.size, de.size)) ((flat d.zero).map SC.val).toArray (parts.toList.map fun p => (p.1, a.eval p.2)) = some cs' → RdOk C t h (.build u parts) a w r k := by
      intro l' cs' h1 h2 h3
      refine fin h1 h2 ?_
      rw [map_parts]
      unfold Program.built
      simp only [hit, hkk, hz, hie, zeroVal_agg hag, hsz]
      exact h3
    split at hk
    · rename_i zz m f hz1 hz2
      have hs1 : de.size = 1 := by rw [← hde.len, hz1]; rfl
      rw [rowSC_eq] at hk
      have hfl : flat d.zero = (List.range' 0 m).map f := by rw [hz2]; simp [flat, List.range_eq_range']
      obtain ⟨l', cs', h1, h2, h3, h4⟩ := buildR_spec ok hk (cs := ((flat d.zero).map SC.val).toArray) (by rw [← hfl]; simpa using zero_cells hd r)
      refine gen h1 ?_ (by rw [hs1]; simpa using h4)
      have hm : l'.length = m := by rw [h3]; simp
      have : flat [Seg.row m (nthC l')] = l' := by
        simp only [flat, List.append_nil]
        apply List.ext_getElem?
        intro j
        by_cases hj : j < m
        · simp [hj, nthC_eq, hm]
        · simp [hj, hm]
      rw [this]; exact h2
    · obtain ⟨l', cs', h1, h2, h3, h4, _⟩ := buildL_spec (pl := fun i => some (i * de.size, de.size)) ok (fun i F hF => by
        rw [frcN_eq] at hF
        exact ⟨_, _, _, hF, by simp⟩) hk (cs := ((flat d.zero).map SC.val).toArray) (by simpa using zero_cells hd r)
      exact gen h1 h2 h4
  · exact hk.elim
theorem rd_field {u : TypeId} {x : Operand} {f : Nat} (hT : AllT C.P C.T) (ok : Ok C ⟨t, h⟩ r a w) (hk : stepR C (.field u x f) t h k) : RdOk C t h (.field u x f) a w r k := by
  unfold stepR at hk
  obtain ⟨d, hd, hk⟩ := td_spec hT hk
  split at hk <;> try exact hk.elim
  rename_i fs l hkd hx
  have hkk := hd.kind
  rw [hkd] at hkk
  split at hk <;> try exact hk.elim
  rename_i e off hf
  obtain ⟨gs, g, hu, hg, ht, hoff⟩ := struct_field hkk hf
  obtain ⟨de, hde, hk⟩ := td_spec hT hk
  obtain ⟨l', hk, hl, hs⟩ := loadS_spec hk
  rw [tot_shape, hde.len] at hl
  have hv := ok.ev x
  simp only [hx] at hv
  obtain ⟨vs, e1, hv⟩ := hv
  obtain ⟨v, z, h1, h2, h3⟩ := part_core (P := C.P) hde hk hl hv (off := off) (by simpa using hs)
  refine ⟨v, z, h1, h2, fun o' w' ho hx => ?_⟩
  simp only [execOp, ho]
  refine exec_v ?_
  simp only [Instr.field, Sem.run_bind, run_underlying hu, Result.andThen_ok, hg, e1, asAgg, ht, hoff]
  exact h3 w'
theorem nthA_spec : ∀ {l : List SA} {i : Nat} {K : SA → Prop}, nthA l i K → ∃ x, l[i]? = some x ∧ K x
  | .c _ :: _, 0, _, h => ⟨_, rfl, h⟩
  | .agg _ :: _, 0, _, h => ⟨_, rfl, h⟩
  | .c _ :: r, _ + 1, _, h => nthA_spec (l := r) h
  | .agg _ :: r, _ + 1, _, h => nthA_spec (l := r) h
  | [], _, _, h => h.elim
theorem rd_extract {x : Operand} {i : Nat} (ok : Ok C ⟨t, h⟩ r a w) (hk : stepR C (.extract x i) t h k) : RdOk C t h (.extract x i) a w r k := by
  have hk : (match ev t x with
    | .tup l => nthA l i fun v => k (.a v)
    | _ => False) := hk
  split at hk <;> try exact hk.elim
  rename_i l hx
  obtain ⟨y, hy, hk⟩ := nthA_spec hk
  have hv := ok.ev x
  simp only [hx] at hv
  obtain ⟨vs, e1, _, hv⟩ := hv
  obtain ⟨u, e2, hu⟩ := hv i y hy
  refine ⟨u, _, hk, hu, fun o' w' ho hx => ?_⟩
  simp only [execOp, ho]
  refine exec_v ?_
  simp only [Instr.extract, e1]
  simp [e2]
theorem rd_index {u : TypeId} {x ix : Operand} (hT : AllT C.P C.T) (ok : Ok C ⟨t, h⟩ r a w) (hk : stepR C (.index u x ix) t h k) : RdOk C t h (.index u x ix) a w r k := by
  unfold stepR at hk
  obtain ⟨d, hd, hk⟩ := td_spec hT hk
  obtain ⟨q, hk, hq, _⟩ := ev_c ok hk
  obtain ⟨n, hk, hn⟩ := idx_spec hk
  obtain ⟨kk, hn⟩ := hn _ _ hq
  have hkk := hd.kind
  split at hk <;> try exact hk.elim
  · rename_i l hkd hx
    rw [hkd] at hkk
    simp only [TK.Ok] at hkk
    have hv := ok.ev x
    simp only [hx] at hv
    have hv : a.eval x = .string ⟨l.toArray⟩ := hv
    obtain ⟨hin, hk⟩ := hk
    have hlt : n.toNat < l.length := by omega
    refine ⟨.int .u8 ((l.getD n.toNat 0).toNat : Int), _, hk, rfl, fun o' w' ho hx => ?_⟩
    simp only [execOp, ho]
    refine exec_v ?_
    simp only [Instr.index, hn, hv, Sem.run_bind, run_asInt, run_underlying hkk, Result.andThen_ok]
    have e : (⟨l.toArray⟩ : ByteArray)[n.toNat]? = some (l.getD n.toNat 0) := by
      have hs : n.toNat < (⟨l.toArray⟩ : ByteArray).size := hlt
      rw [getElem?_pos (⟨l.toArray⟩ : ByteArray) n.toNat hs]
      simp only [List.getD, List.getElem?_eq_getElem hlt]
      rfl
    simp [hin.1, e, pure]
  · rename_i len e l hkd hx
    rw [hkd] at hkk
    simp only [TK.Ok] at hkk
    obtain ⟨de, hde, hk⟩ := td_spec hT hk
    obtain ⟨hin, hk⟩ := hk
    obtain ⟨l', hk, hl, hs⟩ := loadS_spec (elt_spec hk)
    rw [tot_shape, hde.len] at hl
    have hv := ok.ev x
    simp only [hx] at hv
    obtain ⟨vs, e1, hv⟩ := hv
    obtain ⟨v, z, h1, h2, h3⟩ := part_core (P := C.P) hde hk hl hv (off := n.toNat * de.size) (by simpa using hs)
    refine ⟨v, z, h1, h2, fun o' w' ho hx => ?_⟩
    simp only [execOp, ho]
    refine exec_v ?_
    simp only [Instr.index, hn, e1, Sem.run_bind, run_asInt, run_underlying hkk, Result.andThen_ok]
    simp only [hin, if_true, true_and]
    simp only [Sem.run_bind, hde.sizeOf, Result.andThen_ok]
    exact h3 w'
end
end Sx
end Go.Proofs.YtnehmcpkeamghaaDoor
end

section
/-
  Readers: slicing, len, min, max; all together. Over any program. No condition of its own.
-/
namespace Go.Proofs.YtnehmcpkeamghaaDoor
set_option linter.unusedVariables false
namespace Sx
open Go.RowKit

section
variable {C : Cx} {t : List SV} {h : List (List Seg)} {r : Rho} {a : Act} {w : World} {k : SV → Prop}
theorem bound_spec (ok : Ok C ⟨t, h⟩ r a w) {dflt : Nat} {x : Option Operand} {K : Int → Prop} (hk : bound t dflt x K) :
    ∃ n, K n ∧ (match x with | none => n = (dflt : Int) | some x => ∃ kk, a.eval x = .int kk n) := by
  unfold bound at hk
  split at hk
  · exact ⟨_, hk, rfl⟩
  · obtain ⟨q, hk, hq, _⟩ := ev_c ok hk
    obtain ⟨n, hk, hn⟩ := idx_spec hk
    exact ⟨n, hk, hn _ _ hq⟩
theorem run_sliceBound {P : Program} {v : Value} {kk : IntKind} {n : Int} {y : Nat} {c : BoundsCode} {w : World} (hv : v = .int kk n) (h0 : 0 ≤ n) (h1 : n ≤ (y : Int)) : (Instr.sliceBound v y c).run P w = .ok n.toNat w := by
  subst hv
  simp [Instr.sliceBound, run_asInt, h0, h1, pure]
theorem bounds_spec (ok : Ok C ⟨t, h⟩ r a w) {n c : Nat} {lo hi mx : Option Operand} {K : Nat → Nat → Nat → Prop} (hk : bounds t n c lo hi mx K) :
    ∃ l hh m, K l hh m ∧ l ≤ hh ∧ hh ≤ m ∧ m ≤ c ∧ ∀ (g : Bool) (w' : World), (Instr.sliceBounds g n c (lo.map a.eval) (hi.map a.eval) (mx.map a.eval)).run C.P w' = .ok (l, hh, m) w' := by
  unfold bounds at hk
  split at hk
  · rename_i vm
    split at hk
    · rename_i vh
      obtain ⟨z, hk, hz⟩ := bound_spec ok hk
      obtain ⟨y, hk, hy⟩ := bound_spec ok hk
      obtain ⟨x, hk, hx⟩ := bound_spec ok hk
      obtain ⟨⟨h1, h2, h3, h4⟩, hk⟩ := hk
      rw [frcN_eq, frcN_eq, frcN_eq] at hk
      refine ⟨x.toNat, y.toNat, z.toNat, hk, by omega, by omega, by omega, fun g w' => ?_⟩
      obtain ⟨kz, hz⟩ := hz
      obtain ⟨ky, hy⟩ := hy
      have s3 : ∀ q w', (Instr.sliceBound (a.eval vm) c q).run C.P w' = .ok z.toNat w' := fun q w' => run_sliceBound hz (by omega) h4
      have s2 : ∀ q w', (Instr.sliceBound (a.eval vh) z.toNat q).run C.P w' = .ok y.toNat w' := fun q w' => run_sliceBound hy (by omega) (by omega)
      cases lo with
      | none =>
        simp only at hx
        subst hx
        simp [Instr.sliceBounds, pure, s2, s3]
      | some v' =>
        obtain ⟨kk, hx⟩ := hx
        have s1 : ∀ q w', (Instr.sliceBound (a.eval v') y.toNat q).run C.P w' = .ok x.toNat w' := fun q w' => run_sliceBound hx h1 (by omega)
        simp [Instr.sliceBounds, pure, s1, s2, s3]
    · exact hk.elim
  · obtain ⟨y, hk, hy⟩ := bound_spec ok hk
    obtain ⟨x, hk, hx⟩ := bound_spec ok hk
    obtain ⟨⟨h1, h2, h3⟩, hk⟩ := hk
    rw [frcN_eq, frcN_eq] at hk
    refine ⟨x.toNat, y.toNat, c, hk, by omega, by omega, Nat.le_refl _, fun g w' => ?_⟩
    cases hi with
    | none =>
      simp only at hy
      subst hy
      cases lo with
      | none =>
        simp only at hx
        subst hx
        simp [Instr.sliceBounds, pure]
      | some v =>
        obtain ⟨kk, hx⟩ := hx
        have s1 : ∀ q w', (Instr.sliceBound (a.eval v) n q).run C.P w' = .ok x.toNat w' := fun q w' => run_sliceBound hx h1 (by simpa using h2)
        simp [Instr.sliceBounds, pure, s1]
    | some v =>
      obtain ⟨kk, hy⟩ := hy
      have s2 : ∀ q w', (Instr.sliceBound (a.eval v) c q).run C.P w' = .ok y.toNat w' := fun q w' => run_sliceBound hy (by omega) h3
      cases lo with
      | none =>
        simp only at hx
        subst hx
        simp [Instr.sliceBounds, pure, s2]
      | some v' =>
        obtain ⟨kk, hx⟩ := hx
        have s1 : ∀ q w', (Instr.sliceBound (a.eval v') y.toNat q).run C.P w' = .ok x.toNat w' := fun q w' => run_sliceBound hx h1 (by omega)
        simp [Instr.sliceBounds, pure, s1, s2]
theorem str_extract (l : List UInt8) (x y : Nat) : (⟨l.toArray⟩ : ByteArray).extract x y = ⟨((l.drop x).take (y - x)).toArray⟩ := by
  apply ByteArray.ext
  rw [ByteArray.data_extract]
  simp [List.extract_toArray, List.extract_eq_take_drop]
theorem rd_slice {u : TypeId} {x : Operand} {lo hi mx : Option Operand} (hT : AllT C.P C.T) (ok : Ok C ⟨t, h⟩ r a w) (hk : stepR C (.slice u x lo hi mx) t h k) : RdOk C t h (.slice u x lo hi mx) a w r k := by
  unfold stepR at hk
  obtain ⟨d, hd, hk⟩ := td_spec hT hk
  have hkk := hd.kind
  have hv := ok.ev x
  split at hk
  · rename_i l hkd hx
    rw [hkd] at hkk
    simp only [TK.Ok] at hkk
    simp only [hx] at hv
    have hv : a.eval x = .string ⟨l.toArray⟩ := hv
    split at hk <;> try exact hk.elim
    obtain ⟨b, e, m, hk', hbe, hec, hmc, hrun⟩ := bounds_spec ok hk
    refine ⟨_, _, hk', rfl, fun o w' ho _ => ?_⟩
    simp only [execOp, ho]
    refine exec_v ?_
    have hsz : (⟨l.toArray⟩ : ByteArray).size = l.length := rfl
    have hr := hrun false w'
    simp only [Instr.sliceAt, Instr.slice, hv, Sem.run_bind, run_underlying hkk, Result.andThen_ok, hsz]
    simp only [Option.map_none] at hr ⊢
    simp [hr, str_extract, pure]
  · rename_i e i b o n c hkd hx
    rw [hkd] at hkk
    simp only [TK.Ok] at hkk
    simp only [hx] at hv
    obtain ⟨B, f, hr, hv⟩ := hv
    obtain ⟨de, hde, hk⟩ := td_spec hT hk
    obtain ⟨l, hh, m, hk', hbe, hec, hmc, hrun⟩ := bounds_spec ok hk
    simp only [frcN_eq] at hk'
    refine ⟨_, _, hk', ⟨B, f, hr, rfl⟩, fun o' w' ho _ => ?_⟩
    simp only [execOp, ho]
    refine exec_v ?_
    have hr := hrun true w'
    simp only [Instr.sliceAt, Instr.slice, hv, Sem.run_bind, run_underlying hkk, Result.andThen_ok]
    simp [hr, hde.sizeOf, pure]
    split
    · rfl
    · simp only [add_none]; congr 2; omega
  · rename_i e A n c hkd hx
    rw [hkd] at hkk
    simp only [TK.Ok] at hkk
    simp only [hx] at hv
    have hv : a.eval x = .slice A n c := hv
    obtain ⟨de, hde, hk⟩ := td_spec hT hk
    obtain ⟨l, hh, m, hk', hbe, hec, hmc, hrun⟩ := bounds_spec ok hk
    simp only [frcN_eq] at hk'
    refine ⟨_, _, hk', rfl, fun o' w' ho _ => ?_⟩
    simp only [execOp, ho]
    refine exec_v ?_
    have hr := hrun true w'
    simp only [Instr.sliceAt, Instr.slice, hv, Sem.run_bind, run_underlying hkk, Result.andThen_ok]
    simp [hr, hde.sizeOf, pure]
  · rename_i len e i b o hkd hx
    rw [hkd] at hkk
    simp only [TK.Ok] at hkk
    simp only [hx] at hv
    obtain ⟨B, f, hr, hv⟩ := hv
    obtain ⟨de, hde, hk⟩ := td_spec hT hk
    obtain ⟨l, hh, m, hk', hbe, hec, hmc, hrun⟩ := bounds_spec ok hk
    simp only [frcN_eq] at hk'
    refine ⟨_, _, hk', ⟨B, f, hr, rfl⟩, fun o' w' ho _ => ?_⟩
    simp only [execOp, ho]
    refine exec_v ?_
    have hr := hrun false w'
    simp only [Instr.sliceAt, hv, Sem.run_bind, run_underlying hkk, Result.andThen_ok, Instr.sureAddr]
    simp [hr, hde.sizeOf, pure]
    by_cases hc : m = l
    · simp [hc]
    · simp [hc, add_none]; omega
  · rename_i q i b o hkd hx
    rw [hkd] at hkk
    simp only [TK.Ok] at hkk
    simp only [hx] at hv
    obtain ⟨B, f, hr, hv⟩ := hv
    obtain ⟨dq, hdq, hk⟩ := td_spec hT hk
    have hkq := hdq.kind
    split at hk <;> try exact hk.elim
    rename_i len e hkd2
    rw [hkd2] at hkq
    simp only [TK.Ok] at hkq
    obtain ⟨de, hde, hk⟩ := td_spec hT hk
    obtain ⟨l, hh, m, hk', hbe, hec, hmc, hrun⟩ := bounds_spec ok hk
    simp only [frcN_eq] at hk'
    refine ⟨_, _, hk', ⟨B, f, hr, rfl⟩, fun o' w' ho _ => ?_⟩
    simp only [execOp, ho]
    refine exec_v ?_
    have hr := hrun false w'
    simp only [Instr.sliceAt, Instr.slice, hv, Sem.run_bind, run_underlying hkk, Result.andThen_ok, asAddr, run_underlying hkq]
    simp [hr, hde.sizeOf, pure]
    by_cases hc : m = l
    · simp [hc]
    · simp [hc, add_none]; omega
  · rename_i e z i b o n c hkd hx
    rw [hkd] at hkk
    simp only [TK.Ok] at hkk
    simp only [hx] at hv
    obtain ⟨de, hde, hk⟩ := td_spec hT hk
    obtain ⟨l, hh, m, hk', hbe, hec, hmc, hrun⟩ := bounds_spec ok hk
    simp only [frcN_eq] at hk'
    rcases hv with ⟨rfl, hv, rfl, rfl⟩ | ⟨rfl, B, f, hr, hv⟩ | ⟨rfl, rfl, rfl, B, f, s, hv⟩
    · have e1 : l = 0 := by omega
      have e2 : hh = 0 := by omega
      have e3 : m = 0 := by omega
      subst e1; subst e2; subst e3
      refine ⟨_, _, hk', .inl ⟨rfl, rfl, rfl, rfl⟩, fun o' w' ho _ => ?_⟩
      simp only [execOp, ho]
      refine exec_v ?_
      have hr := hrun true w'
      simp only [Instr.sliceAt, Instr.slice, hv, Sem.run_bind, run_underlying hkk, Result.andThen_ok]
      simp [hr, hde.sizeOf, pure]
    rotate_left
    · have e1 : l = 0 := by omega
      have e2 : hh = 0 := by omega
      have e3 : m = 0 := by omega
      subst e1; subst e2; subst e3
      refine ⟨_, _, hk', .inr (.inr ⟨rfl, rfl, rfl, B, f, s, rfl⟩), fun o' w' ho _ => ?_⟩
      simp only [execOp, ho]
      refine exec_v ?_
      have hr := hrun true w'
      simp only [Instr.sliceAt, Instr.slice, hv, Sem.run_bind, run_underlying hkk, Result.andThen_ok]
      simp [hr, hde.sizeOf, pure]
    refine ⟨_, _, hk', .inr (.inl ⟨rfl, B, f, hr, rfl⟩), fun o' w' ho _ => ?_⟩
    simp only [execOp, ho]
    refine exec_v ?_
    have hr := hrun true w'
    simp only [Instr.sliceAt, Instr.slice, hv, Sem.run_bind, run_underlying hkk, Result.andThen_ok]
    simp [hr, hde.sizeOf, pure]
    split
    · rfl
    · simp only [add_none]; congr 2; omega
  · exact hk.elim
theorem maxI_spec (ok : Ok C ⟨t, h⟩ r a w) : ∀ {l : List Operand} {x : Int} {K : Int → Prop}, maxI t l x K → ∃ n, K n ∧ ∀ w', ((l.map a.eval).foldlM Builtin.max2 (.int .i64 x) : Sem Value).run C.P w' = .ok (.int .i64 n) w'
  | [], x, K, hk => ⟨x, hk, fun w' => rfl⟩
  | y :: l, x, K, hk => by
    simp only [maxI] at hk
    obtain ⟨q, hk, hq, _⟩ := ev_c ok hk
    split at hk <;> try exact hk.elim
    have hq : a.eval y = _ := hq
    obtain ⟨n, h1, h2⟩ := maxI_spec ok hk
    refine ⟨n, h1, fun w' => ?_⟩
    rw [List.map_cons, List.foldlM_cons, hq]
    exact h2 w'
theorem maxW_spec (ok : Ok C ⟨t, h⟩ r a w) : ∀ {l : List Operand} {x : BitVec 64} {K : BitVec 64 → Prop}, maxW t l x K → ∃ n : BitVec 64, K n ∧ ∀ w', ((l.map a.eval).foldlM Builtin.max2 (.int .u64 (x.toNat : Int)) : Sem Value).run C.P w' = .ok (.int .u64 (n.toNat : Int)) w'
  | [], x, K, hk => ⟨x, hk, fun w' => rfl⟩
  | y :: l, x, K, hk => by
    simp only [maxW] at hk
    obtain ⟨q, hk, hq, _⟩ := ev_c ok hk
    split at hk <;> try exact hk.elim
    rename_i b _
    have hq : a.eval y = _ := hq
    obtain ⟨n, h1, h2⟩ := maxW_spec ok hk
    refine ⟨n, h1, fun w' => ?_⟩
    rw [List.map_cons, List.foldlM_cons, hq]
    have e : (if x < b then b else x).toNat = if x.toNat < b.toNat then b.toNat else x.toNat := by
      by_cases hb : x < b
      · rw [if_pos hb, if_pos (BitVec.lt_def.1 hb)]
      · rw [if_neg hb, if_neg (fun hc => hb (BitVec.lt_def.2 hc))]
    have h3 := h2 w'
    rw [e] at h3
    have e2 : (if ((b.toNat : Int)) > (x.toNat : Int) then (b.toNat : Int) else (x.toNat : Int)) = ((if x.toNat < b.toNat then b.toNat else x.toNat : Nat) : Int) := by
      by_cases hb : x.toNat < b.toNat
      · rw [if_pos (by omega), if_pos hb]
      · rw [if_neg (by omega), if_neg hb]
    show (List.foldlM Builtin.max2 (.int .u64 (if ((b.toNat : Int)) > (x.toNat : Int) then (b.toNat : Int) else (x.toNat : Int))) (l.map a.eval) : Sem Value).run C.P w' = _
    rw [e2]
    exact h3
theorem min_w64 {x y : Operand} {ts : Array TypeId} {a1 b1 : BitVec 64} (hp : SC.Is r (.w64 a1) (a.eval x)) (hq : SC.Is r (.w64 b1) (a.eval y)) (hk : k (.a (.c (.w64 (if b1 < a1 then b1 else a1))))) : RdOk C t h (.call ⟨.builtin .min, #[x, y], ts⟩) a w r k := by
  have hp : a.eval x = .int .u64 (a1.toNat : Int) := hp
  have hq : a.eval y = .int .u64 (b1.toNat : Int) := hq
  refine ⟨_, _, hk, rfl, fun o w' ho _ => ?_⟩
  simp only [execOp, ho, resolve]
  refine exec_v (v := .int .u64 ((if b1 < a1 then b1 else a1 : BitVec 64).toNat : Int)) ?_
  simp only [List.map_toArray, List.map_cons, List.map_nil]
  rw [hp, hq]
  have e : (if (b1.toNat : Int) < (a1.toNat : Int) then (b1.toNat : Int) else (a1.toNat : Int)) = ((if b1 < a1 then b1 else a1 : BitVec 64).toNat : Int) := by
    by_cases hlt : b1 < a1
    · rw [if_pos hlt, if_pos (by have := BitVec.lt_def.1 hlt; omega)]
    · rw [if_neg hlt, if_neg (fun hc => hlt (BitVec.lt_def.2 (by omega)))]
  rw [← e]
  rfl
theorem rd_builtin {b : Builtin} {args : Array Operand} {ts : Array TypeId} (hT : AllT C.P C.T) (ok : Ok C ⟨t, h⟩ r a w) (hk : stepR C (.call ⟨.builtin b, args, ts⟩) t h k) : RdOk C t h (.call ⟨.builtin b, args, ts⟩) a w r k := by
  cases b <;> try exact hk.elim
  case len =>
    have hk : (match args.toList, ts.toList with
      | [x], u :: _ => td C u fun d => match d.k, ev t x with
        | .str, .a (.c (.str l)) => k (.a (.c (.int .i64 (l.length : Int))))
        | .slice _, .a (.c (.sl _ _ _ n _)) => k (.a (.c (.int .i64 (n : Int))))
        | .slice _, .a (.c (.slc _ n _)) => k (.a (.c (.int .i64 (n : Int))))
        | .slice _, .a (.c (.sn _ _ _ _ n _)) => k (.a (.c (.int .i64 (n : Int))))
        | _, _ => False
      | _, _ => False) := hk
    split at hk <;> try exact hk.elim
    rename_i x u us h1 h2
    obtain ⟨d, hd, hk⟩ := td_spec hT hk
    have hkk := hd.kind
    have hv := ok.ev x
    have e1 : args = #[x] := by rw [← Array.toList_inj]; exact h1
    have e2 : ts[0]? = some u := by rw [← Array.getElem?_toList, h2]; rfl
    have fin : ∀ {n : Nat}, k (.a (.c (.int .i64 (n : Int)))) → (∀ ty w', (Builtin.len_ ts ty #[a.eval x]).run C.P w' = .ok (.int .i64 (n : Int)) w') → RdOk C t h (.call ⟨.builtin .len, args, ts⟩) a w r k := by
      intro n h1 h2
      refine ⟨_, _, h1, rfl, fun o w' ho _ => ?_⟩
      subst e1
      simp only [execOp, ho, resolve]
      refine exec_v ?_
      simp only [List.map_toArray, List.map_cons, List.map_nil]
      exact h2 _ w'
    split at hk <;> try exact hk.elim
    · rename_i l hkd hx
      rw [hkd] at hkk
      simp only [TK.Ok] at hkk
      simp only [hx] at hv
      have hv : a.eval x = .string ⟨l.toArray⟩ := hv
      refine fin hk (fun ty w' => ?_)
      simp [Builtin.len_, e2, hv, run_underlying hkk, goInt, pure]
      rfl
    · rename_i i b' o n c hkd hx
      rw [hkd] at hkk
      simp only [TK.Ok] at hkk
      simp only [hx] at hv
      obtain ⟨B, f, _, hv⟩ := hv
      refine fin hk (fun ty w' => ?_)
      simp [Builtin.len_, e2, hv, run_underlying hkk, goInt, pure]
    · rename_i A n c hkd hx
      rw [hkd] at hkk
      simp only [TK.Ok] at hkk
      simp only [hx] at hv
      have hv : a.eval x = .slice A n c := hv
      refine fin hk (fun ty w' => ?_)
      simp [Builtin.len_, e2, hv, run_underlying hkk, goInt, pure]
    · rename_i z i b' o n c hkd hx
      rw [hkd] at hkk
      simp only [TK.Ok] at hkk
      simp only [hx] at hv
      rcases hv with ⟨_, hv, rfl, _⟩ | ⟨_, B, f, _, hv⟩ | ⟨_, rfl, _, B, f, s, hv⟩
      · refine fin hk (fun ty w' => ?_)
        simp [Builtin.len_, e2, hv, run_underlying hkk, goInt, pure]
      · refine fin hk (fun ty w' => ?_)
        simp [Builtin.len_, e2, hv, run_underlying hkk, goInt, pure]
      · refine fin hk (fun ty w' => ?_)
        simp [Builtin.len_, e2, hv, run_underlying hkk, goInt, pure]
  case min =>
    have hk : (match args.toList with
      | [x, y] => asC (ev t x) fun a => asC (ev t y) fun b => match a, b with
        | .int .i64 a, .int .i64 b => k (.a (.c (.int .i64 (if b < a then b else a))))
        | .w64 a, .w64 b => k (.a (.c (.w64 (if b < a then b else a))))
        | _, _ => False
      | _ => False) := hk
    split at hk <;> try exact hk.elim
    rename_i x y h1
    obtain ⟨p, hk, hp, _⟩ := ev_c ok hk
    obtain ⟨q, hk, hq, _⟩ := ev_c ok hk
    have e1 : args = #[x, y] := by rw [← Array.toList_inj]; exact h1
    split at hk <;> try exact hk.elim
    · have hp : a.eval x = _ := hp
      have hq : a.eval y = _ := hq
      refine ⟨_, _, hk, rfl, fun o w' ho _ => ?_⟩
      subst e1
      simp only [execOp, ho, resolve]
      refine exec_v (v := .int .i64 _) ?_
      simp only [List.map_toArray, List.map_cons, List.map_nil]
      rw [hp, hq]
      rfl
    · have hk2 := hk
      clear hk
      subst e1
      exact min_w64 hp hq hk2
  case max =>
    have hk : (match args.toList with
      | x :: rest => asC (ev t x) fun
        | .int .i64 a => maxI t rest a fun n => k (.a (.c (.int .i64 n)))
        | .w64 a => maxW t rest a fun n => k (.a (.c (.w64 n)))
        | _ => False
      | _ => False) := hk
    split at hk <;> try exact hk.elim
    rename_i x rest h1
    obtain ⟨p, hk, hp, _⟩ := ev_c ok hk
    have e1 : args = (x :: rest).toArray := by rw [← Array.toList_inj]; exact h1
    have e2 : ∀ (f : Operand → Value), (args.map f).toList = f x :: rest.map f := fun f => by rw [e1]; simp
    split at hk <;> try exact hk.elim
    · have hp : a.eval x = _ := hp
      obtain ⟨n, hk, hr⟩ := maxI_spec ok hk
      refine ⟨_, _, hk, rfl, fun o w' ho _ => ?_⟩
      simp only [execOp, ho, resolve]
      refine exec_v (v := .int .i64 _) ?_
      show (match (args.map a.eval).toList with | [] => _ | x :: rest => rest.foldlM Builtin.max2 x : Sem Value).run C.P w' = _
      rw [e2, hp]
      exact hr w'
    · have hp : a.eval x = _ := hp
      obtain ⟨n, hk, hr⟩ := maxW_spec ok hk
      refine ⟨_, _, hk, rfl, fun o w' ho _ => ?_⟩
      simp only [execOp, ho, resolve]
      refine exec_v ?_
      show (match (args.map a.eval).toList with | [] => _ | x :: rest => rest.foldlM Builtin.max2 x : Sem Value).run C.P w' = _
      rw [e2, hp]
      exact hr w'
/-- Readers, all together. -/
theorem stepR_sound {op : Op} (hT : AllT C.P C.T) (ok : Ok C ⟨t, h⟩ r a w) (hk : stepR C op t h k) : RdOk C t h op a w r k := by
  cases op <;> try exact hk.elim
  case move => exact rd_move ok hk
  case assign => exact rd_assign ok hk
  case pick => exact rd_pick ok hk
  case build => exact rd_build hT ok hk
  case load => exact rd_load hT ok hk
  case nilCheck => exact rd_nilCheck ok hk
  case binOp => exact rd_binOp hT ok hk
  case unOp => exact rd_unOp ok hk
  case convert => exact rd_convert hT ok hk
  case makeInterface => exact rd_iface hT ok hk
  case makeFunc => exact rd_func ok hk
  case slice => exact rd_slice hT ok hk
  case fieldAddr => exact rd_fieldAddr hT ok hk
  case field => exact rd_field hT ok hk
  case indexAddr => exact rd_indexAddr hT ok hk
  case index => exact rd_index hT ok hk
  case lookup => exact rd_lookup hT ok hk
  case extract => exact rd_extract ok hk
  case call c =>
    obtain ⟨callee, args, ts⟩ := c
    cases callee <;> try exact hk.elim
    exact rd_builtin hT ok hk
end
end Sx
end Go.Proofs.YtnehmcpkeamghaaDoor
end

section
/-
  What makes or turns memory. Over any program. No condition of its own.
-/
namespace Go.Proofs.YtnehmcpkeamghaaDoor
set_option linter.unusedVariables false
namespace Sx
open Go.RowKit

section
variable {C : Cx} {t : List SV} {h : List (List Seg)} {r : Rho} {a : Act} {w : World} {k : SV → List (List Seg) → Prop}
theorem HeapOk.rlen (ok : HeapOk C h r w) : C.r0.length ≤ r.length := by
  rcases Nat.eq_zero_or_pos C.r0.length with h | hp
  · omega
  · have := ok.agree (C.r0.length - 1) _ (List.getElem?_eq_getElem (by omega))
    rcases Nat.lt_or_ge (C.r0.length - 1) r.length with h | h
    · omega
    · rw [List.getElem?_eq_none h] at this; cases this
/-- A new block. -/
theorem HeapOk.newG (ok : HeapOk C h r w) {l : List Seg} {o : Obj} (hA : At true (r ++ [(w.heap.size, 0)]) (w.alloc o) w.heap.size 0 (flat l)) (hM : ∀ m, l = [.obj m] → ObjAt (w.alloc o) w.heap.size m) (hP : ∀ W ms, l ≠ [.past W ms]) :
    HeapOk C (h ++ [l]) (r ++ [(w.heap.size, 0)]) (w.alloc o) := by
  have hx : Ext [] w (w.alloc o) := (Ext.refl [] w).alloc _
  have ok' := ok.ext0 hx
  have hlen : r.length = h.length := ok.len
  have hr : ∀ (i B f : Nat), (r ++ [(w.heap.size, 0)])[i]? = some (B, f) → (i < h.length ∧ r[i]? = some (B, f)) ∨ (i = h.length ∧ B = w.heap.size ∧ f = 0) := by
    intro i B f e
    rcases Nat.lt_trichotomy i h.length with hi | hi | hi
    · rw [List.getElem?_append_left (by omega)] at e; exact .inl ⟨hi, e⟩
    · subst hi; rw [← hlen] at e; simp at e; exact .inr ⟨rfl, e.1.symm, e.2.symm⟩
    · rw [List.getElem?_eq_none (by simp; omega)] at e; cases e
  have hh : ∀ (i : Nat) (ch : List Seg), (h ++ [l])[i]? = some ch → (i < h.length ∧ h[i]? = some ch) ∨ (i = h.length ∧ ch = l) := by
    intro i ch e
    rcases Nat.lt_trichotomy i h.length with hi | hi | hi
    · rw [List.getElem?_append_left hi] at e; exact .inl ⟨hi, e⟩
    · subst hi; simp at e; exact .inr ⟨rfl, e.symm⟩
    · rw [List.getElem?_eq_none (by simp; omega)] at e; cases e
  have hrl : C.r0.length ≤ r.length := ok.rlen
  refine ⟨ok'.ext, ok.agree.trans (RLe.snoc _ _), ok.rol, by simp [hlen], fun i ch B f hi hr' => ?_, fun i B f hro hr' => ?_, fun i B f hro hr' => ?_, fun i B f hro hl hr' => ?_, fun i ch hro hl hi => ?_, fun i j B f f' ch ch' hne o1 o2 hi hj hri hrj => ?_, fun i m B f hro hi hr' => ?_, fun i w1 ms hi => ?_⟩
  · rcases hr i B f hr' with ⟨h1, h2⟩ | ⟨h1, rfl, rfl⟩
    · rcases hh i ch hi with ⟨_, h3⟩ | ⟨h3, _⟩
      · exact (ok'.chunks i ch B f h3 h2).mono (RLe.snoc _ _)
      · omega
    · rcases hh i ch hi with ⟨h3, _⟩ | ⟨_, rfl⟩
      · omega
      · intro j x e'
        obtain ⟨v, e1, e2, e3⟩ := hA j x e'
        exact ⟨v, e1, e2, fun _ => e3 rfl⟩
  · rcases hr i B f hr' with ⟨h1, h2⟩ | ⟨h1, rfl, rfl⟩
    · exact ok'.lt i B f hro h2
    · simp
  · rcases hr i B f hr' with ⟨h1, h2⟩ | ⟨h1, rfl, rfl⟩
    · exact ok.own i B f hro h2
    · exact .inr ok.ext.size
  · rcases hr i B f hr' with ⟨h1, h2⟩ | ⟨h1, _, _⟩
    · exact ok.ros i B f hro hl h2
    · have := ok.rol
      omega
  · rcases hh i ch hi with ⟨_, h3⟩ | ⟨h3, _⟩
    · exact ok.dead i ch hro hl h3
    · have := ok.rol
      omega
  · rcases hr i B f hri with ⟨h1, h2⟩ | ⟨h1, rfl, rfl⟩ <;> rcases hr j _ f' hrj with ⟨h3, h4⟩ | ⟨h3, h5, _⟩
    · rcases hh i ch hi with ⟨_, h6⟩ | ⟨h6, _⟩
      · rcases hh j ch' hj with ⟨_, h7⟩ | ⟨h7, _⟩
        · exact ok.apart i j B f f' ch ch' hne o1 o2 h6 h7 h2 h4
        · omega
      · omega
    · have := ok.lt i B f o1 h2; omega
    · have := ok.lt j _ f' o2 h4; omega
    · omega
  · rcases hh i _ hi with ⟨h1, h2⟩ | ⟨_, rfl⟩
    · rcases hr i B f hr' with ⟨_, h4⟩ | ⟨h3, _⟩
      · exact ok'.maps i m B f hro h2 h4
      · omega
    · rcases hr i B f hr' with ⟨h3, _⟩ | ⟨_, rfl, rfl⟩
      · omega
      · exact hM m rfl
  · rcases hh i _ hi with ⟨h1, h2⟩ | ⟨_, h2⟩
    · obtain ⟨p1, p2, p3⟩ := ok'.past i w1 ms h2
      refine ⟨p1, p2, fun j B f ho hrj hB => ?_⟩
      rcases hr j B f hrj with ⟨_, h4⟩ | ⟨_, rfl, _⟩
      · exact p3 j B f ho h4 hB
      · have := (ok.past i w1 ms h2).1.size
        omega
    · exact absurd h2.symm (hP _ _)
theorem HeapOk.newF (ok : HeapOk C h r w) {l : List Seg} (hl1 : hd1 l = true) {cs : Array Value} (hc : IsL r (flat l) cs.toList) (e : TypeId) (fz : Nat × Nat) (hfz : fz = (0, 0) ∨ (marksOk = true ∧ cs.size ≤ fz.1)) : HeapOk C (h ++ [l]) (r ++ [(w.heap.size, 0)]) (w.alloc (.cells cs e fz)) := by
  refine ok.newG (fun j x e' => ?_) (fun m e => by rw [e] at hl1; cases hl1) (fun W ms e => by rw [e] at hl1; cases hl1)
  obtain ⟨v, e1, e2⟩ := hc.2 j x e'
  have hb : (w.alloc (.cells cs e fz)).heap[w.heap.size]? = some (.cells cs e fz) := heap_alloc_new w _
  have hj : j < cs.size := by
    have e1' : cs[j]? = some v := by simpa using e1
    exact (Array.getElem?_eq_some_iff.1 e1').1
  refine ⟨v, ?_, e2.mono (RLe.snoc _ _), fun _ => ?_⟩
  · simp only [World.cell?, hb, Nat.zero_add]
    simpa using e1
  · intro c t lo hi e
    rw [hb] at e
    injection e with e
    injection e with e1 e2 e3
    subst e1
    rcases hfz with rfl | hfz
    · injection e3 with e4 e5
      exact .inl (e4.symm.trans e5)
    · rw [e3] at hfz
      exact .inr hfz
theorem HeapOk.new (ok : HeapOk C h r w) {l : List Seg} (hl1 : hd1 l = true) {cs : Array Value} (hc : IsL r (flat l) cs.toList) (e : TypeId) : HeapOk C (h ++ [l]) (r ++ [(w.heap.size, 0)]) (w.alloc (.cells cs e)) := ok.newF hl1 hc e (0, 0) (.inl rfl)
theorem Ext.setCells {m : List Nat} {w0 : World} (B : Nat) (hB : B ∈ m ∨ w0.heap.size ≤ B) : ∀ (vs : List Value) (o : Nat) {w : World}, Ext m w0 w → Ext m w0 (w.setCells B o vs)
  | [], _, _, h => h
  | v :: vs, o, _, h => Ext.setCells B hB vs (o + 1) (Ext.set_ h (p := ⟨B, o, none⟩) hB v)
theorem heap_setCells (B : Nat) : ∀ (vs : List Value) (o : Nat) (w : World), (w.setCells B o vs).heap.size = w.heap.size ∧ ∀ k, k ≠ B → (w.setCells B o vs).heap[k]? = w.heap[k]?
  | [], _, _ => ⟨rfl, fun _ _ => rfl⟩
  | v :: vs, o, w => by
    obtain ⟨h1, h2⟩ := heap_setCells B vs (o + 1) (w.setCell ⟨B, o, none⟩ v)
    exact ⟨by rw [World.setCells, h1]; simp [World.setCell], fun k hk => by rw [World.setCells, h2 k hk]; exact Below.heap_setCell _ _ _ _ hk⟩
/-- Cells are written. -/
theorem HeapOk.put (ok : HeapOk C h r w) {i B f : Nat} (hr : r[i]? = some (B, f)) {ch l' new : List Seg} {at_ : Nat} (hi : h[i]? = some ch) (hne : ch ≠ []) (hput : Put new ch l' at_) {vs : List Value} (hv : IsL r (flat new) vs) (hro : C.ro ≤ i) (hhd : hd1 l' = true) :
    HeapOk C (h.set i l') r (w.setCells B (f + at_) vs) := by
  obtain ⟨p1, p2, p3⟩ := hput
  obtain ⟨s1, s2⟩ := heap_setCells B vs (f + at_) w
  have hA := ok.chunks i ch B f hi hr
  have hil : i < h.length := by
    rcases Nat.lt_or_ge i h.length with h | h
    · exact h
    · rw [List.getElem?_eq_none h] at hi; cases hi
  have other : ∀ (j : Nat) (c : List Seg) (B' f' : Nat), j ≠ i → h[j]? = some c → r[j]? = some (B', f') → flat c = [] ∨ B' ≠ B := by
    intro j c B' f' hji hj hrj
    by_cases hB : B' = B
    · subst hB
      exact .inl (ok.sep hji hro hj hi hrj hr hne)
    · exact .inr hB
  refine ⟨Ext.setCells B (ok.own i B f hro hr) vs _ ok.ext, ok.agree, ok.rol, by simp [ok.len], fun j c B' f' hj hrj => ?_, fun j B' f' ho hrj => by rw [s1]; exact ok.lt j B' f' ho hrj, ok.own, ok.ros, fun j c ho hl hj => ?_, fun i' j B' f1 f2 c c' hij o1 o2 h1 h2 r1 r2 => ?_, fun j m B' f' ho hj hrj => ?_, fun j w1 ms hj => ?_⟩
  · by_cases hji : j = i
    · subst hji
      rw [hr] at hrj
      injection hrj with e
      simp only [Prod.mk.injEq] at e
      obtain ⟨rfl, rfl⟩ := e
      rw [List.getElem?_set_self hil] at hj
      injection hj with hj
      subst hj
      have hsome : ∀ q, q < vs.length → (w.cell? ⟨B, f + at_ + q, none⟩).isSome = true := fun q hq => by
        have hq' : at_ + q < (flat ch).length := by rw [hv.1] at p1; omega
        obtain ⟨u, e1, _⟩ := hA _ _ (List.getElem?_eq_getElem hq')
        rw [show f + at_ + q = f + (at_ + q) by omega, e1]; rfl
      intro q x e
      rw [p3] at e
      have hfz : (Nat.ble C.ro j = true → Clean w B) → Nat.ble C.ro j = true → Clean (w.setCells B (f + at_) vs) B := fun hz hb => (hz hb).setCells _ _
      have hql : q < (flat ch).length := by
        by_cases hc : at_ ≤ q ∧ q < at_ + (flat new).length
        · omega
        · rw [if_neg hc] at e
          rcases Nat.lt_or_ge q (flat ch).length with h | h
          · exact h
          · rw [List.getElem?_eq_none h] at e; cases e
      obtain ⟨u, e1, e2, e3⟩ := hA q _ (List.getElem?_eq_getElem hql)
      by_cases hc : at_ ≤ q ∧ q < at_ + (flat new).length
      · rw [if_pos hc] at e
        obtain ⟨v, ev, hi'⟩ := hv.2 _ x e
        have hqv : q - at_ < vs.length := by rw [← hv.1]; omega
        have := World.cell?_setCells_in B vs (f + at_) w hsome (q - at_) hqv
        rw [show f + at_ + (q - at_) = f + q by omega] at this
        rw [List.getElem?_eq_getElem hqv] at ev
        injection ev with ev
        exact ⟨v, by rw [this, ev], hi', hfz e3⟩
      · rw [if_neg hc, List.getElem?_eq_getElem hql] at e
        injection e with e
        subst e
        refine ⟨u, ?_, e2, hfz e3⟩
        rw [World.cell?_setCells_out B vs (f + at_) w ⟨B, f + q, none⟩ (fun _ _ => by
          show f + q < f + at_ ∨ f + at_ + vs.length ≤ f + q
          rw [← hv.1]; omega)]
        exact e1
    · rw [List.getElem?_set_ne (Ne.symm hji)] at hj
      rcases other j c B' f' hji hj hrj with h0 | hB
      · intro q x e; rw [h0] at e; simp at e
      · exact (ok.chunks j c B' f' hj hrj).block (s2 B' hB)
  · have hji : j ≠ i := fun e => by subst e; omega
    rw [List.getElem?_set_ne (Ne.symm hji)] at hj
    exact ok.dead j c ho hl hj
  · by_cases hi1 : i' = i
    · subst hi1
      have hji : j ≠ i' := Ne.symm hij
      rw [List.getElem?_set_ne hij] at h2
      rw [hr] at r1
      injection r1 with e
      simp only [Prod.mk.injEq] at e
      obtain ⟨rfl, rfl⟩ := e
      rcases ok.apart j i' _ f2 _ c' ch hji o2 o1 h2 hi r2 hr with h | h
      · exact .inr h
      · exact absurd h hne
    · rw [List.getElem?_set_ne (Ne.symm hi1)] at h1
      by_cases hj1 : j = i
      · subst hj1
        rw [hr] at r2
        injection r2 with e
        simp only [Prod.mk.injEq] at e
        obtain ⟨rfl, rfl⟩ := e
        rcases ok.apart i' j _ f1 _ c ch hi1 o1 o2 h1 hi r1 hr with h | h
        · exact .inl h
        · exact absurd h hne
      · rw [List.getElem?_set_ne (Ne.symm hj1)] at h2
        exact ok.apart i' j B' f1 f2 c c' hij o1 o2 h1 h2 r1 r2
  · by_cases hji : j = i
    · subst hji
      rw [List.getElem?_set_self hil] at hj
      injection hj with hj
      subst hj
      cases hhd
    · rw [List.getElem?_set_ne (Ne.symm hji)] at hj
      refine (ok.maps j m B' f' ho hj hrj).block (s2 B' fun hB => ?_)
      subst hB
      rcases ok.apart j i _ f' f _ ch hji ho hro hj hi hrj hr with h | h
      · cases h
      · exact hne h
  · by_cases hji : j = i
    · subst hji
      rw [List.getElem?_set_self hil] at hj
      injection hj with hj
      subst hj
      cases hhd
    · rw [List.getElem?_set_ne (Ne.symm hji)] at hj
      obtain ⟨p1, p2, p3⟩ := ok.past j w1 ms hj
      refine ⟨Ext.setCells B ?_ vs _ p1, p2, p3⟩
      rcases Nat.lt_or_ge B w1.heap.size with hlt | hge
      · exact .inl (p3 i B f hro hr hlt)
      · exact .inr hge
/-- An operation makes or turns memory. -/
def blockOf : Value → Option Nat
  | .pointer (some a) => some a.block
  | .slice (some a) _ _ => some a.block
  | .map (some b) => some b
  | _ => none
/-- What an operation turns of the old: the block that it writes to. -/
def Tch (op : Op) (a : Act) (w w' : World) : Prop := ∃ m : List Nat, Ext m w w' ∧ ∀ B ∈ m, ∃ x, tgtOf op = some x ∧ blockOf (a.eval x) = some B
theorem Tch.none {op : Op} {a : Act} {w w' : World} (e : Ext [] w w') : Tch op a w w' := ⟨[], e, fun B hB => by cases hB⟩
theorem tgt_st {op : Op} (h : isSt op = false) : tgtOf op = Option.none := by
  unfold tgtOf
  split
  · cases h
  · cases h
  · cases h
  · cases h
  · cases h
  · rfl
theorem Tch.quiet {op : Op} {a : Act} {w w' : World} (h : Tch op a w w') (hs : isSt op = false) : Ext [] w w' := by
  obtain ⟨m, e, hm⟩ := h
  have : m = [] := List.eq_nil_iff_forall_not_mem.2 fun B hB => by
    obtain ⟨x, h1, _⟩ := hm B hB
    rw [tgt_st hs] at h1
    cases h1
  rwa [this] at e
def ChOk (C : Cx) (h : List (List Seg)) (op : Op) (a : Act) (w : World) (r : Rho) (k : SV → List (List Seg) → Prop) : Prop :=
  ∃ v x h' r' w', k x h' ∧ x.Is r' v ∧ RLe r r' ∧ HeapOk C h' r' w' ∧ Tch op a w w' ∧ Keeps h h' ∧ ∀ o : Oper, o.op = op → (execOp a.eval o).run C.P w = .ok (.value v) w' ∨ ((execOp a.eval o).run C.P w = .ok .skip w' ∧ v = undef)
theorem ptr_new (ok : HeapOk C h r w) : SV.Is (r ++ [(w.heap.size, 0)]) (.a (.c (.p h.length 0 0))) (.pointer (some ⟨w.heap.size, 0, none⟩)) :=
  ⟨w.heap.size, 0, by rw [← ok.len]; simp, by simp⟩
theorem sl_new (ok : HeapOk C h r w) (n c : Nat) : SV.Is (r ++ [(w.heap.size, 0)]) (.a (.c (.sl h.length 0 0 n c))) (.slice (some ⟨w.heap.size, 0, none⟩) n c) :=
  ⟨w.heap.size, 0, by rw [← ok.len]; simp, by simp⟩
theorem newVar_run {P : Program} (e : TypeId) (v : Value) (w : World) : (newVar e v).run P w = .ok ⟨w.heap.size, 0, none⟩ (w.alloc (.cells v.cells e)) := rfl
theorem newRow_run {P : Program} (e : TypeId) (cs : Array Value) (w : World) : (newRow e cs).run P w = .ok ⟨w.heap.size, 0, none⟩ (w.alloc (.cells cs e)) := rfl
theorem zero_is {P : Program} {u : TypeId} {d : TD} (hd : TdOk P u d) (r : Rho) : IsL r (flat d.zero) d.zeroVal.cells.toList := by
  by_cases hg : d.isAgg = true
  · rw [zeroVal_agg hg]; exact zero_cells hd r
  · have hs := hd.sing
    simp only [hg, Bool.false_or] at hs
    split at hs
    · rename_i x hz
      have hp : x.plain = true := by
        have := hd.plain
        rw [hz] at this
        simpa [flat] using this
      have hv : d.zeroVal = x.val := by simp [TD.zeroVal, hg, hz, flat]
      rw [hv, hz, cells_one (SC.is_val r hp).one]
      exact ⟨rfl, fun j y e => by cases j <;> simp [flat] at e; subst e; exact ⟨_, rfl, SC.is_val r hp⟩⟩
    · cases hs
theorem ch_alloc {u : TypeId} (hT : AllT C.P C.T) (ok : Ok C ⟨t, h⟩ r a w) (hk : stepC C (.alloc u) t h k) : ChOk C h (.alloc u) a w r k := by
  unfold stepC at hk
  obtain ⟨d, hd, hk⟩ := td_spec hT hk
  split at hk <;> try exact hk.elim
  rename_i hz
  rw [addH_eq, Nat.zero_add] at hk
  refine ⟨_, _, _, _, _, hk, ptr_new ok.heap, RLe.snoc _ _, ok.heap.new hz (zero_is hd r) u, Tch.none ((Ext.refl _ _).alloc _), Keeps.snoc _ _, fun o ho => .inl ?_⟩
  simp only [execOp, ho]
  refine exec_v ?_
  simp only [Instr.alloc, Sem.run_bind, hd.zeroValue, Result.andThen_ok, newVar_run]
  rfl
theorem ch_box {u : TypeId} {x : Operand} (hT : AllT C.P C.T) (ok : Ok C ⟨t, h⟩ r a w) (hk : stepC C (.box u x) t h k) : ChOk C h (.box u x) a w r k := by
  unfold stepC at hk
  obtain ⟨d, hd, hk⟩ := td_spec hT hk
  obtain ⟨l, hk, hl⟩ := toSegs_spec hk
  split at hk <;> try exact hk.elim
  rename_i hz
  rw [addH_eq, Nat.zero_add] at hk
  obtain ⟨vs, hvs, hv⟩ := hl r _ (ok.ev x)
  refine ⟨_, _, _, _, _, hk.2, ptr_new ok.heap, RLe.snoc _ _, ok.heap.new (l := l) hz (cs := (a.eval x).cells) (by rw [hvs]; simpa using hv) u, Tch.none ((Ext.refl _ _).alloc _), Keeps.snoc _ _, fun o ho => .inl ?_⟩
  simp only [execOp, ho]
  refine exec_v ?_
  simp only [Instr.box, Sem.run_bind, newVar_run, Result.andThen_ok]
  rfl
theorem putS_ne {new : List Seg} {l : List Seg} {b o : Nat} {k : List Seg → Prop} (h : putS new l b o k) : l ≠ [] := by
  rintro rfl
  cases b <;> exact h
theorem putS_st {new : List Seg} {l : List Seg} {b o : Nat} {k : List Seg → Prop} (h : putS new l b o k) : stirs l = true := by
  cases l with
  | nil => cases b <;> exact h.elim
  | cons a l => cases a <;> first | rfl | (cases b <;> exact h.elim)
theorem ch_store {u : TypeId} {x y : Operand} (hT : AllT C.P C.T) (ok : Ok C ⟨t, h⟩ r a w) (hk : stepC C (.store u x y) t h k) : ChOk C h (.store u x y) a w r k := by
  unfold stepC at hk
  obtain ⟨d, hd, hk⟩ := td_spec hT hk
  obtain ⟨new, hk, hn⟩ := toSegs_spec hk
  obtain ⟨p, hk, hp, _⟩ := ev_c ok hk
  split at hk
  · rename_i i b o _
    obtain ⟨vs, hvs, hv⟩ := hn r _ (ok.ev y)
    split at hk
    · rename_i hsz
      obtain ⟨B, f, hr, hp⟩ := hp
      have hvl : vs = [] := List.eq_nil_of_length_eq_zero (hv.1.symm.trans hk.1)
      subst hvl
      have hs0 : (a.eval y).cells.size = 0 := by rw [hvs]; rfl
      refine ⟨undef, .tup [], h, r, w, hk.2, ⟨[], rfl, rfl, fun j x e => by simp at e⟩, RLe.refl _, ok.heap, Tch.none (Ext.refl _ _), Keeps.refl _, fun o' ho => .inr ⟨?_, rfl⟩⟩
      simp only [execOp, ho]
      simp only [Instr.storeAt, hp, Instr.sureAddr, storeVar, Sem.run_bind]
      have e0 : (pure (⟨B, f + (b + o), none⟩ : Addr) : Sem Addr).run C.P w = .ok ⟨B, f + (b + o), none⟩ w := rfl
      rw [e0]
      simp only [Result.andThen_ok, hd.sizeOf, hsz, hs0, ne_eq, not_true_eq_false, if_false]
      rw [hvs]
      rfl
    rename_i sz hszd
    split at hk <;> try exact hk.elim
    rename_i hro
    obtain ⟨B, f, hr, hp⟩ := hp
    have hne := putS_ne hk
    have hst0 := putS_st hk
    obtain ⟨l', hk, hput, hhd⟩ := putS_spec hk
    rw [setH_eq] at hk
    have hi : h[i]? = some (getH h i) := by
      rw [getH_eq] at hne ⊢
      cases e : h[i]? with
      | none => rw [e] at hne; exact absurd rfl hne
      | some c => rfl
    have hA := ok.heap.chunks i _ B f hi hr
    refine ⟨undef, _, _, _, _, hk.2, ⟨[], rfl, rfl, fun j x e => by simp at e⟩, RLe.refl _, ok.heap.put hr hi hne hput hv (ble_le hro) hhd, ⟨[B], Ext.setCells B (.inl (by simp)) _ _ (Ext.refl _ _), fun B' hB' => ⟨x, rfl, by rw [hp]; simp at hB'; simp [blockOf, hB']⟩⟩, Keeps.set hi hst0 _, fun o' ho => .inr ⟨?_, rfl⟩⟩
    have hsz : (a.eval y).cells.size = d.size := by rw [hvs, hszd]; show vs.toArray.size = sz + 1; rw [← hk.1, hv.1]; simp
    have hst := run_storeCells_cells (P := C.P) B (f + (b + o)) vs 0 w (fun j hj => by
        have hq : b + o + j < (flat (getH h i)).length := by have := hput.1; rw [hv.1] at this; omega
        obtain ⟨u', e1, _⟩ := hA _ _ (List.getElem?_eq_getElem hq)
        rw [show f + (b + o) + 0 + j = f + (b + o + j) by omega, e1]; rfl) (fun j hj => by
        have hq : b + o + j < (flat (getH h i)).length := by have := hput.1; rw [hv.1] at this; omega
        obtain ⟨u', e1, _, e3⟩ := hA _ _ (List.getElem?_eq_getElem hq)
        rw [show f + (b + o) + 0 + j = f + (b + o + j) by omega]; exact (e3 hro).fr e1) hv.one
    simp only [execOp, ho]
    simp only [Instr.storeAt, hp, Instr.sureAddr, storeVar, Sem.run_bind]
    have e0 : (pure (⟨B, f + (b + o), none⟩ : Addr) : Sem Addr).run C.P w = .ok ⟨B, f + (b + o), none⟩ w := rfl
    rw [e0]
    simp only [Result.andThen_ok, hd.sizeOf, hsz, ne_eq, not_true_eq_false, if_false]
    rw [hvs]
    simp only [Nat.add_zero] at hst
    rw [show vs.toArray.toList = vs from rfl, hst]
    rfl
  · exact hk.elim
theorem Ext.setObj {m : List Nat} {w0 : World} {B : Nat} (hB : B ∈ m ∨ w0.heap.size ≤ B) {w : World} (h : Ext m w0 w) (o : Obj) : Ext m w0 { w with heap := w.heap.setIfInBounds B o } :=
  ⟨h.os, h.tape, h.output, by simpa using h.size, fun k hk hn => by
    have hkB : B ≠ k := fun e => by subst e; rcases hB with hB | hB; exact hn hB; omega
    show (w.heap.setIfInBounds B o)[k]? = _
    rw [Array.getElem?_setIfInBounds_ne hkB]
    exact h.block k hk hn⟩
/-- A map is turned, or what goes through a string. -/
theorem HeapOk.putObj' (ok : HeapOk C h r w) {i B f : Nat} (hr : r[i]? = some (B, f)) {m m' : MapD} (hi : h[i]? = some [.obj m]) (hro : C.ro ≤ i) {o : Obj} (he : ∀ w' : World, w'.heap[B]? = some o → ObjAt w' B m') :
    HeapOk C (h.set i [.obj m']) r { w with heap := w.heap.setIfInBounds B o } := by
  have hlt : B < w.heap.size := ok.lt i B f hro hr
  have hil : i < h.length := by
    rcases Nat.lt_or_ge i h.length with h | h
    · exact h
    · rw [List.getElem?_eq_none h] at hi; cases hi
  have s2 : ∀ k, k ≠ B → (w.heap.setIfInBounds B o)[k]? = w.heap[k]? := fun k hk => by rw [Array.getElem?_setIfInBounds_ne (Ne.symm hk)]
  refine ⟨Ext.setObj (ok.own i B f hro hr) ok.ext _, ok.agree, ok.rol, by simp [ok.len], fun j c B' f' hj hrj => ?_, fun j B' f' ho hrj => by simpa using ok.lt j B' f' ho hrj, ok.own, ok.ros, fun j c ho hl hj => ?_, fun i' j B' f1 f2 c c' hij o1 o2 h1 h2 r1 r2 => ?_, fun j m2 B' f' ho hj hrj => ?_, fun j w1 ms hj => ?_⟩
  · by_cases hji : j = i
    · subst hji
      rw [List.getElem?_set_self hil] at hj
      injection hj with hj
      subst hj
      intro q x e
      cases e
    · rw [List.getElem?_set_ne (Ne.symm hji)] at hj
      by_cases hB : B' = B
      · subst hB
        have h0 := ok.sep hji hro hj hi hrj hr (by simp)
        intro q x e; rw [h0] at e; simp at e
      · exact (ok.chunks j c B' f' hj hrj).block (s2 B' hB)
  · have hji : j ≠ i := fun e => by subst e; omega
    rw [List.getElem?_set_ne (Ne.symm hji)] at hj
    exact ok.dead j c ho hl hj
  · have back : ∀ (j : Nat) (c : List Seg), (h.set i [.obj m'])[j]? = some c → ∃ c0, h[j]? = some c0 ∧ (c0 = [] → c = []) := fun j c e => by
      by_cases hji : j = i
      · subst hji
        exact ⟨_, hi, fun e => by cases e⟩
      · rw [List.getElem?_set_ne (Ne.symm hji)] at e
        exact ⟨c, e, id⟩
    obtain ⟨d1, e1, k1⟩ := back i' c h1
    obtain ⟨d2, e2, k2⟩ := back j c' h2
    rcases ok.apart i' j B' f1 f2 d1 d2 hij o1 o2 e1 e2 r1 r2 with h | h
    · exact .inl (k1 h)
    · exact .inr (k2 h)
  · by_cases hji : j = i
    · subst hji
      rw [List.getElem?_set_self hil] at hj
      injection hj with hj
      injection hj with hj
      injection hj with hj
      subst hj
      rw [hr] at hrj
      injection hrj with e
      simp only [Prod.mk.injEq] at e
      obtain ⟨rfl, rfl⟩ := e
      exact he _ (by simp [hlt])
    · rw [List.getElem?_set_ne (Ne.symm hji)] at hj
      refine (ok.maps j m2 B' f' ho hj hrj).block (s2 B' fun hB => ?_)
      subst hB
      rcases ok.apart j i _ f' f _ _ hji ho hro hj hi hrj hr with h | h
      · cases h
      · cases h
  · by_cases hji : j = i
    · subst hji
      rw [List.getElem?_set_self hil] at hj
      injection hj with hj
      injection hj with hj
      cases hj
    · rw [List.getElem?_set_ne (Ne.symm hji)] at hj
      obtain ⟨p1, p2, p3⟩ := ok.past j w1 ms hj
      refine ⟨Ext.setObj ?_ p1 _, p2, p3⟩
      rcases Nat.lt_or_ge B w1.heap.size with hlt | hge
      · exact .inl (p3 i B f hro hr hlt)
      · exact .inr hge
theorem HeapOk.putObj (ok : HeapOk C h r w) {i B f : Nat} (hr : r[i]? = some (B, f)) {m m' : MapD} (hi : h[i]? = some [.obj m]) (hro : C.ro ≤ i) {es : Array MapEntry} {clock : Nat} (hm : m'.isM = true) (he : pairs es.toList = m'.ents) :
    HeapOk C (h.set i [.obj m']) r { w with heap := w.heap.setIfInBounds B (.map es clock) } :=
  ok.putObj' hr hi hro fun w' e => .ofMap hm ⟨es, clock, e, he⟩
theorem ents_empty (mk : MK) : mk.empty.ents = [] := by cases mk <;> rfl
theorem ch_makeMap {u : TypeId} {x : Option Operand} (hT : AllT C.P C.T) (ok : Ok C ⟨t, h⟩ r a w) (hk : stepC C (.makeMap u x) t h k) : ChOk C h (.makeMap u x) a w r k := by
  unfold stepC at hk
  obtain ⟨d, hd, hk⟩ := td_spec hT hk
  split at hk <;> try exact hk.elim
  rename_i mk hdk
  obtain ⟨hx, hk⟩ := hk
  rw [addH_eq, Nat.zero_add] at hk
  have hkd := hd.kind
  rw [hdk] at hkd
  obtain ⟨kt, et, hu, hmk⟩ := hkd
  refine ⟨_, _, _, _, _, hk, (show SV.Is (r ++ [(w.heap.size, 0)]) (.a (.c (.mh h.length))) (.map (some w.heap.size)) from ⟨w.heap.size, 0, by rw [← ok.heap.len]; simp, rfl⟩), RLe.snoc _ _, ok.heap.newG (l := [.obj mk.empty]) (o := .map #[] 0) (fun j y e => by cases e) (fun m e => ?_) (fun W ms e => by cases e), Tch.none ((Ext.refl _ _).alloc _), Keeps.snoc _ _, fun o ho => .inl ?_⟩
  · injection e with e
    injection e with e
    subst e
    exact .ofMap (by cases mk <;> rfl) ⟨#[], 0, heap_alloc_new w _, (ents_empty mk).symm⟩
  · simp only [execOp, ho]
    refine exec_v ?_
    cases x with
    | none => simp [Instr.makeMap, Result.andThen]
    | some x =>
      obtain ⟨p, hx, hp, _⟩ := ev_c ok hx
      split at hx <;> try exact hx.elim
      have hp : a.eval x = _ := hp
      simp [Instr.makeMap, run_underlying hu, asInt, asIntOf, Result.andThen, hp]
theorem ch_mapUpdate {u : TypeId} {x y z : Operand} (hT : AllT C.P C.T) (ok : Ok C ⟨t, h⟩ r a w) (hk : stepC C (.mapUpdate u x y z) t h k) : ChOk C h (.mapUpdate u x y z) a w r k := by
  unfold stepC at hk
  obtain ⟨d, hd, hk⟩ := td_spec hT hk
  split at hk <;> try exact hk.elim
  rename_i mk i hdk hx
  split at hk <;> try exact hk.elim
  rename_i m hro hm
  obtain ⟨key, hk, hkey, -⟩ := ev_c ok hk
  have hp := ok.ev x
  simp only [hx] at hp
  obtain ⟨B, f, hr, hp⟩ := hp
  have hi : h[i]? = some [.obj m] := by
    rw [getH_eq] at hm
    cases e : h[i]? with
    | none => rw [e] at hm; cases hm
    | some c => rw [e] at hm; exact congrArg some hm
  have hO : ObjAt w B m := ok.heap.maps i m B f (ble_le hro) hi hr
  have hkd := hd.kind
  rw [hdk] at hkd
  obtain ⟨kt, et, hu, hmk⟩ := hkd
  have hz := ok.ev z
  have hmM : m.isM = true := by
    cases m with
    | it l p => cases mk <;> exact (show False from hk).elim
    | _ => rfl
  obtain ⟨es, clock, e1, e2⟩ := hO.map hmM
  have fin : ∀ (m' : MapD) (es' : Array MapEntry) (clock' : Nat), m'.isM = true → (setH h i [.obj m'] fun h => k (.tup []) h) → pairs es'.toList = m'.ents → (Instr.mapUpdate u (a.eval x) (a.eval y) (a.eval z)).run C.P w = .ok () { w with heap := w.heap.setIfInBounds B (.map es' clock') } → ChOk C h (.mapUpdate u x y z) a w r k := by
    intro m' es' clock' hm' hk he hrun
    rw [setH_eq] at hk
    refine ⟨undef, .tup [], h.set i [.obj m'], r, { w with heap := w.heap.setIfInBounds B (.map es' clock') }, hk, ⟨[], rfl, rfl, fun j x e => by simp at e⟩, RLe.refl _, ok.heap.putObj hr hi (ble_le hro) hm' he, ⟨[B], Ext.setObj (.inl (by simp)) (Ext.refl _ _) _, fun B' hB' => ⟨x, rfl, by rw [hp]; simp at hB'; simp [blockOf, hB']⟩⟩, Keeps.set hi rfl _, fun o' ho => .inr ⟨?_, rfl⟩⟩
    simp only [execOp, ho]
    rw [Sem.run_bind, hrun]
    rfl
  generalize ev t z = vz at hk hz
  cases mk
  case w64 =>
    cases m with
    | w64 l =>
      cases key with
      | w64 kx =>
        have hkey : a.eval y = (fun z : BitVec 64 => Value.int .u64 (z.toNat : Int)) kx := hkey
        obtain ⟨v, rfl, hk⟩ : ∃ v, vz = .a (.c (.w64 v)) ∧ setH h i [.obj (.w64 (putK kx v l))] fun h => k (.tup []) h := by
          cases vz with
          | a x => cases x with
            | c x => cases x with
              | w64 v => exact ⟨v, rfl, hk⟩
              | _ => exact hk.elim
            | agg _ => exact hk.elim
          | _ => exact hk.elim
        have hz : a.eval z = (fun z : BitVec 64 => Value.int .u64 (z.toNat : Int)) v := hz
        obtain ⟨es', clock', hrun, he⟩ := update_run (kv := (fun z : BitVec 64 => Value.int .u64 (z.toNat : Int))) (vv := (fun z : BitVec 64 => Value.int .u64 (z.toNat : Int))) (d := .int .u64) (fun _ => rfl) kv64 kx v hu hmk.1 e1 (l := l) e2
        exact fin _ es' clock' rfl hk he (by rw [hp, hkey, hz]; exact hrun)
      | _ => exact hk.elim
    | _ => exact hk.elim
  case w8b =>
    cases m with
    | w8b l =>
      cases key with
      | w8 kx =>
        have hkey : a.eval y = (fun z : BitVec 8 => Value.int .u8 (z.toNat : Int)) kx := hkey
        obtain ⟨v, rfl, hk⟩ : ∃ v, vz = .a (.c (.bool v)) ∧ setH h i [.obj (.w8b (putK kx v l))] fun h => k (.tup []) h := by
          cases vz with
          | a x => cases x with
            | c x => cases x with
              | bool v => exact ⟨v, rfl, hk⟩
              | _ => exact hk.elim
            | agg _ => exact hk.elim
          | _ => exact hk.elim
        have hz : a.eval z = (fun z : Bool => Value.bool z) v := hz
        obtain ⟨es', clock', hrun, he⟩ := update_run (kv := (fun z : BitVec 8 => Value.int .u8 (z.toNat : Int))) (vv := (fun z : Bool => Value.bool z)) (d := .int .u8) (fun _ => rfl) kv8 kx v hu hmk.1 e1 (l := l) e2
        exact fin _ es' clock' rfl hk he (by rw [hp, hkey, hz]; exact hrun)
      | _ => exact hk.elim
    | _ => exact hk.elim
  case strs =>
    cases m with
    | strs l =>
      cases key with
      | str kx =>
        have hkey : a.eval y = (fun z : List UInt8 => Value.string ⟨z.toArray⟩) kx := hkey
        obtain ⟨rfl, hk⟩ : vz = .a (.agg []) ∧ setH h i [.obj (.strs (putL' kx l))] fun h => k (.tup []) h := by
          cases vz with
          | a x => cases x with
            | c x => exact hk.elim
            | agg g => cases g with
              | nil => exact ⟨rfl, hk⟩
              | cons _ _ => exact hk.elim
          | _ => exact hk.elim
        obtain ⟨vs, hz, hv⟩ := hz
        have hvs : vs = [] := List.eq_nil_of_length_eq_zero hv.1.symm
        subst hvs
        have hz : a.eval z = (fun _ : Unit => Value.agg #[]) () := hz
        obtain ⟨es', clock', hrun, he⟩ := update_run (kv := (fun z : List UInt8 => Value.string ⟨z.toArray⟩)) (vv := (fun _ : Unit => Value.agg #[])) (d := .string) (fun _ => trivial) kvs kx () hu hmk.1 e1 (l := l.map fun x => (x, ())) (e2.trans (by unfold MapD.ents; rw [List.map_map]; rfl))
        exact fin _ es' clock' rfl hk (he.trans (by rw [← putL_eq, List.map_map]; rfl)) (by rw [hp, hkey, hz]; exact hrun)
      | _ => exact hk.elim
    | _ => exact hk.elim
theorem ch_range {u : TypeId} {x : Operand} (hT : AllT C.P C.T) (ok : Ok C ⟨t, h⟩ r a w) (hk : stepC C (.range u x) t h k) : ChOk C h (.range u x) a w r k := by
  unfold stepC at hk
  obtain ⟨d, hd, hk⟩ := td_spec hT hk
  have hkd := hd.kind
  have hp := ok.ev x
  split at hk <;> try exact hk.elim
  rename_i l hdk hx
  rw [hdk] at hkd
  rw [addH_eq, Nat.zero_add] at hk
  simp only [hx] at hp
  have hp : a.eval x = .string ⟨l.toArray⟩ := hp
  have hkd : C.P.underlying u = some .string := hkd
  refine ⟨_, _, _, _, _, hk, (show SV.Is (r ++ [(w.heap.size, 0)]) (.a (.c (.ih h.length))) (.pointer (some ⟨w.heap.size, 0, none⟩)) from ⟨w.heap.size, 0, by rw [← ok.heap.len]; simp, rfl⟩), RLe.snoc _ _, ok.heap.newG (l := [.obj (.it l 0)]) (o := .stringIter ⟨l.toArray⟩ 0) (fun j y e => by cases e) (fun m e => ?_) (fun W ms e => by cases e), Tch.none ((Ext.refl _ _).alloc _), Keeps.snoc _ _, fun o ho => .inl ?_⟩
  · injection e with e
    injection e with e
    subst e
    exact heap_alloc_new w _
  · simp only [execOp, ho]
    refine exec_v ?_
    rw [hp]
    simp only [Instr.range, Sem.run_bind, run_underlying hkd, Result.andThen_ok]
    rfl
theorem ch_next {x : Operand} {s : Bool} (hT : AllT C.P C.T) (ok : Ok C ⟨t, h⟩ r a w) (hk : stepC C (.next x s) t h k) : ChOk C h (.next x s) a w r k := by
  cases s with
  | false => exact (show False from hk).elim
  | true =>
  simp only [stepC] at hk
  have hp := ok.ev x
  split at hk <;> try exact hk.elim
  rename_i i hx
  simp only [hx] at hp
  obtain ⟨B, f, hr, hp⟩ := hp
  split at hk <;> try exact hk.elim
  rename_i l pos hro hm
  have hi : h[i]? = some [.obj (.it l pos)] := by
    rw [getH_eq] at hm
    cases e : h[i]? with
    | none => rw [e] at hm; cases hm
    | some c => rw [e] at hm; exact congrArg some hm
  have hO : w.heap[B]? = some (.stringIter ⟨l.toArray⟩ pos) := ok.heap.maps i _ B f (ble_le hro) hi hr
  have hlt : B < w.heap.size := (Array.getElem?_eq_some_iff.1 hO).1
  have hsz : (⟨l.toArray⟩ : ByteArray).size = l.length := by simp [ByteArray.size]
  obtain ⟨h1, h2⟩ := hk
  by_cases hpos : pos < l.length
  · have hk := h1 hpos
    rw [setH_eq] at hk
    refine ⟨.tuple #[.bool true, .int .i64 (pos : Int), .int .i32 ((Utf8.decode ⟨l.toArray⟩ pos).1 : Int)], _, h.set i [.obj (.it l (pos + (Utf8.decode ⟨l.toArray⟩ pos).2))], r, { w with heap := w.heap.setIfInBounds B (.stringIter ⟨l.toArray⟩ (pos + (Utf8.decode ⟨l.toArray⟩ pos).2)) }, hk, ⟨[.bool true, .int .i64 (pos : Int), .int .i32 ((Utf8.decode ⟨l.toArray⟩ pos).1 : Int)], rfl, rfl, fun j y e => ?_⟩, RLe.refl _, ok.heap.putObj' hr hi (ble_le hro) (fun w' e => e), ⟨[B], Ext.setObj (.inl (by simp)) (Ext.refl _ _) _, fun B' hB' => ⟨x, rfl, by rw [hp]; simp at hB'; simp [blockOf, hB']⟩⟩, Keeps.set hi rfl _, fun o' ho => .inl ?_⟩
    · match j, e with
      | 0, e => cases e; exact ⟨_, rfl, rfl⟩
      | 1, e => cases e; exact ⟨_, rfl, rfl⟩
      | 2, e => cases e; exact ⟨_, rfl, rfl⟩
    · simp only [execOp, ho]
      refine exec_v ?_
      rw [hp]
      simp only [Instr.next, getObj, setObj, Sem.run_bind, Sem.run, hO, Result.andThen, hsz, hpos, if_true]
      simp [goInt]
  · have hk := h2 hpos
    refine ⟨.tuple #[.bool false], _, h, r, w, hk, ⟨[.bool false], rfl, rfl, fun j y e => ?_⟩, RLe.refl _, ok.heap, Tch.none (Ext.refl _ _), Keeps.refl _, fun o' ho => .inl ?_⟩
    · match j, e with
      | 0, e => cases e; exact ⟨_, rfl, rfl⟩
    · simp only [execOp, ho]
      refine exec_v ?_
      rw [hp]
      simp [Instr.next, getObj, Sem.run, hO, hsz, hpos]
end
end Sx
end Go.Proofs.YtnehmcpkeamghaaDoor
end

section
/-
  make, slices that are written out; all that makes or turns memory. Over any program. No condition of its own.
-/
namespace Go.Proofs.YtnehmcpkeamghaaDoor
set_option linter.unusedVariables false
namespace Sx
open Go.RowKit

section
variable {C : Cx} {t : List SV} {h : List (List Seg)} {r : Rho} {a : Act} {w : World} {k : SV → List (List Seg) → Prop}
theorem zero_rep {P : Program} {u : TypeId} {d : TD} (hd : TdOk P u d) (r : Rho) (h0 : d.size ≠ 0) (n : Nat) :
    IsL r ((List.range n).map fun j => nthC (flat d.zero) (j % d.size)) ((Array.range n).map (d.zeroVal.cells[· % d.zeroVal.cells.size]!)).toList := by
  have hz := zero_is hd r
  have hs : d.zeroVal.cells.size = d.size := by rw [← hd.len, hz.1]; simp
  refine ⟨by simp, fun j x e => ?_⟩
  have hj : j < n := by
    rcases Nat.lt_or_ge j n with h | h
    · exact h
    · rw [List.getElem?_eq_none (by simpa using h)] at e; cases e
  simp [hj] at e
  have hm : j % d.size < d.size := Nat.mod_lt _ (by omega)
  obtain ⟨v, e1, e2⟩ := hz.2 (j % d.size) ((flat d.zero)[j % d.size]'(by rw [hd.len]; exact hm)) (List.getElem?_eq_getElem _)
  refine ⟨v, ?_, ?_⟩
  · simp only [Array.toList_map, Array.toList_range, List.getElem?_map, List.getElem?_range hj, Option.map_some, hs]
    congr 1
    rw [Array.getElem?_toList] at e1
    simp only [getElem!_def, e1]
  · rw [nthC_eq, List.getElem?_eq_getElem (by rw [hd.len]; exact hm)] at e
    simp at e
    rw [← e]; exact e2
theorem rep_one (n : Nat) (z : SC) : (List.range n).map (fun j => nthC [z] (j % 1)) = List.replicate n z := by
  apply List.ext_getElem?
  intro j
  by_cases hj : j < n
  · simp [hj, nthC, Nat.mod_one]
  · simp [hj]
theorem row_nthC (l : List SC) : flat [Seg.row l.length (nthC l)] = l := by
  simp only [flat, List.append_nil]
  apply List.ext_getElem?
  intro j
  by_cases hj : j < l.length
  · simp [hj, nthC_eq]
  · simp [hj]
theorem ch_buildSlice {u : TypeId} {len : Nat} {parts : Array (Nat × Operand)} (hT : AllT C.P C.T) (ok : Ok C ⟨t, h⟩ r a w) (hk : stepC C (.buildSlice u len parts) t h k) : ChOk C h (.buildSlice u len parts) a w r k := by
  unfold stepC at hk
  obtain ⟨d, hd, hk⟩ := td_spec hT hk
  have hkk := hd.kind
  split at hk <;> try exact hk.elim
  rename_i e hkd
  rw [hkd] at hkk
  simp only [TK.Ok] at hkk
  obtain ⟨de, hde, hk⟩ := td_spec hT hk
  have fin : ∀ {l' : List Seg} {cs' : Array Value}, de.size ≠ 0 → len * de.size ≤ 16777216 → k (.a (.c (.sl h.length 0 0 len len))) (h ++ [l']) → hd1 l' = true → IsL r (flat l') cs'.toList →
      Instr.fill (fun i => some (i * de.size, de.size)) ((Array.range (len * de.size)).map (de.zeroVal.cells[· % de.zeroVal.cells.size]!)) (parts.toList.map fun p => (p.1, a.eval p.2)) = some cs' → ChOk C h (.buildSlice u len parts) a w r k := by
    intro l' cs' hs hb h1 hz1 h2 h3
    refine ⟨_, _, _, _, _, h1, sl_new ok.heap len len, RLe.snoc _ _, ok.heap.new hz1 h2 e, Tch.none ((Ext.refl _ _).alloc _), Keeps.snoc _ _, fun o ho => .inl ?_⟩
    simp only [execOp, ho]
    refine exec_v ?_
    simp only [Instr.buildSlice, Sem.run_bind, run_underlying hkk, Result.andThen_ok, hde.sizeOf]
    rw [if_neg (by omega)]
    by_cases h0 : len * de.size = 0
    · rw [if_pos h0]
      have e2 : ((Array.range (len * de.size)).map fun x => (#[] : Array Value)[x % (#[] : Array Value).size]!) = (Array.range (len * de.size)).map (de.zeroVal.cells[· % de.zeroVal.cells.size]!) := by
        rw [h0]; simp
      simp only [Sem.run_bind, Sem.run_pure, Result.andThen_ok, e2]
      rw [map_parts, h3]
      simp only [Sem.run_bind, newRow_run, Result.andThen_ok]
      rfl
    · rw [if_neg h0]
      simp only [Sem.run_bind, Sem.run_pure, Result.andThen_ok, hde.zeroValue]
      rw [map_parts, h3]
      simp only [Sem.run_bind, newRow_run, Result.andThen_ok]
      rfl
  split at hk
  · rename_i z hb hz
    have hs1 : de.size = 1 := by rw [← hde.len, hz]; rfl
    have hb := Nat.le_of_ble_eq_true hb
    rw [reps_eq] at hk
    have hrep := zero_rep hde r (by omega) (len * de.size)
    rw [hz, hs1, show flat [Seg.one z] = [z] from rfl, rep_one, Nat.mul_one] at hrep
    obtain ⟨l', cs', h1, h2, h3, h4⟩ := buildR_spec ok hk hrep
    rw [addH_eq, Nat.zero_add] at h1
    refine fin (by omega) hb h1 rfl ?_ (by rw [hs1]; simpa using h4)
    have hm : l'.length = len := by rw [h3]; simp
    subst hm
    rw [row_nthC]; exact h2
  · rename_i z hb _
    have hb := Nat.le_of_ble_eq_true hb
    split at hk
    · exact hk.elim
    · rename_i m hm
      rw [frcN_eq] at hk
      have hrep := zero_rep hde r (by omega) (len * de.size)
      obtain ⟨l', cs', h1, h2, h3, h4, h5⟩ := buildL_spec (pl := fun i => some (i * de.size, de.size)) ok (fun i F hF => by
        rw [frcN_eq] at hF
        exact ⟨_, _, _, hF, by simp⟩) hk (cs := ((Array.range (len * de.size)).map (de.zeroVal.cells[· % de.zeroVal.cells.size]!))) (by simpa [flat] using hrep)
      rw [addH_eq, Nat.zero_add] at h1
      exact fin (by omega) hb h1 (h5 rfl) h2 h4
  · exact hk.elim
theorem ch_makeSlice {u : TypeId} {l c : Operand} (hT : AllT C.P C.T) (ok : Ok C ⟨t, h⟩ r a w) (hk : stepC C (.makeSlice u l c) t h k) : ChOk C h (.makeSlice u l c) a w r k := by
  unfold stepC at hk
  obtain ⟨d, hd, hk⟩ := td_spec hT hk
  have hkk := hd.kind
  split at hk <;> try exact hk.elim
  rename_i e hkd
  rw [hkd] at hkk
  simp only [TK.Ok] at hkk
  obtain ⟨de, hde, hk⟩ := td_spec hT hk
  obtain ⟨p, hk, hp, _⟩ := ev_c ok hk
  obtain ⟨x, hk, hx⟩ := idx_spec hk
  obtain ⟨kx, hx⟩ := hx _ _ hp
  obtain ⟨q, hk, hq, _⟩ := ev_c ok hk
  obtain ⟨y, hk, hy⟩ := idx_spec hk
  obtain ⟨ky, hy⟩ := hy _ _ hq
  obtain ⟨⟨b1, b2, b3, b4⟩, hk⟩ := hk
  simp only [frcN_eq] at hk
  obtain ⟨it, hit, _, hbytes, _⟩ := hde.inf
  have fin : ∀ {l' : List Seg}, de.size ≠ 0 → k (.a (.c (.sl h.length 0 0 x.toNat y.toNat))) (h ++ [l']) → hd1 l' = true → IsL r (flat l') ((Array.range (y.toNat * de.size)).map (de.zeroVal.cells[· % de.zeroVal.cells.size]!)).toList → ChOk C h (.makeSlice u l c) a w r k := by
    intro l' hs h1 hz1 h2
    refine ⟨_, _, _, _, _, h1, sl_new ok.heap x.toNat y.toNat, RLe.snoc _ _, ok.heap.new hz1 h2 e, Tch.none ((Ext.refl _ _).alloc _), Keeps.snoc _ _, fun o ho => .inl ?_⟩
    simp only [execOp, ho]
    refine exec_v ?_
    have wx : IntKind.i64.wrap x = x := wrap_i64 (by omega)
    have wy : IntKind.i64.wrap y = y := wrap_i64 (by omega)
    have hbb : (de.bytes : Int) * y ≤ 140737488355328 := by rw [Int.mul_comm]; exact b3
    simp only [Instr.makeSlice, Sem.run_bind, run_underlying hkk, Result.andThen_ok, hx, hy, asInt, run_asInt, typeInfo, run_program, hit, Sem.run_pure, wx, wy, hbytes]
    rw [if_neg (by
      simp only [Bool.or_eq_true, decide_eq_true_eq, not_or]
      have : ((2 : Int) ^ 48) = 281474976710656 := by decide
      rw [this]
      refine ⟨⟨⟨by omega, by omega⟩, by omega⟩, by omega⟩)]
    have hroom : ¬ (y.toNat * de.bytes > roomBytes) := by
      have e1 : roomBytes = 140737488355328 := by decide
      rw [e1]
      have : ((y.toNat * de.bytes : Nat) : Int) ≤ 140737488355328 := by
        rw [Int.natCast_mul, Int.toNat_of_nonneg (by omega)]; exact b3
      omega
    have e0 : (askRoom (y.toNat * de.bytes)).run C.P w = .ok () w := by
      unfold askRoom
      rw [if_neg hroom]; rfl
    simp only [Sem.run_bind, e0, Result.andThen_ok, hde.sizeOf]
    by_cases h0 : y.toNat * de.size = 0
    · rw [if_pos h0]
      have e2 : ((Array.range (y.toNat * de.size)).map fun x => (#[] : Array Value)[x % (#[] : Array Value).size]!) = (Array.range (y.toNat * de.size)).map (de.zeroVal.cells[· % de.zeroVal.cells.size]!) := by
        rw [h0]; simp
      simp only [Sem.run_bind, Sem.run_pure, Result.andThen_ok, e2, newRow_run]
    · rw [if_neg h0]
      simp only [Sem.run_bind, Sem.run_pure, Result.andThen_ok, hde.zeroValue, newRow_run]
  split at hk
  · rename_i z hz
    have hs1 : de.size = 1 := by rw [← hde.len, hz]; rfl
    rw [addH_eq, Nat.zero_add] at hk
    refine fin (by omega) hk rfl ?_
    have hrep := zero_rep hde r (by omega) (y.toNat * de.size)
    rw [hz, hs1, show flat [Seg.one z] = [z] from rfl, rep_one, Nat.mul_one] at hrep
    rw [hs1, Nat.mul_one]
    have : flat [Seg.row y.toNat fun _ => z] = List.replicate y.toNat z := by
      simp only [flat, List.append_nil]
      apply List.ext_getElem?
      intro j
      by_cases hj : j < y.toNat
      · simp [hj]
      · simp [hj]
    rw [this]; exact hrep
  · split at hk
    · exact hk.elim
    · rename_i m hm
      rw [addH_eq, Nat.zero_add] at hk
      exact fin (by omega) hk rfl (by simpa [flat] using zero_rep hde r (by omega) (y.toNat * de.size))
end
end Sx
end Go.Proofs.YtnehmcpkeamghaaDoor
end

section
/-
  append, copy, []byte of a string. Over any program. No condition of its own.
-/
namespace Go.Proofs.YtnehmcpkeamghaaDoor
set_option linter.unusedVariables false
namespace Sx
open Go.RowKit

section
variable {C : Cx} {t : List SV} {h : List (List Seg)} {r : Rho} {a : Act} {w : World}
/-- What is taken from is there. -/
theorem srcC_spec (ok : Ok C ⟨t, h⟩ r a w) {sz : Nat} {x : Operand} {K : Nat → (Nat → SC) → Prop} (hk : srcC C sz h (ev t x) K) :
    ∃ m g, K m g ∧ (Builtin.lenOf (a.eval x)).run C.P w = .ok m w ∧ ∃ vs : List Value, IsL r ((List.range (m * sz)).map g) vs ∧ ∀ n, n ≤ m → ∀ w', (∀ (B o : Nat) v, w.cell? ⟨B, o, none⟩ = some v → w'.cell? ⟨B, o, none⟩ = some v) → (Builtin.firstCells sz n (a.eval x)).run C.P w' = .ok (vs.take (n * sz)).toArray w' := by
  have hv := ok.ev x
  have fin : ∀ {m : Nat} {g : Nat → SC} {B off : Nat} {c : Nat}, K m g → a.eval x = .slice (some ⟨B, off, none⟩) m c → (∀ w', Ext [] w w' → True) → (∃ vs : List Value, IsL r ((List.range (m * sz)).map g) vs ∧ ∀ (j : Nat) v, vs[j]? = some v → w.cell? ⟨B, off + j, none⟩ = some v) →
      ∃ m g, K m g ∧ (Builtin.lenOf (a.eval x)).run C.P w = .ok m w ∧ ∃ vs : List Value, IsL r ((List.range (m * sz)).map g) vs ∧ ∀ n, n ≤ m → ∀ w', (∀ (B o : Nat) v, w.cell? ⟨B, o, none⟩ = some v → w'.cell? ⟨B, o, none⟩ = some v) → (Builtin.firstCells sz n (a.eval x)).run C.P w' = .ok (vs.take (n * sz)).toArray w' := by
    rintro m g B off c hk e - ⟨vs, h1, h2⟩
    refine ⟨m, g, hk, by rw [e]; rfl, vs, h1, fun n hn w' hw => ?_⟩
    rw [e]
    have hl : vs.length = m * sz := by rw [← h1.1]; simp
    have hle : n * sz ≤ m * sz := Nat.mul_le_mul_right _ hn
    have := run_loadCells_list (P := C.P) w' ⟨B, off, none⟩ (vs.take (n * sz)) (fun j v e' => by
      rw [add_none]
      rw [List.getElem?_take] at e'
      split at e'
      · exact hw _ _ _ (h2 j v e')
      · cases e')
    rw [show (vs.take (n * sz)).length = n * sz by rw [List.length_take, hl]; omega] at this
    exact this
  unfold srcC at hk
  split at hk
  · rename_i j b o m c e
    simp only [e] at hv
    obtain ⟨B, f, hr, hv⟩ := hv
    split at hk <;> try exact hk.elim
    rename_i N g tl hs
    obtain ⟨hN, hk⟩ := hk
    rw [scale_eq] at hN
    have hA := (ok.heap.chunk hr).sub (d := b + o) (l' := (List.range (m * sz)).map fun q => g (q + o)) (fun q y e => by
      have hq : q < m * sz := by
        rcases Nat.lt_or_ge q (m * sz) with h | h
        · exact h
        · rw [List.getElem?_eq_none (by simpa using h)] at e; cases e
      simp [hq] at e
      rw [show b + o + q = b + (q + o) by omega, ← segs?_spec hs, flat_row_lt _ _ _ (by omega), e])
    obtain ⟨vs, h1, h2⟩ := hA.vals
    exact fin hk hv (fun _ _ => trivial) ⟨vs, h1, h2⟩
  · rename_i m c e
    simp only [e] at hv
    obtain ⟨rfl, hk⟩ := hk
    have hv : a.eval x = .slice none 0 c := hv
    refine ⟨0, _, hk, by rw [hv]; rfl, [], ⟨by simp, fun j y e => by simp at e⟩, fun n hn w' _ => by rw [hv]; simp [Builtin.firstCells, pure]⟩
  · rename_i ad m c e
    simp only [e] at hv
    obtain ⟨g, hr, hk⟩ := hk
    have hv : a.eval x = .slice (some ad) m c := hv
    rcases hr with rfl | hr
    · refine ⟨0, _, hk, by rw [hv]; rfl, [], ⟨by simp, fun j y e => by simp at e⟩, fun n hn w' _ => ?_⟩
      obtain rfl : n = 0 := by omega
      have := run_loadCells_list (P := C.P) w' ad [] (fun j v e => by simp at e)
      rw [hv]
      simpa [Builtin.firstCells] using this
    have hsp := hr.spot
    obtain ⟨vs, h1, h2⟩ := RawAt.vals (r := r) hr
    rw [hsp] at hv
    exact fin hk hv (fun _ _ => trivial) ⟨vs, h1, fun j v e => h2 w ok.heap.ext (fun i W ms e => (ok.heap.past i W ms e).1) j v e⟩
  · rename_i l e
    simp only [e] at hv
    have hv : a.eval x = .string ⟨l.toArray⟩ := hv
    split at hk <;> try exact hk.elim
    refine ⟨l.length, _, hk, by rw [hv]; rfl, l.map fun b => .int .u8 (b.toNat : Int), ⟨by simp, fun j y e => ?_⟩, fun n hn w' _ => ?_⟩
    · have hj : j < l.length := by
        rcases Nat.lt_or_ge j l.length with h | h
        · exact h
        · rw [List.getElem?_eq_none (by simpa using h)] at e; cases e
      simp [hj] at e
      subst e
      refine ⟨_, by simp [hj]; rfl, ?_⟩
      simp [SC.Is]
    · rw [hv]
      simp only [Builtin.firstCells, str_extract, Nat.sub_zero, List.drop_zero, Nat.mul_one]
      simp [pure, List.map_take]
  · rename_i z j b o m c e
    simp only [e] at hv
    obtain ⟨g', ⟨_, hsn⟩, hk⟩ := hk
    rcases hv with ⟨_, hv, rfl, rfl⟩ | ⟨hz, B, f, hr, hv⟩ | ⟨hz, rfl, rfl, B, f, s, hv⟩
    · refine ⟨0, _, hk, by rw [hv]; rfl, [], ⟨by simp, fun j y e => by simp at e⟩, fun n hn w' _ => by rw [hv]; simp [Builtin.firstCells, pure]⟩
    rotate_left
    · refine ⟨0, _, hk, by rw [hv]; rfl, [], ⟨by simp, fun j y e => by simp at e⟩, fun n hn w' _ => ?_⟩
      obtain rfl : n = 0 := by omega
      have := run_loadCells_list (P := C.P) w' ⟨B, f, s⟩ [] (fun j v e => by simp at e)
      rw [hv]
      simpa [Builtin.firstCells] using this
    obtain ⟨N, g, tl, hs, hN, hg'⟩ := hsn hz
    rw [scale_eq] at hN hg'
    have hA := (ok.heap.chunk hr).sub (d := b + o) (l' := (List.range (m * sz)).map g') (fun q y e => by
      have hq : q < m * sz := by
        rcases Nat.lt_or_ge q (m * sz) with h | h
        · exact h
        · rw [List.getElem?_eq_none (by simpa using h)] at e; cases e
      simp [hq] at e
      rw [show b + o + q = b + (q + o) by omega, ← segs?_spec hs, flat_row_lt _ _ _ (by omega), ← hg' q hq, e])
    obtain ⟨vs, h1, h2⟩ := hA.vals
    exact fin hk hv (fun _ _ => trivial) ⟨vs, h1, h2⟩
  · exact hk.elim
theorem und_int {P : Program} {u : TypeId} {d : TD} (hd : TdOk P u d) (hi : isIntK d.k = false) : ∃ v, P.underlying u = some v ∧ ∀ k, v ≠ .int k := by
  have hk := hd.kind
  cases e : d.k <;> rw [e] at hk hi <;> simp only [TK.Ok] at hk
  case int => cases hi
  case struct =>
    unfold fieldsOf at hk
    split at hk
    · exact ⟨_, by assumption, by simp⟩
    · cases hk
  case ifc =>
    unfold isIfc at hk
    split at hk
    · exact ⟨_, by assumption, by simp⟩
    · cases hk
  case fn =>
    unfold isFn at hk
    split at hk
    · exact ⟨_, by assumption, by simp⟩
    · cases hk
  case map =>
    obtain ⟨k', e', hk, _⟩ := hk
    exact ⟨_, hk, by simp⟩
  all_goals exact ⟨_, hk, by simp⟩
section
variable {P : Program} {u u2 e : TypeId} {us : List TypeId} {v2 : TypeDesc} {de : TD}
theorem run_app_fit {ts : Array TypeId} (hts : ts.toList = u :: u2 :: us) (hu : P.underlying u = some (.slice e)) (hu2 : P.underlying u2 = some v2) (hi2 : ∀ k, v2 ≠ .int k) (hde : TdOk P e de) {base : Option Addr} {n c m : Nat} {xv : Value} {w w' : World} {vs : List Value} (ty : TypeId) (hl : (Builtin.lenOf xv).run P w = .ok m w) (hx : (Builtin.firstCells de.size m xv).run P w = .ok vs.toArray w) (hfit : n + m ≤ c)
    (hst : (match base with | some a => storeCells (a.add (n * de.size)) vs | none => pure () : Sem Unit).run P w = .ok () w') :
    (Builtin.append_ ts ty #[.slice base n c, xv]).run P w = .ok (.slice base (n + m) c) w' := by
  have h0 : ts[0]? = some u := by rw [← Array.getElem?_toList, hts]; rfl
  have h1 : ts[1]? = some u2 := by rw [← Array.getElem?_toList, hts]; rfl
  have e0 : (#[Value.slice base n c, xv] : Array Value)[0]? = some (.slice base n c) := rfl
  have e1 : (#[Value.slice base n c, xv] : Array Value)[1]? = some xv := rfl
  cases v2 <;> try (rename_i k; exact absurd rfl (hi2 k))
  all_goals
    simp only [Builtin.append_, h0, h1, e0, e1, Sem.run_bind, run_underlying hu, Result.andThen_ok, hde.sizeOf, run_underlying hu2, Sem.run_pure, Bool.false_eq_true, if_false, hl, hfit, if_true, Bool.not_false, hx]
    cases base with
    | none =>
      simp only [Sem.run_pure] at hst
      simp only [Sem.run_pure]
      injection hst with _ hst
      rw [hst]
    | some a =>
      simp only at hst
      simp only [Sem.run_bind, hst, Result.andThen_ok, Sem.run_pure]
theorem run_app_grow {ts : Array TypeId} (hts : ts.toList = u :: u2 :: us) (hu : P.underlying u = some (.slice e)) (hu2 : P.underlying u2 = some v2) (hi2 : ∀ k, v2 ≠ .int k) (hde : TdOk P e de) {base : Option Addr} {n c m : Nat} {xv : Value} {w : World} {vs os : List Value} (ty : TypeId) (hl : (Builtin.lenOf xv).run P w = .ok m w)
    (hx : (Builtin.firstCells de.size m xv).run P w.drew = .ok vs.toArray w.drew) (hg : ¬ n + m ≤ c) (hb0 : de.bytes ≠ 0) (hb : (n + m) * de.bytes ≤ 140737488355328) (ho : (Builtin.firstCells de.size n (.slice base n c)).run P w.drew = .ok os.toArray w.drew) :
    ∃ c', n + m ≤ c' ∧ (Builtin.append_ ts ty #[.slice base n c, xv]).run P w = .ok (.slice (some ⟨w.heap.size, 0, none⟩) (n + m) c') (w.drew.alloc (.cells (os.toArray ++ vs.toArray ++ Builtin.zeroCells de.zeroVal.cells (c' - (n + m))) e)) := by
  have h0 : ts[0]? = some u := by rw [← Array.getElem?_toList, hts]; rfl
  have h1 : ts[1]? = some u2 := by rw [← Array.getElem?_toList, hts]; rfl
  have e0 : (#[Value.slice base n c, xv] : Array Value)[0]? = some (.slice base n c) := rfl
  have e1 : (#[Value.slice base n c, xv] : Array Value)[1]? = some xv := rfl
  obtain ⟨it, hit, _, hby, _⟩ := hde.inf
  have hti : (typeInfo e).run P w = .ok it w := by simp [typeInfo, hit]
  have hfit := growslice_fits (need := n + m) (old := c) (bytes := de.bytes) (by omega) hb
  have hroom : ∀ (k : Nat) (w : World), (askRoom k).run P w = .ok () w := by
    intro k w
    unfold askRoom
    split <;> rfl
  have hti2 : (typeInfo e).run P w.drew = .ok it w.drew := by simp [typeInfo, hit]
  refine ⟨Question.cut (.appendCap (n + m) c e) (w.tape w.drawn (.appendCap (n + m) c e)), Nat.le_add_right _ _, ?_⟩
  have hch : (choose (.appendCap (n + m) c e)).run P w = .ok (Question.cut (.appendCap (n + m) c e) (w.tape w.drawn (.appendCap (n + m) c e))) w.drew := by
    simp [choose, Sem.run, Question.forced]
  cases v2 <;> try (rename_i k; exact absurd rfl (hi2 k))
  all_goals
    simp only [Builtin.append_, h0, h1, e0, e1, Sem.run_bind, run_underlying hu, Result.andThen_ok, hde.sizeOf, run_underlying hu2, Sem.run_pure, Bool.false_eq_true, if_false, hl, hg, Bool.not_false, if_true, hti, hby, hb0, or_self, and_false]
    rw [if_neg (by
      have : (2 : Nat) ^ 48 = 281474976710656 := by decide
      rw [this]
      omega)]
    simp only [Sem.run_bind, hch, Result.andThen_ok, hti2, hroom, ho, hx, hde.zeroValue, newRow_run, Sem.run_pure]
    rfl
end
theorem HeapOk.drew (ok : HeapOk C h r w) : HeapOk C h r w.drew := ok.ext0 ((Ext.refl _ _).drew)
theorem map_eval2 {s x : Operand} {args : Array Operand} (h : args.toList = [s, x]) (f : Operand → Value) : args.map f = #[f s, f x] := by
  have : args = #[s, x] := by rw [← Array.toList_inj]; exact h
  subst this
  simp
theorem newF_is {m N : Nat} {g : Nat → SC} {vs zs : List Value} (hv : IsL r ((List.range m).map g) vs) (hN : N = m + zs.length) (hz : ∀ v ∈ zs, v.oneCell' = true) : IsL r (flat [Seg.row N (newF m g)]) (vs ++ zs) := by
  have hl : vs.length = m := by rw [← hv.1]; simp
  refine ⟨by simp [flat, hl, hN], fun j y e => ?_⟩
  have hj : j < N := by
    rcases Nat.lt_or_ge j N with h | h
    · exact h
    · rw [List.getElem?_eq_none (by simpa [flat] using h)] at e; cases e
  rw [flat_row_lt _ _ _ hj] at e
  injection e with e
  subst e
  by_cases hm : j < m
  · obtain ⟨v, e1, e2⟩ := hv.2 j (g j) (by simp [hm])
    exact ⟨v, by rw [List.getElem?_append_left (by omega)]; exact e1, by simp only [newF, if_pos hm]; exact e2⟩
  · have hz' : j - m < zs.length := by omega
    refine ⟨zs[j - m], by rw [List.getElem?_append_right (by omega), hl]; exact List.getElem?_eq_getElem hz', ?_⟩
    simp only [newF, if_neg hm]
    exact hz _ (List.getElem_mem _)
theorem zeroCells_one {P : Program} {u : TypeId} {d : TD} (hd : TdOk P u d) (n : Nat) : (Builtin.zeroCells d.zeroVal.cells n).toList.length = n * d.size ∧ ∀ v ∈ (Builtin.zeroCells d.zeroVal.cells n).toList, v.oneCell' = true := by
  have hz := zero_is hd []
  have hs : d.zeroVal.cells.size = d.size := by rw [← hd.len, hz.1]; simp
  refine ⟨by simp [Builtin.zeroCells, hs], fun v hv => ?_⟩
  simp only [Builtin.zeroCells, Array.toList_map, Array.toList_range, List.mem_map, List.mem_range] at hv
  obtain ⟨i, hi, rfl⟩ := hv
  have h0 : 0 < d.zeroVal.cells.size := by
    rcases Nat.eq_zero_or_pos d.zeroVal.cells.size with h | h
    · rw [h] at hi; simp at hi
    · exact h
  have hm := Nat.mod_lt i h0
  rw [getElem!_pos d.zeroVal.cells (i % d.zeroVal.cells.size) hm]
  exact hz.one _ (by rw [← Array.getElem_toList]; exact List.getElem_mem _)
theorem ch_append {args : Array Operand} {ts : Array TypeId} {k : SV → List (List Seg) → Prop} (hT : AllT C.P C.T) (ok : Ok C ⟨t, h⟩ r a w) (hk : appS C t h args.toList ts.toList k) : ChOk C h (.call ⟨.builtin .append, args, ts⟩) a w r k := by
  unfold appS at hk
  split at hk <;> try exact hk.elim
  rename_i s x u u2 us hargs hts
  obtain ⟨d, hd, hk⟩ := td_spec hT hk
  have hkk := hd.kind
  split at hk <;> try exact hk.elim
  rename_i e hkd
  rw [hkd] at hkk
  simp only [TK.Ok] at hkk
  obtain ⟨de, hde, hk⟩ := td_spec hT hk
  obtain ⟨d2, hd2, hk⟩ := td_spec hT hk
  split at hk <;> try exact hk.elim
  rename_i sz by_ hi2 hsz hby
  obtain ⟨v2, hu2, hv2⟩ := und_int hd2 hi2
  have hsz : de.size = sz + 1 := hsz
  have hby : de.bytes = by_ + 1 := hby
  rw [← hsz] at hk
  obtain ⟨m, g, hk, hl, vs, hvs, hfc⟩ := srcC_spec ok hk
  have hvl : vs.length = m * de.size := by rw [← hvs.1]; simp
  have hfc' : ∀ w', (∀ (B o : Nat) v, w.cell? ⟨B, o, none⟩ = some v → w'.cell? ⟨B, o, none⟩ = some v) → (Builtin.firstCells de.size m (a.eval x)).run C.P w' = .ok vs.toArray w' := fun w' hw => by
    have := hfc m (Nat.le_refl _) w' hw
    rwa [List.take_of_length_le (by omega)] at this
  have hv := ok.ev s
  have run : ∀ (o : Oper) {v w'}, (∀ ty, (Builtin.append_ ts ty #[a.eval s, a.eval x]).run C.P w = .ok v w') → o.op = .call ⟨.builtin .append, args, ts⟩ → (execOp a.eval o).run C.P w = .ok (.value v) w' := by
    intro o v w' hr ho
    simp only [execOp, ho, resolve]
    refine exec_v ?_
    rw [map_eval2 hargs]
    exact hr _
  have hb0 : de.bytes ≠ 0 := by omega
  split at hk <;> try exact hk.elim
  · rename_i n c e'
    simp only [e'] at hv
    obtain ⟨⟨rfl, rfl⟩, hb, hk0, hk1⟩ := hk
    have hv : a.eval s = .slice none 0 0 := hv
    rcases Nat.eq_zero_or_pos m with hm | hm
    · subst hm
      refine ⟨_, _, _, _, _, hk0 rfl, rfl, RLe.refl _, ok.heap, Tch.none (Ext.refl _ _), Keeps.refl _, fun o ho => .inl (run o (fun ty => ?_) ho)⟩
      rw [hv]
      exact run_app_fit hts hkk hu2 hv2 hde ty hl (hfc' w (fun _ _ _ h => h)) (by omega) rfl
    · have hgr : ∀ ty : TypeId, ∃ c', 0 + m ≤ c' ∧ _ := fun ty => run_app_grow (base := none) (n := 0) (c := 0) (xv := a.eval x) (w := w) (os := []) hts hkk hu2 hv2 hde ty hl (hfc' w.drew (fun _ _ _ h => h)) (by omega) hb0 (by rw [hby]; simpa using hb) (by simp [Builtin.firstCells, pure])
      obtain ⟨c', hc', _⟩ := hgr 0
      have same : ∀ ty : TypeId, (Builtin.append_ ts ty #[.slice none 0 0, a.eval x]).run C.P w = (Builtin.append_ ts 0 #[.slice none 0 0, a.eval x]).run C.P w := fun _ => rfl
      obtain ⟨c', hc', hrun⟩ := hgr 0
      have hk1 := hk1 hm c' (by omega)
      rw [addH_eq, Nat.zero_add, scale_eq, scale_eq] at hk1
      obtain ⟨z1, z2⟩ := zeroCells_one hde (c' - (0 + m))
      have hnew := ok.heap.drew.new (l := [.row (c' * de.size) (newF (m * de.size) g)]) (cs := #[] ++ vs.toArray ++ Builtin.zeroCells de.zeroVal.cells (c' - (0 + m))) rfl (by
        have := newF_is (N := c' * de.size) hvs (by rw [z1, ← Nat.add_mul]; congr 1; omega) z2
        simpa using this) e
      refine ⟨_, _, _, _, _, hk1, ⟨w.heap.size, 0, by show (r ++ [(w.heap.size, 0)])[h.length]? = _; rw [← show r.length = h.length from ok.heap.len]; simp, rfl⟩, RLe.snoc _ _, hnew, Tch.none (((Ext.refl _ _).drew).alloc _), Keeps.snoc _ _, fun o ho => .inl (run o (fun ty => ?_) ho)⟩
      rw [hv, same, hrun]
      simp
  · rename_i i o n c e'
    simp only [e'] at hv
    obtain ⟨B, f, hr, hv⟩ := hv
    split at hk <;> try exact hk.elim
    rotate_left
    · rename_i N ff zz hro hch
      have hroi := ble_le hro
      obtain ⟨⟨hnc, hN, hb⟩, hk1, hk2⟩ := hk
      rw [scale_eq] at hN
      have hil : i < h.length := by
        rw [← ok.heap.len]
        rcases Nat.lt_or_ge i r.length with h | h
        · exact h
        · rw [List.getElem?_eq_none h] at hr; cases hr
      have hi : h[i]? = some [.row N ff, .row 0 zz] := by
        have := getH_eq h i
        rw [hch, List.getElem?_eq_getElem hil] at this
        rw [List.getElem?_eq_getElem hil]
        simp at this
        rw [← this]
      have hA : At (Nat.ble C.ro i) r w B f (flat [.row N ff]) := by
        have := ok.heap.chunks i _ B f hi hr
        rwa [show flat [.row N ff, .row 0 zz] = flat [.row N ff] by simp [flat]] at this
      have hcell : ∀ q, q < N → ∃ v, w.cell? ⟨B, f + q, none⟩ = some v ∧ (ff q).Is r v ∧ w.frozen? ⟨B, f + q, none⟩ = false := fun q hq => by
        obtain ⟨v, e1, e2, e3⟩ := hA q (ff q) (by rw [flat_row_lt _ _ _ hq])
        exact ⟨v, e1, e2, (e3 hro).fr e1⟩
      have hsub : At (Nat.ble C.ro i) r w B (f + (0 + o)) ((List.range (n * de.size)).map fun q => ff (q + o)) := hA.sub (d := 0 + o) (fun q y e => by
        have hq : q < n * de.size := by
          rcases Nat.lt_or_ge q (n * de.size) with h | h
          · exact h
          · rw [List.getElem?_eq_none (by simpa using h)] at e; cases e
        simp [hq] at e
        have : n * de.size ≤ c * de.size := Nat.mul_le_mul_right _ hnc
        rw [show 0 + o + q = q + o by omega, flat_row_lt _ _ _ (by omega), e])
      obtain ⟨os, hos, hoc⟩ := hsub.vals
      have hol : os.length = n * de.size := by rw [← hos.1]; simp
      by_cases hfit : n + m ≤ c
      · have hk := hk1 hfit
        rw [setH_eq, scale_eq, scale_eq] at hk
        have hmul : (n + m) * de.size ≤ c * de.size := Nat.mul_le_mul_right _ hfit
        rw [Nat.add_mul] at hmul
        have hst := run_storeCells_cells (P := C.P) B (f + (0 + o) + n * de.size) vs 0 w (fun j hj => by
            obtain ⟨v, e1, _⟩ := hcell (o + n * de.size + j) (by omega)
            rw [show f + (0 + o) + n * de.size + 0 + j = f + (o + n * de.size + j) by omega, e1]; rfl) (fun j hj => by
            obtain ⟨v, _, _, e3⟩ := hcell (o + n * de.size + j) (by omega)
            rw [show f + (0 + o) + n * de.size + 0 + j = f + (o + n * de.size + j) by omega]; exact e3) hvs.one
        rw [Nat.add_zero] at hst
        have hput := ok.heap.put (new := [.row (m * de.size) g]) (l' := [.row N (updN ff (o + n * de.size) (m * de.size) g), .row 0 zz]) (at_ := o + n * de.size) hr hi (by simp) (Put.in_row (by simp [flat]; omega) (fun j h1 h2 => by
            simp [flat] at h2
            have : j - (o + n * de.size) < m * de.size := by omega
            simp [flat, updN, this, h1, h2]) (fun j hj hc => by
            simp [flat] at hc
            have : ¬ (o + n * de.size ≤ j ∧ j < o + n * de.size + m * de.size) := by omega
            simp [updN, this])) (vs := vs) (by simpa [flat] using hvs) hroi rfl
        rw [show f + (o + n * de.size) = f + (0 + o) + n * de.size by omega] at hput
        refine ⟨.slice (some ⟨B, f + (0 + o), none⟩) (n + m) c, _, _, _, _, hk, ⟨B, f, hr, rfl⟩, RLe.refl _, hput, ⟨[B], Ext.setCells B (.inl (by simp)) _ _ (Ext.refl _ _), fun B' hB' => ⟨s, by simp [tgtOf, hargs], by rw [hv]; simp at hB'; simp [blockOf, hB']⟩⟩, Keeps.set hi rfl _, fun o' ho => .inl (run o' (fun ty => ?_) ho)⟩
        rw [hv]
        have := run_app_fit (base := some ⟨B, f + (0 + o), none⟩) hts hkk hu2 hv2 hde ty hl (hfc' w (fun _ _ _ h => h)) hfit (w' := w.setCells B (f + (0 + o) + n * de.size) vs) (by
          simp only [add_none]
          exact hst)
        exact this
      · have hgr := fun ty => run_app_grow (base := some ⟨B, f + (0 + o), none⟩) (n := n) (c := c) (xv := a.eval x) (w := w) (os := os) hts hkk hu2 hv2 hde ty hl (hfc' w.drew (fun _ _ _ h => h)) hfit hb0 (by rw [hby]; exact hb) (by
          have := run_loadCells_list (P := C.P) w.drew ⟨B, f + (0 + o), none⟩ os (fun j v e => by rw [add_none]; exact hoc j v e)
          rw [hol] at this
          exact this)
        have same : ∀ ty : TypeId, (Builtin.append_ ts ty #[.slice (some ⟨B, f + (0 + o), none⟩) n c, a.eval x]).run C.P w = (Builtin.append_ ts 0 #[.slice (some ⟨B, f + (0 + o), none⟩) n c, a.eval x]).run C.P w := fun _ => rfl
        obtain ⟨c', hc', hrun⟩ := hgr 0
        have hk := hk2 c' hc'
        rw [addH_eq, Nat.zero_add, scale_eq, scale_eq, scale_eq] at hk
        obtain ⟨z1, z2⟩ := zeroCells_one hde (c' - (n + m))
        have happ : IsL r (flat [Seg.row (c' * de.size) (appF ff o (n * de.size) (m * de.size) g)]) (os ++ vs ++ (Builtin.zeroCells de.zeroVal.cells (c' - (n + m))).toList) := by
          have hcc : (n + m) * de.size + (c' - (n + m)) * de.size = c' * de.size := by rw [← Nat.add_mul]; congr 1; omega
          rw [Nat.add_mul] at hcc
          refine ⟨by simp [flat, hol, hvl, z1]; omega, fun j y e => ?_⟩
          have hj : j < c' * de.size := by
            rcases Nat.lt_or_ge j (c' * de.size) with h | h
            · exact h
            · rw [List.getElem?_eq_none (by simpa [flat] using h)] at e; cases e
          rw [flat_row_lt _ _ _ hj] at e
          injection e with e
          subst e
          by_cases h5 : j < n * de.size
          · obtain ⟨v, e1, e2⟩ := hos.2 j (ff (j + o)) (by simp [h5])
            exact ⟨v, by rw [List.append_assoc, List.getElem?_append_left (by omega)]; exact e1, by simp only [appF, if_pos h5]; exact e2⟩
          · by_cases h6 : j < n * de.size + m * de.size
            · obtain ⟨v, e1, e2⟩ := hvs.2 (j - n * de.size) (g (j - n * de.size)) (by rw [List.getElem?_map, List.getElem?_range (by omega)]; rfl)
              exact ⟨v, by rw [List.append_assoc, List.getElem?_append_right (by omega), List.getElem?_append_left (by omega), hol]; exact e1, by simp only [appF, if_neg h5, if_pos h6]; exact e2⟩
            · have hz' : j - (n * de.size + m * de.size) < (Builtin.zeroCells de.zeroVal.cells (c' - (n + m))).toList.length := by rw [z1]; omega
              refine ⟨(Builtin.zeroCells de.zeroVal.cells (c' - (n + m))).toList[j - (n * de.size + m * de.size)], ?_, ?_⟩
              · rw [List.getElem?_append_right (by simp; omega)]
                rw [show j - (os ++ vs).length = j - (n * de.size + m * de.size) by simp [hol, hvl]]
                exact List.getElem?_eq_getElem hz'
              · simp only [appF, if_neg h5, if_neg h6]
                exact z2 _ (List.getElem_mem _)
        have hnew := ok.heap.drew.new (l := [.row (c' * de.size) (appF ff o (n * de.size) (m * de.size) g)]) (cs := os.toArray ++ vs.toArray ++ Builtin.zeroCells de.zeroVal.cells (c' - (n + m))) rfl (by simpa using happ) e
        refine ⟨_, _, _, _, _, hk, ⟨w.heap.size, 0, by show (r ++ [(w.heap.size, 0)])[h.length]? = _; rw [← show r.length = h.length from ok.heap.len]; simp, rfl⟩, RLe.snoc _ _, hnew, Tch.none (((Ext.refl _ _).drew).alloc _), Keeps.snoc _ _, fun o' ho => .inl (run o' (fun ty => ?_) ho)⟩
        rw [hv, same, hrun]
    rename_i N ff hro hch
    have hroi := ble_le hro
    obtain ⟨⟨hnc, hN, hb⟩, hk⟩ := hk
    rw [scale_eq] at hN
    have hil : i < h.length := by
      rw [← ok.heap.len]
      rcases Nat.lt_or_ge i r.length with h | h
      · exact h
      · rw [List.getElem?_eq_none h] at hr; cases hr
    have hi : h[i]? = some [.row N ff] := by
      have := getH_eq h i
      rw [hch, List.getElem?_eq_getElem hil] at this
      rw [List.getElem?_eq_getElem hil]
      simp at this
      rw [← this]
    have hA : At (Nat.ble C.ro i) r w B f (flat [.row N ff]) := ok.heap.chunks i _ B f hi hr
    have hcell : ∀ q, q < N → ∃ v, w.cell? ⟨B, f + q, none⟩ = some v ∧ (ff q).Is r v ∧ w.frozen? ⟨B, f + q, none⟩ = false := fun q hq => by
      obtain ⟨v, e1, e2, e3⟩ := hA q (ff q) (by rw [flat_row_lt _ _ _ hq])
      exact ⟨v, e1, e2, (e3 hro).fr e1⟩
    have hsub : At (Nat.ble C.ro i) r w B (f + (0 + o)) ((List.range (n * de.size)).map fun q => ff (q + o)) := hA.sub (d := 0 + o) (fun q y e => by
      have hq : q < n * de.size := by
        rcases Nat.lt_or_ge q (n * de.size) with h | h
        · exact h
        · rw [List.getElem?_eq_none (by simpa using h)] at e; cases e
      simp [hq] at e
      have : n * de.size ≤ c * de.size := Nat.mul_le_mul_right _ hnc
      rw [show 0 + o + q = q + o by omega, flat_row_lt _ _ _ (by omega), e])
    obtain ⟨os, hos, hoc⟩ := hsub.vals
    have hol : os.length = n * de.size := by rw [← hos.1]; simp
    by_cases hfit : n + m ≤ c
    · -- in place: the row goes on under a new name
      have hk := hk c hfit
      rw [setH_eq, addH_eq, Nat.zero_add, scale_eq, scale_eq, scale_eq] at hk
      have hmul : (n + m) * de.size ≤ c * de.size := Nat.mul_le_mul_right _ hfit
      rw [Nat.add_mul] at hmul
      have hst := run_storeCells_cells (P := C.P) B (f + (0 + o) + n * de.size) vs 0 w (fun j hj => by
          obtain ⟨v, e1, _⟩ := hcell (o + n * de.size + j) (by omega)
          rw [show f + (0 + o) + n * de.size + 0 + j = f + (o + n * de.size + j) by omega, e1]; rfl) (fun j hj => by
          obtain ⟨v, _, _, e3⟩ := hcell (o + n * de.size + j) (by omega)
          rw [show f + (0 + o) + n * de.size + 0 + j = f + (o + n * de.size + j) by omega]; exact e3) hvs.one
      rw [Nat.add_zero] at hst
      -- the old row's pieces are given up
      have hput := ok.heap.put (new := [.row (m * de.size) g]) (l' := [.row N (updN ff (o + n * de.size) (m * de.size) g)]) (at_ := o + n * de.size) hr hi (by simp) (Put.in_row (by simp [flat]; omega) (fun j h1 h2 => by
          simp [flat] at h2
          have : j - (o + n * de.size) < m * de.size := by omega
          simp [flat, updN, this, h1, h2]) (fun j hj hc => by
          simp [flat] at hc
          have : ¬ (o + n * de.size ≤ j ∧ j < o + n * de.size + m * de.size) := by omega
          simp [updN, this])) (vs := vs) (by simpa [flat] using hvs) hroi rfl
      rw [show f + (o + n * de.size) = f + (0 + o) + n * de.size by omega] at hput
      have hAp := hput.chunks i [.row N (updN ff (o + n * de.size) (m * de.size) g)] B f (by simp [hil]) hr
      have hlen : r.length = (h.set i []).length := by simp [ok.heap.len]
      have hnew : HeapOk C (h.set i [] ++ [[.row (c * de.size) (appF ff o (n * de.size) (m * de.size) g)]]) (r ++ [(B, f + o)]) (w.setCells B (f + (0 + o) + n * de.size) vs) := by
        have hr2 : ∀ (j B' f' : Nat), (r ++ [(B, f + o)])[j]? = some (B', f') → (j < h.length ∧ r[j]? = some (B', f')) ∨ (j = h.length ∧ B' = B ∧ f' = f + o) := by
          intro j B' f' e
          rcases Nat.lt_trichotomy j h.length with hj | hj | hj
          · rw [List.getElem?_append_left (by rw [ok.heap.len]; exact hj)] at e; exact .inl ⟨hj, e⟩
          · subst hj; rw [← ok.heap.len] at e; simp at e; exact .inr ⟨rfl, e.1.symm, e.2.symm⟩
          · rw [List.getElem?_eq_none (by simp [ok.heap.len]; omega)] at e; cases e
        have hh2 : ∀ (j : Nat) (ch : List Seg), (h.set i [] ++ [[.row (c * de.size) (appF ff o (n * de.size) (m * de.size) g)]])[j]? = some ch → (j < h.length ∧ ((j = i ∧ ch = []) ∨ (j ≠ i ∧ h[j]? = some ch))) ∨ (j = h.length ∧ ch = [.row (c * de.size) (appF ff o (n * de.size) (m * de.size) g)]) := by
          intro j ch e
          rcases Nat.lt_trichotomy j h.length with hj | hj | hj
          · rw [List.getElem?_append_left (by simpa using hj)] at e
            by_cases hji : j = i
            · subst hji; simp [hj] at e; exact .inl ⟨hj, .inl ⟨rfl, e⟩⟩
            · rw [List.getElem?_set_ne (Ne.symm hji)] at e; exact .inl ⟨hj, .inr ⟨hji, e⟩⟩
          · subst hj; rw [List.getElem?_append_right (by simp)] at e; simp at e; exact .inr ⟨rfl, e.symm⟩
          · rw [List.getElem?_eq_none (by simp; omega)] at e; cases e
        have other : ∀ (j : Nat) (ch : List Seg) (B' f' : Nat), j ≠ i → C.ro ≤ j → h[j]? = some ch → r[j]? = some (B', f') → ch = [] ∨ B' ≠ B := by
          intro j ch B' f' hji ho hj hrj
          by_cases hB : B' = B
          · subst hB
            rcases ok.heap.apart j i B' f' f ch _ hji ho hroi hj hi hrj hr with h | h
            · exact .inl h
            · cases h
          · exact .inr hB
        have hrl := ok.heap.rlen
        have hrl2 := ok.heap.rol
        have hrl3 := ok.heap.len
        refine ⟨hput.ext, hput.agree.trans (RLe.snoc _ _), ok.heap.rol, by simp [ok.heap.len], fun j ch B' f' hj hrj => ?_, fun j B' f' ho hrj => ?_, fun j B' f' ho hrj => ?_, fun j B' f' ho hlv hrj => ?_, fun j ch ho hlv hj => ?_, fun j l B' f1 f2 ch ch' hjl o1 o2 hj hl' hr1 hr3 => ?_, fun j m' B' f' ho hj hrj => ?_, fun j W ms hj => ?_⟩
        · rcases hh2 j ch hj with ⟨h1, ⟨rfl, rfl⟩ | ⟨h2, h3⟩⟩ | ⟨h1, rfl⟩
          · intro q y e; simp [flat] at e
          · rcases hr2 j B' f' hrj with ⟨_, h4⟩ | ⟨h4, _⟩
            · exact (hput.chunks j ch B' f' (by rw [List.getElem?_set_ne (Ne.symm h2)]; exact h3) h4).mono (RLe.snoc _ _)
            · omega
          · rcases hr2 j B' f' hrj with ⟨h4, _⟩ | ⟨_, rfl, rfl⟩
            · omega
            · intro q y e
              have hq : q < c * de.size := by
                rcases Nat.lt_or_ge q (c * de.size) with h | h
                · exact h
                · rw [List.getElem?_eq_none (by simpa [flat] using h)] at e; cases e
              rw [flat_row_lt _ _ _ hq] at e
              injection e with e
              subst e
              obtain ⟨v, e1, e2, e3⟩ := hAp (o + q) (updN ff (o + n * de.size) (m * de.size) g (o + q)) (by rw [flat_row_lt _ _ _ (by omega)])
              refine ⟨v, by rw [show f + o + q = f + (o + q) by omega]; exact e1, ?_, fun _ => e3 hro⟩
              have e2 := e2.mono (RLe.snoc r (B', f + o))
              by_cases h5 : q < n * de.size
              · have h6 : ¬ (o + n * de.size ≤ o + q ∧ o + q < o + n * de.size + m * de.size) := by omega
                simp only [updN, if_neg h6] at e2
                simp only [appF, if_pos h5, Nat.add_comm q o]
                exact e2
              · by_cases h6 : q < n * de.size + m * de.size
                · have h7 : o + n * de.size ≤ o + q ∧ o + q < o + n * de.size + m * de.size := by omega
                  simp only [updN, if_pos h7] at e2
                  simp only [appF, if_neg h5, if_pos h6]
                  rwa [show o + q - (o + n * de.size) = q - n * de.size by omega] at e2
                · simp only [appF, if_neg h5, if_neg h6]
                  exact SC.Is.one e2
        · rcases hr2 j B' f' hrj with ⟨_, h4⟩ | ⟨_, rfl, _⟩
          · exact hput.lt j B' f' ho h4
          · exact hput.lt i B' f hroi hr
        · rcases hr2 j B' f' hrj with ⟨_, h4⟩ | ⟨_, rfl, _⟩
          · exact hput.own j B' f' ho h4
          · exact hput.own i B' f hroi hr
        · rcases hr2 j B' f' hrj with ⟨_, h4⟩ | ⟨h4, _⟩
          · exact ok.heap.ros j B' f' ho hlv h4
          · omega
        · rcases hh2 j ch hj with ⟨h1, ⟨rfl, rfl⟩ | ⟨h2, h3⟩⟩ | ⟨h1, rfl⟩
          · omega
          · exact ok.heap.dead j ch ho hlv h3
          · omega
        · rcases hh2 j ch hj with ⟨h1, ⟨rfl, rfl⟩ | ⟨h2, h3⟩⟩ | ⟨h1, rfl⟩
          · exact .inl rfl
          · rcases hh2 l ch' hl' with ⟨g1, ⟨rfl, rfl⟩ | ⟨g2, g3⟩⟩ | ⟨g1, rfl⟩
            · exact .inr rfl
            · rcases hr2 j B' f1 hr1 with ⟨_, a1⟩ | ⟨a1, _⟩ <;> rcases hr2 l B' f2 hr3 with ⟨_, a2⟩ | ⟨a2, _⟩
              · exact ok.heap.apart j l B' f1 f2 ch ch' hjl o1 o2 h3 g3 a1 a2
              · omega
              · omega
              · omega
            · rcases hr2 j B' f1 hr1 with ⟨_, a1⟩ | ⟨a1, _⟩ <;> rcases hr2 l B' f2 hr3 with ⟨a2, _⟩ | ⟨_, a2, _⟩
              · omega
              · subst a2
                rcases other j ch B' f1 h2 o1 h3 a1 with h | h
                · exact .inl h
                · exact absurd rfl h
              · omega
              · omega
          · rcases hh2 l ch' hl' with ⟨g1, ⟨rfl, rfl⟩ | ⟨g2, g3⟩⟩ | ⟨g1, rfl⟩
            · exact .inr rfl
            · rcases hr2 j B' f1 hr1 with ⟨a1, _⟩ | ⟨_, a1, _⟩ <;> rcases hr2 l B' f2 hr3 with ⟨_, a2⟩ | ⟨a2, _⟩
              · omega
              · omega
              · subst a1
                rcases other l ch' B' f2 g2 o2 g3 a2 with h | h
                · exact .inr h
                · exact absurd rfl h
              · omega
            · omega
        · rcases hh2 j _ hj with ⟨h1, ⟨_, h2⟩ | ⟨h2, h3⟩⟩ | ⟨_, h2⟩
          · cases h2
          · rcases hr2 j B' f' hrj with ⟨_, h4⟩ | ⟨h4, _⟩
            · exact hput.maps j m' B' f' ho (by rw [List.getElem?_set_ne (Ne.symm h2)]; exact h3) h4
            · omega
          · cases h2
        · rcases hh2 j _ hj with ⟨h1, ⟨_, h2⟩ | ⟨h2, h3⟩⟩ | ⟨_, h2⟩
          · cases h2
          · obtain ⟨p1, p2, p3⟩ := hput.past j W ms (by rw [List.getElem?_set_ne (Ne.symm h2)]; exact h3)
            refine ⟨p1, p2, fun q B' f' ho hrq hB => ?_⟩
            rcases hr2 q B' f' hrq with ⟨_, h4⟩ | ⟨_, rfl, _⟩
            · exact p3 q B' f' ho h4 hB
            · exact p3 i B' f hroi hr hB
          · cases h2
      refine ⟨.slice (some ⟨B, f + (0 + o), none⟩) (n + m) c, _, _, _, _, hk, ⟨B, f + o, by rw [List.length_set, ← show r.length = h.length from ok.heap.len]; simp, by rw [show f + o + (0 + 0) = f + (0 + o) by omega]⟩, RLe.snoc _ _, hnew, ⟨[B], Ext.setCells B (.inl (by simp)) _ _ (Ext.refl _ _), fun B' hB' => ⟨s, by simp [tgtOf, hargs], by rw [hv]; simp at hB'; simp [blockOf, hB']⟩⟩, (Keeps.set hi rfl _).trans (Keeps.snoc _ _), fun o' ho => .inl (run o' (fun ty => ?_) ho)⟩
      rw [hv]
      have := run_app_fit (base := some ⟨B, f + (0 + o), none⟩) hts hkk hu2 hv2 hde ty hl (hfc' w (fun _ _ _ h => h)) hfit (w' := w.setCells B (f + (0 + o) + n * de.size) vs) (by
        simp only [add_none]
        exact hst)
      exact this
    · have hgr := fun ty => run_app_grow (base := some ⟨B, f + (0 + o), none⟩) (n := n) (c := c) (xv := a.eval x) (w := w) (os := os) hts hkk hu2 hv2 hde ty hl (hfc' w.drew (fun _ _ _ h => h)) hfit hb0 (by rw [hby]; exact hb) (by
        have := run_loadCells_list (P := C.P) w.drew ⟨B, f + (0 + o), none⟩ os (fun j v e => by rw [add_none]; exact hoc j v e)
        rw [hol] at this
        exact this)
      have same : ∀ ty : TypeId, (Builtin.append_ ts ty #[.slice (some ⟨B, f + (0 + o), none⟩) n c, a.eval x]).run C.P w = (Builtin.append_ ts 0 #[.slice (some ⟨B, f + (0 + o), none⟩) n c, a.eval x]).run C.P w := fun _ => rfl
      obtain ⟨c', hc', hrun⟩ := hgr 0
      have hk := hk c' hc'
      rw [setH_eq, addH_eq, Nat.zero_add, scale_eq, scale_eq, scale_eq] at hk
      obtain ⟨z1, z2⟩ := zeroCells_one hde (c' - (n + m))
      have happ : IsL r (flat [Seg.row (c' * de.size) (appF ff o (n * de.size) (m * de.size) g)]) (os ++ vs ++ (Builtin.zeroCells de.zeroVal.cells (c' - (n + m))).toList) := by
        have hcc : (n + m) * de.size + (c' - (n + m)) * de.size = c' * de.size := by rw [← Nat.add_mul]; congr 1; omega
        rw [Nat.add_mul] at hcc
        refine ⟨by simp [flat, hol, hvl, z1]; omega, fun j y e => ?_⟩
        have hj : j < c' * de.size := by
          rcases Nat.lt_or_ge j (c' * de.size) with h | h
          · exact h
          · rw [List.getElem?_eq_none (by simpa [flat] using h)] at e; cases e
        rw [flat_row_lt _ _ _ hj] at e
        injection e with e
        subst e
        by_cases h5 : j < n * de.size
        · obtain ⟨v, e1, e2⟩ := hos.2 j (ff (j + o)) (by simp [h5])
          exact ⟨v, by rw [List.append_assoc, List.getElem?_append_left (by omega)]; exact e1, by simp only [appF, if_pos h5]; exact e2⟩
        · by_cases h6 : j < n * de.size + m * de.size
          · obtain ⟨v, e1, e2⟩ := hvs.2 (j - n * de.size) (g (j - n * de.size)) (by rw [List.getElem?_map, List.getElem?_range (by omega)]; rfl)
            exact ⟨v, by rw [List.append_assoc, List.getElem?_append_right (by omega), List.getElem?_append_left (by omega), hol]; exact e1, by simp only [appF, if_neg h5, if_pos h6]; exact e2⟩
          · have hz' : j - (n * de.size + m * de.size) < (Builtin.zeroCells de.zeroVal.cells (c' - (n + m))).toList.length := by rw [z1]; omega
            refine ⟨(Builtin.zeroCells de.zeroVal.cells (c' - (n + m))).toList[j - (n * de.size + m * de.size)], ?_, ?_⟩
            · rw [List.getElem?_append_right (by simp; omega)]
              rw [show j - (os ++ vs).length = j - (n * de.size + m * de.size) by simp [hol, hvl]]
              exact List.getElem?_eq_getElem hz'
            · simp only [appF, if_neg h5, if_neg h6]
              exact z2 _ (List.getElem_mem _)
      -- the old row is forgotten
      have hforget : HeapOk C (h.set i []) r w.drew := by
        refine ⟨ok.heap.drew.ext, ok.heap.agree, ok.heap.rol, by simp [ok.heap.len], fun j ch B' f' hj hrj => ?_, ok.heap.drew.lt, ok.heap.own, ok.heap.ros, fun j ch ho hlv hj => ?_, fun j l B' f1 f2 ch ch' hjl o1 o2 hj hl' hr1 hr3 => ?_, fun j m' B' f' ho hj hrj => ?_, fun j W ms hj => ?_⟩
        · by_cases hji : j = i
          · subst hji
            simp [hil] at hj
            subst hj
            intro q y e; simp [flat] at e
          · rw [List.getElem?_set_ne (Ne.symm hji)] at hj
            exact ok.heap.drew.chunks j ch B' f' hj hrj
        · have hji : j ≠ i := fun e => by subst e; omega
          rw [List.getElem?_set_ne (Ne.symm hji)] at hj
          exact ok.heap.dead j ch ho hlv hj
        · by_cases hji : j = i
          · subst hji
            simp [hil] at hj
            exact .inl hj
          · by_cases hli : l = i
            · subst hli
              simp [hil] at hl'
              exact .inr hl'
            · rw [List.getElem?_set_ne (Ne.symm hji)] at hj
              rw [List.getElem?_set_ne (Ne.symm hli)] at hl'
              exact ok.heap.apart j l B' f1 f2 ch ch' hjl o1 o2 hj hl' hr1 hr3
        · have hji : j ≠ i := fun e => by subst e; simp [hil] at hj
          rw [List.getElem?_set_ne (Ne.symm hji)] at hj
          exact ok.heap.drew.maps j m' B' f' ho hj hrj
        · have hji : j ≠ i := fun e => by subst e; simp [hil] at hj
          rw [List.getElem?_set_ne (Ne.symm hji)] at hj
          exact ok.heap.drew.past j W ms hj
      have hnew := hforget.new (l := [.row (c' * de.size) (appF ff o (n * de.size) (m * de.size) g)]) (cs := os.toArray ++ vs.toArray ++ Builtin.zeroCells de.zeroVal.cells (c' - (n + m))) rfl (by simpa using happ) e
      refine ⟨_, _, _, _, _, hk, ⟨w.heap.size, 0, by show (r ++ [(w.heap.size, 0)])[(h.set i []).length]? = _; rw [List.length_set, ← show r.length = h.length from ok.heap.len]; simp, rfl⟩, RLe.snoc _ _, hnew, Tch.none (((Ext.refl _ _).drew).alloc _), (Keeps.set hi rfl _).trans (Keeps.snoc _ _), fun o' ho => .inl (run o' (fun ty => ?_) ho)⟩
      rw [hv, same, hrun]
  · rename_i z i0 b0 o0 e'
    simp only [e'] at hv
    obtain ⟨hb, hk0, hk1⟩ := hk
    obtain ⟨base, hv, hb0', hz⟩ : ∃ base : Option Addr, a.eval s = .slice base 0 0 ∧ (∀ x, base = some x → ∃ (B f : Nat) (s : Option Nat), x = ⟨B, f, s⟩) ∧ (base = none → z = true) ∧ ((∃ x, base = some x) → z = false) := by
      rcases hv with ⟨hz, hv, _, _⟩ | ⟨hz, B, f, _, hv⟩ | ⟨hz, _, _, B, f, s, hv⟩
      · exact ⟨none, hv, fun x e => (by cases e), fun _ => hz, fun ⟨x, e⟩ => (by cases e)⟩
      · exact ⟨_, hv, fun x e => (by injection e with e; exact ⟨_, _, _, e.symm⟩), fun e => (by cases e), fun _ => hz⟩
      · exact ⟨_, hv, fun x e => (by injection e with e; exact ⟨_, _, _, e.symm⟩), fun e => (by cases e), fun _ => hz⟩
    rcases Nat.eq_zero_or_pos m with hm | hm
    · subst hm
      have hvn : vs = [] := List.eq_nil_of_length_eq_zero (by rw [hvl, Nat.zero_mul])
      subst hvn
      have hr : ∀ (o : Oper), o.op = .call ⟨.builtin .append, args, ts⟩ → (execOp a.eval o).run C.P w = .ok (.value (.slice base 0 0)) w := fun o ho => by
        refine run o (fun ty => ?_) ho
        rw [hv]
        refine run_app_fit hts hkk hu2 hv2 hde ty hl (hfc' w (fun _ _ _ h => h)) (by omega) ?_
        cases base with
        | none => rfl
        | some x => rfl
      cases base with
      | none => exact ⟨_, _, _, _, _, (hk0 rfl).1 (hz.1 rfl), rfl, RLe.refl _, ok.heap, Tch.none (Ext.refl _ _), Keeps.refl _, fun o ho => .inl (hr o ho)⟩
      | some x =>
        obtain ⟨B, f, s, rfl⟩ := hb0' x rfl
        exact ⟨_, _, _, _, _, (hk0 rfl).2 (hz.2 ⟨_, rfl⟩) B f s, rfl, RLe.refl _, ok.heap, Tch.none (Ext.refl _ _), Keeps.refl _, fun o ho => .inl (hr o ho)⟩
    · have hgr : ∀ ty : TypeId, ∃ c', 0 + m ≤ c' ∧ _ := fun ty => run_app_grow (base := base) (n := 0) (c := 0) (xv := a.eval x) (w := w) (os := []) hts hkk hu2 hv2 hde ty hl (hfc' w.drew (fun _ _ _ h => h)) (by omega) hb0 (by rw [hby]; simpa using hb) (by
        cases base with
        | none => simp [Builtin.firstCells, pure]
        | some x =>
          obtain ⟨B, f, s, rfl⟩ := hb0' x rfl
          have := run_loadCells_list (P := C.P) w.drew ⟨B, f, s⟩ [] (fun j v e => by simp at e)
          simpa [Builtin.firstCells] using this)
      have same : ∀ ty : TypeId, (Builtin.append_ ts ty #[.slice base 0 0, a.eval x]).run C.P w = (Builtin.append_ ts 0 #[.slice base 0 0, a.eval x]).run C.P w := fun _ => rfl
      obtain ⟨c', hc', hrun⟩ := hgr 0
      have hk1 := hk1 hm c' (by omega)
      rw [addH_eq, Nat.zero_add, scale_eq, scale_eq] at hk1
      obtain ⟨z1, z2⟩ := zeroCells_one hde (c' - (0 + m))
      have hnew := ok.heap.drew.new (l := [.row (c' * de.size) (newF (m * de.size) g)]) (cs := #[] ++ vs.toArray ++ Builtin.zeroCells de.zeroVal.cells (c' - (0 + m))) rfl (by
        have := newF_is (N := c' * de.size) hvs (by rw [z1, ← Nat.add_mul]; congr 1; omega) z2
        simpa using this) e
      refine ⟨_, _, _, _, _, hk1, ⟨w.heap.size, 0, by show (r ++ [(w.heap.size, 0)])[h.length]? = _; rw [← show r.length = h.length from ok.heap.len]; simp, rfl⟩, RLe.snoc _ _, hnew, Tch.none (((Ext.refl _ _).drew).alloc _), Keeps.snoc _ _, fun o ho => .inl (run o (fun ty => ?_) ho)⟩
      rw [hv, same, hrun]
      simp
end
end Sx
end Go.Proofs.YtnehmcpkeamghaaDoor
end

section
/-
  copy, []byte of a string; all that makes or turns memory. Over any program. No condition of its own.
-/
namespace Go.Proofs.YtnehmcpkeamghaaDoor
set_option linter.unusedVariables false
namespace Sx
open Go.RowKit

theorem putRow_spec : ∀ {l : List Seg} {b o m : Nat} {g : Nat → SC} {K : List Seg → Prop}, cpS.putRow l b o m g K → ∃ l', K l' ∧ Put [.row m g] l l' (b + o) ∧ hd1 l' = true
  | .row n f :: r, 0, o, m, g, K, h => by
    obtain ⟨h1, h2⟩ := (show o + m ≤ n ∧ K (.row n (updN f o m g) :: r) from h)
    refine ⟨_, h2, And.intro ?_ rfl⟩
    rw [Nat.zero_add]
    refine Put.in_row (by simp [flat]; omega) (fun j a b => ?_) (fun j hj hc => ?_)
    · simp [flat] at b
      have : j - o < m := by omega
      simp [flat, updN, this, a, b]
    · simp [flat] at hc
      have : ¬ (o ≤ j ∧ j < o + m) := by omega
      simp [updN, this]
  | .one y :: r, b + 1, o, m, g, K, h => by
    obtain ⟨l', h1, h2, _⟩ := putRow_spec (l := r) (b := b) (o := o) (show cpS.putRow r b o m g (fun l => K (.one y :: l)) from h)
    exact ⟨_, h1, by have := h2.one y; rwa [show b + o + 1 = b + 1 + o by omega] at this, rfl⟩
  | .row n f :: r, b + 1, o, m, g, K, h => by
    unfold cpS.putRow at h
    split at h
    · rename_i hb
      have hn := Nat.le_of_ble_eq_true hb
      obtain ⟨l', h1, h2, _⟩ := putRow_spec (l := r) (b := b + 1 - n) (o := o) h
      exact ⟨_, h1, by have := h2.row (n := n) f; rwa [show b + 1 - n + o + n = b + 1 + o by omega] at this, rfl⟩
    · exact h.elim
  | [], _, _, _, _, _, h => h.elim
  | .one _ :: _, 0, _, _, _, _, h => h.elim
  | .obj _ :: _, 0, _, _, _, _, h => h.elim
  | .obj _ :: _, _ + 1, _, _, _, _, h => h.elim
  | .past _ _ :: _, 0, _, _, _, _, h => h.elim
  | .past _ _ :: _, _ + 1, _, _, _, _, h => h.elim
theorem putRow_st {l : List Seg} {b o m : Nat} {g : Nat → SC} {K : List Seg → Prop} (h : cpS.putRow l b o m g K) : stirs l = true := by
  cases l with
  | nil => cases b <;> exact h.elim
  | cons a l => cases a <;> first | rfl | (cases b <;> exact h.elim)
theorem putRow_ne {l : List Seg} {b o m : Nat} {g : Nat → SC} {K : List Seg → Prop} (h : cpS.putRow l b o m g K) : l ≠ [] := by
  rintro rfl
  cases b <;> exact h
section
variable {C : Cx} {t : List SV} {h : List (List Seg)} {r : Rho} {a : Act} {w : World} {k : SV → List (List Seg) → Prop}
theorem ch_copy {args : Array Operand} {ts : Array TypeId} (hT : AllT C.P C.T) (ok : Ok C ⟨t, h⟩ r a w) (hk : cpS C t h args.toList ts.toList k) : ChOk C h (.call ⟨.builtin .copy, args, ts⟩) a w r k := by
  unfold cpS at hk
  split at hk <;> try exact hk.elim
  rename_i s x u us hargs hts
  obtain ⟨d, hd, hk⟩ := td_spec hT hk
  have hkk := hd.kind
  split at hk <;> try exact hk.elim
  rename_i e hkd
  rw [hkd] at hkk
  simp only [TK.Ok] at hkk
  obtain ⟨de, hde, hk⟩ := td_spec hT hk
  split at hk <;> try exact hk.elim
  rename_i hsz
  obtain ⟨m, g, hk, hl, vs, hvs, hfc⟩ := srcC_spec ok hk
  simp only [Nat.mul_one] at hvs hfc
  have hv := ok.ev s
  have hvl : vs.length = m := by rw [← hvs.1]; simp
  have run : ∀ (o : Oper) {v w'}, (∀ ty, (Builtin.copy_ ts ty #[a.eval s, a.eval x]).run C.P w = .ok v w') → o.op = .call ⟨.builtin .copy, args, ts⟩ → (execOp a.eval o).run C.P w = .ok (.value v) w' := by
    intro o v w' hr ho
    simp only [execOp, ho, resolve]
    refine exec_v ?_
    rw [map_eval2 hargs]
    exact hr _
  have h0 : ts[0]? = some u := by rw [← Array.getElem?_toList, hts]; rfl
  have cp : ∀ {base : Option Addr} {n c : Nat} {w' : World} (ty : TypeId), (match base with | some a => storeCells a (vs.take (min m n)) | none => pure () : Sem Unit).run C.P w = .ok () w' → (Builtin.copy_ ts ty #[.slice base n c, a.eval x]).run C.P w = .ok (.int .i64 ((min m n : Nat) : Int)) w' := by
    intro base n c w' ty hst
    have e0 : (#[Value.slice base n c, a.eval x] : Array Value)[0]? = some (.slice base n c) := rfl
    have e1 : (#[Value.slice base n c, a.eval x] : Array Value)[1]? = some (a.eval x) := rfl
    have hf := hfc (min m n) (Nat.min_le_left _ _) w (fun _ _ _ h => h)
    simp only [Builtin.copy_, h0, e0, e1, Sem.run_bind, run_underlying hkk, Result.andThen_ok, hl, hde.sizeOf, hsz]
    rw [show Nat.min m n = min m n from rfl, hf]
    cases base with
    | none =>
      simp only [Sem.run_pure] at hst
      injection hst with _ hst
      simp only [Result.andThen_ok, Sem.run_pure, hst, goInt]
    | some a =>
      simp only at hst
      simp only [Result.andThen_ok, Sem.run_bind, hst, Sem.run_pure, goInt]
  split at hk <;> try exact hk.elim
  · rename_i i b o n c e'
    simp only [e'] at hv
    split at hk <;> try exact hk.elim
    rename_i hro
    obtain ⟨B, f, hr, hv⟩ := hv
    have hne := putRow_ne hk
    have hst0 := putRow_st hk
    obtain ⟨l', hk, hput, hhd⟩ := putRow_spec hk
    rw [setH_eq] at hk
    have hil : i < h.length := by
      rw [← show r.length = h.length from ok.heap.len]
      rcases Nat.lt_or_ge i r.length with h | h
      · exact h
      · rw [List.getElem?_eq_none h] at hr; cases hr
    have hi : h[i]? = some (getH h i) := by rw [getH_eq, List.getElem?_eq_getElem hil]; rfl
    have hA := ok.heap.chunks i _ B f hi hr
    have hvt : IsL r (flat [Seg.row (min m n) g]) (vs.take (min m n)) := by
      refine ⟨by simp [flat, hvl], fun j y e => ?_⟩
      have hj : j < min m n := by
        rcases Nat.lt_or_ge j (min m n) with h | h
        · exact h
        · rw [List.getElem?_eq_none (by simpa [flat] using h)] at e; cases e
      rw [flat_row_lt _ _ _ hj] at e
      injection e with e
      subst e
      obtain ⟨v, e1, e2⟩ := hvs.2 j (g j) (by rw [List.getElem?_map, List.getElem?_range (by omega)]; rfl)
      exact ⟨v, by rw [List.getElem?_take, if_pos hj]; exact e1, e2⟩
    have hst := run_storeCells_cells (P := C.P) B (f + (b + o)) (vs.take (min m n)) 0 w (fun j hj => by
        have hq : b + o + j < (flat (getH h i)).length := by have := hput.1; rw [hvt.1] at this; omega
        obtain ⟨u', e1, _⟩ := hA _ _ (List.getElem?_eq_getElem hq)
        rw [show f + (b + o) + 0 + j = f + (b + o + j) by omega, e1]; rfl) (fun j hj => by
        have hq : b + o + j < (flat (getH h i)).length := by have := hput.1; rw [hvt.1] at this; omega
        obtain ⟨u', e1, _, e3⟩ := hA _ _ (List.getElem?_eq_getElem hq)
        rw [show f + (b + o) + 0 + j = f + (b + o + j) by omega]; exact (e3 hro).fr e1) hvt.one
    rw [Nat.add_zero] at hst
    exact ⟨_, _, _, _, _, hk, rfl, RLe.refl _, ok.heap.put hr hi hne hput hvt (ble_le hro) hhd, ⟨[B], Ext.setCells B (.inl (by simp)) _ _ (Ext.refl _ _), fun B' hB' => ⟨s, by simp [tgtOf, hargs], by rw [hv]; simp at hB'; simp [blockOf, hB']⟩⟩, Keeps.set hi hst0 _, fun o' ho => .inl (run o' (fun ty => by rw [hv]; exact cp ty hst) ho)⟩
  · rename_i n c e'
    simp only [e'] at hv
    obtain ⟨rfl, hk⟩ := hk
    have hv : a.eval s = .slice none 0 c := hv
    exact ⟨_, _, _, _, _, hk, rfl, RLe.refl _, ok.heap, Tch.none (Ext.refl _ _), Keeps.refl _, fun o' ho => .inl (run o' (fun ty => by rw [hv]; have := cp (base := none) (n := 0) (c := c) ty rfl; simpa using this) ho)⟩
theorem ch_bytes {u v : TypeId} {x : Operand} (hT : AllT C.P C.T) (ok : Ok C ⟨t, h⟩ r a w) (hk : stepC C (.convert u v x) t h k) : ChOk C h (.convert u v x) a w r k := by
  unfold stepC at hk
  obtain ⟨du, hdu, hk⟩ := td_spec hT hk
  obtain ⟨dv, hdv, hk⟩ := td_spec hT hk
  have h1 := hdu.kind
  have h2 := hdv.kind
  split at hk <;> try exact hk.elim
  rename_i e l e1 e2 e3
  rw [e1] at h1
  rw [e2] at h2
  simp only [TK.Ok] at h1 h2
  obtain ⟨de, hde, hk⟩ := td_spec hT hk
  have h3 := hde.kind
  split at hk <;> try exact hk.elim
  all_goals
    rename_i e4
    have hmk : marksOk = true := rfl
    rw [e4] at h3
    simp only [TK.Ok] at h3
    have hv := ok.ev x
    simp only [e3] at hv
    have hv : a.eval x = .string ⟨l.toArray⟩ := hv
    have hrun := run_bytes_of_string (P := C.P) w u v e ⟨l.toArray⟩ h1 h2 h3
    have hsz : (⟨l.toArray⟩ : ByteArray).size = l.length := rfl
    rw [hsz] at hrun
    have hcap : l.length ≤ grownCap w l.length 0 e := by unfold grownCap Question.cut; exact Nat.le_add_right _ _
    generalize grownCap w l.length 0 e = cap at hrun hcap
    have hk := hk cap hcap
    rw [addH_eq, Nat.zero_add] at hk
    have hrs : (bytesRow ⟨l.toArray⟩ cap).size = cap := by simp [bytesRow, hsz]; omega
    have hnew := ok.heap.drew.newF (l := [.row cap (fun q => if q < l.length then .w8 (l.getD q 0).toBitVec else .w8 0)]) (cs := bytesRow ⟨l.toArray⟩ cap) rfl (by
      refine ⟨by simp [flat, hrs], fun j y ey => ?_⟩
      have hj : j < cap := by
        rcases Nat.lt_or_ge j cap with h | h
        · exact h
        · rw [List.getElem?_eq_none (by simpa [flat] using h)] at ey; cases ey
      rw [flat_row_lt _ _ _ hj] at ey
      injection ey with ey
      subst ey
      by_cases hjl : j < l.length
      · rw [if_pos hjl]
        refine ⟨.int .u8 (l[j].toNat : Int), ?_, ?_⟩
        · simp only [bytesRow, Array.getElem?_toList]
          rw [Array.getElem?_append_left (by simpa using hjl)]
          simp [hjl]
        · simp [SC.Is, hjl]
      · rw [if_neg hjl]
        refine ⟨.int .u8 0, ?_, rfl⟩
        simp only [bytesRow, Array.getElem?_toList]
        rw [Array.getElem?_append_right (by simpa using Nat.le_of_not_lt hjl)]
        rw [Array.getElem?_replicate, if_pos (by simp [hsz]; omega)]) e (cap, cap + 1) (.inr ⟨hmk, by rw [hrs]; exact Nat.le_refl _⟩)
    rw [hrs] at hrun
    refine ⟨_, _, _, _, _, hk, ⟨w.heap.size, 0, by show (r ++ [(w.heap.size, 0)])[h.length]? = _; rw [← show r.length = h.length from ok.heap.len]; simp, rfl⟩, RLe.snoc _ _, hnew, Tch.none (((Ext.refl _ _).drew).alloc _), Keeps.snoc _ _, fun o ho => .inl ?_⟩
    simp only [execOp, ho]
    refine exec_v ?_
    rw [hv]
    exact hrun
/-- All of them. -/
theorem stepC_sound {op : Op} (hT : AllT C.P C.T) (ok : Ok C ⟨t, h⟩ r a w) (hk : stepC C op t h k) : ChOk C h op a w r k := by
  cases op <;> try exact hk.elim
  case alloc => exact ch_alloc hT ok hk
  case box => exact ch_box hT ok hk
  case store => exact ch_store hT ok hk
  case buildSlice => exact ch_buildSlice hT ok hk
  case makeSlice => exact ch_makeSlice hT ok hk
  case makeMap => exact ch_makeMap hT ok hk
  case mapUpdate => exact ch_mapUpdate hT ok hk
  case range => exact ch_range hT ok hk
  case next => exact ch_next hT ok hk
  case convert => exact ch_bytes hT ok hk
  case call c =>
    obtain ⟨callee, args, ts⟩ := c
    cases callee <;> try exact hk.elim
    rename_i b
    cases b <;> try exact hk.elim
    case append => exact ch_append hT ok hk
    case copy => exact ch_copy hT ok hk
end
end Sx
end Go.Proofs.YtnehmcpkeamghaaDoor
end
