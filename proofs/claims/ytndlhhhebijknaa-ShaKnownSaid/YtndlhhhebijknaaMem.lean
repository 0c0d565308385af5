/-
  Words on memory that the call itself makes: rows that grow, make, append, copy: over any program. No condition of its own.
-/
import Derived.Test.YtndlhhhebijknaaBase
import Derived.Maps.AppendAt
import Derived.Deep.AppendLies
import Derived.Laws.CopyOwn
namespace Go.Proofs.Ytndlhhhebijknaa
set_option linter.unusedVariables false
open Go.RowKit

/-- A slice type whose elements are one cell each. -/
structure RowT (P : Program) (t e : TypeId) (z : Value) (bytes : Nat) : Prop where
  ht : P.underlying t = some (.slice e)
  hi : (P.info? e).map (fun i => (i.zero, i.size, i.bytes)) = some (some z, 1, bytes)
  hz : z.cells = #[z]

/-- From w to w' only the row of v (which is v' now) and new blocks have turned. -/
structure Grow (w w' : World) (v v' : Value) : Prop where
  by_ : w.grownBy w' v.ownBlock
  at_ : v'.ownBlock = v.ownBlock ∨ ∃ g, v'.ownBlock = some g ∧ w.heap.size ≤ g

section
variable {w w' w1 w2 W : World} {v v' v1 v2 : Value} {B : Nat}
theorem Grow.refl (w : World) (v : Value) : Grow w w v v := ⟨World.grownBy.refl w _, .inl rfl⟩
theorem Grow.trans (h : Grow w w1 v v1) (k : Grow w1 w2 v1 v2) : Grow w w2 v v2 := by
  refine ⟨⟨k.by_.os.trans h.by_.os, k.by_.tape.trans h.by_.tape, k.by_.output.trans h.by_.output, Nat.le_trans h.by_.size k.by_.size, fun i hi hne => ?_⟩, ?_⟩
  · refine (k.by_.block i (Nat.lt_of_lt_of_le hi h.by_.size) (fun e => ?_)).trans (h.by_.block i hi hne)
    rcases h.at_ with h1 | ⟨g, h1, h2⟩
    · rw [h1] at e; exact hne e
    · rw [h1] at e; injection e with e; omega
  · rcases k.at_ with k1 | ⟨g, k1, k2⟩
    · rw [k1]; exact h.at_
    · exact .inr ⟨g, k1, Nat.le_trans h.by_.size k2⟩
theorem Grow.of_alloc {o : Obj} (h : Grow (w.alloc o) w' v v') : Grow w w' v v' := by
  refine ⟨⟨h.by_.os, h.by_.tape, h.by_.output, by have := h.by_.size; simp at this; omega, fun i hi hne => ?_⟩, ?_⟩
  · exact (h.by_.block i (by simp; omega) hne).trans (Below.heap_alloc w o i hi)
  · rcases h.at_ with h1 | ⟨g, h1, h2⟩
    · exact .inl h1
    · exact .inr ⟨g, h1, by simp at h2; omega⟩
theorem Grow.base (h : Grow w w' v v') (hv : ∀ k, v.ownBlock = some k → B ≤ k) (hB : B ≤ w.heap.size) : ∀ k, v'.ownBlock = some k → B ≤ k := by
  intro k hk
  rcases h.at_ with h1 | ⟨g, h1, h2⟩
  · exact hv k (h1 ▸ hk)
  · rw [h1] at hk; injection hk with hk; omega
theorem Grow.below (h : Grow w w' v v') (hb : Below B W w) (hv : ∀ k, v.ownBlock = some k → B ≤ k) (hB : B ≤ w.heap.size) : Below B W w' := hb.grown h.by_ hB hv
theorem below_new {w w' : World} (hg : w.grownBy w' none) : Below w.heap.size w w' := (Below.refl _ _).grown hg (Nat.le_refl _) (by simp)
theorem Grow.size (h : Grow w w' v v') : w.heap.size ≤ w'.heap.size := h.by_.size
end

section
variable {w w' : World} {base : Nat} {e : TypeId} {v : Value} {n : Nat} {xs : List Value}
/-- The shape of a slice that is the call's own. -/
theorem own_shape (h : w.ownsRow base e 1 v n xs) : ∃ A c, v = .slice A n c ∧ n ≤ c ∧ c ≤ maxLen ∧ (A = none → n = 0 ∧ c = 0) := by
  rcases h.2 with ⟨rfl, rfl⟩ | ⟨g, cap, cur, rfl, _, _, hn, hm, _⟩
  · exact ⟨none, 0, rfl, Nat.le_refl _, by unfold maxLen; omega, fun _ => ⟨rfl, rfl⟩⟩
  · exact ⟨_, cap, rfl, hn, hm, fun h => by cases h⟩
theorem own_sl {A : Option Addr} {c : Nat} (h : w.ownsRow base e 1 (.slice A n c) n xs) : Sl w w.heap.size 1 A n xs := by
  refine ⟨h.1, fun hn => ?_⟩
  rcases h.2 with ⟨_, h0⟩ | ⟨g, cap, cur, hv, hb, hg, _⟩
  · omega
  · injection hv with hA _ hc
    subst hA
    subst hc
    refine ⟨g, 0, rfl, lt_of_block hg, fun j u hu => ?_⟩
    have hj : j < n * 1 := by have := (List.getElem?_eq_some_iff.1 hu).1; have := h.1; omega
    rw [Nat.zero_add, h.cellAt j hj]
    exact hu
theorem own_lt (h : w.ownsRow base e 1 v n xs) : ∀ k, v.ownBlock = some k → base ≤ k := fun k hk => (h.lt k hk).1
end

section
variable {P : Program} (w : World)
/-- append onto a row of the call's own, whatever is appended. -/
theorem run_app (t ty e : TypeId) (z : Value) (bytes : Nat) (R : RowT P t e z bytes) (base : Nat) (v : Value) (n : Nat) (xs : List Value) (hown : w.ownsRow base e 1 v n xs)
    (B : Nat) (A : Option Addr) (m c : Nat) (news : List Value) (hr : Sl w B 1 A m news) (h1 : ∀ u ∈ news, u.oneCell' = true)
    (h63 : n + m ≤ 140737488355328) (hbytes : (n + m) * bytes ≤ 140737488355328) (hbase : base ≤ w.heap.size) :
    ∃ A' c' w', (Builtin.append_ #[t, t] ty #[v, .slice A m c]).run P w = .ok (.slice A' (n + m) c') w' ∧ w'.ownsRow base e 1 (.slice A' (n + m) c') (n + m) (xs ++ news) ∧
      Grow w w' v (.slice A' (n + m) c') ∧ n + m ≤ c' ∧ (A' = none ↔ v = .slice none 0 0 ∧ m = 0) := by
  obtain ⟨i, hi, hz0, hz1, hz2⟩ := info_parts R.hi
  by_cases hm : m = 0
  · subst hm
    have hn : news = [] := List.eq_nil_of_length_eq_zero (by simpa using hr.1)
    subst hn
    have hrun : (Builtin.append_ #[t, t] ty #[v, .slice A 0 c]).run P w = .ok v w := by
      rcases hown.2 with ⟨rfl, rfl⟩ | ⟨g, cap, cur, rfl, _, _, hnc, _⟩
      · cases A <;> simp [Builtin.append_, run_underlying R.ht, sizeOf, typeInfo, hi, Builtin.lenOf, Builtin.firstCells, loadCells, loadCellsFrom]
      · cases A <;> simp [Builtin.append_, run_underlying R.ht, sizeOf, typeInfo, hi, Builtin.lenOf, Builtin.firstCells, hnc, storeCells, loadCells, loadCellsFrom]
    obtain ⟨A', c', rfl, hc, _, hA⟩ := own_shape hown
    refine ⟨A', c', w, hrun, by simpa using hown, Grow.refl _ _, hc, fun h => ?_, fun h => ?_⟩
    · obtain ⟨rfl, rfl⟩ := hA h; subst h; exact ⟨rfl, rfl⟩
    · have := h.1; injection this
  · obtain ⟨b, off, rfl, _, hc⟩ := hr.2 (by omega)
    have hc' : ∀ j u, news[j]? = some u → w.cell? ((⟨b, off, none⟩ : Addr).add j) = some u := by
      intro j u hu
      have e : (⟨b, off, none⟩ : Addr).add j = ⟨b, off + j, none⟩ := by unfold Addr.add; split <;> simp_all
      rw [e]; exact hc j u hu
    obtain ⟨v', w', hrun, h2, h3, h4, h5⟩ := run_append_own_at (P := P) w base t ty e i z 1 bytes R.ht hi hz0 hz1 hz2 (by rw [R.hz]; rfl) (by omega) v n xs hown ⟨b, off, none⟩ m c news hr.1 hc' h1 (by unfold maxLen; omega) hbytes hbase
    obtain ⟨A', c', rfl, hc2, _, hA⟩ := own_shape h2
    refine ⟨A', c', w', hrun, h2, ⟨h3, ?_⟩, hc2, fun h => ?_, fun h => absurd h.2 hm⟩
    · rcases h5 with h5 | h5
      · exact .inl h5
      · exact .inr ⟨_, h5, Nat.le_refl _⟩
    · obtain ⟨h0, _⟩ := hA h; omega

theorem wp_app {o : Oper} {a : Act} {K : Act → World → Prop} {Q : Exit → Act → World → Prop} (s x : Operand) (t : TypeId)
    (ho : o.op = .call { callee := .builtin .append, args := #[s, x], argTypes := #[t, t] })
    (e : TypeId) (z : Value) (bytes : Nat) (R : RowT P t e z bytes) (base : Nat) (v : Value) (n : Nat) (xs : List Value) (hs : a.eval s = v) (hown : w.ownsRow base e 1 v n xs)
    (B : Nat) (A : Option Addr) (m c : Nat) (news : List Value) (hx : a.eval x = .slice A m c) (hr : Sl w B 1 A m news) (h1 : ∀ u ∈ news, u.oneCell' = true)
    (h63 : n + m ≤ 140737488355328) (hbytes : (n + m) * bytes ≤ 140737488355328) (hbase : base ≤ w.heap.size)
    (h : ∀ A' c' w', w'.ownsRow base e 1 (.slice A' (n + m) c') (n + m) (xs ++ news) → Grow w w' v (.slice A' (n + m) c') → n + m ≤ c' → (A' = none ↔ v = .slice none 0 0 ∧ m = 0) → K (a.put o.dst (.slice A' (n + m) c')) w') : o.wp P a w K Q := by
  obtain ⟨A', c', w', hrun, h2, h3, h4, h5⟩ := run_app (P := P) w t o.type e z bytes R base v n xs hown B A m c news hr h1 h63 hbytes hbase
  unfold Oper.wp execOp
  simp only [ho, resolve, invoke, builtin, Sem.run_bind, Sem.run_pure, Result.andThen_ok, List.map_toArray, List.map_cons, List.map_nil, hs, hx, hrun]
  exact h A' c' w' h2 h3 h4 h5

theorem wpList_app {ops : Array Oper} {rest : List Oper} {o : Oper} {a : Act} {Q : Exit → Act → World → Prop} (hgd : o.guard = none) (s x : Operand) (t : TypeId)
    (ho : o.op = .call { callee := .builtin .append, args := #[s, x], argTypes := #[t, t] })
    (e : TypeId) (z : Value) (bytes : Nat) (R : RowT P t e z bytes) (base : Nat) (v : Value) (n : Nat) (xs : List Value) (hs : a.eval s = v) (hown : w.ownsRow base e 1 v n xs)
    (B : Nat) (A : Option Addr) (m c : Nat) (news : List Value) (hx : a.eval x = .slice A m c) (hr : Sl w B 1 A m news) (h1 : ∀ u ∈ news, u.oneCell' = true)
    (h63 : n + m ≤ 140737488355328) (hbytes : (n + m) * bytes ≤ 140737488355328) (hbase : base ≤ w.heap.size)
    (h : ∀ A' c' w', w'.ownsRow base e 1 (.slice A' (n + m) c') (n + m) (xs ++ news) → Grow w w' v (.slice A' (n + m) c') → n + m ≤ c' → (A' = none ↔ v = .slice none 0 0 ∧ m = 0) → wpList P ops Q rest (a.put o.dst (.slice A' (n + m) c')) w') :
    wpList P ops Q (o :: rest) a w :=
  wpList_plain hgd fun _ hK => wp_app w s x t ho e z bytes R base v n xs hs hown B A m c news hx hr h1 h63 hbytes hbase fun A' c' w' h2 h3 h4 h5 => hK _ _ (h A' c' w' h2 h3 h4 h5)

theorem step_app {ops : Array Oper} {o : Oper} {a : Act} {K : Act → World → Prop} {Q : Exit → Act → World → Prop} {E : Prop} (hgd : o.guard = none) (s x : Operand) (t : TypeId)
    (ho : o.op = .call { callee := .builtin .append, args := #[s, x], argTypes := #[t, t] })
    (e : TypeId) (z : Value) (bytes : Nat) (R : RowT P t e z bytes) (base : Nat) (v : Value) (n : Nat) (xs : List Value) (hs : a.eval s = v) (hown : w.ownsRow base e 1 v n xs)
    (B : Nat) (A : Option Addr) (m c : Nat) (news : List Value) (hx : a.eval x = .slice A m c) (hr : Sl w B 1 A m news) (h1 : ∀ u ∈ news, u.oneCell' = true)
    (h63 : n + m ≤ 140737488355328) (hbytes : (n + m) * bytes ≤ 140737488355328) (hbase : base ≤ w.heap.size)
    (h : ∀ A' c' w', w'.ownsRow base e 1 (.slice A' (n + m) c') (n + m) (xs ++ news) → Grow w w' v (.slice A' (n + m) c') → n + m ≤ c' → (A' = none ↔ v = .slice none 0 0 ∧ m = 0) → K (a.put o.dst (.slice A' (n + m) c')) w') :
    if Region.wanted o (yielded ops a.tmps) = true then Oper.wp P o a w K Q else E := by
  have hw : Region.wanted o (yielded ops a.tmps) = true := by simp [Region.wanted, hgd]
  rw [if_pos hw]
  exact wp_app w s x t ho e z bytes R base v n xs hs hown B A m c news hx hr h1 h63 hbytes hbase h

/-- make([]T, l, c), T one cell. -/
theorem wpList_mk {ops : Array Oper} {rest : List Oper} {o : Oper} {a : Act} {Q : Exit → Act → World → Prop} (hgd : o.guard = none) (sl sc : Operand) (t : TypeId) (ho : o.op = Op.makeSlice t sl sc)
    (e : TypeId) (z : Value) (bytes : Nat) (R : RowT P t e z bytes) (base : Nat) (kl kc : IntKind) (l c : Nat) (L C : Int) (hL : a.eval sl = .int kl L) (hC : a.eval sc = .int kc C) (hL' : L = l) (hC' : C = c) (hlc : l ≤ c)
    (hbytes : bytes * c ≤ 140737488355328) (h63 : c ≤ 140737488355328) (hbase : base ≤ w.heap.size)
    (h : ∀ w', w'.ownsRow base e 1 (.slice (some ⟨w.heap.size, 0, none⟩) l c) l (List.replicate l z) → w.grownBy w' none → w'.heap.size = w.heap.size + 1 → wpList P ops Q rest (a.put o.dst (.slice (some ⟨w.heap.size, 0, none⟩) l c)) w') :
    wpList P ops Q (o :: rest) a w := by
  refine wpList_plain hgd fun K hK => ?_
  obtain ⟨i, hi, hz0, hz1, hz2⟩ := info_parts R.hi
  subst hL'
  subst hC'
  have hb : (i.bytes : Int) * (c : Int) ≤ 281474976710656 := by
    have h : ((i.bytes * c : Nat) : Int) ≤ 281474976710656 := by rw [hz2]; omega
    rwa [Int.natCast_mul] at h
  have hrun := run_make (P := P) w t e i z R.ht hi hz0 kl kc l c (by omega) (by omega) hb (by omega)
  rw [hz1, Nat.mul_one, Int.toNat_natCast, Int.toNat_natCast] at hrun
  unfold Oper.wp
  simp [execOp, ho, hL, hC, hrun, Result.andThen]
  refine hK _ _ (h _ ⟨by simp, .inr ⟨w.heap.size, c, _, rfl, hbase, heap_alloc_new w _, hlc, by unfold maxLen; omega, by simp [size_madeCells], ?_⟩⟩ (World.grownBy_alloc w _ none) (by simp))
  rw [R.hz, toList_madeCells_one]
  simp [List.take_replicate, Nat.min_eq_left hlc]

theorem splice_take {α : Type} (L cs : List α) (off n : Nat) (h : off + cs.length ≤ n) (hL : n ≤ L.length) : (splice L off cs).take n = splice (L.take n) off cs := by
  unfold splice
  rw [List.take_append, List.take_append, List.length_take, List.take_take, List.take_take, List.drop_take]
  rw [Nat.min_eq_right (show off ≤ n from by omega), Nat.min_eq_left (show off ≤ L.length from by omega), Nat.min_eq_left (show off ≤ n from by omega)]
  rw [List.take_of_length_le (show cs.length ≤ n - off from by omega)]
  congr 3
  omega

/-- copy into a row of the call's own, from place 'off' on. -/
theorem wpList_cp {ops : Array Oper} {rest : List Oper} {o : Oper} {a : Act} {Q : Exit → Act → World → Prop} (hgd : o.guard = none) (d s : Operand) (dT sT : TypeId)
    (ho : o.op = .call { callee := .builtin .copy, args := #[d, s], argTypes := #[dT, sT] }) (e : TypeId) (z : Value) (bytes : Nat) (R : RowT P dT e z bytes)
    (base : Nat) (v : Value) (n : Nat) (xs : List Value) (hown : w.ownsRow base e 1 v n xs)
    (dp : Option Addr) (dLen dCap : Nat) (hd : a.eval d = .slice dp dLen dCap) (B : Nat) (sp : Option Addr) (sLen sCap : Nat) (hs : a.eval s = .slice sp sLen sCap) (ys : List Value) (hr : Sl w B 1 sp sLen ys)
    (g off : Nat) (hg : v.ownBlock = some g) (hpos : 0 < Nat.min sLen dLen → dp = some ⟨g, off, none⟩) (hfit : off + Nat.min sLen dLen ≤ n) (h1 : ∀ u ∈ ys, u.oneCell' = true)
    (h : ∀ w', w'.ownsRow base e 1 v n (splice xs off (ys.take (Nat.min sLen dLen))) → Grow w w' v v → w'.heap.size = w.heap.size → wpList P ops Q rest (a.put o.dst (goInt (Nat.min sLen dLen))) w') :
    wpList P ops Q (o :: rest) a w := by
  obtain ⟨i, hi, _, hz1, _⟩ := info_parts R.hi
  have hsz : (P.info? e).map (·.size) = some 1 := by rw [hi]; simp [hz1]
  have hml : Nat.min sLen dLen ≤ sLen := Nat.min_le_left _ _
  obtain ⟨m, hm⟩ : ∃ m, m = Nat.min sLen dLen := ⟨_, rfl⟩
  rw [← hm] at hpos hfit h hml
  have hlen : (ys.take m).length = m := by
    rw [List.length_take, hr.1, Nat.mul_one]
    exact Nat.min_eq_left hml
  by_cases h0 : m = 0
  · have hw := wpList_copy_nothing (P := P) (w := w) (ops := ops) (rest := rest) (a := a) (Q := Q) hgd d s dT sT ho e R.ht hsz dp sp dLen dCap sLen sCap hd hs (by omega)
    refine hw ?_
    have := h w (by rw [h0]; simpa [splice] using hown) (Grow.refl _ _) rfl
    rwa [h0] at this
  · have hdp := hpos (by omega)
    subst hdp
    obtain ⟨b, o2, rfl, _, hc⟩ := hr.2 (by omega)
    rcases hown.2 with ⟨rfl, _⟩ | ⟨g', cap, cur, rfl, hbg, hh, hnc, hcm, hcs, htake⟩
    · simp [Value.ownBlock] at hg
    · obtain rfl : g' = g := by simpa [Value.ownBlock] using hg
      have hxl := hown.1
      have hL : n * 1 ≤ cur.toList.length := by rw [Array.length_toList, hcs]; omega
      refine wpList_copy_own (P := P) hgd d s dT sT ho e R.ht hsz g' off dLen dCap ⟨b, o2, none⟩ sLen sCap hd hs cur e hh (ys.take m) (by rw [hlen, hm]) ?_ (by rw [hlen]; omega) (fun u hu => h1 u (List.mem_of_mem_take hu)) ?_
      · intro j u hu
        have e1 : (⟨b, o2, none⟩ : Addr).add j = ⟨b, o2 + j, none⟩ := by unfold Addr.add; split <;> simp_all
        rw [e1]
        refine hc j u ?_
        rw [List.getElem?_take] at hu
        split at hu
        · exact hu
        · cases hu
      · rw [hlen]
        refine h _ ⟨?_, .inr ⟨g', cap, _, rfl, hbg, setRow_heap w g' cur _ e _ hh, hnc, hcm, ?_, ?_⟩⟩ ⟨⟨rfl, rfl, rfl, by simp, fun k _ hk => setRow_other w g' k _ (fun e => hk (by simp [Value.ownBlock, e]))⟩, .inl rfl⟩ (by simp [World.setRow])
        · rw [length_splice]
          · exact hxl
          · rw [hlen]; omega
        · have := length_splice cur.toList off (ys.take m) (by rw [hlen]; omega)
          rw [splice, hlen] at this
          simp only [List.size_toArray, this, Array.length_toList]
          exact hcs
        · have := splice_take cur.toList (ys.take m) off (n * 1) (by rw [hlen]; omega) hL
          rw [htake, splice, hlen] at this
          rw [List.toList_toArray, this]
end

theorem ownBlock_ge {a : Addr} {n c B : Nat} (h : B ≤ a.block) : ∀ k, (Value.slice (some a) n c).ownBlock = some k → B ≤ k := by
  intro k hk
  have : some a.block = some k := hk
  injection this with this
  omega
theorem ownBlock_nil {n c B : Nat} : ∀ k, (Value.slice none n c).ownBlock = some k → B ≤ k := by
  intro k hk
  have : (none : Option Nat) = some k := hk
  cases this

/-! ### Rows of values of one make: 'f' says how an element lies in its cell -/
/-- The slice v is the call's own (its block from base on) and holds l. -/
def Own {α : Type} (f : α → Value) (e : TypeId) (w : World) (base : Nat) (v : Value) (l : List α) : Prop := w.ownsRow base e 1 v l.length (l.map f)
/-- The slice at A (below block B) reads as l. -/
def Rd {α : Type} (f : α → Value) (w : World) (B : Nat) (A : Option Addr) (l : List α) : Prop := Sl w B 1 A l.length (l.map f)

section
variable {α : Type} {f : α → Value} {e : TypeId} {w w' : World} {base B B' : Nat} {v v1 : Value} {l : List α} {A : Option Addr}
theorem Own.none_ (f : α → Value) (e : TypeId) (w : World) (base : Nat) : Own f e w base (.slice none 0 0) [] := World.ownsRow_nil _ _ _ _
theorem Own.empty (f : α → Value) (e : TypeId) (w : World) (base g : Nat) (hg : w.heap.size = g) (hb : base ≤ g) : Own f e (w.alloc (.cells #[] e)) base (.slice (some ⟨g, 0, none⟩) 0 0) [] := by
  subst hg
  exact ⟨rfl, .inr ⟨w.heap.size, 0, #[], rfl, hb, heap_alloc_new w _, Nat.le_refl _, by unfold maxLen; omega, rfl, rfl⟩⟩
theorem Rd.new (f : α → Value) (w : World) (cs : Array Value) (t : TypeId) (l : List α) (h : cs.toList.take l.length = l.map f) : Rd f (w.alloc (.cells cs t)) (w.heap.size + 1) (some ⟨w.heap.size, 0, none⟩) l := by
  refine ⟨by simp, fun _ => ⟨_, _, rfl, by omega, fun j u hu => ?_⟩⟩
  rw [← h, List.getElem?_take] at hu
  split at hu
  · simp only [World.cell?, Nat.zero_add]
    rw [heap_alloc_new]
    simpa using hu
  · cases hu
theorem Own.shape (h : Own f e w base v l) : ∃ A c, v = .slice A l.length c ∧ l.length ≤ c ∧ c ≤ maxLen ∧ (A = none → l.length = 0 ∧ c = 0) := own_shape h
theorem Own.cap {n c : Nat} (h : Own f e w base (.slice A n c) l) : l.length = n ∧ n ≤ c ∧ c ≤ maxLen := by
  obtain ⟨A', c', hv, h1, h2, _⟩ := h.shape
  injection hv with _ hn hc
  subst hn
  subst hc
  exact ⟨rfl, h1, h2⟩
theorem Own.rd {n c : Nat} (h : Own f e w base (.slice A n c) l) : Rd f w w.heap.size A l := by
  obtain ⟨hn, _⟩ := h.cap
  subst hn
  exact own_sl h
theorem Own.lt (h : Own f e w base v l) : ∀ k, v.ownBlock = some k → base ≤ k := own_lt h
theorem Own.alloc (h : Own f e w base v l) (o : Obj) : Own f e (w.alloc o) base v l := World.ownsRow.alloc h o
theorem Own.drew (h : Own f e w base v l) : Own f e w.drew base v l := h
theorem Own.kept {row : Option Nat} (h : Own f e w base v l) (hg : w.grownBy w' row) (hne : v.ownBlock = none ∨ v.ownBlock ≠ row) : Own f e w' base v l := World.ownsRow.kept h hg hne
/-- What is own stays own over a call that turns nothing old. -/
theorem Own.below (h : Own f e w base v l) (hb : Below B w w') (hB : w.heap.size ≤ B) : Own f e w' base v l :=
  World.ownsRow.kept (row := none) h ⟨hb.os, hb.tape, hb.output, hb.size, fun k hk _ => hb.block k (by omega)⟩ (by cases hv : v.ownBlock <;> simp)
theorem Own.more (h : Own f e w base v l) {base' : Nat} (hb : base' ≤ base) : Own f e w base' v l := by
  refine ⟨h.1, ?_⟩
  rcases h.2 with h2 | ⟨g, cap, cur, h1, h2, h3⟩
  · exact .inl h2
  · exact .inr ⟨g, cap, cur, h1, by omega, h3⟩
theorem Own.form {n c : Nat} (h : Own f e w base (.slice A n c) l) (hn : 0 < n) : ∃ g, A = some ⟨g, 0, none⟩ ∧ base ≤ g ∧ g < w.heap.size := by
  obtain ⟨hl, _⟩ := h.cap
  subst hl
  obtain ⟨g, cap, hv, hb, hg⟩ := World.ownsRow.form h hn
  injection hv with hA _ _
  exact ⟨g, hA, hb, hg⟩
theorem Own.cell {g n c : Nat} (h : Own f e w base (.slice (some ⟨g, 0, none⟩) n c) l) (j : Nat) (hj : j < l.length) : w.cell? ⟨g, j, none⟩ = some (f l[j]) := by
  obtain ⟨hl, _⟩ := h.cap
  subst hl
  rw [World.ownsRow.cellAt h j (by omega)]
  simp [hj]
theorem Own.free {g n c : Nat} (h : Own f e w base (.slice (some ⟨g, 0, none⟩) n c) l) (j : Nat) : w.frozen? ⟨g, j, none⟩ = false := by
  obtain ⟨hl, _⟩ := h.cap
  subst hl
  exact World.ownsRow.frozenAt h j
theorem Own.set_ {g n c : Nat} (h : Own f e w base (.slice (some ⟨g, 0, none⟩) n c) l) (j : Nat) (x : α) :
    Own f e (w.setCell ⟨g, j, none⟩ (f x)) base (.slice (some ⟨g, 0, none⟩) n c) (l.set j x) ∧ Grow w (w.setCell ⟨g, j, none⟩ (f x)) (.slice (some ⟨g, 0, none⟩) n c) (.slice (some ⟨g, 0, none⟩) n c) := by
  obtain ⟨hl, _⟩ := h.cap
  subst hl
  obtain ⟨h1, h2⟩ := World.ownsRow.stored h j (f x)
  refine ⟨?_, ⟨h2, .inl rfl⟩⟩
  unfold Own
  rw [List.map_set, List.length_set]
  exact h1
theorem Rd.nil_ (f : α → Value) (w : World) (B : Nat) (A : Option Addr) : Rd f w B A [] := ⟨rfl, fun h => absurd h (by simp)⟩
theorem Rd.at_ (h : Rd f w B A l) {k : Nat} (hk : k < l.length) : ∃ b off, A = some ⟨b, off, none⟩ ∧ b < B ∧ w.cell? ⟨b, off + k, none⟩ = some (f l[k]) := by
  obtain ⟨b, off, e, hb, hc⟩ := h.2 (by omega)
  exact ⟨b, off, e, hb, hc k _ (by simp [hk])⟩
theorem Rd.keep (h : Rd f w B A l) (hk : ∀ p : Addr, p.block < B → w'.cell? p = w.cell? p) : Rd f w' B A l := Sl.keep h hk
theorem Rd.more (h : Rd f w B A l) (hB : B ≤ B') : Rd f w B' A l := Sl.more h hB
theorem Rd.below (h : Rd f w B A l) (hb : Below B' w w') (hB : B ≤ B') : Rd f w' B A l := Sl.below h hb hB
theorem Rd.alloc (h : Rd f w B A l) (hB : B ≤ w.heap.size) (o : Obj) : Rd f (w.alloc o) B A l := Sl.alloc h hB o
theorem Rd.drew (h : Rd f w B A l) : Rd f w.drew B A l := h
theorem Rd.setCell (h : Rd f w B A l) {p : Addr} (hB : B ≤ p.block) (u : Value) : Rd f (w.setCell p u) B A l := Sl.setCell h hB u
/-- What lies below a row of the call's own is as it was while that row grows. -/
theorem Rd.grow (h : Rd f w B A l) (hg : Grow w w' v v1) (hB : B ≤ w.heap.size) (hv : ∀ k, v.ownBlock = some k → B ≤ k) : Rd f w' B A l :=
  h.keep fun p hp => World.cell?_of_block (hg.by_.block p.block (by omega) (fun e => by have := hv _ e.symm; omega))
theorem Rd.grown (h : Rd f w B A l) (hg : w.grownBy w' none) (hB : B ≤ w.heap.size) : Rd f w' B A l :=
  h.keep fun p hp => World.cell?_of_block (hg.block p.block (by omega) (by simp))
theorem Rd.one (f : α → Value) (w : World) (x : α) (t : TypeId) : Rd f (w.alloc (.cells #[f x] t)) (w.heap.size + 1) (some ⟨w.heap.size, 0, none⟩) [x] :=
  ⟨rfl, fun _ => ⟨_, _, rfl, by omega, fun j u hu => by
    match j, hu with
    | 0, hu => simp at hu; subst hu; simp [go_sem]⟩⟩
/-- A cut 's[k:]'. -/
theorem Rd.drop (h : Rd f w B A l) {k cap : Nat} (hk : k ≤ l.length) (hc : l.length ≤ cap) : Rd f w B (if cap = k then A else A.map (·.add k)) (l.drop k) := by
  refine ⟨by simp, fun hn => ?_⟩
  simp only [List.length_drop] at hn
  obtain ⟨b, off, rfl, hb, hcell⟩ := h.2 (by omega)
  rw [if_neg (by omega)]
  refine ⟨b, off + k, ?_, hb, fun j u hu => ?_⟩
  · simp only [Option.map_some, Option.some.injEq]; unfold Addr.add; split <;> simp_all
  · rw [Nat.add_assoc]
    refine hcell (k + j) u ?_
    rw [← hu, List.map_drop, List.getElem?_drop]
/-- A cut 's[:k]'. -/
theorem Rd.take (h : Rd f w B A l) (k : Nat) : Rd f w B A (l.take k) := by
  refine ⟨by simp, fun hn => ?_⟩
  simp only [List.length_take] at hn
  obtain ⟨b, off, rfl, hb, hcell⟩ := h.2 (by omega)
  refine ⟨b, off, rfl, hb, fun j u hu => hcell j u ?_⟩
  rw [List.map_take, List.getElem?_take] at hu
  split at hu
  · exact hu
  · cases hu
end

section
variable {P : Program} (w : World) {α : Type}
theorem wpList_appL {ops : Array Oper} {rest : List Oper} {o : Oper} {a : Act} {Q : Exit → Act → World → Prop} (hgd : o.guard = none) (s x : Operand) (t : TypeId)
    (ho : o.op = .call { callee := .builtin .append, args := #[s, x], argTypes := #[t, t] })
    (e : TypeId) (z : Value) (bytes : Nat) (R : RowT P t e z bytes) (f : α → Value) (hf : ∀ x, (f x).oneCell' = true) (base : Nat) (v : Value) (l : List α) (hs : a.eval s = v) (hown : Own f e w base v l)
    (B : Nat) (A : Option Addr) (m c : Nat) (r : List α) (hx : a.eval x = .slice A m c) (hr : Rd f w B A r) (hm : r.length = m) (l' : List α) (N : Nat) (hl' : l ++ r = l') (hN : l'.length = N)
    (h63 : N ≤ 140737488355328) (hbytes : N * bytes ≤ 140737488355328) (hbase : base ≤ w.heap.size)
    (h : ∀ A' c' w', Own f e w' base (.slice A' N c') l' → Grow w w' v (.slice A' N c') → N ≤ c' → (A' = none ↔ v = .slice none 0 0 ∧ m = 0) → wpList P ops Q rest (a.put o.dst (.slice A' N c')) w') :
    wpList P ops Q (o :: rest) a w := by
  subst hl'
  subst hN
  subst hm
  have e1 : (l ++ r).length = l.length + r.length := by simp
  have e2 : (l ++ r).map f = l.map f ++ r.map f := by simp
  refine wpList_app w hgd s x t ho e z bytes R base v l.length (l.map f) hs hown B A r.length c (r.map f) hx hr ?_ (by omega) (by rw [← e1]; exact hbytes) hbase ?_
  · intro u hu
    obtain ⟨y, _, rfl⟩ := List.mem_map.1 hu
    exact hf y
  · intro A' c' w' h1 h2 h3 h4
    unfold Own at h
    rw [e1, e2] at h
    exact h A' c' w' h1 h2 h3 h4
theorem step_appL {ops : Array Oper} {o : Oper} {a : Act} {K : Act → World → Prop} {Q : Exit → Act → World → Prop} {E : Prop} (hgd : o.guard = none) (s x : Operand) (t : TypeId)
    (ho : o.op = .call { callee := .builtin .append, args := #[s, x], argTypes := #[t, t] })
    (e : TypeId) (z : Value) (bytes : Nat) (R : RowT P t e z bytes) (f : α → Value) (hf : ∀ x, (f x).oneCell' = true) (base : Nat) (v : Value) (l : List α) (hs : a.eval s = v) (hown : Own f e w base v l)
    (B : Nat) (A : Option Addr) (m c : Nat) (r : List α) (hx : a.eval x = .slice A m c) (hr : Rd f w B A r) (hm : r.length = m) (l' : List α) (N : Nat) (hl' : l ++ r = l') (hN : l'.length = N)
    (h63 : N ≤ 140737488355328) (hbytes : N * bytes ≤ 140737488355328) (hbase : base ≤ w.heap.size)
    (h : ∀ A' c' w', Own f e w' base (.slice A' N c') l' → Grow w w' v (.slice A' N c') → N ≤ c' → (A' = none ↔ v = .slice none 0 0 ∧ m = 0) → K (a.put o.dst (.slice A' N c')) w') :
    if Region.wanted o (yielded ops a.tmps) = true then Oper.wp P o a w K Q else E := by
  subst hl'
  subst hN
  subst hm
  have e1 : (l ++ r).length = l.length + r.length := by simp
  have e2 : (l ++ r).map f = l.map f ++ r.map f := by simp
  refine step_app w hgd s x t ho e z bytes R base v l.length (l.map f) hs hown B A r.length c (r.map f) hx hr ?_ (by omega) (by rw [← e1]; exact hbytes) hbase ?_
  · intro u hu
    obtain ⟨y, _, rfl⟩ := List.mem_map.1 hu
    exact hf y
  · intro A' c' w' h1 h2 h3 h4
    unfold Own at h
    rw [e1, e2] at h
    exact h A' c' w' h1 h2 h3 h4
theorem wpList_mkL {ops : Array Oper} {rest : List Oper} {o : Oper} {a : Act} {Q : Exit → Act → World → Prop} (hgd : o.guard = none) (sl sc : Operand) (t : TypeId) (ho : o.op = Op.makeSlice t sl sc)
    (e : TypeId) (z : Value) (bytes : Nat) (R : RowT P t e z bytes) (f : α → Value) (x : α) (hfx : f x = z) (base : Nat) (kl kc : IntKind) (l c : Nat) (L C : Int) (hL : a.eval sl = .int kl L) (hC : a.eval sc = .int kc C) (hL' : L = l) (hC' : C = c) (hlc : l ≤ c)
    (hbytes : bytes * c ≤ 140737488355328) (h63 : c ≤ 140737488355328) (hbase : base ≤ w.heap.size)
    (h : ∀ w', Own f e w' base (.slice (some ⟨w.heap.size, 0, none⟩) l c) (List.replicate l x) → w.grownBy w' none → w'.heap.size = w.heap.size + 1 → wpList P ops Q rest (a.put o.dst (.slice (some ⟨w.heap.size, 0, none⟩) l c)) w') :
    wpList P ops Q (o :: rest) a w := by
  refine wpList_mk w hgd sl sc t ho e z bytes R base kl kc l c L C hL hC hL' hC' hlc hbytes h63 hbase fun w' h1 h2 h3 => h w' ?_ h2 h3
  unfold Own
  rw [List.map_replicate, hfx, List.length_replicate]
  exact h1
theorem wpList_cpL {ops : Array Oper} {rest : List Oper} {o : Oper} {a : Act} {Q : Exit → Act → World → Prop} (hgd : o.guard = none) (d s : Operand) (dT sT : TypeId)
    (ho : o.op = .call { callee := .builtin .copy, args := #[d, s], argTypes := #[dT, sT] }) (e : TypeId) (z : Value) (bytes : Nat) (R : RowT P dT e z bytes) (f : α → Value) (hf : ∀ x, (f x).oneCell' = true)
    (base : Nat) (v : Value) (l : List α) (hown : Own f e w base v l)
    (dp : Option Addr) (dLen dCap : Nat) (hd : a.eval d = .slice dp dLen dCap) (B : Nat) (sp : Option Addr) (sLen sCap : Nat) (hs : a.eval s = .slice sp sLen sCap) (r : List α) (hr : Rd f w B sp r) (hm : r.length = sLen)
    (g off : Nat) (hg : v.ownBlock = some g) (hpos : 0 < Nat.min sLen dLen → dp = some ⟨g, off, none⟩) (hfit : off + Nat.min sLen dLen ≤ l.length) (l' : List α) (hl' : splice l off (r.take (Nat.min sLen dLen)) = l')
    (h : ∀ w', Own f e w' base v l' → Grow w w' v v → w'.heap.size = w.heap.size → wpList P ops Q rest (a.put o.dst (goInt (Nat.min sLen dLen))) w') :
    wpList P ops Q (o :: rest) a w := by
  subst hm
  subst hl'
  refine wpList_cp w hgd d s dT sT ho e z bytes R base v l.length (l.map f) hown dp dLen dCap hd B sp r.length sCap hs (r.map f) hr g off hg hpos hfit ?_ fun w' h1 h2 h3 => h w' ?_ h2 h3
  · intro u hu
    obtain ⟨y, _, rfl⟩ := List.mem_map.1 hu
    exact hf y
  · have e1 : (splice l off (r.take (Nat.min r.length dLen))).length = l.length := length_splice _ _ _ (by
      rw [List.length_take]; have := Nat.min_le_left (Nat.min r.length dLen) r.length; omega)
    have e2 : (splice l off (r.take (Nat.min r.length dLen))).map f = splice (l.map f) off ((r.map f).take (Nat.min r.length dLen)) := by
      unfold splice; simp [List.map_take, List.map_drop]
    unfold Own
    rw [e1, e2]
    exact h1
end
end Go.Proofs.Ytndlhhhebijknaa
