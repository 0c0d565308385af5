/-
  What a call leaves: blocks of a list and new ones may have turned, all else stands. Over any program. No condition of its own.
-/
import Derived.Test.YtndlhhhebijknaaU64
namespace Go.Proofs.Ytndlhhhebijknaa
set_option linter.unusedVariables false
open Go.RowKit

/-- From w to w' only the blocks of m and new blocks have turned. -/
structure Ext (m : List Nat) (w w' : World) : Prop where
  os : w'.os = w.os
  tape : w'.tape = w.tape
  output : w'.output = w.output
  size : w.heap.size ≤ w'.heap.size
  block : ∀ k, k < w.heap.size → k ∉ m → w'.heap[k]? = w.heap[k]?

section
variable {w w' w1 w2 W : World} {m m' : List Nat} {B : Nat}
theorem Ext.refl (m : List Nat) (w : World) : Ext m w w := ⟨rfl, rfl, rfl, Nat.le_refl _, fun _ _ _ => rfl⟩
theorem Ext.trans2 (h : Ext m w w1) (k : Ext m' w1 w2) (hm : ∀ i ∈ m', i ∈ m ∨ w.heap.size ≤ i) : Ext m w w2 :=
  ⟨k.os.trans h.os, k.tape.trans h.tape, k.output.trans h.output, Nat.le_trans h.size k.size, fun i hi hn =>
    (k.block i (Nat.lt_of_lt_of_le hi h.size) (fun hc => by rcases hm i hc with h | h; exact hn h; omega)).trans (h.block i hi hn)⟩
theorem Ext.trans (h : Ext m w w1) (k : Ext m w1 w2) : Ext m w w2 := h.trans2 k fun _ h => .inl h
theorem Ext.mono (h : Ext m w w') (hm : ∀ i ∈ m, i ∈ m' ∨ w.heap.size ≤ i) : Ext m' w w' :=
  ⟨h.os, h.tape, h.output, h.size, fun k hk hn => h.block k hk (fun hc => by rcases hm k hc with h | h; exact hn h; omega)⟩
theorem Ext.nil (h : Ext [] w w') (m : List Nat) : Ext m w w' := h.mono (by simp)
theorem Ext.quiet (h : Ext m w w1) (k : Ext [] w1 w2) : Ext m w w2 := h.trans (k.nil m)
theorem Ext.alloc (h : Ext m w w') (o : Obj) : Ext m w (w'.alloc o) :=
  ⟨h.os, h.tape, h.output, by have := h.size; simp; omega, fun k hk hn => (Below.heap_alloc _ _ _ (by have := h.size; omega)).trans (h.block k hk hn)⟩
theorem Ext.drew (h : Ext m w w') : Ext m w w'.drew := ⟨h.os, h.tape, h.output, h.size, h.block⟩
theorem Ext.drewN (h : Ext m w w') (n : Nat) : Ext m w (w'.drewN n) := ⟨h.os, h.tape, h.output, h.size, h.block⟩
theorem Ext.set_ (h : Ext m w w') {p : Addr} (hp : p.block ∈ m ∨ w.heap.size ≤ p.block) (u : Value) : Ext m w (w'.setCell p u) :=
  ⟨h.os, h.tape, h.output, by simpa [World.setCell] using h.size, fun k hk hn => (Below.heap_setCell _ _ _ _ (fun e => by subst e; rcases hp with hp | hp; exact hn hp; omega)).trans (h.block k hk hn)⟩
theorem Ext.of_below (h : Below w.heap.size w w') (m : List Nat) : Ext m w w' := ⟨h.os, h.tape, h.output, h.size, fun k hk _ => h.block k hk⟩
theorem Ext.below (h : Ext m w w') (hb : Below B W w) (hm : ∀ i ∈ m, B ≤ i) (hB : B ≤ w.heap.size) : Below B W w' :=
  hb.trans ⟨h.os, h.tape, h.output, h.size, fun k hk => h.block k (by omega) (fun hc => by have := hm k hc; omega)⟩
theorem Ext.below0 (h : Ext [] w w') : Below w.heap.size w w' := ⟨h.os, h.tape, h.output, h.size, fun k hk => h.block k hk (by simp)⟩
theorem Ext.of_grown {row : Option Nat} (h : w.grownBy w' row) : Ext row.toList w w' :=
  ⟨h.os, h.tape, h.output, h.size, fun k hk hn => h.block k hk (fun e => by subst e; simp at hn)⟩
theorem Ext.of_grow {v v' : Value} (h : Grow w w' v v') : Ext v.ownBlock.toList w w' := Ext.of_grown h.by_
theorem Ext.of_growP {b : Nat} {v v' : Value} (h : GrowP w w' b v v') : Ext (b :: v.ownBlock.toList) w w' :=
  ⟨h.os, h.tape, h.output, h.size, fun k hk hn => h.block k hk (fun e => hn (by simp [e])) (fun e => hn (by simp [← e]))⟩
theorem Ext.same (h : Ext m w w') {k : Nat} (hk : k < w.heap.size) (hn : k ∉ m) : w'.heap[k]? = w.heap[k]? := h.block k hk hn
theorem Ext.cell (h : Ext m w w') {p : Addr} {u : Value} (hn : p.block ∉ m) (hc : w.cell? p = some u) : w'.cell? p = some u :=
  (World.cell?_of_block (h.block p.block (cell_lt hc) hn)).trans hc

theorem Blk.ext {g : Nat} {t : TypeId} {cs : Array Value} (h : Blk w g t cs) (k : Ext m w w') (hg : g ∉ m) : Blk w' g t cs := (k.block g h.lt hg).trans h
theorem Own.ext {α : Type} {f : α → Value} {e : TypeId} {base : Nat} {v : Value} {l : List α} (h : Own f e w base v l) (k : Ext m w w') (hv : ∀ g, v.ownBlock = some g → g ∉ m) : Own f e w' base v l := by
  refine ⟨h.1, ?_⟩
  rcases h.2 with h2 | ⟨g, cap, cur, he, hb, hh, r⟩
  · exact .inl h2
  · subst he
    exact .inr ⟨g, cap, cur, rfl, hb, (k.block g (lt_of_block hh) (hv g rfl)).trans hh, r⟩

/-- A slice that reads as l, away from the blocks m. -/
def RdX {α : Type} (f : α → Value) (w : World) (A : Option Addr) (l : List α) (m : List Nat) : Prop :=
  Rd f w w.heap.size A l ∧ (0 < l.length → ∀ a, A = some a → a.block ∉ m)
section
variable {α : Type} {f : α → Value} {A : Option Addr} {l : List α}
theorem RdX.ext (h : RdX f w A l m) (k : Ext m w w') : RdX f w' A l m := by
  obtain ⟨⟨h1, h2⟩, h3⟩ := h
  refine ⟨⟨h1, fun hn => ?_⟩, h3⟩
  obtain ⟨g, off, rfl, hg, hc⟩ := h2 hn
  refine ⟨g, off, rfl, by have := k.size; omega, fun j u hu => ?_⟩
  exact k.cell (p := ⟨g, off + j, none⟩) (show g ∉ m from h3 hn ⟨g, off, none⟩ rfl) (hc j u hu)
theorem RdX.mono (h : RdX f w A l m) (hm : ∀ i ∈ m', i ∈ m ∨ w.heap.size ≤ i) : RdX f w A l m' := by
  refine ⟨h.1, fun hn a ha hc => ?_⟩
  obtain ⟨g, off, e, hg, _⟩ := h.1.2 hn
  rcases hm _ hc with h1 | h1
  · exact h.2 hn a ha h1
  · rw [e] at ha; injection ha with ha; subst ha; simp at h1; omega
theorem RdX.of_rd (h : Rd f w B A l) (hB : B ≤ w.heap.size) (hm : ∀ i ∈ m, B ≤ i) : RdX f w A l m := by
  refine ⟨h.more hB, fun hn a ha hc => ?_⟩
  obtain ⟨g, off, rfl, hg, _⟩ := h.2 hn
  injection ha with ha
  subst ha
  have := hm _ hc
  simp at this; omega
theorem RdX.nil_ (f : α → Value) (w : World) (A : Option Addr) (m : List Nat) : RdX f w A [] m := ⟨Rd.nil_ _ _ _ _, fun h => absurd h (by simp)⟩
theorem RdX.take (h : RdX f w A l m) (k : Nat) : RdX f w A (l.take k) m := ⟨h.1.take k, fun hn => h.2 (by simp at hn; omega)⟩
theorem RdX.drop (h : RdX f w A l m) {k cap : Nat} (hk : k ≤ l.length) (hc : l.length ≤ cap) : RdX f w (if cap = k then A else A.map (·.add k)) (l.drop k) m := by
  refine ⟨h.1.drop hk hc, fun hn a ha => ?_⟩
  simp only [List.length_drop] at hn
  rw [if_neg (by omega)] at ha
  obtain ⟨g, off, rfl, _, _⟩ := h.1.2 (by omega)
  have h2 := h.2 (by omega) _ rfl
  simp only [Option.map_some, Option.some.injEq] at ha
  subst ha
  unfold Addr.add
  split <;> simpa using h2
/-- What is read lies in new blocks. -/
def Fresh (B : Nat) (A : Option Addr) (n : Nat) : Prop := 0 < n → ∀ a, A = some a → B ≤ a.block
theorem Fresh.rdx (hf : Fresh B A l.length) (h : Rd f w w.heap.size A l) (hm : ∀ i ∈ m, i < B) : RdX f w A l m :=
  ⟨h, fun hn a ha hc => by have := hf hn a ha; have := hm _ hc; omega⟩
theorem Own.fresh {e : TypeId} {base n c : Nat} (h : Own f e w base (.slice A n c) l) : Fresh base A n := by
  intro hn a ha
  obtain ⟨g, hA, hb, _⟩ := h.form hn
  rw [hA] at ha
  injection ha with ha
  subst ha
  exact hb
theorem Fresh.mono {B' n : Nat} (h : Fresh B A n) (hB : B' ≤ B) : Fresh B' A n := fun hn a ha => Nat.le_trans hB (h hn a ha)
end
end
end Go.Proofs.Ytndlhhhebijknaa
