/-
  Blocks that are known whole; what a call leaves that turns one block and one row. Over any program. No condition of its own.
-/
import Derived.Test.YtndlhhhebijknaaMem
namespace Go.Proofs.Ytndlhhhebijknaa
set_option linter.unusedVariables false
open Go.RowKit

theorem below_then {a b c : World} (h : Below a.heap.size a b) (k : Below b.heap.size b c) : Below a.heap.size a c := h.trans (k.mono h.size)
theorem some_of {A : Option Addr} (h : A ≠ none) : ∃ a, A = some a := Option.ne_none_iff_exists'.1 h

/-- Block g is just the cells cs of type t. -/
def Blk (w : World) (g : Nat) (t : TypeId) (cs : Array Value) : Prop := w.heap[g]? = some (.cells cs t (0, 0))

section
variable {w w' : World} {g : Nat} {t : TypeId} {cs : Array Value}
theorem Blk.lt (h : Blk w g t cs) : g < w.heap.size := lt_of_block h
theorem Blk.cell (h : Blk w g t cs) (i : Nat) : w.cell? ⟨g, i, none⟩ = cs[i]? := by
  unfold Blk at h
  simp [World.cell?, h]
theorem Blk.free (h : Blk w g t cs) (i : Nat) : w.frozen? ⟨g, i, none⟩ = false := by
  unfold Blk at h
  simp [World.frozen?, h]
theorem Blk.new (w : World) (t : TypeId) (cs : Array Value) : Blk (w.alloc (.cells cs t)) w.heap.size t cs := heap_alloc_new w _
theorem Blk.drew (h : Blk w g t cs) : Blk w.drew g t cs := h
theorem Blk.alloc (h : Blk w g t cs) (o : Obj) : Blk (w.alloc o) g t cs := (Below.heap_alloc w o g h.lt).trans h
theorem Blk.set_ (h : Blk w g t cs) (i : Nat) (u : Value) : Blk (w.setCell ⟨g, i, none⟩ u) g t (cs.setIfInBounds i u) := by
  unfold Blk at h ⊢
  simp [World.setCell, Array.getElem?_modify, h]
theorem Blk.far (h : Blk w g t cs) {p : Addr} (hp : g ≠ p.block) (u : Value) : Blk (w.setCell p u) g t cs := (Below.heap_setCell w p u g hp).trans h
theorem Blk.below {B : Nat} (h : Blk w g t cs) (hb : Below B w w') (hg : g < B) : Blk w' g t cs := (hb.block g hg).trans h
theorem Blk.grown {row : Option Nat} (h : Blk w g t cs) (hb : w.grownBy w' row) (hg : some g ≠ row) : Blk w' g t cs := (hb.block g h.lt hg).trans h
theorem Blk.ne_ {g' : Nat} {t' : TypeId} {cs' : Array Value} (h : Blk w g t cs) (h' : Blk w g' t' cs') (hne : t ≠ t') : g ≠ g' := by
  rintro rfl
  unfold Blk at h h'
  rw [h] at h'
  injection h' with h'
  injection h' with _ ht
  exact hne ht
theorem Own.blk_ne {α : Type} {f : α → Value} {e : TypeId} {base : Nat} {v : Value} {l : List α} (h : Own f e w base v l) (hg : Blk w g t cs) (hne : e ≠ t) : some g ≠ v.ownBlock := by
  rcases h.2 with ⟨rfl, _⟩ | ⟨g', cap, cur, rfl, _, hh, _⟩
  · simp [Value.ownBlock]
  · intro he
    have : g' = g := by simpa [Value.ownBlock] using he.symm
    subst this
    exact Blk.ne_ (t := e) hh hg hne rfl
theorem Own.setCell {α : Type} {f : α → Value} {e : TypeId} {base : Nat} {v : Value} {l : List α} (h : Own f e w base v l) {p : Addr} (hne : some p.block ≠ v.ownBlock) (u : Value) : Own f e (w.setCell p u) base v l :=
  h.kept (row := some p.block) ⟨rfl, rfl, rfl, by simp [World.setCell], fun k _ hk => Below.heap_setCell _ _ _ _ (fun e => hk (by rw [e]))⟩ (by
    cases hv : v.ownBlock with
    | none => exact .inl rfl
    | some k => exact .inr (by rw [hv] at hne; exact fun e => hne e.symm))
end

/-- From w to w' only block b, the row of v (which is v' now) and new blocks have turned. -/
structure GrowP (w w' : World) (b : Nat) (v v' : Value) : Prop where
  os : w'.os = w.os
  tape : w'.tape = w.tape
  output : w'.output = w.output
  size : w.heap.size ≤ w'.heap.size
  block : ∀ k, k < w.heap.size → k ≠ b → some k ≠ v.ownBlock → w'.heap[k]? = w.heap[k]?
  at_ : v'.ownBlock = v.ownBlock ∨ ∃ g, v'.ownBlock = some g ∧ w.heap.size ≤ g

section
variable {w w' w1 w2 W : World} {v v' v1 v2 x : Value} {b B : Nat}
theorem GrowP.refl (w : World) (b : Nat) (v : Value) : GrowP w w b v v := ⟨rfl, rfl, rfl, Nat.le_refl _, fun _ _ _ _ => rfl, .inl rfl⟩
theorem GrowP.of (h : Grow w w' v v') (b : Nat) : GrowP w w' b v v' := ⟨h.by_.os, h.by_.tape, h.by_.output, h.by_.size, fun k hk _ hv => h.by_.block k hk hv, h.at_⟩
theorem GrowP.trans (h : GrowP w w1 b v v1) (k : GrowP w1 w2 b v1 v2) : GrowP w w2 b v v2 := by
  refine ⟨k.os.trans h.os, k.tape.trans h.tape, k.output.trans h.output, Nat.le_trans h.size k.size, fun i hi hb hne => ?_, ?_⟩
  · refine (k.block i (Nat.lt_of_lt_of_le hi h.size) hb (fun e => ?_)).trans (h.block i hi hb hne)
    rcases h.at_ with h1 | ⟨g, h1, h2⟩
    · rw [h1] at e; exact hne e
    · rw [h1] at e; injection e with e; omega
  · rcases k.at_ with k1 | ⟨g, k1, k2⟩
    · rw [k1]; exact h.at_
    · exact .inr ⟨g, k1, Nat.le_trans h.size k2⟩
theorem GrowP.set_ (h : GrowP w w' b v v') (i : Nat) (u : Value) : GrowP w (w'.setCell ⟨b, i, none⟩ u) b v v' :=
  ⟨h.os, h.tape, h.output, by simpa [World.setCell] using h.size, fun k hk hb hne => (Below.heap_setCell _ _ _ _ hb).trans (h.block k hk hb hne), h.at_⟩
theorem GrowP.alloc (h : GrowP w w' b v v') (o : Obj) : GrowP w (w'.alloc o) b v v' :=
  ⟨h.os, h.tape, h.output, by have := h.size; simp; omega, fun k hk hb hne => (Below.heap_alloc _ _ _ (by have := h.size; omega)).trans (h.block k hk hb hne), h.at_⟩
theorem GrowP.drew (h : GrowP w w' b v v') : GrowP w w'.drew b v v' := ⟨h.os, h.tape, h.output, h.size, h.block, h.at_⟩
/-- Behind a call that turns nothing old. -/
theorem GrowP.quiet (h : Below w.heap.size w w') (b : Nat) (v : Value) : GrowP w w' b v v := ⟨h.os, h.tape, h.output, h.size, fun k hk _ _ => h.block k hk, .inl rfl⟩
theorem GrowP.below (h : GrowP w w' b v v') (hb : Below B W w) (hbB : B ≤ b) (hv : ∀ k, v.ownBlock = some k → B ≤ k) (hB : B ≤ w.heap.size) : Below B W w' :=
  hb.trans ⟨h.os, h.tape, h.output, h.size, fun k hk => h.block k (by omega) (by omega) (fun e => by have := hv k e.symm; omega)⟩
theorem GrowP.base (h : GrowP w w' b v v') (hv : ∀ k, v.ownBlock = some k → B ≤ k) (hB : B ≤ w.heap.size) : ∀ k, v'.ownBlock = some k → B ≤ k := by
  intro k hk
  rcases h.at_ with h1 | ⟨g, h1, h2⟩
  · exact hv k (h1 ▸ hk)
  · rw [h1] at hk; injection hk with hk; omega
theorem GrowP.blk {g : Nat} {t : TypeId} {cs : Array Value} (h : GrowP w w' b v v') (hg : Blk w g t cs) (hb : g ≠ b) (hv : some g ≠ v.ownBlock) : Blk w' g t cs := (h.block g hg.lt hb hv).trans hg
/-- Another row that is the call's own. -/
def Apart (x y : Value) : Prop := ∀ k, x.ownBlock = some k → y.ownBlock ≠ some k
theorem Apart.symm {x y : Value} (h : Apart x y) : Apart y x := fun k hk hx => h k hx hk
theorem Apart.nil_ (y : Value) (n c : Nat) : Apart (.slice none n c) y := fun k hk => by
  have : (none : Option Nat) = some k := hk
  cases this
theorem Own.bound {α : Type} {f : α → Value} {e : TypeId} {base : Nat} {l : List α} (h : Own f e w base x l) : ∀ k, x.ownBlock = some k → k < w.heap.size := fun k hk => (World.ownsRow.lt h k hk).2
theorem Own.growP {α : Type} {f : α → Value} {e : TypeId} {base : Nat} {l : List α} (hx : Own f e w base x l) (h : GrowP w w' b v v') (ha : Apart x v) (hb : x.ownBlock ≠ some b) : Own f e w' base x l := by
  refine ⟨hx.1, ?_⟩
  rcases hx.2 with h2 | ⟨g, cap, cur, hv, hbg, hh, r⟩
  · exact .inl h2
  · subst hv
    have hlt : g < w.heap.size := lt_of_block hh
    exact .inr ⟨g, cap, cur, rfl, hbg, (h.block g hlt (fun e => hb (by rw [← e]; rfl)) (fun e => ha g rfl e.symm)).trans hh, r⟩
theorem GrowP.apart {α : Type} {f : α → Value} {e : TypeId} {base : Nat} {l : List α} (h : GrowP w w' b v v') (hx : Own f e w base x l) (ha : Apart x v) : Apart x v' := by
  intro k hk hv
  rcases h.at_ with h1 | ⟨g, h1, h2⟩
  · rw [h1] at hv; exact ha k hk hv
  · rw [h1] at hv; injection hv with hv
    have := hx.bound k hk
    omega
theorem Grow.apart {α : Type} {f : α → Value} {e : TypeId} {base : Nat} {l : List α} (h : Grow w w' v v') (hx : Own f e w base x l) (ha : Apart x v) : Apart x v' := (GrowP.of h 0).apart hx ha
theorem Own.grow {α : Type} {f : α → Value} {e : TypeId} {base : Nat} {l : List α} (hx : Own f e w base x l) (h : Grow w w' v v') (ha : Apart x v) : Own f e w' base x l := by
  refine hx.kept h.by_ ?_
  cases hk : x.ownBlock with
  | none => exact .inl rfl
  | some k => exact .inr (fun e => ha k hk (by rw [← e]))

/-- A slice that is read, away from block b and from v's row. -/
def RdA {α : Type} (f : α → Value) (w : World) (A : Option Addr) (l : List α) (b : Nat) (v : Value) : Prop :=
  Rd f w w.heap.size A l ∧ (0 < l.length → ∀ a, A = some a → a.block ≠ b ∧ v.ownBlock ≠ some a.block)
theorem RdA.growP {α : Type} {f : α → Value} {A : Option Addr} {l : List α} (hr : RdA f w A l b v) (h : GrowP w w' b v v') : RdA f w' A l b v' := by
  obtain ⟨⟨h1, h2⟩, h3⟩ := hr
  refine ⟨⟨h1, fun hn => ?_⟩, fun hn a ha => ?_⟩
  · obtain ⟨g, off, rfl, hg, hc⟩ := h2 hn
    obtain ⟨n1, n2⟩ := h3 hn _ rfl
    refine ⟨g, off, rfl, by have := h.size; omega, fun j u hu => ?_⟩
    rw [World.cell?_of_block (w := w) (h.block g hg n1 (fun e => n2 e.symm))]
    exact hc j u hu
  · obtain ⟨g, off, rfl, hg, hc⟩ := h2 hn
    injection ha with ha
    subst ha
    obtain ⟨n1, n2⟩ := h3 hn _ rfl
    refine ⟨n1, fun hv => ?_⟩
    rcases h.at_ with e1 | ⟨g', e1, e2⟩
    · rw [e1] at hv; exact n2 hv
    · rw [e1] at hv; injection hv with hv; simp at hv; omega
/-- What lies below both. -/
theorem RdA.of_below {α : Type} {f : α → Value} {A : Option Addr} {l : List α} (hr : Rd f w B A l) (hB : B ≤ w.heap.size) (hb : B ≤ b) (hv : ∀ k, v.ownBlock = some k → B ≤ k) : RdA f w A l b v := by
  refine ⟨hr.more hB, fun hn a ha => ?_⟩
  obtain ⟨g, off, rfl, hg, _⟩ := hr.2 hn
  injection ha with ha
  subst ha
  exact ⟨by simp; omega, fun hv' => by have := hv _ hv'; simp at this; omega⟩
end
end Go.Proofs.Ytndlhhhebijknaa
