/-
  Rows of numbers of 64 bits; blocks and rows behind calls. No condition.
-/
import Derived.Test.YtndlhhhebijknaaBlk
namespace Go.Proofs.Ytndlhhhebijknaa
set_option linter.unusedVariables false
open Go.RowKit

/-- A number of 64 bits as a cell. -/
def u64v (n : Int) : Value := .int .u64 n
theorem u64v_one (x : Int) : (u64v x).oneCell' = true := rfl
theorem u8v_cell (x : UInt8) : (u8v x).oneCell' = true := rfl
/-- A slice of numbers that came in. -/
theorem IsRow.rdL {w : World} {a : Option Addr} {len cap : Nat} {zs : List Int} (h : IsRow .u64 w a len cap zs) :
    Rd u64v w w.heap.size a (zs.take len) ∧ (zs.take len).length = len ∧ ∀ x ∈ zs.take len, 0 ≤ x ∧ x ≤ 18446744073709551615 := by
  obtain ⟨hs, hl, _, hz, hw, _⟩ := h.sl
  have e : (zs.take len).length = len := by simp; omega
  refine ⟨?_, e, fun x hx => u64_wf (hw x (List.mem_of_mem_take hx))⟩
  unfold Rd
  rw [e]
  exact hs

theorem new_slot (w : World) (cs : Array Value) (t : TypeId) (j : Nat) {v : Value} (h : cs[j]? = some v) : (w.alloc (.cells cs t)).cell? ⟨w.heap.size, j, none⟩ = some v := by
  rw [World.cell?_alloc_new]; exact h
/-- A block that was laid just before a call stands behind it. -/
theorem kept_block {w3 w4 : World} {cs : Array Value} {t : TypeId} (hb : Below (w3.alloc (.cells cs t)).heap.size (w3.alloc (.cells cs t)) w4) :
    w3.heap.size + 1 ≤ w4.heap.size ∧ ∀ j v, cs[j]? = some v → w4.cell? ⟨w3.heap.size, j, none⟩ = some v := by
  have e : (w3.alloc (.cells cs t)).heap.size = w3.heap.size + 1 := by show (w3.heap.push _).size = _; simp
  refine ⟨by have := hb.size; rw [e] at this; exact this, ?_⟩
  intro j v h
  refine (hb.cell (p := ⟨w3.heap.size, j, none⟩) ?_).trans (new_slot _ _ _ _ h)
  rw [e]; exact Nat.lt_succ_self _
/-- The same behind one more new block. -/
theorem kept_alloc {w3 w4 : World} {cs : Array Value} {t : TypeId} (hb : Below (w3.alloc (.cells cs t)).heap.size (w3.alloc (.cells cs t)) w4) (o : Obj) (j : Nat) (v : Value) (h : cs[j]? = some v) : (w4.alloc o).cell? ⟨w3.heap.size, j, none⟩ = some v :=
  (World.cell?_alloc_lt _ _ _ (Nat.lt_of_succ_le (kept_block hb).1)).trans ((kept_block hb).2 j v h)
theorem below_drewn {B : Nat} {a w : World} (h : Below B a w) (k : Nat) : Below B a (w.drewN k) := ⟨h.os, h.tape, h.output, h.size, h.block⟩
theorem below_alloc {B : Nat} {a w : World} (h : Below B a w) (hB : B ≤ a.heap.size) (o : Obj) : Below B a (w.alloc o) := h.alloc (Nat.le_trans hB h.size) o
theorem Blk.new_ (w : World) (t : TypeId) (cs : Array Value) (g : Nat) (h : w.heap.size = g) : Blk (w.alloc (.cells cs t)) g t cs := by subst h; exact Blk.new w t cs
/-- A whole struct of four cells, written anew. -/
def World.set4 (w : World) (g : Nat) (x y z u : Value) : World := (((w.setCell ⟨g, 0, none⟩ x).setCell ⟨g, 1, none⟩ y).setCell ⟨g, 2, none⟩ z).setCell ⟨g, 3, none⟩ u
theorem Blk.set4 {w : World} {g : Nat} {t : TypeId} {a b c d : Value} (h : Blk w g t #[a, b, c, d]) (x y z u : Value) : Blk (World.set4 w g x y z u) g t #[x, y, z, u] := by
  unfold World.set4
  have h4 := (((h.set_ 0 x).set_ 1 y).set_ 2 z).set_ 3 u
  simpa using h4
theorem Own.set4 {α : Type} {f : α → Value} {e : TypeId} {w : World} {base : Nat} {v : Value} {l : List α} (h : Own f e w base v l) {g : Nat} (hne : some g ≠ v.ownBlock) (x y z u : Value) : Own f e (World.set4 w g x y z u) base v l :=
  (((h.setCell (p := ⟨g, 0, none⟩) hne x).setCell (p := ⟨g, 1, none⟩) hne y).setCell (p := ⟨g, 2, none⟩) hne z).setCell (p := ⟨g, 3, none⟩) hne u
theorem below_set4 {B : Nat} {a w : World} (h : Below B a w) {g : Nat} (hg : B ≤ g) (x y z u : Value) : Below B a (World.set4 w g x y z u) :=
  (((h.setCell (p := ⟨g, 0, none⟩) hg x).setCell (p := ⟨g, 1, none⟩) hg y).setCell (p := ⟨g, 2, none⟩) hg z).setCell (p := ⟨g, 3, none⟩) hg u
theorem Blk.far4 {w : World} {g : Nat} {t : TypeId} {cs : Array Value} (h : Blk w g t cs) {g' : Nat} (hg : g ≠ g') (x y z u : Value) : Blk (World.set4 w g' x y z u) g t cs :=
  (((h.far (p := ⟨g', 0, none⟩) hg x).far (p := ⟨g', 1, none⟩) hg y).far (p := ⟨g', 2, none⟩) hg z).far (p := ⟨g', 3, none⟩) hg u
/-- A block behind a call. -/
theorem Blk.call {w w' : World} {g : Nat} {t : TypeId} {cs : Array Value} (h : Blk w g t cs) (hb : Below w.heap.size w w') : Blk w' g t cs := h.below hb h.lt
/-- A block behind a new one and a call. -/
theorem Blk.over {w w' : World} {g : Nat} {t : TypeId} {cs : Array Value} {o : Obj} (h : Blk w g t cs) (hb : Below (w.alloc o).heap.size (w.alloc o) w') : Blk w' g t cs := (h.alloc o).call hb
/-- The first numbers of a row of the call's own. -/
theorem Own.take {α : Type} {f : α → Value} {e : TypeId} {w : World} {base : Nat} {A : Option Addr} {n c : Nat} {l : List α} (h : Own f e w base (.slice A n c) l) (k : Nat) (hk : k ≤ n) : Own f e w base (.slice A k c) (l.take k) := by
  obtain ⟨hl, hnc, _⟩ := h.cap
  have e1 : (l.take k).length = k := by simp; omega
  refine ⟨by simp, ?_⟩
  rcases h.2 with ⟨h2, h0⟩ | ⟨g, cap, cur, hv, hb, hh, h3, h4, h5, h6⟩
  · injection h2 with h2 h3 h4
    subst h2
    subst h4
    refine .inl ⟨by rw [show k = 0 from by omega], by omega⟩
  · injection hv with hv1 hv2 hv3
    subst hv1
    subst hv3
    refine .inr ⟨g, c, cur, by rw [e1], hb, hh, by omega, h4, h5, ?_⟩
    rw [e1, List.map_take, ← h6, List.take_take]
    congr 1
    omega
theorem own_block_take {A : Option Addr} {n k c : Nat} : (Value.slice A k c).ownBlock = (Value.slice A n c).ownBlock := by cases A <;> rfl
end Go.Proofs.Ytndlhhhebijknaa
