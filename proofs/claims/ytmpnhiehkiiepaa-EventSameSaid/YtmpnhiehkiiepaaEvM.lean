/-
  Contracts of the law's names and Many, and the fixed fact of chapter 24. Nothing old is written.
-/
import Derived.Test.YtmpnhiehkiiepaaEvN
namespace Go.Proofs.Ytmpnhiehkiiepaa
open Go.RowKit

/-- The law's row i: a kind's, with a mark behind it where it has bytes. -/
def nmRow (i : Nat) : List (List UInt8) := evRow (i + 1) ++ (if evData (i + 1) then [[43]] else [])
def NamesPost (w : World) (e : Ending) (w' : World) : Prop := ∃ g, e = .returned (.slice (some ⟨g, 0, none⟩) 19 19) ∧ w.heap.size ≤ g ∧ g < w'.heap.size ∧ Below w.heap.size w w' ∧
  ∀ i, i < 19 → ∃ A n c, w'.cell? ⟨g, i, none⟩ = some (.slice A n c) ∧ Rd strv w' w'.heap.size A (nmRow i) ∧ n = (nmRow i).length

/-- Blocks made one behind the other. -/
def allocs (w : World) (os : List Obj) : World := os.foldl World.alloc w
theorem allocs_size (os : List Obj) : ∀ w : World, (allocs w os).heap.size = w.heap.size + os.length := by
  induction os with
  | nil => intro w; rfl
  | cons o r ih => intro w; show (allocs (w.alloc o) r).heap.size = _; rw [ih]; simp; omega
theorem allocs_below (os : List Obj) : ∀ w : World, Below w.heap.size w (allocs w os) := by
  induction os with
  | nil => intro w; exact Below.refl _ _
  | cons o r ih =>
    intro w
    show Below _ _ (allocs (w.alloc o) r)
    exact ((Below.refl _ _).alloc (Nat.le_refl _) o).trans ((ih _).mono (by simp))
theorem allocs_get (os : List Obj) : ∀ (w : World) (i : Nat) (o : Obj), os[i]? = some o → (allocs w os).heap[w.heap.size + i]? = some o := by
  induction os with
  | nil => intro w i o h; simp at h
  | cons p r ih =>
    intro w i o h
    show (allocs (w.alloc p) r).heap[w.heap.size + i]? = _
    match i, h with
    | 0, h =>
      simp at h; subst h
      rw [(allocs_below r (w.alloc p)).block _ (by simp)]
      exact heap_alloc_new w p
    | i + 1, h =>
      have := ih (w.alloc p) i o (by simpa using h)
      rw [World.size_alloc] at this
      rw [← this]
      congr 1
      omega

/-- The blocks of names: 19 rows, and the row of them. -/
def nmObjs (b : Nat) : List Obj := (List.range 19).map (fun i => Obj.cells ((nmRow i).map strv).toArray 9) ++ [Obj.cells ((List.range 19).map (fun i => Value.slice (some ⟨b + i, 0, none⟩) (nmRow i).length (nmRow i).length)).toArray 38]
theorem names_close (w : World) : NamesPost w (.returned (.slice (some ⟨w.heap.size + 19, 0, none⟩) 19 19)) (allocs w (nmObjs w.heap.size)) := by
  have hz : (allocs w (nmObjs w.heap.size)).heap.size = w.heap.size + 20 := by rw [allocs_size]; simp [nmObjs]
  refine ⟨w.heap.size + 19, rfl, by omega, by omega, allocs_below _ w, fun i hi => ⟨some ⟨w.heap.size + i, 0, none⟩, (nmRow i).length, (nmRow i).length, ?_, ?_, rfl⟩⟩
  · have h := allocs_get (nmObjs w.heap.size) w 19 _ (by simp only [nmObjs]; rw [List.getElem?_append_right (by simp)]; simp only [List.length_map, List.length_range, Nat.sub_self]; rfl)
    simp only [World.cell?, h]
    simp [hi]
  · have h := allocs_get (nmObjs w.heap.size) w i (Obj.cells ((nmRow i).map strv).toArray 9) (by simp only [nmObjs]; rw [List.getElem?_append_left (by simp; omega)]; simp [hi])
    refine ⟨by simp, fun _ => ⟨_, _, rfl, by rw [hz]; omega, fun j u hu => ?_⟩⟩
    simp only [World.cell?, h, Nat.zero_add]
    simpa using hu

set_option maxRecDepth 100000 in
set_option maxHeartbeats 4000000 in
theorem names_any (w : World) : Calls Try.prog 21 #[] w (NamesPost w) := by
  have key := Lib.hid (names_close w)
  go_enter Try.func21, Try.ntmps21
  go_wp2
  trace "walked"
  refine bodyPost_ret (results_tmp rfl _ _ _) rfl ?_
  trace "ret"
  exact key.out
end Go.Proofs.Ytmpnhiehkiiepaa
