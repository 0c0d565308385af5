/-
  Events' kinds: the tables, and the contract of event.Of. Nothing old is written.
-/
import Derived.Test.YtmpnhiehkiiepaaStr
import Derived.Test.YtmpnhiehkiiepaaBlk
namespace Go.Proofs.Ytmpnhiehkiiepaa
open Go.RowKit

/-- A text as a cell. -/
def strv (l : List UInt8) : Value := .string ⟨l.toArray⟩
theorem strv_one (x : List UInt8) : (strv x).oneCell' = true := rfl

/-- A kind's row: its name, its numbers' names. -/
def evRow : Nat → List (List UInt8)
  | 1 => [[112, 104, 97, 115, 101], [112, 104, 97, 115, 101]]
  | 2 => [[112, 97, 99, 107, 101, 116, 95, 115, 101, 110, 116], [115, 112, 97, 99, 101], [110, 117, 109, 98, 101, 114], [115, 105, 122, 101], [101, 108, 105, 99, 105, 116, 105, 110, 103], [102, 108, 105, 103, 104, 116]]
  | 3 => [[112, 97, 99, 107, 101, 116, 95, 114, 101, 99, 101, 105, 118, 101, 100], [115, 112, 97, 99, 101], [110, 117, 109, 98, 101, 114], [115, 105, 122, 101]]
  | 4 => [[112, 97, 99, 107, 101, 116, 95, 97, 99, 107, 101, 100], [115, 112, 97, 99, 101], [110, 117, 109, 98, 101, 114]]
  | 5 => [[112, 97, 99, 107, 101, 116, 95, 108, 111, 115, 116], [115, 112, 97, 99, 101], [110, 117, 109, 98, 101, 114], [119, 104, 121]]
  | 6 => [[115, 112, 97, 99, 101, 95, 100, 114, 111, 112, 112, 101, 100], [115, 112, 97, 99, 101]]
  | 7 => [[114, 97, 110, 103, 101, 115, 95, 102, 111, 114, 103, 111, 116, 116, 101, 110], [115, 112, 97, 99, 101], [98, 101, 108, 111, 119]]
  | 8 => [[109, 101, 116, 114, 105, 99, 115, 95, 117, 112, 100, 97, 116, 101, 100], [108, 97, 116, 101, 115, 116], [108, 101, 97, 115, 116], [115, 109, 111, 111, 116, 104], [118, 97, 114, 105, 97, 110, 99, 101], [119, 105, 110, 100, 111, 119], [102, 108, 105, 103, 104, 116], [115, 108, 111, 119], [112, 114, 111, 98, 101, 115]]
  | 9 => [[99, 114, 101, 100, 105, 116, 95, 117, 112, 100, 97, 116, 101, 100], [115, 116, 114, 101, 97, 109], [103, 105, 118, 101, 110], [117, 115, 101, 100], [103, 111, 116], [115, 112, 101, 110, 116]]
  | 10 => [[115, 116, 114, 101, 97, 109, 95, 117, 112, 100, 97, 116, 101, 100], [115, 116, 114, 101, 97, 109], [115, 101, 110, 100], [119, 114, 105, 116, 116, 101, 110], [99, 97, 109, 101], [114, 101, 99, 118], [114, 101, 97, 100], [104, 105, 103, 104]]
  | 11 => [[111, 119, 110, 95, 105, 100, 95, 103, 105, 118, 101, 110], [115, 101, 113]]
  | 12 => [[111, 119, 110, 95, 105, 100, 95, 114, 101, 116, 105, 114, 101, 100], [115, 101, 113]]
  | 13 => [[111, 116, 104, 101, 114, 95, 105, 100, 95, 103, 105, 118, 101, 110], [115, 101, 113]]
  | 14 => [[111, 116, 104, 101, 114, 95, 105, 100, 95, 114, 101, 116, 105, 114, 101, 100], [115, 101, 113]]
  | 15 => [[105, 100, 95, 117, 115, 101, 100], [115, 101, 113]]
  | 16 => [[112, 97, 116, 104, 95, 117, 112, 100, 97, 116, 101, 100], [112, 97, 116, 104], [115, 116, 97, 116, 101]]
  | 17 => [[107, 101, 121, 95, 117, 112, 100, 97, 116, 101, 100], [115, 112, 97, 99, 101], [116, 117, 114, 110]]
  | 18 => [[99, 111, 110, 110, 101, 99, 116, 105, 111, 110, 95, 99, 108, 111, 115, 101, 100], [99, 111, 100, 101], [97, 112, 112], [111, 119, 110]]
  | 19 => [[108, 111, 103, 95, 116, 114, 117, 110, 99, 97, 116, 101, 100]]
  | _ => []
def evName (k : Nat) : List UInt8 := (evRow k).headD []
def evNames (k : Nat) : List (List UInt8) := (evRow k).tail
def evData (k : Nat) : Bool := k == 11 || k == 13
def evOk (k : Nat) : Bool := decide (1 ≤ k ∧ k ≤ 19)

theorem Rd.new_ {α : Type} (f : α → Value) (w : World) (cs : Array Value) (t : TypeId) (l : List α) (g : Nat) (hg : w.heap.size = g) (h : cs.toList.take l.length = l.map f) : Rd f (w.alloc (.cells cs t)) (g + 1) (some ⟨g, 0, none⟩) l := by
  subst hg; exact Rd.new f w cs t l h

/-- What event.Of comes to. -/
def OfPost (k : Nat) (w : World) (e : Ending) (w' : World) : Prop := ∃ A n c, e = .returned (.tuple #[.agg #[.string ⟨(evName k).toArray⟩, .slice A n c, .bool (evData k)], .bool (evOk k)]) ∧ Rd strv w' w'.heap.size A (evNames k) ∧ n = (evNames k).length ∧ Below w.heap.size w w'

set_option maxRecDepth 100000 in
set_option maxHeartbeats 1000000 in
theorem of_1 (w : World) : Calls Try.prog 22 #[.int .u8 1] w (OfPost 1 w) := by
  go_enter Try.func22, Try.ntmps22
  go_wp2
  exact bodyPost_ret (v := .tuple #[.agg #[.string ⟨#[112, 104, 97, 115, 101]⟩, (.slice (some ⟨w.heap.size + 1, 0, none⟩) 1 1), .bool false], .bool true]) (by simp [results, Try.results22, go_sem]) rfl ⟨_, _, _, rfl, ((Rd.new_ strv (w.alloc _) _ 9 _ _ (by simp) rfl).alloc (by simp) _).more (by simp), rfl, (((Below.refl _ _).alloc (Nat.le_refl _) _).alloc (by simp) _).alloc (by simp; omega) _⟩

set_option maxRecDepth 100000 in
set_option maxHeartbeats 1000000 in
theorem of_2 (w : World) : Calls Try.prog 22 #[.int .u8 2] w (OfPost 2 w) := by
  go_enter Try.func22, Try.ntmps22
  go_wp2
  exact bodyPost_ret (v := .tuple #[.agg #[.string ⟨#[112, 97, 99, 107, 101, 116, 95, 115, 101, 110, 116]⟩, (.slice (some ⟨w.heap.size + 1, 0, none⟩) 5 5), .bool false], .bool true]) (by simp [results, Try.results22, go_sem]) rfl ⟨_, _, _, rfl, ((Rd.new_ strv (w.alloc _) _ 9 _ _ (by simp) rfl).alloc (by simp) _).more (by simp), rfl, (((Below.refl _ _).alloc (Nat.le_refl _) _).alloc (by simp) _).alloc (by simp; omega) _⟩

set_option maxRecDepth 100000 in
set_option maxHeartbeats 1000000 in
theorem of_3 (w : World) : Calls Try.prog 22 #[.int .u8 3] w (OfPost 3 w) := by
  go_enter Try.func22, Try.ntmps22
  go_wp2
  exact bodyPost_ret (v := .tuple #[.agg #[.string ⟨#[112, 97, 99, 107, 101, 116, 95, 114, 101, 99, 101, 105, 118, 101, 100]⟩, (.slice (some ⟨w.heap.size + 1, 0, none⟩) 3 3), .bool false], .bool true]) (by simp [results, Try.results22, go_sem]) rfl ⟨_, _, _, rfl, ((Rd.new_ strv (w.alloc _) _ 9 _ _ (by simp) rfl).alloc (by simp) _).more (by simp), rfl, (((Below.refl _ _).alloc (Nat.le_refl _) _).alloc (by simp) _).alloc (by simp; omega) _⟩

set_option maxRecDepth 100000 in
set_option maxHeartbeats 1000000 in
theorem of_4 (w : World) : Calls Try.prog 22 #[.int .u8 4] w (OfPost 4 w) := by
  go_enter Try.func22, Try.ntmps22
  go_wp2
  exact bodyPost_ret (v := .tuple #[.agg #[.string ⟨#[112, 97, 99, 107, 101, 116, 95, 97, 99, 107, 101, 100]⟩, (.slice (some ⟨w.heap.size + 1, 0, none⟩) 2 2), .bool false], .bool true]) (by simp [results, Try.results22, go_sem]) rfl ⟨_, _, _, rfl, ((Rd.new_ strv (w.alloc _) _ 9 _ _ (by simp) rfl).alloc (by simp) _).more (by simp), rfl, (((Below.refl _ _).alloc (Nat.le_refl _) _).alloc (by simp) _).alloc (by simp; omega) _⟩

set_option maxRecDepth 100000 in
set_option maxHeartbeats 1000000 in
theorem of_5 (w : World) : Calls Try.prog 22 #[.int .u8 5] w (OfPost 5 w) := by
  go_enter Try.func22, Try.ntmps22
  go_wp2
  exact bodyPost_ret (v := .tuple #[.agg #[.string ⟨#[112, 97, 99, 107, 101, 116, 95, 108, 111, 115, 116]⟩, (.slice (some ⟨w.heap.size + 1, 0, none⟩) 3 3), .bool false], .bool true]) (by simp [results, Try.results22, go_sem]) rfl ⟨_, _, _, rfl, ((Rd.new_ strv (w.alloc _) _ 9 _ _ (by simp) rfl).alloc (by simp) _).more (by simp), rfl, (((Below.refl _ _).alloc (Nat.le_refl _) _).alloc (by simp) _).alloc (by simp; omega) _⟩

set_option maxRecDepth 100000 in
set_option maxHeartbeats 1000000 in
theorem of_6 (w : World) : Calls Try.prog 22 #[.int .u8 6] w (OfPost 6 w) := by
  go_enter Try.func22, Try.ntmps22
  go_wp2
  exact bodyPost_ret (v := .tuple #[.agg #[.string ⟨#[115, 112, 97, 99, 101, 95, 100, 114, 111, 112, 112, 101, 100]⟩, (.slice (some ⟨w.heap.size + 1, 0, none⟩) 1 1), .bool false], .bool true]) (by simp [results, Try.results22, go_sem]) rfl ⟨_, _, _, rfl, ((Rd.new_ strv (w.alloc _) _ 9 _ _ (by simp) rfl).alloc (by simp) _).more (by simp), rfl, (((Below.refl _ _).alloc (Nat.le_refl _) _).alloc (by simp) _).alloc (by simp; omega) _⟩

set_option maxRecDepth 100000 in
set_option maxHeartbeats 1000000 in
theorem of_7 (w : World) : Calls Try.prog 22 #[.int .u8 7] w (OfPost 7 w) := by
  go_enter Try.func22, Try.ntmps22
  go_wp2
  exact bodyPost_ret (v := .tuple #[.agg #[.string ⟨#[114, 97, 110, 103, 101, 115, 95, 102, 111, 114, 103, 111, 116, 116, 101, 110]⟩, (.slice (some ⟨w.heap.size + 1, 0, none⟩) 2 2), .bool false], .bool true]) (by simp [results, Try.results22, go_sem]) rfl ⟨_, _, _, rfl, ((Rd.new_ strv (w.alloc _) _ 9 _ _ (by simp) rfl).alloc (by simp) _).more (by simp), rfl, (((Below.refl _ _).alloc (Nat.le_refl _) _).alloc (by simp) _).alloc (by simp; omega) _⟩

set_option maxRecDepth 100000 in
set_option maxHeartbeats 1000000 in
theorem of_8 (w : World) : Calls Try.prog 22 #[.int .u8 8] w (OfPost 8 w) := by
  go_enter Try.func22, Try.ntmps22
  go_wp2
  exact bodyPost_ret (v := .tuple #[.agg #[.string ⟨#[109, 101, 116, 114, 105, 99, 115, 95, 117, 112, 100, 97, 116, 101, 100]⟩, (.slice (some ⟨w.heap.size + 1, 0, none⟩) 8 8), .bool false], .bool true]) (by simp [results, Try.results22, go_sem]) rfl ⟨_, _, _, rfl, ((Rd.new_ strv (w.alloc _) _ 9 _ _ (by simp) rfl).alloc (by simp) _).more (by simp), rfl, (((Below.refl _ _).alloc (Nat.le_refl _) _).alloc (by simp) _).alloc (by simp; omega) _⟩

set_option maxRecDepth 100000 in
set_option maxHeartbeats 1000000 in
theorem of_9 (w : World) : Calls Try.prog 22 #[.int .u8 9] w (OfPost 9 w) := by
  go_enter Try.func22, Try.ntmps22
  go_wp2
  exact bodyPost_ret (v := .tuple #[.agg #[.string ⟨#[99, 114, 101, 100, 105, 116, 95, 117, 112, 100, 97, 116, 101, 100]⟩, (.slice (some ⟨w.heap.size + 1, 0, none⟩) 5 5), .bool false], .bool true]) (by simp [results, Try.results22, go_sem]) rfl ⟨_, _, _, rfl, ((Rd.new_ strv (w.alloc _) _ 9 _ _ (by simp) rfl).alloc (by simp) _).more (by simp), rfl, (((Below.refl _ _).alloc (Nat.le_refl _) _).alloc (by simp) _).alloc (by simp; omega) _⟩

set_option maxRecDepth 100000 in
set_option maxHeartbeats 1000000 in
theorem of_10 (w : World) : Calls Try.prog 22 #[.int .u8 10] w (OfPost 10 w) := by
  go_enter Try.func22, Try.ntmps22
  go_wp2
  exact bodyPost_ret (v := .tuple #[.agg #[.string ⟨#[115, 116, 114, 101, 97, 109, 95, 117, 112, 100, 97, 116, 101, 100]⟩, (.slice (some ⟨w.heap.size + 1, 0, none⟩) 7 7), .bool false], .bool true]) (by simp [results, Try.results22, go_sem]) rfl ⟨_, _, _, rfl, ((Rd.new_ strv (w.alloc _) _ 9 _ _ (by simp) rfl).alloc (by simp) _).more (by simp), rfl, (((Below.refl _ _).alloc (Nat.le_refl _) _).alloc (by simp) _).alloc (by simp; omega) _⟩

set_option maxRecDepth 100000 in
set_option maxHeartbeats 1000000 in
theorem of_11 (w : World) : Calls Try.prog 22 #[.int .u8 11] w (OfPost 11 w) := by
  go_enter Try.func22, Try.ntmps22
  go_wp2
  exact bodyPost_ret (v := .tuple #[.agg #[.string ⟨#[111, 119, 110, 95, 105, 100, 95, 103, 105, 118, 101, 110]⟩, (.slice (some ⟨w.heap.size + 1, 0, none⟩) 1 1), .bool true], .bool true]) (by simp [results, Try.results22, go_sem]) rfl ⟨_, _, _, rfl, (Rd.new_ strv (w.alloc _) _ 9 _ _ (by simp) rfl).more (by simp), rfl, (((Below.refl _ _).alloc (Nat.le_refl _) _).alloc (by simp) _)⟩

set_option maxRecDepth 100000 in
set_option maxHeartbeats 1000000 in
theorem of_12 (w : World) : Calls Try.prog 22 #[.int .u8 12] w (OfPost 12 w) := by
  go_enter Try.func22, Try.ntmps22
  go_wp2
  exact bodyPost_ret (v := .tuple #[.agg #[.string ⟨#[111, 119, 110, 95, 105, 100, 95, 114, 101, 116, 105, 114, 101, 100]⟩, (.slice (some ⟨w.heap.size + 1, 0, none⟩) 1 1), .bool false], .bool true]) (by simp [results, Try.results22, go_sem]) rfl ⟨_, _, _, rfl, ((Rd.new_ strv (w.alloc _) _ 9 _ _ (by simp) rfl).alloc (by simp) _).more (by simp), rfl, (((Below.refl _ _).alloc (Nat.le_refl _) _).alloc (by simp) _).alloc (by simp; omega) _⟩

set_option maxRecDepth 100000 in
set_option maxHeartbeats 1000000 in
theorem of_13 (w : World) : Calls Try.prog 22 #[.int .u8 13] w (OfPost 13 w) := by
  go_enter Try.func22, Try.ntmps22
  go_wp2
  exact bodyPost_ret (v := .tuple #[.agg #[.string ⟨#[111, 116, 104, 101, 114, 95, 105, 100, 95, 103, 105, 118, 101, 110]⟩, (.slice (some ⟨w.heap.size + 1, 0, none⟩) 1 1), .bool true], .bool true]) (by simp [results, Try.results22, go_sem]) rfl ⟨_, _, _, rfl, (Rd.new_ strv (w.alloc _) _ 9 _ _ (by simp) rfl).more (by simp), rfl, (((Below.refl _ _).alloc (Nat.le_refl _) _).alloc (by simp) _)⟩

set_option maxRecDepth 100000 in
set_option maxHeartbeats 1000000 in
theorem of_14 (w : World) : Calls Try.prog 22 #[.int .u8 14] w (OfPost 14 w) := by
  go_enter Try.func22, Try.ntmps22
  go_wp2
  exact bodyPost_ret (v := .tuple #[.agg #[.string ⟨#[111, 116, 104, 101, 114, 95, 105, 100, 95, 114, 101, 116, 105, 114, 101, 100]⟩, (.slice (some ⟨w.heap.size + 1, 0, none⟩) 1 1), .bool false], .bool true]) (by simp [results, Try.results22, go_sem]) rfl ⟨_, _, _, rfl, ((Rd.new_ strv (w.alloc _) _ 9 _ _ (by simp) rfl).alloc (by simp) _).more (by simp), rfl, (((Below.refl _ _).alloc (Nat.le_refl _) _).alloc (by simp) _).alloc (by simp; omega) _⟩

set_option maxRecDepth 100000 in
set_option maxHeartbeats 1000000 in
theorem of_15 (w : World) : Calls Try.prog 22 #[.int .u8 15] w (OfPost 15 w) := by
  go_enter Try.func22, Try.ntmps22
  go_wp2
  exact bodyPost_ret (v := .tuple #[.agg #[.string ⟨#[105, 100, 95, 117, 115, 101, 100]⟩, (.slice (some ⟨w.heap.size + 1, 0, none⟩) 1 1), .bool false], .bool true]) (by simp [results, Try.results22, go_sem]) rfl ⟨_, _, _, rfl, ((Rd.new_ strv (w.alloc _) _ 9 _ _ (by simp) rfl).alloc (by simp) _).more (by simp), rfl, (((Below.refl _ _).alloc (Nat.le_refl _) _).alloc (by simp) _).alloc (by simp; omega) _⟩

set_option maxRecDepth 100000 in
set_option maxHeartbeats 1000000 in
theorem of_16 (w : World) : Calls Try.prog 22 #[.int .u8 16] w (OfPost 16 w) := by
  go_enter Try.func22, Try.ntmps22
  go_wp2
  exact bodyPost_ret (v := .tuple #[.agg #[.string ⟨#[112, 97, 116, 104, 95, 117, 112, 100, 97, 116, 101, 100]⟩, (.slice (some ⟨w.heap.size + 1, 0, none⟩) 2 2), .bool false], .bool true]) (by simp [results, Try.results22, go_sem]) rfl ⟨_, _, _, rfl, ((Rd.new_ strv (w.alloc _) _ 9 _ _ (by simp) rfl).alloc (by simp) _).more (by simp), rfl, (((Below.refl _ _).alloc (Nat.le_refl _) _).alloc (by simp) _).alloc (by simp; omega) _⟩

set_option maxRecDepth 100000 in
set_option maxHeartbeats 1000000 in
theorem of_17 (w : World) : Calls Try.prog 22 #[.int .u8 17] w (OfPost 17 w) := by
  go_enter Try.func22, Try.ntmps22
  go_wp2
  exact bodyPost_ret (v := .tuple #[.agg #[.string ⟨#[107, 101, 121, 95, 117, 112, 100, 97, 116, 101, 100]⟩, (.slice (some ⟨w.heap.size + 1, 0, none⟩) 2 2), .bool false], .bool true]) (by simp [results, Try.results22, go_sem]) rfl ⟨_, _, _, rfl, ((Rd.new_ strv (w.alloc _) _ 9 _ _ (by simp) rfl).alloc (by simp) _).more (by simp), rfl, (((Below.refl _ _).alloc (Nat.le_refl _) _).alloc (by simp) _).alloc (by simp; omega) _⟩

set_option maxRecDepth 100000 in
set_option maxHeartbeats 1000000 in
theorem of_18 (w : World) : Calls Try.prog 22 #[.int .u8 18] w (OfPost 18 w) := by
  go_enter Try.func22, Try.ntmps22
  go_wp2
  exact bodyPost_ret (v := .tuple #[.agg #[.string ⟨#[99, 111, 110, 110, 101, 99, 116, 105, 111, 110, 95, 99, 108, 111, 115, 101, 100]⟩, (.slice (some ⟨w.heap.size + 1, 0, none⟩) 3 3), .bool false], .bool true]) (by simp [results, Try.results22, go_sem]) rfl ⟨_, _, _, rfl, ((Rd.new_ strv (w.alloc _) _ 9 _ _ (by simp) rfl).alloc (by simp) _).more (by simp), rfl, (((Below.refl _ _).alloc (Nat.le_refl _) _).alloc (by simp) _).alloc (by simp; omega) _⟩

set_option maxRecDepth 100000 in
set_option maxHeartbeats 1000000 in
theorem of_19 (w : World) : Calls Try.prog 22 #[.int .u8 19] w (OfPost 19 w) := by
  go_enter Try.func22, Try.ntmps22
  go_wp2
  exact bodyPost_ret (v := .tuple #[.agg #[.string ⟨#[108, 111, 103, 95, 116, 114, 117, 110, 99, 97, 116, 101, 100]⟩, (.slice none 0 0), .bool false], .bool true]) (by simp [results, Try.results22, go_sem]) rfl ⟨_, _, _, rfl, Rd.nil_ _ _ _ _, rfl, (((Below.refl _ _).alloc (Nat.le_refl _) _).alloc (by simp) _)⟩

theorem evRow_none (k : Nat) (h : k = 0 ∨ 20 ≤ k) : evRow k = [] := by
  unfold evRow
  split <;> first | rfl | (exfalso; omega)
set_option maxRecDepth 100000 in
set_option maxHeartbeats 1000000 in
theorem of_none (k : Int) (w : World) (h0 : 0 ≤ k) (h : k = 0 ∨ 20 ≤ k) : Calls Try.prog 22 #[.int .u8 k] w (OfPost k.toNat w) := by
  have e1 : evName k.toNat = [] := by unfold evName; rw [evRow_none _ (by omega)]; rfl
  have e2 : evNames k.toNat = [] := by unfold evNames; rw [evRow_none _ (by omega)]; rfl
  have e3 : evData k.toNat = false := by unfold evData; simp; omega
  have e4 : evOk k.toNat = false := by unfold evOk; simp; omega
  have E1 := Lib.hid e1
  have E2 := Lib.hid e2
  have E3 := Lib.hid e3
  have E4 := Lib.hid e4
  clear e1 e2 e3 e4
  rcases h with h | h
  all_goals
    go_enter Try.func22, Try.ntmps22
    go_wp2
    refine bodyPost_ret (v := .tuple #[.agg #[.string ⟨#[]⟩, .slice none 0 0, .bool false], .bool false]) (by simp [results, Try.results22, go_sem]) rfl ⟨none, 0, 0, ?_, ?_, ?_, (Below.refl _ _).alloc (Nat.le_refl _) _⟩
    · rw [E1.out, E3.out, E4.out]
    · rw [E2.out]; exact Rd.nil_ _ _ _ _
    · rw [E2.out]; rfl
theorem of_any (k : Int) (w : World) (h0 : 0 ≤ k) : Calls Try.prog 22 #[.int .u8 k] w (OfPost k.toNat w) := by
  by_cases h : k = 0 ∨ 20 ≤ k
  · exact of_none k w h0 h
  · obtain ⟨n, rfl⟩ := Int.eq_ofNat_of_zero_le h0
    have hn : 1 ≤ n ∧ n ≤ 19 := by omega
    rw [Int.toNat_natCast]
    match n, hn with
    | 1, _ => exact of_1 w
    | 2, _ => exact of_2 w
    | 3, _ => exact of_3 w
    | 4, _ => exact of_4 w
    | 5, _ => exact of_5 w
    | 6, _ => exact of_6 w
    | 7, _ => exact of_7 w
    | 8, _ => exact of_8 w
    | 9, _ => exact of_9 w
    | 10, _ => exact of_10 w
    | 11, _ => exact of_11 w
    | 12, _ => exact of_12 w
    | 13, _ => exact of_13 w
    | 14, _ => exact of_14 w
    | 15, _ => exact of_15 w
    | 16, _ => exact of_16 w
    | 17, _ => exact of_17 w
    | 18, _ => exact of_18 w
    | 19, _ => exact of_19 w
    | 0, h => exact absurd h.1 (by omega)
    | n + 20, h => exact absurd h.2 (by omega)

end Go.Proofs.Ytmpnhiehkiiepaa
