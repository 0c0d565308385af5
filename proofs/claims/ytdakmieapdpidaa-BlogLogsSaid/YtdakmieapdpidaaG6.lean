/-
  Texts of this claim, part 6: EoA, EoB, EoC, EoD, VwA, VwB, EoE. No condition of its own.
-/
import Derived.Test.YtdakmieapdpidaaG5
section
/-
  Events: a kind's name, its numbers' names; event.Of. No condition.
-/
namespace Go.Proofs.Ytdakmieapdpidaa
set_option linter.unusedVariables false
namespace Ev
/-- A kind's row: its name, its numbers' names. -/
def evRow : Nat → List (List UInt8)
  | 1 => [[112, 104, 97, 115, 101], [112, 104, 97, 115, 101]]
  | 2 => [[112, 97, 99, 107, 101, 116, 95, 115, 101, 110, 116], [115, 112, 97, 99, 101], [110, 117, 109, 98, 101, 114], [115, 105, 122, 101], [101, 108, 105, 99, 105, 116, 105, 110, 103], [102, 108, 105, 103, 104, 116]]
  | 3 => [[112, 97, 99, 107, 101, 116, 95, 114, 101, 99, 101, 105, 118, 101, 100], [115, 112, 97, 99, 101], [110, 117, 109, 98, 101, 114], [115, 105, 122, 101]]
  | 4 => [[112, 97, 99, 107, 101, 116, 95, 97, 99, 107, 101, 100], [115, 112, 97, 99, 101], [110, 117, 109, 98, 101, 114]]
  | 5 => [[112, 97, 99, 107, 101, 116, 95, 108, 111, 115, 116], [115, 112, 97, 99, 101], [110, 117, 109, 98, 101, 114], [119, 104, 121]]
  | 6 => [[115, 112, 97, 99, 101, 95, 100, 114, 111, 112, 112, 101, 100], [115, 112, 97, 99, 101]]
  | 7 => [[114, 97, 110, 103, 101, 115, 95, 102, 111, 114, 103, 111, 116, 116, 101, 110], [115, 112, 97, 99, 101], [98, 101, 108, 111, 119]]
  | 8 => [[109, 101, 116, 114, 105, 99, 115, 95, 117, 112, 100, 97, 116, 101, 100], [108, 97, 116, 101, 115, 116], [108, 101, 97, 115, 116], [115, 109, 111, 111, 116, 104], [118, 97, 114, 105, 97, 110, 99, 101], [119, 105, 110, 100, 111, 119], [102, 108, 105, 103, 104, 116], [115, 108, 111, 119], [112, 114, 111, 98, 101, 115]]
  | 9 => [[99, 114, 101, 100, 105, 116, 95, 117, 112, 100, 97, 116, 101, 100], [115, 116, 114, 101, 97, 109], [103, 105, 118, 101, 110], [117, 115, 101, 100], [103, 111, 116], [115, 112, 101, 110, 116]]
  | 10 => [[115, 116, 114, 101, 97, 109, 95, 117, 112, 100, 97, 116, 101, 100], [115, 116, 114, 101, 97, 109], [115, 101, 110, 100], [119, 114, 105, 116, 116, 101, 110], [99, 97, 109, 101], [114, 101, 99, 118], [114, 101, 97, 100], [104, 105, 103, 104]]
  | 11 => [[111, 119, 110, 95, 105, 100, 95, 103, 105, 118, 101, 110], [115, 101, 113]]
  | 12 => [[111, 119, 110, 95, 105, 100, 95, 114, 101, 116, 105, 114, 101, 100], [115, 101, 113]]
  | 13 => [[111, 116, 104, 101, 114, 95, 105, 100, 95, 103, 105, 118, 101, 110], [115, 101, 113]]
  | 14 => [[111, 116, 104, 101, 114, 95, 105, 100, 95, 114, 101, 116, 105, 114, 101, 100], [115, 101, 113]]
  | 15 => [[105, 100, 95, 117, 115, 101, 100], [115, 101, 113]]
  | 16 => [[112, 97, 116, 104, 95, 117, 112, 100, 97, 116, 101, 100], [112, 97, 116, 104], [115, 116, 97, 116, 101]]
  | 17 => [[107, 101, 121, 95, 117, 112, 100, 97, 116, 101, 100], [115, 112, 97, 99, 101], [116, 117, 114, 110]]
  | 18 => [[99, 111, 110, 110, 101, 99, 116, 105, 111, 110, 95, 99, 108, 111, 115, 101, 100], [99, 111, 100, 101], [97, 112, 112], [111, 119, 110]]
  | 19 => [[108, 111, 103, 95, 116, 114, 117, 110, 99, 97, 116, 101, 100]]
  | _ => []
def evName (k : BitVec 8) : List UInt8 := (evRow k.toNat).headD []
def evNames (k : BitVec 8) : List (List UInt8) := (evRow k.toNat).tail
def evData (k : BitVec 8) : Bool := k.toNat == 11 || k.toNat == 13
def evOk (k : BitVec 8) : Bool := decide (1 ≤ k.toNat ∧ k.toNat ≤ 19)
end Ev
namespace Sx
open Go.RowKit Sha Vi Ev

/-- A row of texts; none: no block. -/
def strsF (l : List (List UInt8)) : Nat → SC := nthC (l.map .str)
def stB : List (List UInt8) → List Seg
  | [] => []
  | x :: l => [.row (x :: l).length (strsF (x :: l))]
abbrev stZ (l : List (List UInt8)) : Bool := l.isEmpty
abbrev stC (i : Nat) (l : List (List UInt8)) : SC := .sn (stZ l) i 0 0 l.length l.length
theorem nthC_str : ∀ (l : List (List UInt8)) (j : Nat), j < l.length → ∃ s, nthC (l.map SC.str) j = .str s ∧ l[j]? = some s
  | [], _, h => absurd h (by simp)
  | x :: l, 0, _ => ⟨x, rfl, rfl⟩
  | x :: l, j + 1, h => nthC_str l j (by simpa using h)
theorem eqC_strs {q : List Nat} (l : List (List UInt8)) {j : Nat} (h : j < l.length) : eqC q (nthC (l.map SC.str) j) (strsF l j) True := by
  obtain ⟨s, e, _⟩ := nthC_str l j h
  unfold strsF
  rw [e]; exact ⟨rfl, trivial⟩
theorem eqC_strsM {q : List Nat} {g : Nat → Nat} (l : List (List UInt8)) {j : Nat} (h : j < l.length) : eqC q (SC.mp g (nthC (l.map SC.str) j)) (strsF l j) True := by
  obtain ⟨s, e, _⟩ := nthC_str l j h
  unfold strsF
  rw [e]; exact ⟨rfl, trivial⟩
theorem fn_eshape (nm : List UInt8) (n : Nat) (f : Nat → SC) (hf : ∀ j, j < n → eqC [0] (f j) (f j) True) : Fn Try.prog tds 39 [[.row n f]] [.c (.str nm), .c (.sl 0 0 0 n n)] (fun _ => True)
    (fun y hs => y = .a (.agg [.one (.str nm), .one (.sl 0 0 0 n n), .one (.bool false)]) ∧ hs = [[.row n f]]) := by
  refine fn_of_body tds_ok follows_ Try.func39 rfl (t := .a (.c (.str nm)) :: .a (.c (.sl 0 0 0 n n)) :: anys (Try.f39.ntmps - 2)) rfl (fun w r0 hr _ => ?_)
  obtain ⟨x0, rfl⟩ := List.length_eq_one_iff.1 hr
  (repeat first | (refine And.intro ?_ ?_; first | exact rfl | ((exact fun h => absurd h (by first | decide)); intro yy; clear yy) | (rotate_left; (exact fun h => absurd h (by first | decide)); intro yy; clear yy) | decide | omega) | (with_reducible refine frc_bytesL (by first | omega | decide) ?_) | (with_reducible refine frc_bytesM (by first | omega | decide) ?_))
  refine ⟨.a (.agg [.one (.str nm), .one (.sl 0 0 0 n n), .one (.bool false)]), [[.row n f]], ⟨[0], ⟨rfl, rfl, rfl⟩, ?_⟩, rfl, rfl⟩
  (repeat first | exact trivial | refine ent1 ?_)
theorem fn_eshape0 (nm : List UInt8) : Fn Try.prog tds 39 [] [.c (.str nm), .c (.slc none 0 0)] (fun _ => True)
    (fun y hs => y = .a (.agg [.one (.str nm), .one (.slc none 0 0), .one (.bool false)]) ∧ hs = []) := by
  refine fn_of_body tds_ok follows_ Try.func39 rfl (t := .a (.c (.str nm)) :: .a (.c (.slc none 0 0)) :: anys (Try.f39.ntmps - 2)) rfl (fun w r0 hr _ => ?_)
  obtain rfl : r0 = [] := List.eq_nil_of_length_eq_zero hr
  (repeat first | (refine And.intro ?_ ?_; first | exact rfl | ((exact fun h => absurd h (by first | decide)); intro yy; clear yy) | (rotate_left; (exact fun h => absurd h (by first | decide)); intro yy; clear yy) | decide | omega) | (with_reducible refine frc_bytesL (by first | omega | decide) ?_) | (with_reducible refine frc_bytesM (by first | omega | decide) ?_))
  exact ⟨.a (.agg [.one (.str nm), .one (.slc none 0 0), .one (.bool false)]), [], ⟨[], ⟨rfl, rfl, rfl⟩, by (repeat first | exact trivial | refine ent1 ?_)⟩, rfl, rfl⟩
set_option maxRecDepth 20000 in
set_option maxHeartbeats 8000000 in
theorem fn_eof (k : BitVec 8) : Fn Try.prog tds 23 [] [.c (.w8 k)] (fun _ => True)
    (fun y hs => y = .tup [.agg [.one (.str (evName k)), .one (stC 0 (evNames k)), .one (.bool (evData k))], .c (.bool (evOk k))] ∧ hs = [stB (evNames k)]) := by
  refine fn_of_body tds_ok follows_ Try.func23 rfl (t := .a (.c (.w8 k)) :: anys (Try.f23.ntmps - 1)) rfl (fun w r0 hr _ => ?_)
  obtain rfl : r0 = [] := List.eq_nil_of_length_eq_zero hr
  (repeat first | (refine And.intro ?_ ?_; first | exact rfl | ((exact fun h => absurd h (by first | decide)); intro yy; clear yy) | (rotate_left; (exact fun h => absurd h (by first | decide)); intro yy; clear yy) | decide | omega) | (with_reducible refine frc_bytesL (by first | omega | decide) ?_) | (with_reducible refine frc_bytesM (by first | omega | decide) ?_))
  by_cases h1 : k = 1#8
  · subst h1
    (repeat first | (refine And.intro ?_ ?_; first | exact rfl | ((exact fun h => absurd h (by first | decide)); intro yy; clear yy) | (rotate_left; (exact fun h => absurd h (by first | decide)); intro yy; clear yy) | decide | omega) | (with_reducible refine frc_bytesL (by first | omega | decide) ?_) | (with_reducible refine frc_bytesM (by first | omega | decide) ?_))
    refine call_same (fn_eshape _ 1 _ (fun j hj => eqC_strs (evNames 1#8) hj)) [1] rfl (by (repeat first | exact trivial | refine ent1 ?_)) (by exact ⟨rfl, fun j hj => eqC_strs (evNames 1#8) hj, trivial⟩) (fun _ _ => trivial) ?_
    rintro y hs' ⟨rfl, rfl⟩
    (repeat first | (refine And.intro ?_ ?_; first | exact rfl | ((exact fun h => absurd h (by first | decide)); intro yy; clear yy) | (rotate_left; (exact fun h => absurd h (by first | decide)); intro yy; clear yy) | decide | omega) | (with_reducible refine frc_bytesL (by first | omega | decide) ?_) | (with_reducible refine frc_bytesM (by first | omega | decide) ?_))
    refine ⟨.tup [.agg [.one (.str (evName 1#8)), .one (stC 0 (evNames 1#8)), .one (.bool (evData 1#8))], .c (.bool (evOk 1#8))], [stB (evNames 1#8)], ⟨[1], ⟨rfl, rfl, rfl⟩, ?_⟩, rfl, rfl⟩
    (repeat first | exact trivial | refine ent1 ?_)
    exact ⟨fun j hj => eqC_strsM (evNames 1#8) hj, trivial⟩
  have e1 : decide (k = 1#8) = false := decide_eq_false h1
  (repeat first | (refine And.intro ?_ ?_; first | exact rfl | ((exact fun h => absurd h (by first | decide | (rw [e1]; decide))); intro yy; clear yy) | (rotate_left; (exact fun h => absurd h (by first | decide | (rw [e1]; decide))); intro yy; clear yy) | decide | omega) | (with_reducible refine frc_bytesL (by first | omega | decide) ?_) | (with_reducible refine frc_bytesM (by first | omega | decide) ?_))
  by_cases h2 : k = 2#8
  · subst h2
    (repeat first | (refine And.intro ?_ ?_; first | exact rfl | ((exact fun h => absurd h (by first | decide)); intro yy; clear yy) | (rotate_left; (exact fun h => absurd h (by first | decide)); intro yy; clear yy) | decide | omega) | (with_reducible refine frc_bytesL (by first | omega | decide) ?_) | (with_reducible refine frc_bytesM (by first | omega | decide) ?_))
    refine call_same (fn_eshape _ 5 _ (fun j hj => eqC_strs (evNames 2#8) hj)) [1] rfl (by (repeat first | exact trivial | refine ent1 ?_)) (by exact ⟨rfl, fun j hj => eqC_strs (evNames 2#8) hj, trivial⟩) (fun _ _ => trivial) ?_
    rintro y hs' ⟨rfl, rfl⟩
    (repeat first | (refine And.intro ?_ ?_; first | exact rfl | ((exact fun h => absurd h (by first | decide)); intro yy; clear yy) | (rotate_left; (exact fun h => absurd h (by first | decide)); intro yy; clear yy) | decide | omega) | (with_reducible refine frc_bytesL (by first | omega | decide) ?_) | (with_reducible refine frc_bytesM (by first | omega | decide) ?_))
    refine ⟨.tup [.agg [.one (.str (evName 2#8)), .one (stC 0 (evNames 2#8)), .one (.bool (evData 2#8))], .c (.bool (evOk 2#8))], [stB (evNames 2#8)], ⟨[1], ⟨rfl, rfl, rfl⟩, ?_⟩, rfl, rfl⟩
    (repeat first | exact trivial | refine ent1 ?_)
    exact ⟨fun j hj => eqC_strsM (evNames 2#8) hj, trivial⟩
  have e2 : decide (k = 2#8) = false := decide_eq_false h2
  (repeat first | (refine And.intro ?_ ?_; first | exact rfl | ((exact fun h => absurd h (by first | decide | (rw [e2]; decide))); intro yy; clear yy) | (rotate_left; (exact fun h => absurd h (by first | decide | (rw [e2]; decide))); intro yy; clear yy) | decide | omega) | (with_reducible refine frc_bytesL (by first | omega | decide) ?_) | (with_reducible refine frc_bytesM (by first | omega | decide) ?_))
  by_cases h3 : k = 3#8
  · subst h3
    (repeat first | (refine And.intro ?_ ?_; first | exact rfl | ((exact fun h => absurd h (by first | decide)); intro yy; clear yy) | (rotate_left; (exact fun h => absurd h (by first | decide)); intro yy; clear yy) | decide | omega) | (with_reducible refine frc_bytesL (by first | omega | decide) ?_) | (with_reducible refine frc_bytesM (by first | omega | decide) ?_))
    refine call_same (fn_eshape _ 3 _ (fun j hj => eqC_strs (evNames 3#8) hj)) [1] rfl (by (repeat first | exact trivial | refine ent1 ?_)) (by exact ⟨rfl, fun j hj => eqC_strs (evNames 3#8) hj, trivial⟩) (fun _ _ => trivial) ?_
    rintro y hs' ⟨rfl, rfl⟩
    (repeat first | (refine And.intro ?_ ?_; first | exact rfl | ((exact fun h => absurd h (by first | decide)); intro yy; clear yy) | (rotate_left; (exact fun h => absurd h (by first | decide)); intro yy; clear yy) | decide | omega) | (with_reducible refine frc_bytesL (by first | omega | decide) ?_) | (with_reducible refine frc_bytesM (by first | omega | decide) ?_))
    refine ⟨.tup [.agg [.one (.str (evName 3#8)), .one (stC 0 (evNames 3#8)), .one (.bool (evData 3#8))], .c (.bool (evOk 3#8))], [stB (evNames 3#8)], ⟨[1], ⟨rfl, rfl, rfl⟩, ?_⟩, rfl, rfl⟩
    (repeat first | exact trivial | refine ent1 ?_)
    exact ⟨fun j hj => eqC_strsM (evNames 3#8) hj, trivial⟩
  have e3 : decide (k = 3#8) = false := decide_eq_false h3
  (repeat first | (refine And.intro ?_ ?_; first | exact rfl | ((exact fun h => absurd h (by first | decide | (rw [e3]; decide))); intro yy; clear yy) | (rotate_left; (exact fun h => absurd h (by first | decide | (rw [e3]; decide))); intro yy; clear yy) | decide | omega) | (with_reducible refine frc_bytesL (by first | omega | decide) ?_) | (with_reducible refine frc_bytesM (by first | omega | decide) ?_))
  by_cases h4 : k = 4#8
  · subst h4
    (repeat first | (refine And.intro ?_ ?_; first | exact rfl | ((exact fun h => absurd h (by first | decide)); intro yy; clear yy) | (rotate_left; (exact fun h => absurd h (by first | decide)); intro yy; clear yy) | decide | omega) | (with_reducible refine frc_bytesL (by first | omega | decide) ?_) | (with_reducible refine frc_bytesM (by first | omega | decide) ?_))
    refine call_same (fn_eshape _ 2 _ (fun j hj => eqC_strs (evNames 4#8) hj)) [1] rfl (by (repeat first | exact trivial | refine ent1 ?_)) (by exact ⟨rfl, fun j hj => eqC_strs (evNames 4#8) hj, trivial⟩) (fun _ _ => trivial) ?_
    rintro y hs' ⟨rfl, rfl⟩
    (repeat first | (refine And.intro ?_ ?_; first | exact rfl | ((exact fun h => absurd h (by first | decide)); intro yy; clear yy) | (rotate_left; (exact fun h => absurd h (by first | decide)); intro yy; clear yy) | decide | omega) | (with_reducible refine frc_bytesL (by first | omega | decide) ?_) | (with_reducible refine frc_bytesM (by first | omega | decide) ?_))
    refine ⟨.tup [.agg [.one (.str (evName 4#8)), .one (stC 0 (evNames 4#8)), .one (.bool (evData 4#8))], .c (.bool (evOk 4#8))], [stB (evNames 4#8)], ⟨[1], ⟨rfl, rfl, rfl⟩, ?_⟩, rfl, rfl⟩
    (repeat first | exact trivial | refine ent1 ?_)
    exact ⟨fun j hj => eqC_strsM (evNames 4#8) hj, trivial⟩
  have e4 : decide (k = 4#8) = false := decide_eq_false h4
  (repeat first | (refine And.intro ?_ ?_; first | exact rfl | ((exact fun h => absurd h (by first | decide | (rw [e4]; decide))); intro yy; clear yy) | (rotate_left; (exact fun h => absurd h (by first | decide | (rw [e4]; decide))); intro yy; clear yy) | decide | omega) | (with_reducible refine frc_bytesL (by first | omega | decide) ?_) | (with_reducible refine frc_bytesM (by first | omega | decide) ?_))
  by_cases h5 : k = 5#8
  · subst h5
    (repeat first | (refine And.intro ?_ ?_; first | exact rfl | ((exact fun h => absurd h (by first | decide)); intro yy; clear yy) | (rotate_left; (exact fun h => absurd h (by first | decide)); intro yy; clear yy) | decide | omega) | (with_reducible refine frc_bytesL (by first | omega | decide) ?_) | (with_reducible refine frc_bytesM (by first | omega | decide) ?_))
    refine call_same (fn_eshape _ 3 _ (fun j hj => eqC_strs (evNames 5#8) hj)) [1] rfl (by (repeat first | exact trivial | refine ent1 ?_)) (by exact ⟨rfl, fun j hj => eqC_strs (evNames 5#8) hj, trivial⟩) (fun _ _ => trivial) ?_
    rintro y hs' ⟨rfl, rfl⟩
    (repeat first | (refine And.intro ?_ ?_; first | exact rfl | ((exact fun h => absurd h (by first | decide)); intro yy; clear yy) | (rotate_left; (exact fun h => absurd h (by first | decide)); intro yy; clear yy) | decide | omega) | (with_reducible refine frc_bytesL (by first | omega | decide) ?_) | (with_reducible refine frc_bytesM (by first | omega | decide) ?_))
    refine ⟨.tup [.agg [.one (.str (evName 5#8)), .one (stC 0 (evNames 5#8)), .one (.bool (evData 5#8))], .c (.bool (evOk 5#8))], [stB (evNames 5#8)], ⟨[1], ⟨rfl, rfl, rfl⟩, ?_⟩, rfl, rfl⟩
    (repeat first | exact trivial | refine ent1 ?_)
    exact ⟨fun j hj => eqC_strsM (evNames 5#8) hj, trivial⟩
  have e5 : decide (k = 5#8) = false := decide_eq_false h5
  (repeat first | (refine And.intro ?_ ?_; first | exact rfl | ((exact fun h => absurd h (by first | decide | (rw [e5]; decide))); intro yy; clear yy) | (rotate_left; (exact fun h => absurd h (by first | decide | (rw [e5]; decide))); intro yy; clear yy) | decide | omega) | (with_reducible refine frc_bytesL (by first | omega | decide) ?_) | (with_reducible refine frc_bytesM (by first | omega | decide) ?_))
  by_cases h6 : k = 6#8
  · subst h6
    (repeat first | (refine And.intro ?_ ?_; first | exact rfl | ((exact fun h => absurd h (by first | decide)); intro yy; clear yy) | (rotate_left; (exact fun h => absurd h (by first | decide)); intro yy; clear yy) | decide | omega) | (with_reducible refine frc_bytesL (by first | omega | decide) ?_) | (with_reducible refine frc_bytesM (by first | omega | decide) ?_))
    refine call_same (fn_eshape _ 1 _ (fun j hj => eqC_strs (evNames 6#8) hj)) [1] rfl (by (repeat first | exact trivial | refine ent1 ?_)) (by exact ⟨rfl, fun j hj => eqC_strs (evNames 6#8) hj, trivial⟩) (fun _ _ => trivial) ?_
    rintro y hs' ⟨rfl, rfl⟩
    (repeat first | (refine And.intro ?_ ?_; first | exact rfl | ((exact fun h => absurd h (by first | decide)); intro yy; clear yy) | (rotate_left; (exact fun h => absurd h (by first | decide)); intro yy; clear yy) | decide | omega) | (with_reducible refine frc_bytesL (by first | omega | decide) ?_) | (with_reducible refine frc_bytesM (by first | omega | decide) ?_))
    refine ⟨.tup [.agg [.one (.str (evName 6#8)), .one (stC 0 (evNames 6#8)), .one (.bool (evData 6#8))], .c (.bool (evOk 6#8))], [stB (evNames 6#8)], ⟨[1], ⟨rfl, rfl, rfl⟩, ?_⟩, rfl, rfl⟩
    (repeat first | exact trivial | refine ent1 ?_)
    exact ⟨fun j hj => eqC_strsM (evNames 6#8) hj, trivial⟩
  have e6 : decide (k = 6#8) = false := decide_eq_false h6
  (repeat first | (refine And.intro ?_ ?_; first | exact rfl | ((exact fun h => absurd h (by first | decide | (rw [e6]; decide))); intro yy; clear yy) | (rotate_left; (exact fun h => absurd h (by first | decide | (rw [e6]; decide))); intro yy; clear yy) | decide | omega) | (with_reducible refine frc_bytesL (by first | omega | decide) ?_) | (with_reducible refine frc_bytesM (by first | omega | decide) ?_))
  by_cases h7 : k = 7#8
  · subst h7
    (repeat first | (refine And.intro ?_ ?_; first | exact rfl | ((exact fun h => absurd h (by first | decide)); intro yy; clear yy) | (rotate_left; (exact fun h => absurd h (by first | decide)); intro yy; clear yy) | decide | omega) | (with_reducible refine frc_bytesL (by first | omega | decide) ?_) | (with_reducible refine frc_bytesM (by first | omega | decide) ?_))
    refine call_same (fn_eshape _ 2 _ (fun j hj => eqC_strs (evNames 7#8) hj)) [1] rfl (by (repeat first | exact trivial | refine ent1 ?_)) (by exact ⟨rfl, fun j hj => eqC_strs (evNames 7#8) hj, trivial⟩) (fun _ _ => trivial) ?_
    rintro y hs' ⟨rfl, rfl⟩
    (repeat first | (refine And.intro ?_ ?_; first | exact rfl | ((exact fun h => absurd h (by first | decide)); intro yy; clear yy) | (rotate_left; (exact fun h => absurd h (by first | decide)); intro yy; clear yy) | decide | omega) | (with_reducible refine frc_bytesL (by first | omega | decide) ?_) | (with_reducible refine frc_bytesM (by first | omega | decide) ?_))
    refine ⟨.tup [.agg [.one (.str (evName 7#8)), .one (stC 0 (evNames 7#8)), .one (.bool (evData 7#8))], .c (.bool (evOk 7#8))], [stB (evNames 7#8)], ⟨[1], ⟨rfl, rfl, rfl⟩, ?_⟩, rfl, rfl⟩
    (repeat first | exact trivial | refine ent1 ?_)
    exact ⟨fun j hj => eqC_strsM (evNames 7#8) hj, trivial⟩
  have e7 : decide (k = 7#8) = false := decide_eq_false h7
  (repeat first | (refine And.intro ?_ ?_; first | exact rfl | ((exact fun h => absurd h (by first | decide | (rw [e7]; decide))); intro yy; clear yy) | (rotate_left; (exact fun h => absurd h (by first | decide | (rw [e7]; decide))); intro yy; clear yy) | decide | omega) | (with_reducible refine frc_bytesL (by first | omega | decide) ?_) | (with_reducible refine frc_bytesM (by first | omega | decide) ?_))
  by_cases h8 : k = 8#8
  · subst h8
    (repeat first | (refine And.intro ?_ ?_; first | exact rfl | ((exact fun h => absurd h (by first | decide)); intro yy; clear yy) | (rotate_left; (exact fun h => absurd h (by first | decide)); intro yy; clear yy) | decide | omega) | (with_reducible refine frc_bytesL (by first | omega | decide) ?_) | (with_reducible refine frc_bytesM (by first | omega | decide) ?_))
    refine call_same (fn_eshape _ 8 _ (fun j hj => eqC_strs (evNames 8#8) hj)) [1] rfl (by (repeat first | exact trivial | refine ent1 ?_)) (by exact ⟨rfl, fun j hj => eqC_strs (evNames 8#8) hj, trivial⟩) (fun _ _ => trivial) ?_
    rintro y hs' ⟨rfl, rfl⟩
    (repeat first | (refine And.intro ?_ ?_; first | exact rfl | ((exact fun h => absurd h (by first | decide)); intro yy; clear yy) | (rotate_left; (exact fun h => absurd h (by first | decide)); intro yy; clear yy) | decide | omega) | (with_reducible refine frc_bytesL (by first | omega | decide) ?_) | (with_reducible refine frc_bytesM (by first | omega | decide) ?_))
    refine ⟨.tup [.agg [.one (.str (evName 8#8)), .one (stC 0 (evNames 8#8)), .one (.bool (evData 8#8))], .c (.bool (evOk 8#8))], [stB (evNames 8#8)], ⟨[1], ⟨rfl, rfl, rfl⟩, ?_⟩, rfl, rfl⟩
    (repeat first | exact trivial | refine ent1 ?_)
    exact ⟨fun j hj => eqC_strsM (evNames 8#8) hj, trivial⟩
  have e8 : decide (k = 8#8) = false := decide_eq_false h8
  (repeat first | (refine And.intro ?_ ?_; first | exact rfl | ((exact fun h => absurd h (by first | decide | (rw [e8]; decide))); intro yy; clear yy) | (rotate_left; (exact fun h => absurd h (by first | decide | (rw [e8]; decide))); intro yy; clear yy) | decide | omega) | (with_reducible refine frc_bytesL (by first | omega | decide) ?_) | (with_reducible refine frc_bytesM (by first | omega | decide) ?_))
  by_cases h9 : k = 9#8
  · subst h9
    (repeat first | (refine And.intro ?_ ?_; first | exact rfl | ((exact fun h => absurd h (by first | decide)); intro yy; clear yy) | (rotate_left; (exact fun h => absurd h (by first | decide)); intro yy; clear yy) | decide | omega) | (with_reducible refine frc_bytesL (by first | omega | decide) ?_) | (with_reducible refine frc_bytesM (by first | omega | decide) ?_))
    refine call_same (fn_eshape _ 5 _ (fun j hj => eqC_strs (evNames 9#8) hj)) [1] rfl (by (repeat first | exact trivial | refine ent1 ?_)) (by exact ⟨rfl, fun j hj => eqC_strs (evNames 9#8) hj, trivial⟩) (fun _ _ => trivial) ?_
    rintro y hs' ⟨rfl, rfl⟩
    (repeat first | (refine And.intro ?_ ?_; first | exact rfl | ((exact fun h => absurd h (by first | decide)); intro yy; clear yy) | (rotate_left; (exact fun h => absurd h (by first | decide)); intro yy; clear yy) | decide | omega) | (with_reducible refine frc_bytesL (by first | omega | decide) ?_) | (with_reducible refine frc_bytesM (by first | omega | decide) ?_))
    refine ⟨.tup [.agg [.one (.str (evName 9#8)), .one (stC 0 (evNames 9#8)), .one (.bool (evData 9#8))], .c (.bool (evOk 9#8))], [stB (evNames 9#8)], ⟨[1], ⟨rfl, rfl, rfl⟩, ?_⟩, rfl, rfl⟩
    (repeat first | exact trivial | refine ent1 ?_)
    exact ⟨fun j hj => eqC_strsM (evNames 9#8) hj, trivial⟩
  have e9 : decide (k = 9#8) = false := decide_eq_false h9
  (repeat first | (refine And.intro ?_ ?_; first | exact rfl | ((exact fun h => absurd h (by first | decide | (rw [e9]; decide))); intro yy; clear yy) | (rotate_left; (exact fun h => absurd h (by first | decide | (rw [e9]; decide))); intro yy; clear yy) | decide | omega) | (with_reducible refine frc_bytesL (by first | omega | decide) ?_) | (with_reducible refine frc_bytesM (by first | omega | decide) ?_))
  by_cases h10 : k = 10#8
  · subst h10
    (repeat first | (refine And.intro ?_ ?_; first | exact rfl | ((exact fun h => absurd h (by first | decide)); intro yy; clear yy) | (rotate_left; (exact fun h => absurd h (by first | decide)); intro yy; clear yy) | decide | omega) | (with_reducible refine frc_bytesL (by first | omega | decide) ?_) | (with_reducible refine frc_bytesM (by first | omega | decide) ?_))
    refine call_same (fn_eshape _ 7 _ (fun j hj => eqC_strs (evNames 10#8) hj)) [1] rfl (by (repeat first | exact trivial | refine ent1 ?_)) (by exact ⟨rfl, fun j hj => eqC_strs (evNames 10#8) hj, trivial⟩) (fun _ _ => trivial) ?_
    rintro y hs' ⟨rfl, rfl⟩
    (repeat first | (refine And.intro ?_ ?_; first | exact rfl | ((exact fun h => absurd h (by first | decide)); intro yy; clear yy) | (rotate_left; (exact fun h => absurd h (by first | decide)); intro yy; clear yy) | decide | omega) | (with_reducible refine frc_bytesL (by first | omega | decide) ?_) | (with_reducible refine frc_bytesM (by first | omega | decide) ?_))
    refine ⟨.tup [.agg [.one (.str (evName 10#8)), .one (stC 0 (evNames 10#8)), .one (.bool (evData 10#8))], .c (.bool (evOk 10#8))], [stB (evNames 10#8)], ⟨[1], ⟨rfl, rfl, rfl⟩, ?_⟩, rfl, rfl⟩
    (repeat first | exact trivial | refine ent1 ?_)
    exact ⟨fun j hj => eqC_strsM (evNames 10#8) hj, trivial⟩
  have e10 : decide (k = 10#8) = false := decide_eq_false h10
  (repeat first | (refine And.intro ?_ ?_; first | exact rfl | ((exact fun h => absurd h (by first | decide | (rw [e10]; decide))); intro yy; clear yy) | (rotate_left; (exact fun h => absurd h (by first | decide | (rw [e10]; decide))); intro yy; clear yy) | decide | omega) | (with_reducible refine frc_bytesL (by first | omega | decide) ?_) | (with_reducible refine frc_bytesM (by first | omega | decide) ?_))
  by_cases h11 : k = 11#8
  · subst h11
    (repeat first | (refine And.intro ?_ ?_; first | exact rfl | ((exact fun h => absurd h (by first | decide)); intro yy; clear yy) | (rotate_left; (exact fun h => absurd h (by first | decide)); intro yy; clear yy) | decide | omega) | (with_reducible refine frc_bytesL (by first | omega | decide) ?_) | (with_reducible refine frc_bytesM (by first | omega | decide) ?_))
    refine ⟨.tup [.agg [.one (.str (evName 11#8)), .one (stC 0 (evNames 11#8)), .one (.bool (evData 11#8))], .c (.bool (evOk 11#8))], [stB (evNames 11#8)], ⟨[1], ⟨rfl, rfl, rfl⟩, ?_⟩, rfl, rfl⟩
    (repeat first | exact trivial | refine ent1 ?_)
    exact ⟨fun j hj => eqC_strs (evNames 11#8) hj, trivial⟩
  have e11 : decide (k = 11#8) = false := decide_eq_false h11
  (repeat first | (refine And.intro ?_ ?_; first | exact rfl | ((exact fun h => absurd h (by first | decide | (rw [e11]; decide))); intro yy; clear yy) | (rotate_left; (exact fun h => absurd h (by first | decide | (rw [e11]; decide))); intro yy; clear yy) | decide | omega) | (with_reducible refine frc_bytesL (by first | omega | decide) ?_) | (with_reducible refine frc_bytesM (by first | omega | decide) ?_))
  by_cases h12 : k = 12#8
  · subst h12
    (repeat first | (refine And.intro ?_ ?_; first | exact rfl | ((exact fun h => absurd h (by first | decide)); intro yy; clear yy) | (rotate_left; (exact fun h => absurd h (by first | decide)); intro yy; clear yy) | decide | omega) | (with_reducible refine frc_bytesL (by first | omega | decide) ?_) | (with_reducible refine frc_bytesM (by first | omega | decide) ?_))
    refine call_same (fn_eshape _ 1 _ (fun j hj => eqC_strs (evNames 12#8) hj)) [1] rfl (by (repeat first | exact trivial | refine ent1 ?_)) (by exact ⟨rfl, fun j hj => eqC_strs (evNames 12#8) hj, trivial⟩) (fun _ _ => trivial) ?_
    rintro y hs' ⟨rfl, rfl⟩
    (repeat first | (refine And.intro ?_ ?_; first | exact rfl | ((exact fun h => absurd h (by first | decide)); intro yy; clear yy) | (rotate_left; (exact fun h => absurd h (by first | decide)); intro yy; clear yy) | decide | omega) | (with_reducible refine frc_bytesL (by first | omega | decide) ?_) | (with_reducible refine frc_bytesM (by first | omega | decide) ?_))
    refine ⟨.tup [.agg [.one (.str (evName 12#8)), .one (stC 0 (evNames 12#8)), .one (.bool (evData 12#8))], .c (.bool (evOk 12#8))], [stB (evNames 12#8)], ⟨[1], ⟨rfl, rfl, rfl⟩, ?_⟩, rfl, rfl⟩
    (repeat first | exact trivial | refine ent1 ?_)
    exact ⟨fun j hj => eqC_strsM (evNames 12#8) hj, trivial⟩
  have e12 : decide (k = 12#8) = false := decide_eq_false h12
  (repeat first | (refine And.intro ?_ ?_; first | exact rfl | ((exact fun h => absurd h (by first | decide | (rw [e12]; decide))); intro yy; clear yy) | (rotate_left; (exact fun h => absurd h (by first | decide | (rw [e12]; decide))); intro yy; clear yy) | decide | omega) | (with_reducible refine frc_bytesL (by first | omega | decide) ?_) | (with_reducible refine frc_bytesM (by first | omega | decide) ?_))
  by_cases h13 : k = 13#8
  · subst h13
    (repeat first | (refine And.intro ?_ ?_; first | exact rfl | ((exact fun h => absurd h (by first | decide)); intro yy; clear yy) | (rotate_left; (exact fun h => absurd h (by first | decide)); intro yy; clear yy) | decide | omega) | (with_reducible refine frc_bytesL (by first | omega | decide) ?_) | (with_reducible refine frc_bytesM (by first | omega | decide) ?_))
    refine ⟨.tup [.agg [.one (.str (evName 13#8)), .one (stC 0 (evNames 13#8)), .one (.bool (evData 13#8))], .c (.bool (evOk 13#8))], [stB (evNames 13#8)], ⟨[1], ⟨rfl, rfl, rfl⟩, ?_⟩, rfl, rfl⟩
    (repeat first | exact trivial | refine ent1 ?_)
    exact ⟨fun j hj => eqC_strs (evNames 13#8) hj, trivial⟩
  have e13 : decide (k = 13#8) = false := decide_eq_false h13
  (repeat first | (refine And.intro ?_ ?_; first | exact rfl | ((exact fun h => absurd h (by first | decide | (rw [e13]; decide))); intro yy; clear yy) | (rotate_left; (exact fun h => absurd h (by first | decide | (rw [e13]; decide))); intro yy; clear yy) | decide | omega) | (with_reducible refine frc_bytesL (by first | omega | decide) ?_) | (with_reducible refine frc_bytesM (by first | omega | decide) ?_))
  by_cases h14 : k = 14#8
  · subst h14
    (repeat first | (refine And.intro ?_ ?_; first | exact rfl | ((exact fun h => absurd h (by first | decide)); intro yy; clear yy) | (rotate_left; (exact fun h => absurd h (by first | decide)); intro yy; clear yy) | decide | omega) | (with_reducible refine frc_bytesL (by first | omega | decide) ?_) | (with_reducible refine frc_bytesM (by first | omega | decide) ?_))
    refine call_same (fn_eshape _ 1 _ (fun j hj => eqC_strs (evNames 14#8) hj)) [1] rfl (by (repeat first | exact trivial | refine ent1 ?_)) (by exact ⟨rfl, fun j hj => eqC_strs (evNames 14#8) hj, trivial⟩) (fun _ _ => trivial) ?_
    rintro y hs' ⟨rfl, rfl⟩
    (repeat first | (refine And.intro ?_ ?_; first | exact rfl | ((exact fun h => absurd h (by first | decide)); intro yy; clear yy) | (rotate_left; (exact fun h => absurd h (by first | decide)); intro yy; clear yy) | decide | omega) | (with_reducible refine frc_bytesL (by first | omega | decide) ?_) | (with_reducible refine frc_bytesM (by first | omega | decide) ?_))
    refine ⟨.tup [.agg [.one (.str (evName 14#8)), .one (stC 0 (evNames 14#8)), .one (.bool (evData 14#8))], .c (.bool (evOk 14#8))], [stB (evNames 14#8)], ⟨[1], ⟨rfl, rfl, rfl⟩, ?_⟩, rfl, rfl⟩
    (repeat first | exact trivial | refine ent1 ?_)
    exact ⟨fun j hj => eqC_strsM (evNames 14#8) hj, trivial⟩
  have e14 : decide (k = 14#8) = false := decide_eq_false h14
  (repeat first | (refine And.intro ?_ ?_; first | exact rfl | ((exact fun h => absurd h (by first | decide | (rw [e14]; decide))); intro yy; clear yy) | (rotate_left; (exact fun h => absurd h (by first | decide | (rw [e14]; decide))); intro yy; clear yy) | decide | omega) | (with_reducible refine frc_bytesL (by first | omega | decide) ?_) | (with_reducible refine frc_bytesM (by first | omega | decide) ?_))
  by_cases h15 : k = 15#8
  · subst h15
    (repeat first | (refine And.intro ?_ ?_; first | exact rfl | ((exact fun h => absurd h (by first | decide)); intro yy; clear yy) | (rotate_left; (exact fun h => absurd h (by first | decide)); intro yy; clear yy) | decide | omega) | (with_reducible refine frc_bytesL (by first | omega | decide) ?_) | (with_reducible refine frc_bytesM (by first | omega | decide) ?_))
    refine call_same (fn_eshape _ 1 _ (fun j hj => eqC_strs (evNames 15#8) hj)) [1] rfl (by (repeat first | exact trivial | refine ent1 ?_)) (by exact ⟨rfl, fun j hj => eqC_strs (evNames 15#8) hj, trivial⟩) (fun _ _ => trivial) ?_
    rintro y hs' ⟨rfl, rfl⟩
    (repeat first | (refine And.intro ?_ ?_; first | exact rfl | ((exact fun h => absurd h (by first | decide)); intro yy; clear yy) | (rotate_left; (exact fun h => absurd h (by first | decide)); intro yy; clear yy) | decide | omega) | (with_reducible refine frc_bytesL (by first | omega | decide) ?_) | (with_reducible refine frc_bytesM (by first | omega | decide) ?_))
    refine ⟨.tup [.agg [.one (.str (evName 15#8)), .one (stC 0 (evNames 15#8)), .one (.bool (evData 15#8))], .c (.bool (evOk 15#8))], [stB (evNames 15#8)], ⟨[1], ⟨rfl, rfl, rfl⟩, ?_⟩, rfl, rfl⟩
    (repeat first | exact trivial | refine ent1 ?_)
    exact ⟨fun j hj => eqC_strsM (evNames 15#8) hj, trivial⟩
  have e15 : decide (k = 15#8) = false := decide_eq_false h15
  (repeat first | (refine And.intro ?_ ?_; first | exact rfl | ((exact fun h => absurd h (by first | decide | (rw [e15]; decide))); intro yy; clear yy) | (rotate_left; (exact fun h => absurd h (by first | decide | (rw [e15]; decide))); intro yy; clear yy) | decide | omega) | (with_reducible refine frc_bytesL (by first | omega | decide) ?_) | (with_reducible refine frc_bytesM (by first | omega | decide) ?_))
  by_cases h16 : k = 16#8
  · subst h16
    (repeat first | (refine And.intro ?_ ?_; first | exact rfl | ((exact fun h => absurd h (by first | decide)); intro yy; clear yy) | (rotate_left; (exact fun h => absurd h (by first | decide)); intro yy; clear yy) | decide | omega) | (with_reducible refine frc_bytesL (by first | omega | decide) ?_) | (with_reducible refine frc_bytesM (by first | omega | decide) ?_))
    refine call_same (fn_eshape _ 2 _ (fun j hj => eqC_strs (evNames 16#8) hj)) [1] rfl (by (repeat first | exact trivial | refine ent1 ?_)) (by exact ⟨rfl, fun j hj => eqC_strs (evNames 16#8) hj, trivial⟩) (fun _ _ => trivial) ?_
    rintro y hs' ⟨rfl, rfl⟩
    (repeat first | (refine And.intro ?_ ?_; first | exact rfl | ((exact fun h => absurd h (by first | decide)); intro yy; clear yy) | (rotate_left; (exact fun h => absurd h (by first | decide)); intro yy; clear yy) | decide | omega) | (with_reducible refine frc_bytesL (by first | omega | decide) ?_) | (with_reducible refine frc_bytesM (by first | omega | decide) ?_))
    refine ⟨.tup [.agg [.one (.str (evName 16#8)), .one (stC 0 (evNames 16#8)), .one (.bool (evData 16#8))], .c (.bool (evOk 16#8))], [stB (evNames 16#8)], ⟨[1], ⟨rfl, rfl, rfl⟩, ?_⟩, rfl, rfl⟩
    (repeat first | exact trivial | refine ent1 ?_)
    exact ⟨fun j hj => eqC_strsM (evNames 16#8) hj, trivial⟩
  have e16 : decide (k = 16#8) = false := decide_eq_false h16
  (repeat first | (refine And.intro ?_ ?_; first | exact rfl | ((exact fun h => absurd h (by first | decide | (rw [e16]; decide))); intro yy; clear yy) | (rotate_left; (exact fun h => absurd h (by first | decide | (rw [e16]; decide))); intro yy; clear yy) | decide | omega) | (with_reducible refine frc_bytesL (by first | omega | decide) ?_) | (with_reducible refine frc_bytesM (by first | omega | decide) ?_))
  by_cases h17 : k = 17#8
  · subst h17
    (repeat first | (refine And.intro ?_ ?_; first | exact rfl | ((exact fun h => absurd h (by first | decide)); intro yy; clear yy) | (rotate_left; (exact fun h => absurd h (by first | decide)); intro yy; clear yy) | decide | omega) | (with_reducible refine frc_bytesL (by first | omega | decide) ?_) | (with_reducible refine frc_bytesM (by first | omega | decide) ?_))
    refine call_same (fn_eshape _ 2 _ (fun j hj => eqC_strs (evNames 17#8) hj)) [1] rfl (by (repeat first | exact trivial | refine ent1 ?_)) (by exact ⟨rfl, fun j hj => eqC_strs (evNames 17#8) hj, trivial⟩) (fun _ _ => trivial) ?_
    rintro y hs' ⟨rfl, rfl⟩
    (repeat first | (refine And.intro ?_ ?_; first | exact rfl | ((exact fun h => absurd h (by first | decide)); intro yy; clear yy) | (rotate_left; (exact fun h => absurd h (by first | decide)); intro yy; clear yy) | decide | omega) | (with_reducible refine frc_bytesL (by first | omega | decide) ?_) | (with_reducible refine frc_bytesM (by first | omega | decide) ?_))
    refine ⟨.tup [.agg [.one (.str (evName 17#8)), .one (stC 0 (evNames 17#8)), .one (.bool (evData 17#8))], .c (.bool (evOk 17#8))], [stB (evNames 17#8)], ⟨[1], ⟨rfl, rfl, rfl⟩, ?_⟩, rfl, rfl⟩
    (repeat first | exact trivial | refine ent1 ?_)
    exact ⟨fun j hj => eqC_strsM (evNames 17#8) hj, trivial⟩
  have e17 : decide (k = 17#8) = false := decide_eq_false h17
  (repeat first | (refine And.intro ?_ ?_; first | exact rfl | ((exact fun h => absurd h (by first | decide | (rw [e17]; decide))); intro yy; clear yy) | (rotate_left; (exact fun h => absurd h (by first | decide | (rw [e17]; decide))); intro yy; clear yy) | decide | omega) | (with_reducible refine frc_bytesL (by first | omega | decide) ?_) | (with_reducible refine frc_bytesM (by first | omega | decide) ?_))
  by_cases h18 : k = 18#8
  · subst h18
    (repeat first | (refine And.intro ?_ ?_; first | exact rfl | ((exact fun h => absurd h (by first | decide)); intro yy; clear yy) | (rotate_left; (exact fun h => absurd h (by first | decide)); intro yy; clear yy) | decide | omega) | (with_reducible refine frc_bytesL (by first | omega | decide) ?_) | (with_reducible refine frc_bytesM (by first | omega | decide) ?_))
    refine call_same (fn_eshape _ 3 _ (fun j hj => eqC_strs (evNames 18#8) hj)) [1] rfl (by (repeat first | exact trivial | refine ent1 ?_)) (by exact ⟨rfl, fun j hj => eqC_strs (evNames 18#8) hj, trivial⟩) (fun _ _ => trivial) ?_
    rintro y hs' ⟨rfl, rfl⟩
    (repeat first | (refine And.intro ?_ ?_; first | exact rfl | ((exact fun h => absurd h (by first | decide)); intro yy; clear yy) | (rotate_left; (exact fun h => absurd h (by first | decide)); intro yy; clear yy) | decide | omega) | (with_reducible refine frc_bytesL (by first | omega | decide) ?_) | (with_reducible refine frc_bytesM (by first | omega | decide) ?_))
    refine ⟨.tup [.agg [.one (.str (evName 18#8)), .one (stC 0 (evNames 18#8)), .one (.bool (evData 18#8))], .c (.bool (evOk 18#8))], [stB (evNames 18#8)], ⟨[1], ⟨rfl, rfl, rfl⟩, ?_⟩, rfl, rfl⟩
    (repeat first | exact trivial | refine ent1 ?_)
    exact ⟨fun j hj => eqC_strsM (evNames 18#8) hj, trivial⟩
  have e18 : decide (k = 18#8) = false := decide_eq_false h18
  (repeat first | (refine And.intro ?_ ?_; first | exact rfl | ((exact fun h => absurd h (by first | decide | (rw [e18]; decide))); intro yy; clear yy) | (rotate_left; (exact fun h => absurd h (by first | decide | (rw [e18]; decide))); intro yy; clear yy) | decide | omega) | (with_reducible refine frc_bytesL (by first | omega | decide) ?_) | (with_reducible refine frc_bytesM (by first | omega | decide) ?_))
  by_cases h19 : k = 19#8
  · subst h19
    (repeat first | (refine And.intro ?_ ?_; first | exact rfl | ((exact fun h => absurd h (by first | decide)); intro yy; clear yy) | (rotate_left; (exact fun h => absurd h (by first | decide)); intro yy; clear yy) | decide | omega) | (with_reducible refine frc_bytesL (by first | omega | decide) ?_) | (with_reducible refine frc_bytesM (by first | omega | decide) ?_))
    refine call_same (fn_eshape0 _) [] rfl (by (repeat first | exact trivial | refine ent1 ?_)) (by (repeat first | exact trivial | refine ent1 ?_)) (fun _ _ => trivial) ?_
    rintro y hs' ⟨rfl, rfl⟩
    (repeat first | (refine And.intro ?_ ?_; first | exact rfl | ((exact fun h => absurd h (by first | decide)); intro yy; clear yy) | (rotate_left; (exact fun h => absurd h (by first | decide)); intro yy; clear yy) | decide | omega) | (with_reducible refine frc_bytesL (by first | omega | decide) ?_) | (with_reducible refine frc_bytesM (by first | omega | decide) ?_))
    exact ⟨.tup [.agg [.one (.str (evName 19#8)), .one (stC 0 (evNames 19#8)), .one (.bool (evData 19#8))], .c (.bool (evOk 19#8))], [stB (evNames 19#8)], ⟨[0], ⟨rfl, rfl, rfl⟩, by (repeat first | exact trivial | refine ent1 ?_)⟩, rfl, rfl⟩
  have e19 : decide (k = 19#8) = false := decide_eq_false h19
  (repeat first | (refine And.intro ?_ ?_; first | exact rfl | ((exact fun h => absurd h (by first | decide | (rw [e19]; decide))); intro yy; clear yy) | (rotate_left; (exact fun h => absurd h (by first | decide | (rw [e19]; decide))); intro yy; clear yy) | decide | omega) | (with_reducible refine frc_bytesL (by first | omega | decide) ?_) | (with_reducible refine frc_bytesM (by first | omega | decide) ?_))
  have hk : ¬ (1 ≤ k.toNat ∧ k.toNat ≤ 19) := by
    intro h
    have : k.toNat = 1 ∨ k.toNat = 2 ∨ k.toNat = 3 ∨ k.toNat = 4 ∨ k.toNat = 5 ∨ k.toNat = 6 ∨ k.toNat = 7 ∨ k.toNat = 8 ∨ k.toNat = 9 ∨ k.toNat = 10 ∨ k.toNat = 11 ∨ k.toNat = 12 ∨ k.toNat = 13 ∨ k.toNat = 14 ∨ k.toNat = 15 ∨ k.toNat = 16 ∨ k.toNat = 17 ∨ k.toNat = 18 ∨ k.toNat = 19 := by omega
    rcases this with h | h | h | h | h | h | h | h | h | h | h | h | h | h | h | h | h | h | h
    · exact h1 (BitVec.eq_of_toNat_eq h)
    · exact h2 (BitVec.eq_of_toNat_eq h)
    · exact h3 (BitVec.eq_of_toNat_eq h)
    · exact h4 (BitVec.eq_of_toNat_eq h)
    · exact h5 (BitVec.eq_of_toNat_eq h)
    · exact h6 (BitVec.eq_of_toNat_eq h)
    · exact h7 (BitVec.eq_of_toNat_eq h)
    · exact h8 (BitVec.eq_of_toNat_eq h)
    · exact h9 (BitVec.eq_of_toNat_eq h)
    · exact h10 (BitVec.eq_of_toNat_eq h)
    · exact h11 (BitVec.eq_of_toNat_eq h)
    · exact h12 (BitVec.eq_of_toNat_eq h)
    · exact h13 (BitVec.eq_of_toNat_eq h)
    · exact h14 (BitVec.eq_of_toNat_eq h)
    · exact h15 (BitVec.eq_of_toNat_eq h)
    · exact h16 (BitVec.eq_of_toNat_eq h)
    · exact h17 (BitVec.eq_of_toNat_eq h)
    · exact h18 (BitVec.eq_of_toNat_eq h)
    · exact h19 (BitVec.eq_of_toNat_eq h)
  have e1 : evRow k.toNat = [] := by
    unfold evRow
    split <;> first | (exfalso; omega) | rfl
  have e2 : evOk k = false := decide_eq_false hk
  have e3 : evData k = false := by
    unfold evData
    have h11 : k.toNat ≠ 11 := by omega
    have h13 : k.toNat ≠ 13 := by omega
    simp [h11, h13]
  have e4 : evName k = [] := by unfold evName; rw [e1]; rfl
  have e5 : evNames k = [] := by unfold evNames; rw [e1]; rfl
  rw [e2, e3, e4, e5]
  exact ⟨.tup [.agg [.one (.str []), .one (stC 0 []), .one (.bool false)], .c (.bool false)], [stB []], ⟨[0], ⟨rfl, rfl, rfl⟩, by (repeat first | exact trivial | refine ent1 ?_)⟩, rfl, rfl⟩
end Sx
end Go.Proofs.Ytdakmieapdpidaa
end

section
/-
  Events that nobody turns: event.Check. No condition.
-/
namespace Go.Proofs.Ytdakmieapdpidaa
set_option linter.unusedVariables false
namespace Ev
/-- An event: kind, time, numbers, bytes. -/
structure Ev where
  k : BitVec 8
  t : BitVec 64
  N : List (BitVec 64)
  D : Sha.Bs
/-- Why it may not be. -/
def checkM (e : Ev) : Int :=
  if evOk e.k = false then 5 else if 1125899906842624#64 < e.t then 21 else if e.N.length ≠ (evNames e.k).length then 6
  else if 20 < e.D.length then 4 else if 0 < e.D.length ∧ evData e.k = false then 4 else if ∃ n ∈ e.N, 4611686018427387903#64 < n then 2 else 0
/-- Where its numbers and bytes lie. -/
structure EvC where
  aN : Option Addr
  nN : Nat
  cN : Nat
  aD : Option Addr
  nD : Nat
  cD : Nat
end Ev
namespace Sx
open Go.RowKit Sha Vi Ev

abbrev evS (e : Ev) (x : EvC) : List Seg := [.one (.w8 e.k), .one (.w64 e.t), .one (.slc x.aN x.nN x.cN), .one (.slc x.aD x.nD x.cD)]
structure EvAt (W : World) (ms : List Nat) (x : EvC) (e : Ev) : Prop where
  N : NsAt W ms x.aN x.nN x.cN e.N
  D : BsAt W ms x.aD x.nD x.cD e.D
theorem EvAt.later {W W' : World} {ms ms' : List Nat} {x : EvC} {e : Ev} (h : EvAt W ms x e) (k : Later W ms W' ms') : EvAt W' ms' x e := ⟨h.N.later k, h.D.later k⟩
theorem EvAt.nN {W : World} {ms : List Nat} {x : EvC} {e : Ev} (h : EvAt W ms x e) : x.nN = e.N.length := h.N.n1.symm
theorem EvAt.nD {W : World} {ms : List Nat} {x : EvC} {e : Ev} (h : EvAt W ms x e) : x.nD = e.D.length := h.D.n1.symm
set_option maxRecDepth 20000 in
set_option maxHeartbeats 8000000 in
theorem fn_echeck {W : World} {ms : List Nat} {x : EvC} {e : Ev} (h : EvAt W ms x e) : FnR Try.prog tds 11 1 [[.past W ms]] [.agg (evS e x)] (fun _ => True)
    (fun y hs => y = .a (.c (.int .i64 (checkM e))) ∧ hs = [[.past W ms]]) := by
  have hN := h.N
  have hn1 := h.nN
  have hn2 := h.nD
  have hNc := h.N.le
  have hNm := h.N.cap
  have hDc := h.D.le
  have hDm := h.D.cap
  obtain ⟨aN, nN, cN, aD, nD, cD⟩ := x
  dsimp only at hN hn1 hn2 hNc hNm hDc hDm
  subst hn1; subst hn2
  refine fn_of_body tds_ok follows_ Try.func11 rfl (t := .a (.agg (evS e ⟨aN, e.N.length, cN, aD, e.D.length, cD⟩)) :: anys (Try.f11.ntmps - 1)) rfl (fun w r0 hr _ => ?_)
  obtain ⟨x0, rfl⟩ := List.length_eq_one_iff.1 hr
  (repeat first | (refine And.intro ?_ ?_; first | exact rfl | ((exact fun h => absurd h (by first | decide)); intro yy; clear yy) | (rotate_left; (exact fun h => absurd h (by first | decide)); intro yy; clear yy) | decide | omega) | (with_reducible refine frc_bytesL (by first | omega | decide) ?_) | (with_reducible refine frc_bytesM (by first | omega | decide) ?_))
  refine call_same (fn_eof e.k) [] rfl (by (repeat first | exact trivial | refine ent1 ?_)) trivial (fun _ _ => trivial) ?_
  rintro y hs' ⟨rfl, rfl⟩
  unfold checkM
  cases h1 : evOk e.k
  · (repeat first | (refine And.intro ?_ ?_; first | exact rfl | ((exact fun h => absurd h (by first | decide)); intro yy; clear yy) | (rotate_left; (exact fun h => absurd h (by first | decide)); intro yy; clear yy) | decide | omega) | (with_reducible refine frc_bytesL (by first | omega | decide) ?_) | (with_reducible refine frc_bytesM (by first | omega | decide) ?_))
    exact ⟨.a (.c (.int .i64 5)), [[.past W ms]], ⟨[0], ⟨rfl, rfl, rfl⟩, by (repeat first | exact trivial | refine ent1 ?_)⟩, rfl, rfl⟩
  rw [if_neg (by decide)]
  (repeat first | (refine And.intro ?_ ?_; first | exact rfl | ((exact fun h => absurd h (by first | decide)); intro yy; clear yy) | (rotate_left; (exact fun h => absurd h (by first | decide)); intro yy; clear yy) | decide | omega) | (with_reducible refine frc_bytesL (by first | omega | decide) ?_) | (with_reducible refine frc_bytesM (by first | omega | decide) ?_))
  by_cases h2 : 1125899906842624#64 < e.t
  · have e2 : decide (1125899906842624#64 < e.t) = true := decide_eq_true h2
    rw [if_pos h2]
    (repeat first | (refine And.intro ?_ ?_; first | exact rfl | ((exact fun h => absurd h (by first | decide | (rw [e2]; decide))); intro yy; clear yy) | (rotate_left; (exact fun h => absurd h (by first | decide | (rw [e2]; decide))); intro yy; clear yy) | decide | omega) | (with_reducible refine frc_bytesL (by first | omega | decide) ?_) | (with_reducible refine frc_bytesM (by first | omega | decide) ?_))
    exact ⟨.a (.c (.int .i64 21)), [[.past W ms]], ⟨[0], ⟨rfl, rfl, rfl⟩, by (repeat first | exact trivial | refine ent1 ?_)⟩, rfl, rfl⟩
  have e2 : decide (1125899906842624#64 < e.t) = false := decide_eq_false h2
  rw [if_neg h2]
  (repeat first | (refine And.intro ?_ ?_; first | exact rfl | ((exact fun h => absurd h (by first | decide | (rw [e2]; decide))); intro yy; clear yy) | (rotate_left; (exact fun h => absurd h (by first | decide | (rw [e2]; decide))); intro yy; clear yy) | decide | omega) | (with_reducible refine frc_bytesL (by first | omega | decide) ?_) | (with_reducible refine frc_bytesM (by first | omega | decide) ?_))
  by_cases h3 : e.N.length ≠ (evNames e.k).length
  · have e3 : decide ((e.N.length : Int) ≠ ((evNames e.k).length : Int)) = true := decide_eq_true (by omega)
    rw [if_pos h3]
    (repeat first | (refine And.intro ?_ ?_; first | exact rfl | ((exact fun h => absurd h (by first | decide | (rw [e3]; decide))); intro yy; clear yy) | (rotate_left; (exact fun h => absurd h (by first | decide | (rw [e3]; decide))); intro yy; clear yy) | decide | omega) | (with_reducible refine frc_bytesL (by first | omega | decide) ?_) | (with_reducible refine frc_bytesM (by first | omega | decide) ?_))
    exact ⟨.a (.c (.int .i64 6)), [[.past W ms]], ⟨[0], ⟨rfl, rfl, rfl⟩, by (repeat first | exact trivial | refine ent1 ?_)⟩, rfl, rfl⟩
  have e3 : decide ((e.N.length : Int) ≠ ((evNames e.k).length : Int)) = false := decide_eq_false (by omega)
  rw [if_neg h3]
  (repeat first | (refine And.intro ?_ ?_; first | exact rfl | ((exact fun h => absurd h (by first | decide | (rw [e3]; decide))); intro yy; clear yy) | (rotate_left; (exact fun h => absurd h (by first | decide | (rw [e3]; decide))); intro yy; clear yy) | decide | omega) | (with_reducible refine frc_bytesL (by first | omega | decide) ?_) | (with_reducible refine frc_bytesM (by first | omega | decide) ?_))
  by_cases h4 : 20 < e.D.length
  · have e4 : decide ((20 : Int) < (e.D.length : Int)) = true := decide_eq_true (by omega)
    rw [if_pos h4]
    (repeat first | (refine And.intro ?_ ?_; first | exact rfl | ((exact fun h => absurd h (by first | decide | (rw [e4]; decide))); intro yy; clear yy) | (rotate_left; (exact fun h => absurd h (by first | decide | (rw [e4]; decide))); intro yy; clear yy) | decide | omega) | (with_reducible refine frc_bytesL (by first | omega | decide) ?_) | (with_reducible refine frc_bytesM (by first | omega | decide) ?_))
    exact ⟨.a (.c (.int .i64 4)), [[.past W ms]], ⟨[0], ⟨rfl, rfl, rfl⟩, by (repeat first | exact trivial | refine ent1 ?_)⟩, rfl, rfl⟩
  have e4 : decide ((20 : Int) < (e.D.length : Int)) = false := decide_eq_false (by omega)
  rw [if_neg h4]
  (repeat first | (refine And.intro ?_ ?_; first | exact rfl | ((exact fun h => absurd h (by first | decide | (rw [e4]; decide))); intro yy; clear yy) | (rotate_left; (exact fun h => absurd h (by first | decide | (rw [e4]; decide))); intro yy; clear yy) | decide | omega) | (with_reducible refine frc_bytesL (by first | omega | decide) ?_) | (with_reducible refine frc_bytesM (by first | omega | decide) ?_))
  by_cases h5 : 0 < e.D.length
  · have e5 : decide ((0 : Int) < (e.D.length : Int)) = true := decide_eq_true (by omega)
    cases h6 : evData e.k
    · rw [if_pos ⟨h5, rfl⟩]
      (repeat first | (refine And.intro ?_ ?_; first | exact rfl | ((exact fun h => absurd h (by first | decide | (rw [e5]; decide))); intro yy; clear yy) | (rotate_left; (exact fun h => absurd h (by first | decide | (rw [e5]; decide))); intro yy; clear yy) | decide | omega) | (with_reducible refine frc_bytesL (by first | omega | decide) ?_) | (with_reducible refine frc_bytesM (by first | omega | decide) ?_))
      exact ⟨.a (.c (.int .i64 4)), [[.past W ms]], ⟨[0], ⟨rfl, rfl, rfl⟩, by (repeat first | exact trivial | refine ent1 ?_)⟩, rfl, rfl⟩
    · rw [if_neg (fun hc => Bool.noConfusion hc.2)]
      (repeat first | (refine And.intro ?_ ?_; first | exact rfl | ((exact fun h => absurd h (by first | decide | (rw [e5]; decide))); intro yy; clear yy) | (rotate_left; (exact fun h => absurd h (by first | decide | (rw [e5]; decide))); intro yy; clear yy) | decide | omega) | (with_reducible refine frc_bytesL (by first | omega | decide) ?_) | (with_reducible refine frc_bytesM (by first | omega | decide) ?_))
      refine .inl ⟨Nat, fun i => ⟨[.any, .any, .any, .any, .any, .any, .any, .any, .any, .any, .any, .any, .any, .any, .any, .any, .any, .any, .any, .any, .any, .any, .any, .any, .any, .any, .any, .any, .any, .any, .any, .any, .any, .any, .any, .any, .any, .any, .any, .any, .any, .any, .any, .a (.c (.slc aN e.N.length cN)), .a (.c (.int .i64 (↑e.N.length))), .a (.c (.int .i64 (↑i))), .any, .any, .any, .any, .any, .any], [[.past W ms]]⟩, fun i => i ≤ e.N.length ∧ ∀ j, j < i → ∀ n, e.N[j]? = some n → ¬ 4611686018427387903#64 < n, fun i => e.N.length - i, ⟨0, [0], ⟨⟨rfl, rfl, rfl⟩, by (repeat first | exact trivial | refine ent1 ?_)⟩, Nat.zero_le _, fun j hj => absurd hj (Nat.not_lt_zero _)⟩, fun i ⟨hi, hall⟩ => ⟨fun hlt => ?_, fun hge => ?_⟩⟩
      · have hlt : i < e.N.length := by have := of_decide_eq_true hlt; omega
        obtain ⟨n, hn⟩ : ∃ n, e.N[i]? = some n := ⟨_, List.getElem?_eq_getElem hlt⟩
        cases aN with
        | none => have := hN.nil_.1; omega
        | some A =>
        (repeat first | (refine And.intro ?_ ?_; first | exact rfl | ((exact fun h => absurd h (by first | decide)); intro yy; clear yy) | (rotate_left; (exact fun h => absurd h (by first | decide)); intro yy; clear yy) | decide | omega) | (with_reducible refine frc_bytesL (by first | omega | decide) ?_) | (with_reducible refine frc_bytesM (by first | omega | decide) ?_))
        refine loadR (i := 0) rfl (hN.im A rfl (by omega)) (j := i * 1) (map_get? (by rw [Nat.mul_one]; exact hn)) ?_
        (repeat first | (refine And.intro ?_ ?_; first | exact rfl | ((exact fun h => absurd h (by first | decide)); intro yy; clear yy) | (rotate_left; (exact fun h => absurd h (by first | decide)); intro yy; clear yy) | decide | omega) | (with_reducible refine frc_bytesL (by first | omega | decide) ?_) | (with_reducible refine frc_bytesM (by first | omega | decide) ?_))
        by_cases hb : 4611686018427387903#64 < n
        · have eb : decide (4611686018427387903#64 < n) = true := decide_eq_true hb
          rw [if_pos ⟨n, List.mem_of_getElem? hn, hb⟩]
          (repeat first | (refine And.intro ?_ ?_; first | exact rfl | ((exact fun h => absurd h (by first | decide | (rw [eb]; decide))); intro yy; clear yy) | (rotate_left; (exact fun h => absurd h (by first | decide | (rw [eb]; decide))); intro yy; clear yy) | decide | omega) | (with_reducible refine frc_bytesL (by first | omega | decide) ?_) | (with_reducible refine frc_bytesM (by first | omega | decide) ?_))
          exact ⟨.a (.c (.int .i64 2)), [[.past W ms]], ⟨[0], ⟨rfl, rfl, rfl⟩, by (repeat first | exact trivial | refine ent1 ?_)⟩, rfl, rfl⟩
        · have eb : decide (4611686018427387903#64 < n) = false := decide_eq_false hb
          (repeat first | (refine And.intro ?_ ?_; first | exact rfl | ((exact fun h => absurd h (by first | decide | (rw [eb]; decide))); intro yy; clear yy) | (rotate_left; (exact fun h => absurd h (by first | decide | (rw [eb]; decide))); intro yy; clear yy) | decide | omega) | (with_reducible refine frc_bytesL (by first | omega | decide) ?_) | (with_reducible refine frc_bytesM (by first | omega | decide) ?_))
          refine ⟨i + 1, [0], ⟨⟨rfl, rfl, rfl⟩, by (repeat first | exact trivial | refine ent1 ?_)⟩, ⟨by omega, fun j hj m hm => ?_⟩, by dsimp only; omega⟩
          by_cases hji : j = i
          · subst hji; rw [hn] at hm; injection hm with hm; subst hm; exact hb
          · exact hall j (by omega) m hm
      · have hge : i = e.N.length := by have := of_decide_eq_false hge; omega
        rw [if_neg (by
          rintro ⟨n, hn, hb⟩
          obtain ⟨j, hj, rfl⟩ := List.mem_iff_getElem.1 hn
          exact hall j (by omega) _ (List.getElem?_eq_getElem hj) hb)]
        (repeat first | (refine And.intro ?_ ?_; first | exact rfl | ((exact fun h => absurd h (by first | decide)); intro yy; clear yy) | (rotate_left; (exact fun h => absurd h (by first | decide)); intro yy; clear yy) | decide | omega) | (with_reducible refine frc_bytesL (by first | omega | decide) ?_) | (with_reducible refine frc_bytesM (by first | omega | decide) ?_))
        exact ⟨.a (.c (.int .i64 0)), [[.past W ms]], ⟨[0], ⟨rfl, rfl, rfl⟩, by (repeat first | exact trivial | refine ent1 ?_)⟩, rfl, rfl⟩
  · have e5 : decide ((0 : Int) < (e.D.length : Int)) = false := decide_eq_false (by omega)
    rw [if_neg (fun hc => h5 hc.1)]
    (repeat first | (refine And.intro ?_ ?_; first | exact rfl | ((exact fun h => absurd h (by first | decide | (rw [e5]; decide))); intro yy; clear yy) | (rotate_left; (exact fun h => absurd h (by first | decide | (rw [e5]; decide))); intro yy; clear yy) | decide | omega) | (with_reducible refine frc_bytesL (by first | omega | decide) ?_) | (with_reducible refine frc_bytesM (by first | omega | decide) ?_))
    refine .inl ⟨Nat, fun i => ⟨[.any, .any, .any, .any, .any, .any, .any, .any, .any, .any, .any, .any, .any, .any, .any, .any, .any, .any, .any, .any, .any, .any, .any, .any, .any, .any, .any, .any, .any, .any, .any, .any, .any, .any, .any, .any, .any, .any, .any, .any, .any, .any, .any, .a (.c (.slc aN e.N.length cN)), .a (.c (.int .i64 (↑e.N.length))), .a (.c (.int .i64 (↑i))), .any, .any, .any, .any, .any, .any], [[.past W ms]]⟩, fun i => i ≤ e.N.length ∧ ∀ j, j < i → ∀ n, e.N[j]? = some n → ¬ 4611686018427387903#64 < n, fun i => e.N.length - i, ⟨0, [0], ⟨⟨rfl, rfl, rfl⟩, by (repeat first | exact trivial | refine ent1 ?_)⟩, Nat.zero_le _, fun j hj => absurd hj (Nat.not_lt_zero _)⟩, fun i ⟨hi, hall⟩ => ⟨fun hlt => ?_, fun hge => ?_⟩⟩
    · have hlt : i < e.N.length := by have := of_decide_eq_true hlt; omega
      obtain ⟨n, hn⟩ : ∃ n, e.N[i]? = some n := ⟨_, List.getElem?_eq_getElem hlt⟩
      cases aN with
      | none => have := hN.nil_.1; omega
      | some A =>
      (repeat first | (refine And.intro ?_ ?_; first | exact rfl | ((exact fun h => absurd h (by first | decide)); intro yy; clear yy) | (rotate_left; (exact fun h => absurd h (by first | decide)); intro yy; clear yy) | decide | omega) | (with_reducible refine frc_bytesL (by first | omega | decide) ?_) | (with_reducible refine frc_bytesM (by first | omega | decide) ?_))
      refine loadR (i := 0) rfl (hN.im A rfl (by omega)) (j := i * 1) (map_get? (by rw [Nat.mul_one]; exact hn)) ?_
      (repeat first | (refine And.intro ?_ ?_; first | exact rfl | ((exact fun h => absurd h (by first | decide)); intro yy; clear yy) | (rotate_left; (exact fun h => absurd h (by first | decide)); intro yy; clear yy) | decide | omega) | (with_reducible refine frc_bytesL (by first | omega | decide) ?_) | (with_reducible refine frc_bytesM (by first | omega | decide) ?_))
      by_cases hb : 4611686018427387903#64 < n
      · have eb : decide (4611686018427387903#64 < n) = true := decide_eq_true hb
        rw [if_pos ⟨n, List.mem_of_getElem? hn, hb⟩]
        (repeat first | (refine And.intro ?_ ?_; first | exact rfl | ((exact fun h => absurd h (by first | decide | (rw [eb]; decide))); intro yy; clear yy) | (rotate_left; (exact fun h => absurd h (by first | decide | (rw [eb]; decide))); intro yy; clear yy) | decide | omega) | (with_reducible refine frc_bytesL (by first | omega | decide) ?_) | (with_reducible refine frc_bytesM (by first | omega | decide) ?_))
        exact ⟨.a (.c (.int .i64 2)), [[.past W ms]], ⟨[0], ⟨rfl, rfl, rfl⟩, by (repeat first | exact trivial | refine ent1 ?_)⟩, rfl, rfl⟩
      · have eb : decide (4611686018427387903#64 < n) = false := decide_eq_false hb
        (repeat first | (refine And.intro ?_ ?_; first | exact rfl | ((exact fun h => absurd h (by first | decide | (rw [eb]; decide))); intro yy; clear yy) | (rotate_left; (exact fun h => absurd h (by first | decide | (rw [eb]; decide))); intro yy; clear yy) | decide | omega) | (with_reducible refine frc_bytesL (by first | omega | decide) ?_) | (with_reducible refine frc_bytesM (by first | omega | decide) ?_))
        refine ⟨i + 1, [0], ⟨⟨rfl, rfl, rfl⟩, by (repeat first | exact trivial | refine ent1 ?_)⟩, ⟨by omega, fun j hj m hm => ?_⟩, by dsimp only; omega⟩
        by_cases hji : j = i
        · subst hji; rw [hn] at hm; injection hm with hm; subst hm; exact hb
        · exact hall j (by omega) m hm
    · have hge : i = e.N.length := by have := of_decide_eq_false hge; omega
      rw [if_neg (by
        rintro ⟨n, hn, hb⟩
        obtain ⟨j, hj, rfl⟩ := List.mem_iff_getElem.1 hn
        exact hall j (by omega) _ (List.getElem?_eq_getElem hj) hb)]
      (repeat first | (refine And.intro ?_ ?_; first | exact rfl | ((exact fun h => absurd h (by first | decide)); intro yy; clear yy) | (rotate_left; (exact fun h => absurd h (by first | decide)); intro yy; clear yy) | decide | omega) | (with_reducible refine frc_bytesL (by first | omega | decide) ?_) | (with_reducible refine frc_bytesM (by first | omega | decide) ?_))
      exact ⟨.a (.c (.int .i64 0)), [[.past W ms]], ⟨[0], ⟨rfl, rfl, rfl⟩, by (repeat first | exact trivial | refine ent1 ?_)⟩, rfl, rfl⟩
end Sx
end Go.Proofs.Ytdakmieapdpidaa
end

section
/-
  Events that nobody turns: event.Clone. No condition.
-/
namespace Go.Proofs.Ytdakmieapdpidaa
set_option linter.unusedVariables false
namespace Sx
open Go.RowKit Sha Vi Ev

set_option maxRecDepth 20000 in
set_option maxHeartbeats 8000000 in
theorem fn_eclone {W : World} {ms : List Nat} {x : EvC} {e : Ev} (h : EvAt W ms x e) (hn : e.N.length ≤ 1000000) (hd : e.D.length ≤ 1000000) : FnR Try.prog tds 38 1 [[.past W ms]] [.agg (evS e x)] (fun _ => True)
    (fun y hs => ∃ W' ms' x', Later W ms W' ms' ∧ EvAt W' ms' x' e ∧ y = .a (.agg (evS e x')) ∧ hs = [[.past W' ms']]) := by
  have hN := h.N
  have hD := h.D
  have hn1 := h.nN
  have hn2 := h.nD
  obtain ⟨aN, nN, cN, aD, nD, cD⟩ := x
  dsimp only at hN hD hn1 hn2
  subst hn1; subst hn2
  refine fn_of_bodyW tds_ok follows_ Try.func38 rfl (t := .a (.agg (evS e ⟨aN, e.N.length, cN, aD, e.D.length, cD⟩)) :: anys (Try.f38.ntmps - 1)) rfl (fun w r0 hr _ => ?_)
  obtain ⟨x0, rfl⟩ := List.length_eq_one_iff.1 hr
  cases aN with
  | none =>
    have zN := hN.nil_.1
    (repeat first | (refine And.intro ?_ ?_; first | exact rfl | ((exact fun h => absurd h (by first | decide)); intro yy; clear yy) | (rotate_left; (exact fun h => absurd h (by first | decide)); intro yy; clear yy) | decide | omega) | (with_reducible refine frc_bytesL (by first | omega | decide) ?_) | (with_reducible refine frc_bytesM (by first | omega | decide) ?_))
    cases aD with
    | none =>
      have zD := hD.nil_.1
      (repeat first | (refine And.intro ?_ ?_; first | exact rfl | ((exact fun h => absurd h (by first | decide)); intro yy; clear yy) | (rotate_left; (exact fun h => absurd h (by first | decide)); intro yy; clear yy) | decide | omega) | (with_reducible refine frc_bytesL (by first | omega | decide) ?_) | (with_reducible refine frc_bytesM (by first | omega | decide) ?_))
      have hN0 : ∀ {W' : World} {ms' : List Nat}, NsAt W' ms' none 0 0 e.N := fun {_ _} => by
        rw [List.eq_nil_of_length_eq_zero zN]
        exact SlAt.nul
      have hD0 : ∀ {W' : World} {ms' : List Nat}, BsAt W' ms' none 0 0 e.D := fun {_ _} => by
        rw [List.eq_nil_of_length_eq_zero zD]
        exact SlAt.nul
      (repeat first | (refine And.intro ?_ ?_; first | exact rfl | ((exact fun h => absurd h (by first | decide)); intro yy; clear yy) | (rotate_left; (exact fun h => absurd h (by first | decide)); intro yy; clear yy) | decide | omega) | (with_reducible refine frc_bytesL (by first | omega | decide) ?_) | (with_reducible refine frc_bytesM (by first | omega | decide) ?_))
      refine finW_frz [0] rfl (Nat.zero_lt_one) cx0_m rfl (fun W' ms' α hL hI => ?_)
      refine ⟨.a (.agg (evS e ⟨none, 0, 0, none, 0, 0⟩)), [], ⟨⟨rfl, rfl, rfl⟩, ?_⟩, W', ms', ⟨none, 0, 0, none, 0, 0⟩, hL, ⟨hN0, hD0⟩, rfl, rfl⟩
      (repeat first | exact trivial | refine ent1 ?_)
    | some AD =>
      (repeat first | (refine And.intro ?_ ?_; first | exact rfl | ((exact fun h => absurd h (by first | decide)); intro yy; clear yy) | (rotate_left; (exact fun h => absurd h (by first | decide)); intro yy; clear yy) | decide | omega) | (with_reducible refine frc_bytesL (by first | omega | decide) ?_) | (with_reducible refine frc_bytesM (by first | omega | decide) ?_))
      refine srcR (i := 0) (by rfl) hD ?_
      (repeat first | (refine And.intro ?_ ?_; first | exact rfl | ((exact fun h => absurd h (by first | decide)); intro yy; clear yy) | (rotate_left; (exact fun h => absurd h (by first | decide)); intro yy; clear yy) | decide | omega) | (with_reducible refine frc_bytesL (by first | omega | decide) ?_) | (with_reducible refine frc_bytesM (by first | omega | decide) ?_))
      refine And.intro (show e.D.length * 1 ≤ 140737488355328 by omega) ?_
      refine And.intro (fun zD => ?_) (fun h1 c2 hc2 => ?_)
      · have hN0 : ∀ {W' : World} {ms' : List Nat}, NsAt W' ms' none 0 0 e.N := fun {_ _} => by
          rw [List.eq_nil_of_length_eq_zero zN]
          exact SlAt.nul
        have hD0 : ∀ {W' : World} {ms' : List Nat}, BsAt W' ms' none 0 0 e.D := fun {_ _} => by
          rw [List.eq_nil_of_length_eq_zero zD]
          exact SlAt.nul
        (repeat first | (refine And.intro ?_ ?_; first | exact rfl | ((exact fun h => absurd h (by first | decide)); intro yy; clear yy) | (rotate_left; (exact fun h => absurd h (by first | decide)); intro yy; clear yy) | decide | omega) | (with_reducible refine frc_bytesL (by first | omega | decide) ?_) | (with_reducible refine frc_bytesM (by first | omega | decide) ?_))
        refine finW_frz [0] rfl (Nat.zero_lt_one) cx0_m rfl (fun W' ms' α hL hI => ?_)
        refine ⟨.a (.agg (evS e ⟨none, 0, 0, none, 0, 0⟩)), [], ⟨⟨rfl, rfl, rfl⟩, ?_⟩, W', ms', ⟨none, 0, 0, none, 0, 0⟩, hL, ⟨hN0, hD0⟩, rfl, rfl⟩
        (repeat first | exact trivial | refine ent1 ?_)
      · have hN0 : ∀ {W' : World} {ms' : List Nat}, NsAt W' ms' none 0 0 e.N := fun {_ _} => by
          rw [List.eq_nil_of_length_eq_zero zN]
          exact SlAt.nul
        (repeat first | (refine And.intro ?_ ?_; first | exact rfl | ((exact fun h => absurd h (by first | decide)); intro yy; clear yy) | (rotate_left; (exact fun h => absurd h (by first | decide)); intro yy; clear yy) | decide | omega) | (with_reducible refine frc_bytesL (by first | omega | decide) ?_) | (with_reducible refine frc_bytesM (by first | omega | decide) ?_))
        refine finW_frz [0] rfl (Nat.zero_lt_one) cx0_m rfl (fun W' ms' α hL hI => ?_)
        refine ⟨.a (.agg (evS e ⟨none, 0, 0, some ((α 3).add (0 + 0)), e.D.length, c2⟩)), [], ⟨⟨rfl, rfl, rfl⟩, ?_⟩, W', ms', ⟨none, 0, 0, some ((α 3).add (0 + 0)), e.D.length, c2⟩, hL, ⟨hN0, SlAt.frz (F := fun j => !memB j [0]) (hI 3 rfl) rfl hc2 (show e.D.length ≤ 9223372036854775807 by omega) (by decide) (by simp) (newR (by simp) (by decide)) (rz_w8 _)⟩, rfl, rfl⟩
        (repeat first | exact trivial | refine ent1 ?_)
  | some AN =>
    (repeat first | (refine And.intro ?_ ?_; first | exact rfl | ((exact fun h => absurd h (by first | decide)); intro yy; clear yy) | (rotate_left; (exact fun h => absurd h (by first | decide)); intro yy; clear yy) | decide | omega) | (with_reducible refine frc_bytesL (by first | omega | decide) ?_) | (with_reducible refine frc_bytesM (by first | omega | decide) ?_))
    refine srcR (i := 0) (by rfl) hN ?_
    (repeat first | (refine And.intro ?_ ?_; first | exact rfl | ((exact fun h => absurd h (by first | decide)); intro yy; clear yy) | (rotate_left; (exact fun h => absurd h (by first | decide)); intro yy; clear yy) | decide | omega) | (with_reducible refine frc_bytesL (by first | omega | decide) ?_) | (with_reducible refine frc_bytesM (by first | omega | decide) ?_))
    refine And.intro (show e.N.length * 8 ≤ 140737488355328 by omega) ?_
    refine And.intro (fun zN => ?_) (fun h0 c1 hc1 => ?_)
    · (repeat first | (refine And.intro ?_ ?_; first | exact rfl | ((exact fun h => absurd h (by first | decide)); intro yy; clear yy) | (rotate_left; (exact fun h => absurd h (by first | decide)); intro yy; clear yy) | decide | omega) | (with_reducible refine frc_bytesL (by first | omega | decide) ?_) | (with_reducible refine frc_bytesM (by first | omega | decide) ?_))
      cases aD with
      | none =>
        have zD := hD.nil_.1
        (repeat first | (refine And.intro ?_ ?_; first | exact rfl | ((exact fun h => absurd h (by first | decide)); intro yy; clear yy) | (rotate_left; (exact fun h => absurd h (by first | decide)); intro yy; clear yy) | decide | omega) | (with_reducible refine frc_bytesL (by first | omega | decide) ?_) | (with_reducible refine frc_bytesM (by first | omega | decide) ?_))
        have hN0 : ∀ {W' : World} {ms' : List Nat}, NsAt W' ms' none 0 0 e.N := fun {_ _} => by
          rw [List.eq_nil_of_length_eq_zero zN]
          exact SlAt.nul
        have hD0 : ∀ {W' : World} {ms' : List Nat}, BsAt W' ms' none 0 0 e.D := fun {_ _} => by
          rw [List.eq_nil_of_length_eq_zero zD]
          exact SlAt.nul
        (repeat first | (refine And.intro ?_ ?_; first | exact rfl | ((exact fun h => absurd h (by first | decide)); intro yy; clear yy) | (rotate_left; (exact fun h => absurd h (by first | decide)); intro yy; clear yy) | decide | omega) | (with_reducible refine frc_bytesL (by first | omega | decide) ?_) | (with_reducible refine frc_bytesM (by first | omega | decide) ?_))
        refine finW_frz [0] rfl (Nat.zero_lt_one) cx0_m rfl (fun W' ms' α hL hI => ?_)
        refine ⟨.a (.agg (evS e ⟨none, 0, 0, none, 0, 0⟩)), [], ⟨⟨rfl, rfl, rfl⟩, ?_⟩, W', ms', ⟨none, 0, 0, none, 0, 0⟩, hL, ⟨hN0, hD0⟩, rfl, rfl⟩
        (repeat first | exact trivial | refine ent1 ?_)
      | some AD =>
        (repeat first | (refine And.intro ?_ ?_; first | exact rfl | ((exact fun h => absurd h (by first | decide)); intro yy; clear yy) | (rotate_left; (exact fun h => absurd h (by first | decide)); intro yy; clear yy) | decide | omega) | (with_reducible refine frc_bytesL (by first | omega | decide) ?_) | (with_reducible refine frc_bytesM (by first | omega | decide) ?_))
        refine srcR (i := 0) (by rfl) hD ?_
        (repeat first | (refine And.intro ?_ ?_; first | exact rfl | ((exact fun h => absurd h (by first | decide)); intro yy; clear yy) | (rotate_left; (exact fun h => absurd h (by first | decide)); intro yy; clear yy) | decide | omega) | (with_reducible refine frc_bytesL (by first | omega | decide) ?_) | (with_reducible refine frc_bytesM (by first | omega | decide) ?_))
        refine And.intro (show e.D.length * 1 ≤ 140737488355328 by omega) ?_
        refine And.intro (fun zD => ?_) (fun h1 c2 hc2 => ?_)
        · have hN0 : ∀ {W' : World} {ms' : List Nat}, NsAt W' ms' none 0 0 e.N := fun {_ _} => by
            rw [List.eq_nil_of_length_eq_zero zN]
            exact SlAt.nul
          have hD0 : ∀ {W' : World} {ms' : List Nat}, BsAt W' ms' none 0 0 e.D := fun {_ _} => by
            rw [List.eq_nil_of_length_eq_zero zD]
            exact SlAt.nul
          (repeat first | (refine And.intro ?_ ?_; first | exact rfl | ((exact fun h => absurd h (by first | decide)); intro yy; clear yy) | (rotate_left; (exact fun h => absurd h (by first | decide)); intro yy; clear yy) | decide | omega) | (with_reducible refine frc_bytesL (by first | omega | decide) ?_) | (with_reducible refine frc_bytesM (by first | omega | decide) ?_))
          refine finW_frz [0] rfl (Nat.zero_lt_one) cx0_m rfl (fun W' ms' α hL hI => ?_)
          refine ⟨.a (.agg (evS e ⟨none, 0, 0, none, 0, 0⟩)), [], ⟨⟨rfl, rfl, rfl⟩, ?_⟩, W', ms', ⟨none, 0, 0, none, 0, 0⟩, hL, ⟨hN0, hD0⟩, rfl, rfl⟩
          (repeat first | exact trivial | refine ent1 ?_)
        · have hN0 : ∀ {W' : World} {ms' : List Nat}, NsAt W' ms' none 0 0 e.N := fun {_ _} => by
            rw [List.eq_nil_of_length_eq_zero zN]
            exact SlAt.nul
          (repeat first | (refine And.intro ?_ ?_; first | exact rfl | ((exact fun h => absurd h (by first | decide)); intro yy; clear yy) | (rotate_left; (exact fun h => absurd h (by first | decide)); intro yy; clear yy) | decide | omega) | (with_reducible refine frc_bytesL (by first | omega | decide) ?_) | (with_reducible refine frc_bytesM (by first | omega | decide) ?_))
          refine finW_frz [0] rfl (Nat.zero_lt_one) cx0_m rfl (fun W' ms' α hL hI => ?_)
          refine ⟨.a (.agg (evS e ⟨none, 0, 0, some ((α 3).add (0 + 0)), e.D.length, c2⟩)), [], ⟨⟨rfl, rfl, rfl⟩, ?_⟩, W', ms', ⟨none, 0, 0, some ((α 3).add (0 + 0)), e.D.length, c2⟩, hL, ⟨hN0, SlAt.frz (F := fun j => !memB j [0]) (hI 3 rfl) rfl hc2 (show e.D.length ≤ 9223372036854775807 by omega) (by decide) (by simp) (newR (by simp) (by decide)) (rz_w8 _)⟩, rfl, rfl⟩
          (repeat first | exact trivial | refine ent1 ?_)
    · (repeat first | (refine And.intro ?_ ?_; first | exact rfl | ((exact fun h => absurd h (by first | decide)); intro yy; clear yy) | (rotate_left; (exact fun h => absurd h (by first | decide)); intro yy; clear yy) | decide | omega) | (with_reducible refine frc_bytesL (by first | omega | decide) ?_) | (with_reducible refine frc_bytesM (by first | omega | decide) ?_))
      cases aD with
      | none =>
        have zD := hD.nil_.1
        (repeat first | (refine And.intro ?_ ?_; first | exact rfl | ((exact fun h => absurd h (by first | decide)); intro yy; clear yy) | (rotate_left; (exact fun h => absurd h (by first | decide)); intro yy; clear yy) | decide | omega) | (with_reducible refine frc_bytesL (by first | omega | decide) ?_) | (with_reducible refine frc_bytesM (by first | omega | decide) ?_))
        have hD0 : ∀ {W' : World} {ms' : List Nat}, BsAt W' ms' none 0 0 e.D := fun {_ _} => by
          rw [List.eq_nil_of_length_eq_zero zD]
          exact SlAt.nul
        (repeat first | (refine And.intro ?_ ?_; first | exact rfl | ((exact fun h => absurd h (by first | decide)); intro yy; clear yy) | (rotate_left; (exact fun h => absurd h (by first | decide)); intro yy; clear yy) | decide | omega) | (with_reducible refine frc_bytesL (by first | omega | decide) ?_) | (with_reducible refine frc_bytesM (by first | omega | decide) ?_))
        refine finW_frz [0] rfl (Nat.zero_lt_one) cx0_m rfl (fun W' ms' α hL hI => ?_)
        refine ⟨.a (.agg (evS e ⟨some ((α 3).add (0 + 0)), e.N.length, c1, none, 0, 0⟩)), [], ⟨⟨rfl, rfl, rfl⟩, ?_⟩, W', ms', ⟨some ((α 3).add (0 + 0)), e.N.length, c1, none, 0, 0⟩, hL, ⟨SlAt.frz (F := fun j => !memB j [0]) (hI 3 rfl) rfl hc1 (show e.N.length ≤ 9223372036854775807 by omega) (by decide) (by simp) (newR (by simp) (by decide)) (rz_w64 _), hD0⟩, rfl, rfl⟩
        (repeat first | exact trivial | refine ent1 ?_)
      | some AD =>
        (repeat first | (refine And.intro ?_ ?_; first | exact rfl | ((exact fun h => absurd h (by first | decide)); intro yy; clear yy) | (rotate_left; (exact fun h => absurd h (by first | decide)); intro yy; clear yy) | decide | omega) | (with_reducible refine frc_bytesL (by first | omega | decide) ?_) | (with_reducible refine frc_bytesM (by first | omega | decide) ?_))
        refine srcR (i := 0) (by rfl) hD ?_
        (repeat first | (refine And.intro ?_ ?_; first | exact rfl | ((exact fun h => absurd h (by first | decide)); intro yy; clear yy) | (rotate_left; (exact fun h => absurd h (by first | decide)); intro yy; clear yy) | decide | omega) | (with_reducible refine frc_bytesL (by first | omega | decide) ?_) | (with_reducible refine frc_bytesM (by first | omega | decide) ?_))
        refine And.intro (show e.D.length * 1 ≤ 140737488355328 by omega) ?_
        refine And.intro (fun zD => ?_) (fun h1 c2 hc2 => ?_)
        · have hD0 : ∀ {W' : World} {ms' : List Nat}, BsAt W' ms' none 0 0 e.D := fun {_ _} => by
            rw [List.eq_nil_of_length_eq_zero zD]
            exact SlAt.nul
          (repeat first | (refine And.intro ?_ ?_; first | exact rfl | ((exact fun h => absurd h (by first | decide)); intro yy; clear yy) | (rotate_left; (exact fun h => absurd h (by first | decide)); intro yy; clear yy) | decide | omega) | (with_reducible refine frc_bytesL (by first | omega | decide) ?_) | (with_reducible refine frc_bytesM (by first | omega | decide) ?_))
          refine finW_frz [0] rfl (Nat.zero_lt_one) cx0_m rfl (fun W' ms' α hL hI => ?_)
          refine ⟨.a (.agg (evS e ⟨some ((α 3).add (0 + 0)), e.N.length, c1, none, 0, 0⟩)), [], ⟨⟨rfl, rfl, rfl⟩, ?_⟩, W', ms', ⟨some ((α 3).add (0 + 0)), e.N.length, c1, none, 0, 0⟩, hL, ⟨SlAt.frz (F := fun j => !memB j [0]) (hI 3 rfl) rfl hc1 (show e.N.length ≤ 9223372036854775807 by omega) (by decide) (by simp) (newR (by simp) (by decide)) (rz_w64 _), hD0⟩, rfl, rfl⟩
          (repeat first | exact trivial | refine ent1 ?_)
        · (repeat first | (refine And.intro ?_ ?_; first | exact rfl | ((exact fun h => absurd h (by first | decide)); intro yy; clear yy) | (rotate_left; (exact fun h => absurd h (by first | decide)); intro yy; clear yy) | decide | omega) | (with_reducible refine frc_bytesL (by first | omega | decide) ?_) | (with_reducible refine frc_bytesM (by first | omega | decide) ?_))
          refine finW_frz [0] rfl (Nat.zero_lt_one) cx0_m rfl (fun W' ms' α hL hI => ?_)
          refine ⟨.a (.agg (evS e ⟨some ((α 3).add (0 + 0)), e.N.length, c1, some ((α 4).add (0 + 0)), e.D.length, c2⟩)), [], ⟨⟨rfl, rfl, rfl⟩, ?_⟩, W', ms', ⟨some ((α 3).add (0 + 0)), e.N.length, c1, some ((α 4).add (0 + 0)), e.D.length, c2⟩, hL, ⟨SlAt.frz (F := fun j => !memB j [0]) (hI 3 rfl) rfl hc1 (show e.N.length ≤ 9223372036854775807 by omega) (by decide) (by simp) (newR (by simp) (by decide)) (rz_w64 _), SlAt.frz (F := fun j => !memB j [0]) (hI 4 rfl) rfl hc2 (show e.D.length ≤ 9223372036854775807 by omega) (by decide) (by simp) (newR (by simp) (by decide)) (rz_w8 _)⟩, rfl, rfl⟩
          (repeat first | exact trivial | refine ent1 ?_)
end Sx
end Go.Proofs.Ytdakmieapdpidaa
end

section
/-
  What the document says of kinds of events: names, Many. No condition.
-/
namespace Go.Proofs.Ytdakmieapdpidaa
set_option linter.unusedVariables false
namespace Sx
open Go.RowKit Sha Vi Ev

theorem eqC_strs' {q : List Nat} (l : List (List UInt8)) {j n : Nat} (hn : n = l.length) (h : j < n) : eqC q (nthC (l.map SC.str) j) (strsF l j) True := eqC_strs l (by omega)
set_option maxRecDepth 20000 in
set_option maxHeartbeats 8000000 in
theorem fn_names : Fn Try.prog tds 47 [] [] (fun _ => True)
    (fun y hs => y = .a (.c (.sl 19 0 0 19 19)) ∧ hs = [[.row 2 (strsF [[112, 104, 97, 115, 101], [112, 104, 97, 115, 101]])], [.row 6 (strsF [[112, 97, 99, 107, 101, 116, 95, 115, 101, 110, 116], [115, 112, 97, 99, 101], [110, 117, 109, 98, 101, 114], [115, 105, 122, 101], [101, 108, 105, 99, 105, 116, 105, 110, 103], [102, 108, 105, 103, 104, 116]])], [.row 4 (strsF [[112, 97, 99, 107, 101, 116, 95, 114, 101, 99, 101, 105, 118, 101, 100], [115, 112, 97, 99, 101], [110, 117, 109, 98, 101, 114], [115, 105, 122, 101]])], [.row 3 (strsF [[112, 97, 99, 107, 101, 116, 95, 97, 99, 107, 101, 100], [115, 112, 97, 99, 101], [110, 117, 109, 98, 101, 114]])], [.row 4 (strsF [[112, 97, 99, 107, 101, 116, 95, 108, 111, 115, 116], [115, 112, 97, 99, 101], [110, 117, 109, 98, 101, 114], [119, 104, 121]])], [.row 2 (strsF [[115, 112, 97, 99, 101, 95, 100, 114, 111, 112, 112, 101, 100], [115, 112, 97, 99, 101]])], [.row 3 (strsF [[114, 97, 110, 103, 101, 115, 95, 102, 111, 114, 103, 111, 116, 116, 101, 110], [115, 112, 97, 99, 101], [98, 101, 108, 111, 119]])], [.row 9 (strsF [[109, 101, 116, 114, 105, 99, 115, 95, 117, 112, 100, 97, 116, 101, 100], [108, 97, 116, 101, 115, 116], [108, 101, 97, 115, 116], [115, 109, 111, 111, 116, 104], [118, 97, 114, 105, 97, 110, 99, 101], [119, 105, 110, 100, 111, 119], [102, 108, 105, 103, 104, 116], [115, 108, 111, 119], [112, 114, 111, 98, 101, 115]])], [.row 6 (strsF [[99, 114, 101, 100, 105, 116, 95, 117, 112, 100, 97, 116, 101, 100], [115, 116, 114, 101, 97, 109], [103, 105, 118, 101, 110], [117, 115, 101, 100], [103, 111, 116], [115, 112, 101, 110, 116]])], [.row 8 (strsF [[115, 116, 114, 101, 97, 109, 95, 117, 112, 100, 97, 116, 101, 100], [115, 116, 114, 101, 97, 109], [115, 101, 110, 100], [119, 114, 105, 116, 116, 101, 110], [99, 97, 109, 101], [114, 101, 99, 118], [114, 101, 97, 100], [104, 105, 103, 104]])], [.row 3 (strsF [[111, 119, 110, 95, 105, 100, 95, 103, 105, 118, 101, 110], [115, 101, 113], [43]])], [.row 2 (strsF [[111, 119, 110, 95, 105, 100, 95, 114, 101, 116, 105, 114, 101, 100], [115, 101, 113]])], [.row 3 (strsF [[111, 116, 104, 101, 114, 95, 105, 100, 95, 103, 105, 118, 101, 110], [115, 101, 113], [43]])], [.row 2 (strsF [[111, 116, 104, 101, 114, 95, 105, 100, 95, 114, 101, 116, 105, 114, 101, 100], [115, 101, 113]])], [.row 2 (strsF [[105, 100, 95, 117, 115, 101, 100], [115, 101, 113]])], [.row 3 (strsF [[112, 97, 116, 104, 95, 117, 112, 100, 97, 116, 101, 100], [112, 97, 116, 104], [115, 116, 97, 116, 101]])], [.row 3 (strsF [[107, 101, 121, 95, 117, 112, 100, 97, 116, 101, 100], [115, 112, 97, 99, 101], [116, 117, 114, 110]])], [.row 4 (strsF [[99, 111, 110, 110, 101, 99, 116, 105, 111, 110, 95, 99, 108, 111, 115, 101, 100], [99, 111, 100, 101], [97, 112, 112], [111, 119, 110]])], [.row 1 (strsF [[108, 111, 103, 95, 116, 114, 117, 110, 99, 97, 116, 101, 100]])], [.row 19 (nthC [.sl 0 0 0 2 2, .sl 1 0 0 6 6, .sl 2 0 0 4 4, .sl 3 0 0 3 3, .sl 4 0 0 4 4, .sl 5 0 0 2 2, .sl 6 0 0 3 3, .sl 7 0 0 9 9, .sl 8 0 0 6 6, .sl 9 0 0 8 8, .sl 10 0 0 3 3, .sl 11 0 0 2 2, .sl 12 0 0 3 3, .sl 13 0 0 2 2, .sl 14 0 0 2 2, .sl 15 0 0 3 3, .sl 16 0 0 3 3, .sl 17 0 0 4 4, .sl 18 0 0 1 1])]]) := by
  refine fn_of_body tds_ok follows_ Try.func47 rfl (t := anys Try.f47.ntmps) rfl (fun w r0 hr _ => ?_)
  obtain rfl : r0 = [] := List.eq_nil_of_length_eq_zero hr
  (repeat first | (refine And.intro ?_ ?_; first | exact rfl | ((exact fun h => absurd h (by first | decide)); intro yy; clear yy) | (rotate_left; (exact fun h => absurd h (by first | decide)); intro yy; clear yy) | decide | omega) | (with_reducible refine frc_bytesL (by first | omega | decide) ?_) | (with_reducible refine frc_bytesM (by first | omega | decide) ?_))
  refine ⟨.a (.c (.sl 19 0 0 19 19)), _, ⟨[0, 1, 2, 3, 4, 5, 6, 7, 8, 9, 10, 11, 12, 13, 14, 15, 16, 17, 18, 19], ⟨rfl, rfl, rfl⟩, ?_⟩, rfl, rfl⟩
  (repeat first | exact trivial | refine ent1 ?_)
  refine And.intro (fun j hj => eqC_strs' [[112, 104, 97, 115, 101], [112, 104, 97, 115, 101]] rfl hj) ?_
  (repeat first | exact trivial | refine ent1 ?_)
  refine And.intro (fun j hj => eqC_strs' [[112, 97, 99, 107, 101, 116, 95, 115, 101, 110, 116], [115, 112, 97, 99, 101], [110, 117, 109, 98, 101, 114], [115, 105, 122, 101], [101, 108, 105, 99, 105, 116, 105, 110, 103], [102, 108, 105, 103, 104, 116]] rfl hj) ?_
  (repeat first | exact trivial | refine ent1 ?_)
  refine And.intro (fun j hj => eqC_strs' [[112, 97, 99, 107, 101, 116, 95, 114, 101, 99, 101, 105, 118, 101, 100], [115, 112, 97, 99, 101], [110, 117, 109, 98, 101, 114], [115, 105, 122, 101]] rfl hj) ?_
  (repeat first | exact trivial | refine ent1 ?_)
  refine And.intro (fun j hj => eqC_strs' [[112, 97, 99, 107, 101, 116, 95, 97, 99, 107, 101, 100], [115, 112, 97, 99, 101], [110, 117, 109, 98, 101, 114]] rfl hj) ?_
  (repeat first | exact trivial | refine ent1 ?_)
  refine And.intro (fun j hj => eqC_strs' [[112, 97, 99, 107, 101, 116, 95, 108, 111, 115, 116], [115, 112, 97, 99, 101], [110, 117, 109, 98, 101, 114], [119, 104, 121]] rfl hj) ?_
  (repeat first | exact trivial | refine ent1 ?_)
  refine And.intro (fun j hj => eqC_strs' [[115, 112, 97, 99, 101, 95, 100, 114, 111, 112, 112, 101, 100], [115, 112, 97, 99, 101]] rfl hj) ?_
  (repeat first | exact trivial | refine ent1 ?_)
  refine And.intro (fun j hj => eqC_strs' [[114, 97, 110, 103, 101, 115, 95, 102, 111, 114, 103, 111, 116, 116, 101, 110], [115, 112, 97, 99, 101], [98, 101, 108, 111, 119]] rfl hj) ?_
  (repeat first | exact trivial | refine ent1 ?_)
  refine And.intro (fun j hj => eqC_strs' [[109, 101, 116, 114, 105, 99, 115, 95, 117, 112, 100, 97, 116, 101, 100], [108, 97, 116, 101, 115, 116], [108, 101, 97, 115, 116], [115, 109, 111, 111, 116, 104], [118, 97, 114, 105, 97, 110, 99, 101], [119, 105, 110, 100, 111, 119], [102, 108, 105, 103, 104, 116], [115, 108, 111, 119], [112, 114, 111, 98, 101, 115]] rfl hj) ?_
  (repeat first | exact trivial | refine ent1 ?_)
  refine And.intro (fun j hj => eqC_strs' [[99, 114, 101, 100, 105, 116, 95, 117, 112, 100, 97, 116, 101, 100], [115, 116, 114, 101, 97, 109], [103, 105, 118, 101, 110], [117, 115, 101, 100], [103, 111, 116], [115, 112, 101, 110, 116]] rfl hj) ?_
  (repeat first | exact trivial | refine ent1 ?_)
  refine And.intro (fun j hj => eqC_strs' [[115, 116, 114, 101, 97, 109, 95, 117, 112, 100, 97, 116, 101, 100], [115, 116, 114, 101, 97, 109], [115, 101, 110, 100], [119, 114, 105, 116, 116, 101, 110], [99, 97, 109, 101], [114, 101, 99, 118], [114, 101, 97, 100], [104, 105, 103, 104]] rfl hj) ?_
  (repeat first | exact trivial | refine ent1 ?_)
  refine And.intro (fun j hj => eqC_strs' [[111, 119, 110, 95, 105, 100, 95, 103, 105, 118, 101, 110], [115, 101, 113], [43]] rfl hj) ?_
  (repeat first | exact trivial | refine ent1 ?_)
  refine And.intro (fun j hj => eqC_strs' [[111, 119, 110, 95, 105, 100, 95, 114, 101, 116, 105, 114, 101, 100], [115, 101, 113]] rfl hj) ?_
  (repeat first | exact trivial | refine ent1 ?_)
  refine And.intro (fun j hj => eqC_strs' [[111, 116, 104, 101, 114, 95, 105, 100, 95, 103, 105, 118, 101, 110], [115, 101, 113], [43]] rfl hj) ?_
  (repeat first | exact trivial | refine ent1 ?_)
  refine And.intro (fun j hj => eqC_strs' [[111, 116, 104, 101, 114, 95, 105, 100, 95, 114, 101, 116, 105, 114, 101, 100], [115, 101, 113]] rfl hj) ?_
  (repeat first | exact trivial | refine ent1 ?_)
  refine And.intro (fun j hj => eqC_strs' [[105, 100, 95, 117, 115, 101, 100], [115, 101, 113]] rfl hj) ?_
  (repeat first | exact trivial | refine ent1 ?_)
  refine And.intro (fun j hj => eqC_strs' [[112, 97, 116, 104, 95, 117, 112, 100, 97, 116, 101, 100], [112, 97, 116, 104], [115, 116, 97, 116, 101]] rfl hj) ?_
  (repeat first | exact trivial | refine ent1 ?_)
  refine And.intro (fun j hj => eqC_strs' [[107, 101, 121, 95, 117, 112, 100, 97, 116, 101, 100], [115, 112, 97, 99, 101], [116, 117, 114, 110]] rfl hj) ?_
  (repeat first | exact trivial | refine ent1 ?_)
  refine And.intro (fun j hj => eqC_strs' [[99, 111, 110, 110, 101, 99, 116, 105, 111, 110, 95, 99, 108, 111, 115, 101, 100], [99, 111, 100, 101], [97, 112, 112], [111, 119, 110]] rfl hj) ?_
  (repeat first | exact trivial | refine ent1 ?_)
  refine And.intro (fun j hj => eqC_strs' [[108, 111, 103, 95, 116, 114, 117, 110, 99, 97, 116, 101, 100]] rfl hj) ?_
  (repeat first | exact trivial | refine ent1 ?_)
  refine ⟨fun j hj => ?_, trivial⟩
  have hj : j = 0 ∨ j = 1 ∨ j = 2 ∨ j = 3 ∨ j = 4 ∨ j = 5 ∨ j = 6 ∨ j = 7 ∨ j = 8 ∨ j = 9 ∨ j = 10 ∨ j = 11 ∨ j = 12 ∨ j = 13 ∨ j = 14 ∨ j = 15 ∨ j = 16 ∨ j = 17 ∨ j = 18 := by omega
  rcases hj with rfl | rfl | rfl | rfl | rfl | rfl | rfl | rfl | rfl | rfl | rfl | rfl | rfl | rfl | rfl | rfl | rfl | rfl | rfl <;> exact ⟨rfl, rfl, rfl, trivial⟩
theorem fn_many (k : BitVec 8) (hk : evOk k = true) : Fn Try.prog tds 36 [] [.c (.w8 k)] (fun _ => True)
    (fun y hs => y = .tup [.c (.int .i64 ((evNames k).length : Nat)), .c (.bool (evData k))] ∧ hs = []) := by
  have hk2 := of_decide_eq_true hk
  have : k.toNat = 1 ∨ k.toNat = 2 ∨ k.toNat = 3 ∨ k.toNat = 4 ∨ k.toNat = 5 ∨ k.toNat = 6 ∨ k.toNat = 7 ∨ k.toNat = 8 ∨ k.toNat = 9 ∨ k.toNat = 10 ∨ k.toNat = 11 ∨ k.toNat = 12 ∨ k.toNat = 13 ∨ k.toNat = 14 ∨ k.toNat = 15 ∨ k.toNat = 16 ∨ k.toNat = 17 ∨ k.toNat = 18 ∨ k.toNat = 19 := by omega
  refine fn_of_body tds_ok follows_ Try.func36 rfl (t := .a (.c (.w8 k)) :: anys (Try.f36.ntmps - 1)) rfl (fun w r0 hr _ => ?_)
  obtain rfl : r0 = [] := List.eq_nil_of_length_eq_zero hr
  (repeat first | (refine And.intro ?_ ?_; first | exact rfl | ((exact fun h => absurd h (by first | decide)); intro yy; clear yy) | (rotate_left; (exact fun h => absurd h (by first | decide)); intro yy; clear yy) | decide | omega) | (with_reducible refine frc_bytesL (by first | omega | decide) ?_) | (with_reducible refine frc_bytesM (by first | omega | decide) ?_))
  refine call_same fn_names [] rfl (by (repeat first | exact trivial | refine ent1 ?_)) trivial (fun _ _ => trivial) ?_
  rintro y hs' ⟨rfl, rfl⟩
  rcases this with h | h | h | h | h | h | h | h | h | h | h | h | h | h | h | h | h | h | h
  · obtain rfl : k = 1#8 := BitVec.eq_of_toNat_eq h
    (repeat first | (refine And.intro ?_ ?_; first | exact rfl | ((exact fun h => absurd h (by first | decide)); intro yy; clear yy) | (rotate_left; (exact fun h => absurd h (by first | decide)); intro yy; clear yy) | decide | omega) | (with_reducible refine frc_bytesL (by first | omega | decide) ?_) | (with_reducible refine frc_bytesM (by first | omega | decide) ?_))
    exact ⟨.tup [.c (.int .i64 ((evNames 1#8).length : Nat)), .c (.bool (evData 1#8))], [], ⟨[], ⟨rfl, rfl, rfl⟩, by (repeat first | exact trivial | refine ent1 ?_)⟩, rfl, rfl⟩
  · obtain rfl : k = 2#8 := BitVec.eq_of_toNat_eq h
    (repeat first | (refine And.intro ?_ ?_; first | exact rfl | ((exact fun h => absurd h (by first | decide)); intro yy; clear yy) | (rotate_left; (exact fun h => absurd h (by first | decide)); intro yy; clear yy) | decide | omega) | (with_reducible refine frc_bytesL (by first | omega | decide) ?_) | (with_reducible refine frc_bytesM (by first | omega | decide) ?_))
    exact ⟨.tup [.c (.int .i64 ((evNames 2#8).length : Nat)), .c (.bool (evData 2#8))], [], ⟨[], ⟨rfl, rfl, rfl⟩, by (repeat first | exact trivial | refine ent1 ?_)⟩, rfl, rfl⟩
  · obtain rfl : k = 3#8 := BitVec.eq_of_toNat_eq h
    (repeat first | (refine And.intro ?_ ?_; first | exact rfl | ((exact fun h => absurd h (by first | decide)); intro yy; clear yy) | (rotate_left; (exact fun h => absurd h (by first | decide)); intro yy; clear yy) | decide | omega) | (with_reducible refine frc_bytesL (by first | omega | decide) ?_) | (with_reducible refine frc_bytesM (by first | omega | decide) ?_))
    exact ⟨.tup [.c (.int .i64 ((evNames 3#8).length : Nat)), .c (.bool (evData 3#8))], [], ⟨[], ⟨rfl, rfl, rfl⟩, by (repeat first | exact trivial | refine ent1 ?_)⟩, rfl, rfl⟩
  · obtain rfl : k = 4#8 := BitVec.eq_of_toNat_eq h
    (repeat first | (refine And.intro ?_ ?_; first | exact rfl | ((exact fun h => absurd h (by first | decide)); intro yy; clear yy) | (rotate_left; (exact fun h => absurd h (by first | decide)); intro yy; clear yy) | decide | omega) | (with_reducible refine frc_bytesL (by first | omega | decide) ?_) | (with_reducible refine frc_bytesM (by first | omega | decide) ?_))
    exact ⟨.tup [.c (.int .i64 ((evNames 4#8).length : Nat)), .c (.bool (evData 4#8))], [], ⟨[], ⟨rfl, rfl, rfl⟩, by (repeat first | exact trivial | refine ent1 ?_)⟩, rfl, rfl⟩
  · obtain rfl : k = 5#8 := BitVec.eq_of_toNat_eq h
    (repeat first | (refine And.intro ?_ ?_; first | exact rfl | ((exact fun h => absurd h (by first | decide)); intro yy; clear yy) | (rotate_left; (exact fun h => absurd h (by first | decide)); intro yy; clear yy) | decide | omega) | (with_reducible refine frc_bytesL (by first | omega | decide) ?_) | (with_reducible refine frc_bytesM (by first | omega | decide) ?_))
    exact ⟨.tup [.c (.int .i64 ((evNames 5#8).length : Nat)), .c (.bool (evData 5#8))], [], ⟨[], ⟨rfl, rfl, rfl⟩, by (repeat first | exact trivial | refine ent1 ?_)⟩, rfl, rfl⟩
  · obtain rfl : k = 6#8 := BitVec.eq_of_toNat_eq h
    (repeat first | (refine And.intro ?_ ?_; first | exact rfl | ((exact fun h => absurd h (by first | decide)); intro yy; clear yy) | (rotate_left; (exact fun h => absurd h (by first | decide)); intro yy; clear yy) | decide | omega) | (with_reducible refine frc_bytesL (by first | omega | decide) ?_) | (with_reducible refine frc_bytesM (by first | omega | decide) ?_))
    exact ⟨.tup [.c (.int .i64 ((evNames 6#8).length : Nat)), .c (.bool (evData 6#8))], [], ⟨[], ⟨rfl, rfl, rfl⟩, by (repeat first | exact trivial | refine ent1 ?_)⟩, rfl, rfl⟩
  · obtain rfl : k = 7#8 := BitVec.eq_of_toNat_eq h
    (repeat first | (refine And.intro ?_ ?_; first | exact rfl | ((exact fun h => absurd h (by first | decide)); intro yy; clear yy) | (rotate_left; (exact fun h => absurd h (by first | decide)); intro yy; clear yy) | decide | omega) | (with_reducible refine frc_bytesL (by first | omega | decide) ?_) | (with_reducible refine frc_bytesM (by first | omega | decide) ?_))
    exact ⟨.tup [.c (.int .i64 ((evNames 7#8).length : Nat)), .c (.bool (evData 7#8))], [], ⟨[], ⟨rfl, rfl, rfl⟩, by (repeat first | exact trivial | refine ent1 ?_)⟩, rfl, rfl⟩
  · obtain rfl : k = 8#8 := BitVec.eq_of_toNat_eq h
    (repeat first | (refine And.intro ?_ ?_; first | exact rfl | ((exact fun h => absurd h (by first | decide)); intro yy; clear yy) | (rotate_left; (exact fun h => absurd h (by first | decide)); intro yy; clear yy) | decide | omega) | (with_reducible refine frc_bytesL (by first | omega | decide) ?_) | (with_reducible refine frc_bytesM (by first | omega | decide) ?_))
    exact ⟨.tup [.c (.int .i64 ((evNames 8#8).length : Nat)), .c (.bool (evData 8#8))], [], ⟨[], ⟨rfl, rfl, rfl⟩, by (repeat first | exact trivial | refine ent1 ?_)⟩, rfl, rfl⟩
  · obtain rfl : k = 9#8 := BitVec.eq_of_toNat_eq h
    (repeat first | (refine And.intro ?_ ?_; first | exact rfl | ((exact fun h => absurd h (by first | decide)); intro yy; clear yy) | (rotate_left; (exact fun h => absurd h (by first | decide)); intro yy; clear yy) | decide | omega) | (with_reducible refine frc_bytesL (by first | omega | decide) ?_) | (with_reducible refine frc_bytesM (by first | omega | decide) ?_))
    exact ⟨.tup [.c (.int .i64 ((evNames 9#8).length : Nat)), .c (.bool (evData 9#8))], [], ⟨[], ⟨rfl, rfl, rfl⟩, by (repeat first | exact trivial | refine ent1 ?_)⟩, rfl, rfl⟩
  · obtain rfl : k = 10#8 := BitVec.eq_of_toNat_eq h
    (repeat first | (refine And.intro ?_ ?_; first | exact rfl | ((exact fun h => absurd h (by first | decide)); intro yy; clear yy) | (rotate_left; (exact fun h => absurd h (by first | decide)); intro yy; clear yy) | decide | omega) | (with_reducible refine frc_bytesL (by first | omega | decide) ?_) | (with_reducible refine frc_bytesM (by first | omega | decide) ?_))
    exact ⟨.tup [.c (.int .i64 ((evNames 10#8).length : Nat)), .c (.bool (evData 10#8))], [], ⟨[], ⟨rfl, rfl, rfl⟩, by (repeat first | exact trivial | refine ent1 ?_)⟩, rfl, rfl⟩
  · obtain rfl : k = 11#8 := BitVec.eq_of_toNat_eq h
    (repeat first | (refine And.intro ?_ ?_; first | exact rfl | ((exact fun h => absurd h (by first | decide)); intro yy; clear yy) | (rotate_left; (exact fun h => absurd h (by first | decide)); intro yy; clear yy) | decide | omega) | (with_reducible refine frc_bytesL (by first | omega | decide) ?_) | (with_reducible refine frc_bytesM (by first | omega | decide) ?_))
    exact ⟨.tup [.c (.int .i64 ((evNames 11#8).length : Nat)), .c (.bool (evData 11#8))], [], ⟨[], ⟨rfl, rfl, rfl⟩, by (repeat first | exact trivial | refine ent1 ?_)⟩, rfl, rfl⟩
  · obtain rfl : k = 12#8 := BitVec.eq_of_toNat_eq h
    (repeat first | (refine And.intro ?_ ?_; first | exact rfl | ((exact fun h => absurd h (by first | decide)); intro yy; clear yy) | (rotate_left; (exact fun h => absurd h (by first | decide)); intro yy; clear yy) | decide | omega) | (with_reducible refine frc_bytesL (by first | omega | decide) ?_) | (with_reducible refine frc_bytesM (by first | omega | decide) ?_))
    exact ⟨.tup [.c (.int .i64 ((evNames 12#8).length : Nat)), .c (.bool (evData 12#8))], [], ⟨[], ⟨rfl, rfl, rfl⟩, by (repeat first | exact trivial | refine ent1 ?_)⟩, rfl, rfl⟩
  · obtain rfl : k = 13#8 := BitVec.eq_of_toNat_eq h
    (repeat first | (refine And.intro ?_ ?_; first | exact rfl | ((exact fun h => absurd h (by first | decide)); intro yy; clear yy) | (rotate_left; (exact fun h => absurd h (by first | decide)); intro yy; clear yy) | decide | omega) | (with_reducible refine frc_bytesL (by first | omega | decide) ?_) | (with_reducible refine frc_bytesM (by first | omega | decide) ?_))
    exact ⟨.tup [.c (.int .i64 ((evNames 13#8).length : Nat)), .c (.bool (evData 13#8))], [], ⟨[], ⟨rfl, rfl, rfl⟩, by (repeat first | exact trivial | refine ent1 ?_)⟩, rfl, rfl⟩
  · obtain rfl : k = 14#8 := BitVec.eq_of_toNat_eq h
    (repeat first | (refine And.intro ?_ ?_; first | exact rfl | ((exact fun h => absurd h (by first | decide)); intro yy; clear yy) | (rotate_left; (exact fun h => absurd h (by first | decide)); intro yy; clear yy) | decide | omega) | (with_reducible refine frc_bytesL (by first | omega | decide) ?_) | (with_reducible refine frc_bytesM (by first | omega | decide) ?_))
    exact ⟨.tup [.c (.int .i64 ((evNames 14#8).length : Nat)), .c (.bool (evData 14#8))], [], ⟨[], ⟨rfl, rfl, rfl⟩, by (repeat first | exact trivial | refine ent1 ?_)⟩, rfl, rfl⟩
  · obtain rfl : k = 15#8 := BitVec.eq_of_toNat_eq h
    (repeat first | (refine And.intro ?_ ?_; first | exact rfl | ((exact fun h => absurd h (by first | decide)); intro yy; clear yy) | (rotate_left; (exact fun h => absurd h (by first | decide)); intro yy; clear yy) | decide | omega) | (with_reducible refine frc_bytesL (by first | omega | decide) ?_) | (with_reducible refine frc_bytesM (by first | omega | decide) ?_))
    exact ⟨.tup [.c (.int .i64 ((evNames 15#8).length : Nat)), .c (.bool (evData 15#8))], [], ⟨[], ⟨rfl, rfl, rfl⟩, by (repeat first | exact trivial | refine ent1 ?_)⟩, rfl, rfl⟩
  · obtain rfl : k = 16#8 := BitVec.eq_of_toNat_eq h
    (repeat first | (refine And.intro ?_ ?_; first | exact rfl | ((exact fun h => absurd h (by first | decide)); intro yy; clear yy) | (rotate_left; (exact fun h => absurd h (by first | decide)); intro yy; clear yy) | decide | omega) | (with_reducible refine frc_bytesL (by first | omega | decide) ?_) | (with_reducible refine frc_bytesM (by first | omega | decide) ?_))
    exact ⟨.tup [.c (.int .i64 ((evNames 16#8).length : Nat)), .c (.bool (evData 16#8))], [], ⟨[], ⟨rfl, rfl, rfl⟩, by (repeat first | exact trivial | refine ent1 ?_)⟩, rfl, rfl⟩
  · obtain rfl : k = 17#8 := BitVec.eq_of_toNat_eq h
    (repeat first | (refine And.intro ?_ ?_; first | exact rfl | ((exact fun h => absurd h (by first | decide)); intro yy; clear yy) | (rotate_left; (exact fun h => absurd h (by first | decide)); intro yy; clear yy) | decide | omega) | (with_reducible refine frc_bytesL (by first | omega | decide) ?_) | (with_reducible refine frc_bytesM (by first | omega | decide) ?_))
    exact ⟨.tup [.c (.int .i64 ((evNames 17#8).length : Nat)), .c (.bool (evData 17#8))], [], ⟨[], ⟨rfl, rfl, rfl⟩, by (repeat first | exact trivial | refine ent1 ?_)⟩, rfl, rfl⟩
  · obtain rfl : k = 18#8 := BitVec.eq_of_toNat_eq h
    (repeat first | (refine And.intro ?_ ?_; first | exact rfl | ((exact fun h => absurd h (by first | decide)); intro yy; clear yy) | (rotate_left; (exact fun h => absurd h (by first | decide)); intro yy; clear yy) | decide | omega) | (with_reducible refine frc_bytesL (by first | omega | decide) ?_) | (with_reducible refine frc_bytesM (by first | omega | decide) ?_))
    exact ⟨.tup [.c (.int .i64 ((evNames 18#8).length : Nat)), .c (.bool (evData 18#8))], [], ⟨[], ⟨rfl, rfl, rfl⟩, by (repeat first | exact trivial | refine ent1 ?_)⟩, rfl, rfl⟩
  · obtain rfl : k = 19#8 := BitVec.eq_of_toNat_eq h
    (repeat first | (refine And.intro ?_ ?_; first | exact rfl | ((exact fun h => absurd h (by first | decide)); intro yy; clear yy) | (rotate_left; (exact fun h => absurd h (by first | decide)); intro yy; clear yy) | decide | omega) | (with_reducible refine frc_bytesL (by first | omega | decide) ?_) | (with_reducible refine frc_bytesM (by first | omega | decide) ?_))
    exact ⟨.tup [.c (.int .i64 ((evNames 19#8).length : Nat)), .c (.bool (evData 19#8))], [], ⟨[], ⟨rfl, rfl, rfl⟩, by (repeat first | exact trivial | refine ent1 ?_)⟩, rfl, rfl⟩
end Sx
end Go.Proofs.Ytdakmieapdpidaa
end

section
/-
  The program's numbers put behind other bytes: mark, attach. No condition.
-/
namespace Go.Proofs.Ytdakmieapdpidaa
set_option linter.unusedVariables false
namespace Vi
open Sha
/-- The first j bytes of k, without what tells how many there are. -/
def partL (n : BitVec 64) (k j : Nat) : Bs := tab j fun i => byteN n (k - 1 - i)
@[simp] theorem partL_len (n : BitVec 64) (k j : Nat) : (partL n k j).length = j := tab_len _ _
theorem L_part {n : BitVec 64} {k j i : Nat} (h : i < j) : L (partL n k j) i = byteN n (k - 1 - i) := L_tab h
theorem L_wide {n : BitVec 64} {k i : Nat} (h : i < k) : L (wideL n k) i = if i = 0 then byteN n (k - 1) ||| markB k else byteN n (k - 1 - i) := L_tab h
theorem partL_succ (n : BitVec 64) (k j : Nat) : partL n k (j + 1) = partL n k j ++ [byteN n (k - 1 - j)] := by
  unfold partL tab
  rw [List.range_succ, List.map_append]
  rfl
theorem partL_one (n : BitVec 64) (k : Nat) : partL n k 1 = [byteN n (k - 1)] := rfl
theorem shl8 : ∀ i : Nat, i < 8 → (8#64 * BitVec.ofInt 64 (i : Int)).toNat = 8 * i := by decide +kernel
theorem byte_at (n : BitVec 64) (k j : Nat) (hj : j < k) (hk : k ≤ 8) : BitVec.setWidth 8 (n >>> (8#64 * BitVec.ofInt 64 ((k : Int) - 1 - (j : Int))).toNat) = byteN n (k - 1 - j) := by
  rw [show (k : Int) - 1 - (j : Int) = ((k - 1 - j : Nat) : Int) by omega, shl8 _ (by omega)]
  rfl
end Vi
namespace Sx
open Sha Vi

/-- Bytes of an own slice, room behind them. -/
abbrev lsC (b : Bs) (c : Nat) : List Seg := [.row c (bytesF b.length (L b))]
theorem fn_vmark (k : Nat) (hk : okSz k) : Fn Try.prog tds 50 [] [.c (.int .i64 (k : Nat))] (fun _ => True) (fun x hs => x = .tup [.c (.w8 (markB k)), .c (.bool true)] ∧ hs = []) := by
  refine fn_of_body tds_ok follows_ Try.func50 rfl (t := .a (.c (.int .i64 (k : Nat))) :: anys (Try.f50.ntmps - 1)) rfl (fun w r0 hr _ => ?_)
  obtain rfl : r0 = [] := List.eq_nil_of_length_eq_zero hr
  rcases hk with rfl | rfl | rfl | rfl
  · refine ⟨fun h => ?_, fun h => absurd h (by decide)⟩
    exact ⟨.tup [.c (.w8 0#8), .c (.bool true)], [], ⟨[], ⟨rfl, rfl, rfl⟩, rfl, rfl, trivial⟩, rfl, rfl⟩
  · refine ⟨fun h => absurd h (by decide), fun _ => ⟨fun h => ?_, fun h => absurd h (by decide)⟩⟩
    exact ⟨.tup [.c (.w8 64#8), .c (.bool true)], [], ⟨[], ⟨rfl, rfl, rfl⟩, rfl, rfl, trivial⟩, rfl, rfl⟩
  · refine ⟨fun h => absurd h (by decide), fun _ => ⟨fun h => absurd h (by decide), fun _ => ⟨fun h => ?_, fun h => absurd h (by decide)⟩⟩⟩
    exact ⟨.tup [.c (.w8 128#8), .c (.bool true)], [], ⟨[], ⟨rfl, rfl, rfl⟩, rfl, rfl, trivial⟩, rfl, rfl⟩
  · refine ⟨fun h => absurd h (by decide), fun _ => ⟨fun h => absurd h (by decide), fun _ => ⟨fun h => absurd h (by decide), fun _ => ⟨fun h => ?_, fun h => absurd h (by decide)⟩⟩⟩⟩
    exact ⟨.tup [.c (.w8 192#8), .c (.bool true)], [], ⟨[], ⟨rfl, rfl, rfl⟩, rfl, rfl, trivial⟩, rfl, rfl⟩
theorem wide_row {b : Bs} {n : BitVec 64} {j : Nat} (hj : 1 ≤ j) (i : Nat) (hi : i < b.length + j) :
    upd (bytesF (b.length + j) (L (b ++ partL n j j))) b.length (.w8 (L (b ++ partL n j j) b.length ||| markB j)) i = .w8 (L (b ++ wideL n j) i) := by
  refine upd_bytes (by omega) (congrArg SC.w8 ?_) (fun q hq => ?_) i hi
  · rw [L_app, L_app, if_neg (by omega), if_neg (by omega), Nat.sub_self, L_part (by omega), L_wide (by omega), if_pos rfl, Nat.sub_zero]
  · by_cases h : q < b.length + j
    · rw [L_app, L_app]
      by_cases h1 : q < b.length
      · rw [if_pos h1, if_pos h1]
      · rw [if_neg h1, if_neg h1, L_part (by omega), L_wide (by omega), if_neg (by omega)]
    · have e1 : (b ++ partL n j j).length ≤ q := by simp; omega
      have e2 : (b ++ wideL n j).length ≤ q := by simp; omega
      unfold L
      rw [List.getD_eq_getElem?_getD, List.getD_eq_getElem?_getD, List.getElem?_eq_none e1, List.getElem?_eq_none e2]
set_option maxRecDepth 20000 in
theorem fn_vattach (b : Bs) (c : Nat) (n : BitVec 64) (k : Nat) (hk : okSz k) (hb : b.length ≤ 1000000) (hc : b.length ≤ c) : Fn Try.prog tds 41 [lsC b c] [.c (.sl 0 0 0 b.length c), .c (.w64 n), .c (.int .i64 (k : Nat))] (fun _ => True)
    (fun x hs => ∃ c', b.length + k ≤ c' ∧ x = .a (.c (.sl 1 0 0 (b ++ wideL n k).length c')) ∧ hs = [[], lsC (b ++ wideL n k) c']) := by
  refine fn_of_body tds_ok follows_ Try.func41 rfl (t := [.a (.c (.sl 0 0 0 b.length c)), .a (.c (.w64 (n))), .a (.c (.int .i64 ((k : Nat)))), .any, .any, .any, .any, .any, .any, .any, .any, .any, .any, .any, .any, .any, .any, .any, .any, .any, .any, .any, .any, .any, .any, .any, .any, .any, .any, .any, .any, .any, .any, .any, .any, .any, .any, .any, .any, .any, .any]) rfl (fun w r0 hr _ => ?_)
  obtain ⟨x0, rfl⟩ := List.length_eq_one_iff.1 hr
  have hk8 : 1 ≤ k ∧ k ≤ 8 := by rcases hk with rfl | rfl | rfl | rfl <;> omega
  (repeat first | refine And.intro (by omega) ?_ | refine And.intro (by decide) ?_ | (with_reducible refine frc_parts (by first | omega | decide) ?_) | (with_reducible refine frc_bytesL (by first | omega | decide) ?_) | refine And.intro rfl ?_)
  refine call_same (fn_vmark k hk) [] rfl (by (repeat first | exact trivial | refine ent1 ?_)) trivial (fun _ _ => trivial) ?_
  rintro x hs ⟨rfl, rfl⟩
  (repeat first | refine And.intro (by omega) ?_ | refine And.intro (by decide) ?_ | (with_reducible refine frc_parts (by first | omega | decide) ?_) | (with_reducible refine frc_bytesL (by first | omega | decide) ?_) | refine And.intro rfl ?_)
  refine .inl ⟨Option (Nat × Nat), fun x => match x with
    | none => ⟨[.a (.c (.sl 0 0 0 b.length c)), .a (.c (.w64 (n))), .a (.c (.int .i64 ((k : Nat)))), .any, .any, .any, .any, .a (.c (.w8 (markB k))), .any, .a (.c (.int .i64 ((b.length : Nat)))), .a (.c (.int .i64 ((k : Int) - 1))), .any, .any, .any, .any, .any, .any, .any, .any, .any, .any, .any, .any, .any, .any, .any, .any, .any, .any, .any, .any, .any, .any, .any, .any, .any, .any, .any, .any, .any, .any], [lsC b c]⟩
    | some (j, c') => ⟨[.a (.c (.sl 1 0 0 (b.length + j) c')), .a (.c (.w64 (n))), .a (.c (.int .i64 ((k : Nat)))), .any, .any, .any, .any, .a (.c (.w8 (markB k))), .any, .a (.c (.int .i64 ((b.length : Nat)))), .a (.c (.int .i64 ((k : Int) - 1 - (j : Int)))), .any, .any, .any, .any, .any, .any, .any, .any, .any, .any, .any, .any, .any, .any, .any, .any, .any, .any, .any, .any, .any, .any, .any, .any, .any, .any, .any, .any, .any, .any], [[], [.row c' (bytesF (b.length + j) (L (b ++ partL n k j)))]]⟩,
    fun x => match x with
    | none => True
    | some (j, c') => 1 ≤ j ∧ j ≤ k ∧ b.length + j ≤ c', fun x => match x with
    | none => 9
    | some (j, _) => 8 - j, ⟨none, [0], ⟨⟨rfl, rfl, rfl⟩, ?_⟩, trivial⟩, fun x => ?_⟩
  · (repeat first | exact trivial | refine ent1 ?_)
  rcases x with _ | ⟨j, c'⟩
  · intro _
    have e1 : decide (0 ≤ (k : Int) - 1) = true := decide_eq_true (by omega)
    (repeat first | refine And.intro (by omega) ?_ | refine And.intro (by decide) ?_ | refine And.intro rfl ?_ | refine And.intro (fun _ => ?_) (fun h => Bool.noConfusion h) | refine And.intro (fun h => Bool.noConfusion h) (fun _ => ?_) | refine And.intro (fun _ => ?_) (fun h => absurd h (by rw [e1]; decide)) | refine And.intro (fun h => absurd h (by rw [e1]; decide)) (fun _ => ?_))
    refine ⟨⟨by omega, by simp only [scale]; omega, by show (b.length + 1) * 1 ≤ 140737488355328; omega⟩, fun c' hc' => ?_⟩
    refine ⟨⟨by omega, by omega⟩, some (1, c'), [0, 2], ⟨⟨rfl, rfl, rfl⟩, ?_⟩, ⟨by omega, by omega, by omega⟩, by show 8 - 1 < 9; omega⟩
    (repeat first | exact trivial | refine ent1 ?_)
    refine ⟨fun j hj => eqC_bytes (fun i hi => ?_) j, trivial⟩
    rw [partL_one]
    exact app_row rfl rfl (fun i hi => bytesF_lt hi) (fun i hi => one_row (by have := byte_at n k 0 (by omega) (by omega); simpa using this) i hi) i hi
  · rintro ⟨h1, h2, h3⟩
    refine ⟨fun h => ?_, fun h => ?_⟩
    · have hj : j < k := by have : (0 : Int) ≤ (k : Int) - 1 - j := of_decide_eq_true h; omega
      (repeat first | refine And.intro (by omega) ?_ | refine And.intro (by decide) ?_ | (with_reducible refine frc_parts (by first | omega | decide) ?_) | (with_reducible refine frc_bytesL (by first | omega | decide) ?_) | refine And.intro rfl ?_)
      refine ⟨⟨by omega, by simp only [scale]; omega, by show (b.length + j + 1) * 1 ≤ 140737488355328; omega⟩, fun c2 hc2 => ?_⟩
      refine ⟨⟨by omega, by omega⟩, some (j + 1, c2), [0, 3], ⟨⟨rfl, rfl, rfl⟩, ?_⟩, ⟨by omega, by omega, by omega⟩, by dsimp only; omega⟩
      (repeat first | exact trivial | refine ent1 ?_)
      refine ⟨fun j' hj' => eqC_bytes (fun i hi => ?_) j', trivial⟩
      rw [partL_succ, ← List.append_assoc]
      exact app_row (by simp) rfl (fun i hi => bytesF_lt hi) (fun i hi => one_row (byte_at n k j hj (by omega)) i hi) i hi
    · obtain rfl : j = k := by have : ¬ (0 : Int) ≤ (k : Int) - 1 - j := of_decide_eq_false h; omega
      (repeat first | refine And.intro (by omega) ?_ | refine And.intro (by decide) ?_ | (with_reducible refine frc_parts (by first | omega | decide) ?_) | (with_reducible refine frc_bytesL (by first | omega | decide) ?_) | refine And.intro rfl ?_)
      refine ⟨.a (.c (.sl 1 0 0 (b ++ wideL n j).length c')), _, ⟨[0, 1], ⟨rfl, rfl, rfl⟩, ?_⟩, c', h3, rfl, rfl⟩
      refine ⟨rfl, by simp, rfl, ?_⟩
      (repeat first | exact trivial | refine ent1 ?_)
      refine ⟨fun i hi => eqC_bytes (fun i hi => ?_) i, trivial⟩
      have hi : i < b.length + j := by simpa using hi
      exact wide_row (by omega) i hi
end Sx
end Go.Proofs.Ytdakmieapdpidaa
end

section
/-
  The program's writer of numbers and bytes; Wide. No condition.
-/
namespace Go.Proofs.Ytdakmieapdpidaa
set_option linter.unusedVariables false
namespace Vi
open Sha
/-- Numbers, one behind the other. -/
def putAll : List (BitVec 64) → Bs
  | [] => []
  | n :: r => putL n ++ putAll r
theorem putAll_snoc : ∀ (l : List (BitVec 64)) (n : BitVec 64), putAll (l ++ [n]) = putAll l ++ putL n
  | [], n => by simp [putAll]
  | x :: l, n => by simp [putAll, putAll_snoc l n]
theorem putL_len (n : BitVec 64) : (putL n).length = lenN n := wideL_len _ _
theorem lenN_le (n : BitVec 64) : lenN n ≤ 8 := by have := lenN_spec n; omega
theorem putAll_len : ∀ l : List (BitVec 64), (putAll l).length ≤ 8 * l.length
  | [] => Nat.le_refl _
  | x :: l => by
    have := putAll_len l
    have := lenN_le x
    simp only [putAll, List.length_append, putL_len, List.length_cons]
    omega
theorem take_succ {α : Type} {l : List α} {i : Nat} {x : α} (h : l[i]? = some x) : l.take (i + 1) = l.take i ++ [x] := by
  rw [List.take_add_one, h]; rfl
end Vi
namespace Sx
open Sha Vi

/-- A writer with nothing in it; with bytes in block i. -/
abbrev wrN : List Seg := [.one (.slc none 0 0), .one (.int .i64 0)]
abbrev wrC (i : Nat) (b : Bs) (c : Nat) : List Seg := [.one (.sl i 0 0 b.length c), .one (.int .i64 0)]
set_option maxRecDepth 20000 in
theorem fn_wbytes0 (s : Sl) (hs : s.Ok) (h0 : 0 < s.l.length) : FnR Try.prog tds 24 1 [svB s, wrN] [.c (.p 1 0 0), .c (svC 0 s)] (fun _ => True)
    (fun y hs => ∃ c, s.l.length ≤ c ∧ y = .tup [] ∧ hs = [svB s, wrC 2 s.l c, lsC s.l c]) := by
  refine fn_of_body tds_ok follows_ Try.func24 rfl (t := .a (.c (.p 1 0 0)) :: .a (.c (svC 0 s)) :: anys (Try.f24.ntmps - 2)) rfl (fun w r0 hr0 _ => ?_)
  obtain ⟨x0, x1, rfl⟩ := len2' hr0
  have hsm := hs.small
  (repeat first | refine And.intro (by omega) ?_ | refine And.intro (by decide) ?_ | refine And.intro rfl ?_ | refine And.intro (fun _ => ?_) (fun h => Bool.noConfusion h) | refine And.intro (fun h => Bool.noConfusion h) (fun _ => ?_))
  refine sn_bts rfl hs.fit (fun h => by rw [hs.nil h]; rfl) (fun g hg => ?_)
  refine ⟨⟨rfl, rfl⟩, by show s.l.length * 1 ≤ 140737488355328; omega, fun hm0 => absurd hm0 (by omega), fun hm0 c' hc' => ?_⟩
  (repeat first | refine And.intro (by omega) ?_ | refine And.intro (by decide) ?_ | refine And.intro rfl ?_ | refine And.intro (fun _ => ?_) (fun h => Bool.noConfusion h) | refine And.intro (fun h => Bool.noConfusion h) (fun _ => ?_))
  refine ⟨.tup [], _, ⟨[0, 1, 2], ⟨rfl, rfl, rfl⟩, ?_⟩, c', hc', rfl, rfl⟩
  refine eqC_bts ?_
  (repeat first | exact trivial | refine ent1 ?_)
  exact ⟨fun j hj => eqC_bytes (fun i hi => new_row hg i hi) j, trivial⟩
set_option maxRecDepth 20000 in
theorem fn_wbytes (s : Sl) (hs : s.Ok) (b : Bs) (c : Nat) (hb : b.length ≤ 1000000) (hc : b.length ≤ c) : FnR Try.prog tds 24 1 [svB s, wrC 2 b c, lsC b c] [.c (.p 1 0 0), .c (svC 0 s)] (fun _ => True)
    (fun y hs => ∃ c', (b ++ s.l).length ≤ c' ∧ y = .tup [] ∧ hs = [svB s, wrC 3 (b ++ s.l) c', [], lsC (b ++ s.l) c']) := by
  refine fn_of_body tds_ok follows_ Try.func24 rfl (t := .a (.c (.p 1 0 0)) :: .a (.c (svC 0 s)) :: anys (Try.f24.ntmps - 2)) rfl (fun w r0 hr0 _ => ?_)
  obtain ⟨x0, x1, x2, rfl⟩ := len3' hr0
  have hsm := hs.small
  (repeat first | refine And.intro (by omega) ?_ | refine And.intro (by decide) ?_ | refine And.intro rfl ?_ | refine And.intro (fun _ => ?_) (fun h => Bool.noConfusion h) | refine And.intro (fun h => Bool.noConfusion h) (fun _ => ?_))
  refine sn_bts rfl hs.fit (fun h => by rw [hs.nil h]; rfl) (fun g hg => ?_)
  refine ⟨⟨hc, by simp only [scale]; omega, by show (b.length + s.l.length) * 1 ≤ 140737488355328; omega⟩, fun c' hc' => ?_⟩
  (repeat first | refine And.intro (by omega) ?_ | refine And.intro (by decide) ?_ | refine And.intro rfl ?_ | refine And.intro (fun _ => ?_) (fun h => Bool.noConfusion h) | refine And.intro (fun h => Bool.noConfusion h) (fun _ => ?_))
  refine ⟨.tup [], _, ⟨[0, 1, 2, 3], ⟨rfl, rfl, rfl⟩, ?_⟩, c', by simpa using hc', rfl, rfl⟩
  refine eqC_bts ?_
  refine ⟨rfl, by simp, ?_⟩
  (repeat first | exact trivial | refine ent1 ?_)
  refine ⟨fun j hj => eqC_bytes (fun i hi => ?_) j, trivial⟩
  exact app_row rfl rfl (fun i hi => bytesF_lt hi) hg i (by simpa using hi)
/-- Numbers in a row. -/
def numsF (l : List (BitVec 64)) : Nat → SC := fun j => match l[j]? with
  | some x => .w64 x
  | none => .any
theorem frc_nums {l : List (BitVec 64)} {j : Nat} {x : BitVec 64} {k : SC → Prop} (h : l[j]? = some x) (hk : k (.w64 x)) : frcSC (numsF l j) k := by
  unfold numsF; rw [h]; exact hk
theorem eqC_nums {q : List Nat} {l : List (BitVec 64)} {f : Nat → SC} (h : ∀ (j : Nat) (x : BitVec 64), l[j]? = some x → f j = .w64 x) (j : Nat) : eqC q (f j) (numsF l j) True := by
  unfold numsF
  cases e : l[j]? with
  | none => trivial
  | some x => rw [h j x e]; exact ⟨rfl, trivial⟩
theorem eqC_numsS {q : List Nat} {l : List (BitVec 64)} {j : Nat} : eqC q (numsF l j) (numsF l j) True := eqC_nums (fun j x h => by unfold numsF; rw [h]) j
set_option maxRecDepth 20000 in
theorem fn_wint (l : List (BitVec 64)) (M cm : Nat) (b : Bs) (c : Nat) (hl : ∀ n ∈ l, lenN n ≠ 0) (hM : l.length ≤ M) (hlm : l.length ≤ 1000) (hb : b.length ≤ 500000) (hc : b.length ≤ c) :
    FnR Try.prog tds 25 1 [[.row M (numsF l)], wrC 2 b c, lsC b c] [.c (.p 1 0 0), .c (.sl 0 0 0 l.length cm)] (fun _ => True)
    (fun y hs => (l = [] → y = .tup [] ∧ hs = [[.row M (numsF l)], wrC 2 b c, lsC b c]) ∧ (l ≠ [] → ∃ c', (b ++ putAll l).length ≤ c' ∧ y = .tup [] ∧ hs = [[.row M (numsF l)], wrC 3 (b ++ putAll l) c', [], lsC (b ++ putAll l) c'])) := by
  refine fn_of_body tds_ok follows_ Try.func25 rfl (t := .a (.c (.p 1 0 0)) :: .a (.c (.sl 0 0 0 l.length cm)) :: anys (Try.f25.ntmps - 2)) rfl (fun w r0 hr0 _ => ?_)
  obtain ⟨x0, x1, x2, rfl⟩ := len3' hr0
  (repeat first | refine And.intro (by omega) ?_ | refine And.intro (by decide) ?_ | refine And.intro rfl ?_ | refine And.intro (fun _ => ?_) (fun h => Bool.noConfusion h) | refine And.intro (fun h => Bool.noConfusion h) (fun _ => ?_))
  refine .inl ⟨Option (Nat × Nat × Bs), fun x => match x with
    | none => ⟨[.a (.c (.p 1 0 0)), .any, .any, .any, .any, .any, .any, .any, .any, .any, .any, .any, .any, .any, .any, .any, .a (.c (.sl 0 0 0 l.length cm)), .a (.c (.int .i64 ((l.length : Nat)))), .a (.c (.int .i64 (0))), .any, .any, .any, .any, .any, .any, .any, .any, .any, .any, .any, .any, .any, .any, .any, .any, .any, .any, .any, .any, .any], [[.row M (numsF l)], wrC 2 b c, lsC b c]⟩
    | some (j, c', B) => ⟨[.a (.c (.p 1 0 0)), .any, .any, .any, .any, .any, .any, .any, .any, .any, .any, .any, .any, .any, .any, .any, .a (.c (.sl 0 0 0 l.length cm)), .a (.c (.int .i64 ((l.length : Nat)))), .a (.c (.int .i64 ((j : Nat)))), .any, .any, .any, .any, .any, .any, .any, .any, .any, .any, .any, .any, .any, .any, .any, .any, .any, .any, .any, .any, .any], [[.row M (numsF l)], wrC 3 B c', [], lsC B c']⟩,
    fun x => match x with
    | none => True
    | some (j, c', B) => 1 ≤ j ∧ j ≤ l.length ∧ B.length ≤ c' ∧ B = b ++ putAll (l.take j), fun x => match x with
    | none => l.length + 1
    | some (j, _, _) => l.length - j, ⟨none, [0, 1, 2], ⟨⟨rfl, rfl, rfl⟩, ?_⟩, trivial⟩, fun x => ?_⟩
  · (repeat first | exact trivial | refine ent1 ?_)
    exact ⟨fun j hj => eqC_numsS, by (repeat first | exact trivial | refine ent1 ?_)⟩
  rcases x with _ | ⟨j, c', B⟩
  · intro _
    refine ⟨fun h => ?_, fun h => ?_⟩
    · have hl0 : 0 < l.length := by have : (0 : Int) < (l.length : Int) := of_decide_eq_true h; omega
      obtain ⟨n, hn⟩ : ∃ n, l[0]? = some n := ⟨l[0], List.getElem?_eq_getElem hl0⟩
      have hne := hl n (List.mem_of_getElem? hn)
      (repeat first | refine And.intro (by omega) ?_ | refine And.intro (by decide) ?_ | (with_reducible refine frc_parts (by first | omega | decide) ?_) | (with_reducible refine frc_bytesL (by first | omega | decide) ?_) | refine And.intro rfl ?_)
      have hn' : l[Int.toNat 0 + 0]? = some n := hn
      with_reducible refine frc_nums hn' ?_
      (repeat first | refine And.intro (by omega) ?_ | refine And.intro (by decide) ?_ | (with_reducible refine frc_parts (by first | omega | decide) ?_) | (with_reducible refine frc_bytesL (by first | omega | decide) ?_) | refine And.intro rfl ?_)
      refine call_same (fn_vlen n) [] rfl (by (repeat first | exact trivial | refine ent1 ?_)) trivial (fun _ _ => trivial) ?_
      rintro x hs ⟨rfl, rfl⟩
      have e1 : decide ((lenN n : Int) = 0) = false := decide_eq_false (by omega)
      (repeat first | refine And.intro (by omega) ?_ | refine And.intro (by decide) ?_ | refine And.intro rfl ?_ | refine And.intro (fun _ => ?_) (fun h => Bool.noConfusion h) | refine And.intro (fun h => Bool.noConfusion h) (fun _ => ?_) | refine And.intro (fun _ => ?_) (fun h => absurd h (by rw [e1]; decide)) | refine And.intro (fun h => absurd h (by rw [e1]; decide)) (fun _ => ?_))
      refine call_same (fn_vattach b c n (lenN n) (lenN_ok hne) (by omega) hc) [2] rfl (by (repeat first | exact trivial | refine ent1 ?_)) ?_ (fun _ _ => trivial) ?_
      · (repeat first | exact trivial | refine ent1 ?_)
      rintro x hs ⟨c', hc', rfl, rfl⟩
      have ep : putAll (l.take 1) = wideL n (lenN n) := by
        rw [take_succ hn, putAll_snoc]; simp [putAll, putL]
      (repeat first | refine And.intro (by omega) ?_ | refine And.intro (by decide) ?_ | (with_reducible refine frc_parts (by first | omega | decide) ?_) | (with_reducible refine frc_bytesL (by first | omega | decide) ?_) | refine And.intro rfl ?_)
      refine ⟨some (1, c', b ++ wideL n (lenN n)), [0, 1, 2, 3], ⟨⟨rfl, rfl, rfl⟩, ?_⟩, ⟨by omega, by omega, by simpa using hc', by rw [ep]⟩, by dsimp only; omega⟩
      (repeat first | exact trivial | refine ent1 ?_)
      exact ⟨fun j hj => eqC_numsS, by (repeat first | exact trivial | refine ent1 ?_)⟩
    · have hl0 : l = [] := List.eq_nil_of_length_eq_zero (by have : ¬ (0 : Int) < (l.length : Int) := of_decide_eq_false h; omega)
      (repeat first | refine And.intro (by omega) ?_ | refine And.intro (by decide) ?_ | (with_reducible refine frc_parts (by first | omega | decide) ?_) | (with_reducible refine frc_bytesL (by first | omega | decide) ?_) | refine And.intro rfl ?_)
      refine ⟨.tup [], _, ⟨[0, 1, 2], ⟨rfl, rfl, rfl⟩, ?_⟩, fun _ => ⟨rfl, rfl⟩, fun h => absurd hl0 h⟩
      exact ⟨rfl, fun j hj => eqC_numsS, by (repeat first | exact trivial | refine ent1 ?_)⟩
  · rintro ⟨h1, h2, h3, hB⟩
    refine ⟨fun h => ?_, fun h => ?_⟩
    · have hj : j < l.length := by have : (j : Int) < (l.length : Int) := of_decide_eq_true h; omega
      obtain ⟨n, hn⟩ : ∃ n, l[j]? = some n := ⟨l[j], List.getElem?_eq_getElem hj⟩
      have hne := hl n (List.mem_of_getElem? hn)
      (repeat first | refine And.intro (by omega) ?_ | refine And.intro (by decide) ?_ | (with_reducible refine frc_parts (by first | omega | decide) ?_) | (with_reducible refine frc_bytesL (by first | omega | decide) ?_) | refine And.intro rfl ?_)
      have hn' : l[((j : Nat) : Int).toNat + 0]? = some n := hn
      with_reducible refine frc_nums hn' ?_
      (repeat first | refine And.intro (by omega) ?_ | refine And.intro (by decide) ?_ | (with_reducible refine frc_parts (by first | omega | decide) ?_) | (with_reducible refine frc_bytesL (by first | omega | decide) ?_) | refine And.intro rfl ?_)
      refine call_same (fn_vlen n) [] rfl (by (repeat first | exact trivial | refine ent1 ?_)) trivial (fun _ _ => trivial) ?_
      rintro x hs ⟨rfl, rfl⟩
      have e1 : decide ((lenN n : Int) = 0) = false := decide_eq_false (by omega)
      (repeat first | refine And.intro (by omega) ?_ | refine And.intro (by decide) ?_ | refine And.intro rfl ?_ | refine And.intro (fun _ => ?_) (fun h => Bool.noConfusion h) | refine And.intro (fun h => Bool.noConfusion h) (fun _ => ?_) | refine And.intro (fun _ => ?_) (fun h => absurd h (by rw [e1]; decide)) | refine And.intro (fun h => absurd h (by rw [e1]; decide)) (fun _ => ?_))
      have hpl := putAll_len (l.take j)
      have htl : (l.take j).length ≤ 1000 := by rw [List.length_take]; omega
      refine call_same (fn_vattach B c' n (lenN n) (lenN_ok hne) (by rw [hB, List.length_append]; have : (putAll (l.take j)).length ≤ 8 * (l.take j).length := hpl; omega) h3) [3] rfl (by (repeat first | exact trivial | refine ent1 ?_)) ?_ (fun _ _ => trivial) ?_
      · (repeat first | exact trivial | refine ent1 ?_)
      rintro x hs ⟨c2, hc2, rfl, rfl⟩
      have ep : b ++ putAll (l.take (j + 1)) = b ++ putAll (l.take j) ++ wideL n (lenN n) := by
        rw [take_succ hn, putAll_snoc, List.append_assoc]; rfl
      (repeat first | refine And.intro (by omega) ?_ | refine And.intro (by decide) ?_ | (with_reducible refine frc_parts (by first | omega | decide) ?_) | (with_reducible refine frc_bytesL (by first | omega | decide) ?_) | refine And.intro rfl ?_)
      refine ⟨some (j + 1, c2, B ++ wideL n (lenN n)), [0, 1, 2, 4], ⟨⟨rfl, rfl, rfl⟩, ?_⟩, ⟨by omega, by omega, by simpa using hc2, by rw [ep, hB]⟩, by dsimp only; omega⟩
      (repeat first | exact trivial | refine ent1 ?_)
      exact ⟨fun j hj => eqC_numsS, by (repeat first | exact trivial | refine ent1 ?_)⟩
    · have hj : j = l.length := by have : ¬ (j : Int) < (l.length : Int) := of_decide_eq_false h; omega
      subst hj
      rw [List.take_length] at hB
      subst hB
      (repeat first | refine And.intro (by omega) ?_ | refine And.intro (by decide) ?_ | (with_reducible refine frc_parts (by first | omega | decide) ?_) | (with_reducible refine frc_bytesL (by first | omega | decide) ?_) | refine And.intro rfl ?_)
      refine ⟨.tup [], _, ⟨[0, 1, 2, 3], ⟨rfl, rfl, rfl⟩, ?_⟩, fun h => absurd h (by intro e; subst e; simp at h1), fun _ => ⟨c', h3, rfl, rfl⟩⟩
      exact ⟨rfl, fun j hj => eqC_numsS, by (repeat first | exact trivial | refine ent1 ?_)⟩
end Sx
end Go.Proofs.Ytdakmieapdpidaa
end

section
/-
  An event that may be, of any: binnaclelaw24.Fit. No condition.
-/
namespace Go.Proofs.Ytdakmieapdpidaa
set_option linter.unusedVariables false
namespace Ev
def kindE (k : BitVec 8) : BitVec 8 := 1#8 + k % 19#8
def padE : List (BitVec 64) → Nat → List (BitVec 64)
  | l, 0 => l
  | l, k + 1 => padE (l ++ [BitVec.ofNat 64 l.length * 7#64]) k
abbrev mk62 (x : BitVec 64) : BitVec 64 := x &&& 4611686018427387903#64
def fitE (e : Ev) (k : BitVec 8) : Ev := ⟨kindE k, e.t % 1125899906842625#64, ((padE e.N ((evNames (kindE k)).length - e.N.length)).take (evNames (kindE k)).length).map mk62, if evData (kindE k) = true then e.D.take 20 else []⟩
theorem kindE_ok (k : BitVec 8) : evOk (kindE k) = true := by revert k; decide +kernel
theorem many_le (k : BitVec 8) : (evNames k).length ≤ 8 := by revert k; decide +kernel
/-- The first i are cut. -/
def mskN (i : Nat) (P : List (BitVec 64)) : List (BitVec 64) := (P.take i).map mk62 ++ P.drop i
theorem mskN_len (i : Nat) (P : List (BitVec 64)) : (mskN i P).length = P.length := by
  unfold mskN; simp only [List.length_append, List.length_map, List.length_take, List.length_drop]; omega
theorem mskN_get {i j : Nat} {P : List (BitVec 64)} {x : BitVec 64} (h : P[j]? = some x) : (mskN i P)[j]? = some (if j < i then mk62 x else x) := by
  have hj := (List.getElem?_eq_some_iff.1 h).1
  unfold mskN
  by_cases hi : j < i
  · rw [List.getElem?_append_left (by simp only [List.length_map, List.length_take]; omega), List.getElem?_map, List.getElem?_take, if_pos hi, h, if_pos hi]; rfl
  · rw [List.getElem?_append_right (by simp only [List.length_map, List.length_take]; omega), List.getElem?_drop, if_neg hi]
    simp only [List.length_map, List.length_take]
    rw [show i + (j - min i P.length) = j by omega, h]
end Ev
namespace Sx
open Go.RowKit Sha Vi Ev

theorem nums_get {l : List (BitVec 64)} {j : Nat} {x : BitVec 64} (h : l[j]? = some x) : numsF l j = .w64 x := by unfold numsF; rw [h]
theorem eqC_newN {q : List Nat} {l : List (BitVec 64)} {n : Nat} (hn : l.length = n) {j : Nat} : eqC q (newF (scale n (0 + 1)) (nthC (l.map .w64)) j) (numsF l j) True :=
  eqC_nums (f := fun j => newF (scale n (0 + 1)) (nthC (l.map .w64)) j) (fun j x h => newR (by simp [hn]) (by decide) j _ (map_get? h)) j
theorem eqC_newB {q : List Nat} {l : Bs} {n : Nat} (hn : l.length = n) {j : Nat} : eqC q (newF (scale n (0 + 1)) (nthC (l.map .w8)) j) (bytesF l.length (L l) j) True :=
  eqC_bytes (f := fun j => newF (scale n (0 + 1)) (nthC (l.map .w8)) j) (fun j h => newR (by simp [hn]) (by decide) j _ (map_get? (by rw [List.getElem?_eq_getElem h, L_lt h]))) j
theorem bytes_get {l : Bs} {n j : Nat} {x : BitVec 8} (h : l[j]? = some x) (hn : l.length ≤ n) (M : Bs) (hM : M.length = n) (hl : ∀ i, i < l.length → L M i = L l i) : bytesF n (L M) j = .w8 x := by
  have hj := (List.getElem?_eq_some_iff.1 h).1
  rw [bytesF_lt (by omega), hl j hj, L_lt hj]
  rw [List.getElem?_eq_getElem hj] at h
  injection h with h
  rw [h]
set_option maxRecDepth 20000 in
set_option maxHeartbeats 8000000 in
theorem fn_ecl00 {W : World} {ms : List Nat} {x : EvC} {e : Ev} (h : EvAt W ms x e) (hn : e.N.length ≤ 1000000) (hd : e.D.length ≤ 1000000) (hz : e.N.length = 0) (hy : e.D.length = 0) : FnR Try.prog tds 38 1 [[.past W ms]] [.agg (evS e x)] (fun _ => True)
    (fun y hs => y = .a (.agg [.one (.w8 e.k), .one (.w64 e.t), .one (.slc none 0 0), .one (.slc none 0 0)]) ∧ hs = [[.past W ms]]) := by
  have hN := h.N
  have hD := h.D
  have hn1 := h.nN
  have hn2 := h.nD
  obtain ⟨aN, nN, cN, aD, nD, cD⟩ := x
  dsimp only at hN hD hn1 hn2
  subst hn1; subst hn2
  refine fn_of_body tds_ok follows_ Try.func38 rfl (t := .a (.agg (evS e ⟨aN, e.N.length, cN, aD, e.D.length, cD⟩)) :: anys (Try.f38.ntmps - 1)) rfl (fun w r0 hr _ => ?_)
  obtain ⟨x0, rfl⟩ := List.length_eq_one_iff.1 hr
  cases aN with
  | none =>
    (repeat first | (refine And.intro ?_ ?_; first | exact rfl | ((exact fun h => absurd h (by first | decide)); intro yy; clear yy) | (rotate_left; (exact fun h => absurd h (by first | decide)); intro yy; clear yy) | decide | omega) | (with_reducible refine frc_bytesL (by first | omega | decide) ?_) | (with_reducible refine frc_bytesM (by first | omega | decide) ?_))
    cases aD with
    | none =>
      (repeat first | (refine And.intro ?_ ?_; first | exact rfl | ((exact fun h => absurd h (by first | decide)); intro yy; clear yy) | (rotate_left; (exact fun h => absurd h (by first | decide)); intro yy; clear yy) | decide | omega) | (with_reducible refine frc_bytesL (by first | omega | decide) ?_) | (with_reducible refine frc_bytesM (by first | omega | decide) ?_))
      refine ⟨.a (.agg [.one (.w8 e.k), .one (.w64 e.t), .one (.slc none 0 0), .one (.slc none 0 0)]), [[.past W ms]], ⟨[0], ⟨rfl, rfl, rfl⟩, ?_⟩, rfl, rfl⟩
      (repeat first | exact trivial | refine ent1 ?_)
    | some AD =>
      (repeat first | (refine And.intro ?_ ?_; first | exact rfl | ((exact fun h => absurd h (by first | decide)); intro yy; clear yy) | (rotate_left; (exact fun h => absurd h (by first | decide)); intro yy; clear yy) | decide | omega) | (with_reducible refine frc_bytesL (by first | omega | decide) ?_) | (with_reducible refine frc_bytesM (by first | omega | decide) ?_))
      refine srcR (i := 0) (by rfl) hD ?_
      (repeat first | (refine And.intro ?_ ?_; first | exact rfl | ((exact fun h => absurd h (by first | decide)); intro yy; clear yy) | (rotate_left; (exact fun h => absurd h (by first | decide)); intro yy; clear yy) | decide | omega) | (with_reducible refine frc_bytesL (by first | omega | decide) ?_) | (with_reducible refine frc_bytesM (by first | omega | decide) ?_))
      refine And.intro (show e.D.length * 1 ≤ 140737488355328 by omega) ?_
      refine And.intro (fun _ => ?_) (fun h0 => absurd h0 (show ¬ 0 < e.D.length by omega))
      (repeat first | (refine And.intro ?_ ?_; first | exact rfl | ((exact fun h => absurd h (by first | decide)); intro yy; clear yy) | (rotate_left; (exact fun h => absurd h (by first | decide)); intro yy; clear yy) | decide | omega) | (with_reducible refine frc_bytesL (by first | omega | decide) ?_) | (with_reducible refine frc_bytesM (by first | omega | decide) ?_))
      refine ⟨.a (.agg [.one (.w8 e.k), .one (.w64 e.t), .one (.slc none 0 0), .one (.slc none 0 0)]), [[.past W ms]], ⟨[0], ⟨rfl, rfl, rfl⟩, ?_⟩, rfl, rfl⟩
      (repeat first | exact trivial | refine ent1 ?_)
  | some AN =>
    (repeat first | (refine And.intro ?_ ?_; first | exact rfl | ((exact fun h => absurd h (by first | decide)); intro yy; clear yy) | (rotate_left; (exact fun h => absurd h (by first | decide)); intro yy; clear yy) | decide | omega) | (with_reducible refine frc_bytesL (by first | omega | decide) ?_) | (with_reducible refine frc_bytesM (by first | omega | decide) ?_))
    refine srcR (i := 0) (by rfl) hN ?_
    (repeat first | (refine And.intro ?_ ?_; first | exact rfl | ((exact fun h => absurd h (by first | decide)); intro yy; clear yy) | (rotate_left; (exact fun h => absurd h (by first | decide)); intro yy; clear yy) | decide | omega) | (with_reducible refine frc_bytesL (by first | omega | decide) ?_) | (with_reducible refine frc_bytesM (by first | omega | decide) ?_))
    refine And.intro (show e.N.length * 8 ≤ 140737488355328 by omega) ?_
    refine And.intro (fun _ => ?_) (fun h0 => absurd h0 (show ¬ 0 < e.N.length by omega))
    (repeat first | (refine And.intro ?_ ?_; first | exact rfl | ((exact fun h => absurd h (by first | decide)); intro yy; clear yy) | (rotate_left; (exact fun h => absurd h (by first | decide)); intro yy; clear yy) | decide | omega) | (with_reducible refine frc_bytesL (by first | omega | decide) ?_) | (with_reducible refine frc_bytesM (by first | omega | decide) ?_))
    cases aD with
    | none =>
      (repeat first | (refine And.intro ?_ ?_; first | exact rfl | ((exact fun h => absurd h (by first | decide)); intro yy; clear yy) | (rotate_left; (exact fun h => absurd h (by first | decide)); intro yy; clear yy) | decide | omega) | (with_reducible refine frc_bytesL (by first | omega | decide) ?_) | (with_reducible refine frc_bytesM (by first | omega | decide) ?_))
      refine ⟨.a (.agg [.one (.w8 e.k), .one (.w64 e.t), .one (.slc none 0 0), .one (.slc none 0 0)]), [[.past W ms]], ⟨[0], ⟨rfl, rfl, rfl⟩, ?_⟩, rfl, rfl⟩
      (repeat first | exact trivial | refine ent1 ?_)
    | some AD =>
      (repeat first | (refine And.intro ?_ ?_; first | exact rfl | ((exact fun h => absurd h (by first | decide)); intro yy; clear yy) | (rotate_left; (exact fun h => absurd h (by first | decide)); intro yy; clear yy) | decide | omega) | (with_reducible refine frc_bytesL (by first | omega | decide) ?_) | (with_reducible refine frc_bytesM (by first | omega | decide) ?_))
      refine srcR (i := 0) (by rfl) hD ?_
      (repeat first | (refine And.intro ?_ ?_; first | exact rfl | ((exact fun h => absurd h (by first | decide)); intro yy; clear yy) | (rotate_left; (exact fun h => absurd h (by first | decide)); intro yy; clear yy) | decide | omega) | (with_reducible refine frc_bytesL (by first | omega | decide) ?_) | (with_reducible refine frc_bytesM (by first | omega | decide) ?_))
      refine And.intro (show e.D.length * 1 ≤ 140737488355328 by omega) ?_
      refine And.intro (fun _ => ?_) (fun h0 => absurd h0 (show ¬ 0 < e.D.length by omega))
      (repeat first | (refine And.intro ?_ ?_; first | exact rfl | ((exact fun h => absurd h (by first | decide)); intro yy; clear yy) | (rotate_left; (exact fun h => absurd h (by first | decide)); intro yy; clear yy) | decide | omega) | (with_reducible refine frc_bytesL (by first | omega | decide) ?_) | (with_reducible refine frc_bytesM (by first | omega | decide) ?_))
      refine ⟨.a (.agg [.one (.w8 e.k), .one (.w64 e.t), .one (.slc none 0 0), .one (.slc none 0 0)]), [[.past W ms]], ⟨[0], ⟨rfl, rfl, rfl⟩, ?_⟩, rfl, rfl⟩
      (repeat first | exact trivial | refine ent1 ?_)
set_option maxRecDepth 20000 in
set_option maxHeartbeats 8000000 in
theorem fn_ecl01 {W : World} {ms : List Nat} {x : EvC} {e : Ev} (h : EvAt W ms x e) (hn : e.N.length ≤ 1000000) (hd : e.D.length ≤ 1000000) (hz : e.N.length = 0) (hy : 0 < e.D.length) : FnR Try.prog tds 38 1 [[.past W ms]] [.agg (evS e x)] (fun _ => True)
    (fun y hs => ∃ c2 : Nat, e.D.length ≤ c2 ∧ y = .a (.agg [.one (.w8 e.k), .one (.w64 e.t), .one (.slc none 0 0), .one (.sl 1 0 0 e.D.length c2)]) ∧ hs = [[.past W ms], lsC e.D c2]) := by
  have hN := h.N
  have hD := h.D
  have hn1 := h.nN
  have hn2 := h.nD
  obtain ⟨aN, nN, cN, aD, nD, cD⟩ := x
  dsimp only at hN hD hn1 hn2
  subst hn1; subst hn2
  refine fn_of_body tds_ok follows_ Try.func38 rfl (t := .a (.agg (evS e ⟨aN, e.N.length, cN, aD, e.D.length, cD⟩)) :: anys (Try.f38.ntmps - 1)) rfl (fun w r0 hr _ => ?_)
  obtain ⟨x0, rfl⟩ := List.length_eq_one_iff.1 hr
  cases aN with
  | none =>
    (repeat first | (refine And.intro ?_ ?_; first | exact rfl | ((exact fun h => absurd h (by first | decide)); intro yy; clear yy) | (rotate_left; (exact fun h => absurd h (by first | decide)); intro yy; clear yy) | decide | omega) | (with_reducible refine frc_bytesL (by first | omega | decide) ?_) | (with_reducible refine frc_bytesM (by first | omega | decide) ?_))
    cases aD with
    | none => have := hD.nil_.1; omega
    | some AD =>
    (repeat first | (refine And.intro ?_ ?_; first | exact rfl | ((exact fun h => absurd h (by first | decide)); intro yy; clear yy) | (rotate_left; (exact fun h => absurd h (by first | decide)); intro yy; clear yy) | decide | omega) | (with_reducible refine frc_bytesL (by first | omega | decide) ?_) | (with_reducible refine frc_bytesM (by first | omega | decide) ?_))
    refine srcR (i := 0) (by rfl) hD ?_
    (repeat first | (refine And.intro ?_ ?_; first | exact rfl | ((exact fun h => absurd h (by first | decide)); intro yy; clear yy) | (rotate_left; (exact fun h => absurd h (by first | decide)); intro yy; clear yy) | decide | omega) | (with_reducible refine frc_bytesL (by first | omega | decide) ?_) | (with_reducible refine frc_bytesM (by first | omega | decide) ?_))
    refine And.intro (show e.D.length * 1 ≤ 140737488355328 by omega) ?_
    refine And.intro (fun h0 => absurd h0 (show ¬ e.D.length = 0 by omega)) (fun h0 c2 hc2 => ?_)
    (repeat first | (refine And.intro ?_ ?_; first | exact rfl | ((exact fun h => absurd h (by first | decide)); intro yy; clear yy) | (rotate_left; (exact fun h => absurd h (by first | decide)); intro yy; clear yy) | decide | omega) | (with_reducible refine frc_bytesL (by first | omega | decide) ?_) | (with_reducible refine frc_bytesM (by first | omega | decide) ?_))
    refine ⟨.a (.agg [.one (.w8 e.k), .one (.w64 e.t), .one (.slc none 0 0), .one (.sl 1 0 0 e.D.length c2)]), [[.past W ms], lsC e.D c2], ⟨[0, 3], ⟨rfl, rfl, rfl⟩, ?_⟩, c2, hc2, rfl, rfl⟩
    (repeat first | exact trivial | refine ent1 ?_)
    exact ⟨fun j hj => eqC_newB rfl, by (repeat first | exact trivial | refine ent1 ?_)⟩
  | some AN =>
    (repeat first | (refine And.intro ?_ ?_; first | exact rfl | ((exact fun h => absurd h (by first | decide)); intro yy; clear yy) | (rotate_left; (exact fun h => absurd h (by first | decide)); intro yy; clear yy) | decide | omega) | (with_reducible refine frc_bytesL (by first | omega | decide) ?_) | (with_reducible refine frc_bytesM (by first | omega | decide) ?_))
    refine srcR (i := 0) (by rfl) hN ?_
    (repeat first | (refine And.intro ?_ ?_; first | exact rfl | ((exact fun h => absurd h (by first | decide)); intro yy; clear yy) | (rotate_left; (exact fun h => absurd h (by first | decide)); intro yy; clear yy) | decide | omega) | (with_reducible refine frc_bytesL (by first | omega | decide) ?_) | (with_reducible refine frc_bytesM (by first | omega | decide) ?_))
    refine And.intro (show e.N.length * 8 ≤ 140737488355328 by omega) ?_
    refine And.intro (fun _ => ?_) (fun h0 => absurd h0 (show ¬ 0 < e.N.length by omega))
    (repeat first | (refine And.intro ?_ ?_; first | exact rfl | ((exact fun h => absurd h (by first | decide)); intro yy; clear yy) | (rotate_left; (exact fun h => absurd h (by first | decide)); intro yy; clear yy) | decide | omega) | (with_reducible refine frc_bytesL (by first | omega | decide) ?_) | (with_reducible refine frc_bytesM (by first | omega | decide) ?_))
    cases aD with
    | none => have := hD.nil_.1; omega
    | some AD =>
    (repeat first | (refine And.intro ?_ ?_; first | exact rfl | ((exact fun h => absurd h (by first | decide)); intro yy; clear yy) | (rotate_left; (exact fun h => absurd h (by first | decide)); intro yy; clear yy) | decide | omega) | (with_reducible refine frc_bytesL (by first | omega | decide) ?_) | (with_reducible refine frc_bytesM (by first | omega | decide) ?_))
    refine srcR (i := 0) (by rfl) hD ?_
    (repeat first | (refine And.intro ?_ ?_; first | exact rfl | ((exact fun h => absurd h (by first | decide)); intro yy; clear yy) | (rotate_left; (exact fun h => absurd h (by first | decide)); intro yy; clear yy) | decide | omega) | (with_reducible refine frc_bytesL (by first | omega | decide) ?_) | (with_reducible refine frc_bytesM (by first | omega | decide) ?_))
    refine And.intro (show e.D.length * 1 ≤ 140737488355328 by omega) ?_
    refine And.intro (fun h0 => absurd h0 (show ¬ e.D.length = 0 by omega)) (fun h0 c2 hc2 => ?_)
    (repeat first | (refine And.intro ?_ ?_; first | exact rfl | ((exact fun h => absurd h (by first | decide)); intro yy; clear yy) | (rotate_left; (exact fun h => absurd h (by first | decide)); intro yy; clear yy) | decide | omega) | (with_reducible refine frc_bytesL (by first | omega | decide) ?_) | (with_reducible refine frc_bytesM (by first | omega | decide) ?_))
    refine ⟨.a (.agg [.one (.w8 e.k), .one (.w64 e.t), .one (.slc none 0 0), .one (.sl 1 0 0 e.D.length c2)]), [[.past W ms], lsC e.D c2], ⟨[0, 3], ⟨rfl, rfl, rfl⟩, ?_⟩, c2, hc2, rfl, rfl⟩
    (repeat first | exact trivial | refine ent1 ?_)
    exact ⟨fun j hj => eqC_newB rfl, by (repeat first | exact trivial | refine ent1 ?_)⟩
set_option maxRecDepth 20000 in
set_option maxHeartbeats 8000000 in
theorem fn_ecl10 {W : World} {ms : List Nat} {x : EvC} {e : Ev} (h : EvAt W ms x e) (hn : e.N.length ≤ 1000000) (hd : e.D.length ≤ 1000000) (hz : 0 < e.N.length) (hy : e.D.length = 0) : FnR Try.prog tds 38 1 [[.past W ms]] [.agg (evS e x)] (fun _ => True)
    (fun y hs => ∃ c1 : Nat, e.N.length ≤ c1 ∧ y = .a (.agg [.one (.w8 e.k), .one (.w64 e.t), .one (.sl 1 0 0 e.N.length c1), .one (.slc none 0 0)]) ∧ hs = [[.past W ms], [.row c1 (numsF e.N)]]) := by
  have hN := h.N
  have hD := h.D
  have hn1 := h.nN
  have hn2 := h.nD
  obtain ⟨aN, nN, cN, aD, nD, cD⟩ := x
  dsimp only at hN hD hn1 hn2
  subst hn1; subst hn2
  refine fn_of_body tds_ok follows_ Try.func38 rfl (t := .a (.agg (evS e ⟨aN, e.N.length, cN, aD, e.D.length, cD⟩)) :: anys (Try.f38.ntmps - 1)) rfl (fun w r0 hr _ => ?_)
  obtain ⟨x0, rfl⟩ := List.length_eq_one_iff.1 hr
  cases aN with
  | none => have := hN.nil_.1; omega
  | some AN =>
  (repeat first | (refine And.intro ?_ ?_; first | exact rfl | ((exact fun h => absurd h (by first | decide)); intro yy; clear yy) | (rotate_left; (exact fun h => absurd h (by first | decide)); intro yy; clear yy) | decide | omega) | (with_reducible refine frc_bytesL (by first | omega | decide) ?_) | (with_reducible refine frc_bytesM (by first | omega | decide) ?_))
  refine srcR (i := 0) (by rfl) hN ?_
  (repeat first | (refine And.intro ?_ ?_; first | exact rfl | ((exact fun h => absurd h (by first | decide)); intro yy; clear yy) | (rotate_left; (exact fun h => absurd h (by first | decide)); intro yy; clear yy) | decide | omega) | (with_reducible refine frc_bytesL (by first | omega | decide) ?_) | (with_reducible refine frc_bytesM (by first | omega | decide) ?_))
  refine And.intro (show e.N.length * 8 ≤ 140737488355328 by omega) ?_
  refine And.intro (fun h0 => absurd h0 (show ¬ e.N.length = 0 by omega)) (fun h0 c1 hc1 => ?_)
  (repeat first | (refine And.intro ?_ ?_; first | exact rfl | ((exact fun h => absurd h (by first | decide)); intro yy; clear yy) | (rotate_left; (exact fun h => absurd h (by first | decide)); intro yy; clear yy) | decide | omega) | (with_reducible refine frc_bytesL (by first | omega | decide) ?_) | (with_reducible refine frc_bytesM (by first | omega | decide) ?_))
  cases aD with
  | none =>
    (repeat first | (refine And.intro ?_ ?_; first | exact rfl | ((exact fun h => absurd h (by first | decide)); intro yy; clear yy) | (rotate_left; (exact fun h => absurd h (by first | decide)); intro yy; clear yy) | decide | omega) | (with_reducible refine frc_bytesL (by first | omega | decide) ?_) | (with_reducible refine frc_bytesM (by first | omega | decide) ?_))
    refine ⟨.a (.agg [.one (.w8 e.k), .one (.w64 e.t), .one (.sl 1 0 0 e.N.length c1), .one (.slc none 0 0)]), [[.past W ms], [.row c1 (numsF e.N)]], ⟨[0, 3], ⟨rfl, rfl, rfl⟩, ?_⟩, c1, hc1, rfl, rfl⟩
    (repeat first | exact trivial | refine ent1 ?_)
    refine ⟨fun j hj => eqC_newN rfl, ?_⟩
    (repeat first | exact trivial | refine ent1 ?_)
  | some AD =>
    (repeat first | (refine And.intro ?_ ?_; first | exact rfl | ((exact fun h => absurd h (by first | decide)); intro yy; clear yy) | (rotate_left; (exact fun h => absurd h (by first | decide)); intro yy; clear yy) | decide | omega) | (with_reducible refine frc_bytesL (by first | omega | decide) ?_) | (with_reducible refine frc_bytesM (by first | omega | decide) ?_))
    refine srcR (i := 0) (by rfl) hD ?_
    (repeat first | (refine And.intro ?_ ?_; first | exact rfl | ((exact fun h => absurd h (by first | decide)); intro yy; clear yy) | (rotate_left; (exact fun h => absurd h (by first | decide)); intro yy; clear yy) | decide | omega) | (with_reducible refine frc_bytesL (by first | omega | decide) ?_) | (with_reducible refine frc_bytesM (by first | omega | decide) ?_))
    refine And.intro (show e.D.length * 1 ≤ 140737488355328 by omega) ?_
    refine And.intro (fun _ => ?_) (fun h0 => absurd h0 (show ¬ 0 < e.D.length by omega))
    (repeat first | (refine And.intro ?_ ?_; first | exact rfl | ((exact fun h => absurd h (by first | decide)); intro yy; clear yy) | (rotate_left; (exact fun h => absurd h (by first | decide)); intro yy; clear yy) | decide | omega) | (with_reducible refine frc_bytesL (by first | omega | decide) ?_) | (with_reducible refine frc_bytesM (by first | omega | decide) ?_))
    refine ⟨.a (.agg [.one (.w8 e.k), .one (.w64 e.t), .one (.sl 1 0 0 e.N.length c1), .one (.slc none 0 0)]), [[.past W ms], [.row c1 (numsF e.N)]], ⟨[0, 3], ⟨rfl, rfl, rfl⟩, ?_⟩, c1, hc1, rfl, rfl⟩
    (repeat first | exact trivial | refine ent1 ?_)
    refine ⟨fun j hj => eqC_newN rfl, ?_⟩
    (repeat first | exact trivial | refine ent1 ?_)
set_option maxRecDepth 20000 in
set_option maxHeartbeats 8000000 in
theorem fn_ecl11 {W : World} {ms : List Nat} {x : EvC} {e : Ev} (h : EvAt W ms x e) (hn : e.N.length ≤ 1000000) (hd : e.D.length ≤ 1000000) (hz : 0 < e.N.length) (hy : 0 < e.D.length) : FnR Try.prog tds 38 1 [[.past W ms]] [.agg (evS e x)] (fun _ => True)
    (fun y hs => ∃ c1 c2 : Nat, e.N.length ≤ c1 ∧ e.D.length ≤ c2 ∧ y = .a (.agg [.one (.w8 e.k), .one (.w64 e.t), .one (.sl 1 0 0 e.N.length c1), .one (.sl 2 0 0 e.D.length c2)]) ∧ hs = [[.past W ms], [.row c1 (numsF e.N)], lsC e.D c2]) := by
  have hN := h.N
  have hD := h.D
  have hn1 := h.nN
  have hn2 := h.nD
  obtain ⟨aN, nN, cN, aD, nD, cD⟩ := x
  dsimp only at hN hD hn1 hn2
  subst hn1; subst hn2
  refine fn_of_body tds_ok follows_ Try.func38 rfl (t := .a (.agg (evS e ⟨aN, e.N.length, cN, aD, e.D.length, cD⟩)) :: anys (Try.f38.ntmps - 1)) rfl (fun w r0 hr _ => ?_)
  obtain ⟨x0, rfl⟩ := List.length_eq_one_iff.1 hr
  cases aN with
  | none => have := hN.nil_.1; omega
  | some AN =>
  (repeat first | (refine And.intro ?_ ?_; first | exact rfl | ((exact fun h => absurd h (by first | decide)); intro yy; clear yy) | (rotate_left; (exact fun h => absurd h (by first | decide)); intro yy; clear yy) | decide | omega) | (with_reducible refine frc_bytesL (by first | omega | decide) ?_) | (with_reducible refine frc_bytesM (by first | omega | decide) ?_))
  refine srcR (i := 0) (by rfl) hN ?_
  (repeat first | (refine And.intro ?_ ?_; first | exact rfl | ((exact fun h => absurd h (by first | decide)); intro yy; clear yy) | (rotate_left; (exact fun h => absurd h (by first | decide)); intro yy; clear yy) | decide | omega) | (with_reducible refine frc_bytesL (by first | omega | decide) ?_) | (with_reducible refine frc_bytesM (by first | omega | decide) ?_))
  refine And.intro (show e.N.length * 8 ≤ 140737488355328 by omega) ?_
  refine And.intro (fun h0 => absurd h0 (show ¬ e.N.length = 0 by omega)) (fun h0 c1 hc1 => ?_)
  (repeat first | (refine And.intro ?_ ?_; first | exact rfl | ((exact fun h => absurd h (by first | decide)); intro yy; clear yy) | (rotate_left; (exact fun h => absurd h (by first | decide)); intro yy; clear yy) | decide | omega) | (with_reducible refine frc_bytesL (by first | omega | decide) ?_) | (with_reducible refine frc_bytesM (by first | omega | decide) ?_))
  cases aD with
  | none => have := hD.nil_.1; omega
  | some AD =>
  (repeat first | (refine And.intro ?_ ?_; first | exact rfl | ((exact fun h => absurd h (by first | decide)); intro yy; clear yy) | (rotate_left; (exact fun h => absurd h (by first | decide)); intro yy; clear yy) | decide | omega) | (with_reducible refine frc_bytesL (by first | omega | decide) ?_) | (with_reducible refine frc_bytesM (by first | omega | decide) ?_))
  refine srcR (i := 0) (by rfl) hD ?_
  (repeat first | (refine And.intro ?_ ?_; first | exact rfl | ((exact fun h => absurd h (by first | decide)); intro yy; clear yy) | (rotate_left; (exact fun h => absurd h (by first | decide)); intro yy; clear yy) | decide | omega) | (with_reducible refine frc_bytesL (by first | omega | decide) ?_) | (with_reducible refine frc_bytesM (by first | omega | decide) ?_))
  refine And.intro (show e.D.length * 1 ≤ 140737488355328 by omega) ?_
  refine And.intro (fun h0 => absurd h0 (show ¬ e.D.length = 0 by omega)) (fun h0 c2 hc2 => ?_)
  (repeat first | (refine And.intro ?_ ?_; first | exact rfl | ((exact fun h => absurd h (by first | decide)); intro yy; clear yy) | (rotate_left; (exact fun h => absurd h (by first | decide)); intro yy; clear yy) | decide | omega) | (with_reducible refine frc_bytesL (by first | omega | decide) ?_) | (with_reducible refine frc_bytesM (by first | omega | decide) ?_))
  refine ⟨.a (.agg [.one (.w8 e.k), .one (.w64 e.t), .one (.sl 1 0 0 e.N.length c1), .one (.sl 2 0 0 e.D.length c2)]), [[.past W ms], [.row c1 (numsF e.N)], lsC e.D c2], ⟨[0, 3, 4], ⟨rfl, rfl, rfl⟩, ?_⟩, c1, c2, hc1, hc2, rfl, rfl⟩
  (repeat first | exact trivial | refine ent1 ?_)
  refine ⟨fun j hj => eqC_newN rfl, ?_⟩
  (repeat first | exact trivial | refine ent1 ?_)
  exact ⟨fun j hj => eqC_newB rfl, by (repeat first | exact trivial | refine ent1 ?_)⟩
end Sx
end Go.Proofs.Ytdakmieapdpidaa
end
