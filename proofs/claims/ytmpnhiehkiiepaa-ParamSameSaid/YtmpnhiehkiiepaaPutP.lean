/-
  The contract of param.Params' Put. No condition.
-/
import Derived.Test.YtmpnhiehkiiepaaPut
import Derived.Test.YtmpnhiehkiiepaaPck
namespace Go.Proofs.Ytmpnhiehkiiepaa
open Go.RowKit

/-- Params as bytes. -/
def putN (x0 x1 x2 x3 x4 x5 x6 x7 x8 : Int) : List UInt8 := numP 1 x0 ++ numP 4 x1 ++ numP 5 x2 ++ numP 6 x3 ++ numP 7 x4 ++ numP 8 x5 ++ numP 9 x6 ++ numP 11 x7 ++ numP 14 x8 ++ putF 15
def putP (x0 x1 x2 x3 x4 x5 x6 x7 x8 : Int) (bs : List UInt8) : List UInt8 := putN x0 x1 x2 x3 x4 x5 x6 x7 x8 ++ putF bs.length ++ bs

/-- What stands in the middle of Put. -/
structure PutS (w wc : World) (X : Array Value) (b : Nat) (v : Value) (l : List UInt8) (N : Nat) : Prop where
  ex : Blk wc w.heap.size 83 X
  wr : Wr wc b w.heap.size v l 0
  bb : w.heap.size < b
  bl : Below w.heap.size w wc
  ln : l.length ≤ N
theorem PutS.grow {w wc w' : World} {X : Array Value} {b : Nat} {v v' : Value} {l l' : List UInt8} {N N' : Nat} (h : PutS w wc X b v l N) (hw : Wr w' b w.heap.size v' l' 0) (hg : GrowP wc w' b v v') (hN : l'.length ≤ N') : PutS w w' X b v' l' N' :=
  ⟨hg.blk h.ex (Nat.ne_of_lt h.bb) (h.wr.2.blk_ne h.ex (by decide)), hw, h.bb, hg.below h.bl (Nat.le_of_lt h.bb) h.wr.2.lt h.bl.size, hN⟩
theorem lenF_in (n : Int) (h0 : 0 ≤ n) (h1 : n ≤ 4611686018427387903) : lenF n ≠ 0 := by have := lenF_spec n; omega
theorem put1_st {w wc : World} {X : Array Value} {b : Nat} {v : Value} {l : List UInt8} {N : Nat} (h : PutS w wc X b v l N) (id n : Int) (hid : 0 ≤ id ∧ id ≤ 4611686018427387903) (hn : 0 ≤ n ∧ n ≤ 4611686018427387903) (hN : N ≤ 100000) :
    Calls Try.prog 72 #[.int .u64 id, .int .u64 n, .pointer (some ⟨b, 0, none⟩)] wc fun e w' => e = .returned (.tuple #[]) ∧ ∃ v', PutS w w' X b v' (l ++ numP id n) (N + 24) := by
  have hl := h.ln
  refine (put1_ok b w.heap.size v l id n wc h.wr hid.1 hn.1 (lenF_in id hid.1 hid.2) (lenF_in n hn.1 hn.2) (by omega) h.bl.size).mono ?_
  rintro e w' ⟨rfl, v', hw, hg⟩
  exact ⟨rfl, v', h.grow hw hg (by have := numP_len id n; simp only [List.length_append]; omega)⟩
theorem putI_st {w wc : World} {X : Array Value} {b : Nat} {v : Value} {l : List UInt8} {N : Nat} (h : PutS w wc X b v l N) (id : Int) (hid : 0 ≤ id ∧ id ≤ 4611686018427387903) (hN : N ≤ 100000) :
    Calls Try.prog 37 #[.pointer (some ⟨b, 0, none⟩), .slice (some ⟨wc.heap.size, 0, none⟩) 1 1] (wc.alloc (.cells #[.int .u64 id] 25)) fun e w' => e = .returned (.tuple #[]) ∧ ∃ v', PutS w w' X b v' (l ++ putF id) (N + 8) := by
  have hl := h.ln
  have hra := rdA_new u64v wc #[.int .u64 id] 25 [id] b v h.wr.1.lt h.wr.2.bound rfl
  refine (wInt_ok b w.heap.size _ 1 1 v l [id] _ ⟨h.wr.1.alloc _, h.wr.2.alloc _⟩ hra rfl (by simpa using hid.1) (by omega) (by have := h.bl.size; simp; omega)).mono ?_
  rintro e w' ⟨rfl, v', hw, hg⟩
  rw [wInts_cons, if_neg (lenF_in id hid.1 hid.2)] at hw
  exact ⟨rfl, v', h.grow hw (((GrowP.refl wc b v).alloc _).trans hg) (by have := putF_le id; simp [wInts]; omega)⟩
theorem putL_st {w wc : World} {X : Array Value} {b : Nat} {v : Value} {l : List UInt8} {N : Nat} (h : PutS w wc X b v l N) (A : Option Addr) (m c : Nat) (bs : List UInt8) (hr : Rd u8v w w.heap.size A bs) (hm : bs.length = m) (hN : N ≤ 100000) (hm2 : m ≤ 1000000) :
    Calls Try.prog 38 #[.pointer (some ⟨b, 0, none⟩), .slice A m c] wc fun e w' => e = .returned (.tuple #[]) ∧ ∃ v', PutS w w' X b v' (l ++ putF m ++ bs) (N + 8 + m) := by
  have hl := h.ln
  refine (wLong_ok b w.heap.size A m c v l bs wc h.wr (RdA.of_below (hr.below h.bl (Nat.le_refl _)) h.bl.size (Nat.le_of_lt h.bb) h.wr.2.lt) hm (by omega) h.bl.size).mono ?_
  rintro e w' ⟨rfl, v', hw, hg⟩
  exact ⟨rfl, v', h.grow hw hg (by have := putF_le (m : Int); simp; omega)⟩
theorem putS_start {w w1 : World} {X : Array Value} (hE : Blk w1 w.heap.size 83 X) (hb : Below w.heap.size w w1) : PutS w (w1.alloc (.cells #[.slice none 0 0, .int .i64 0] 71)) X w1.heap.size (.slice none 0 0) [] 0 :=
  ⟨hE.alloc _, ⟨Blk.new _ _ _, Own.none_ _ _ _ _⟩, hE.lt, below_alloc hb (Nat.le_refl _) _, by simp⟩

set_option maxRecDepth 100000 in
set_option maxHeartbeats 2000000 in
theorem pput_ok (x0 x1 x2 x3 x4 x5 x6 x7 x8 : Int) (A : Option Addr) (n c : Nat) (bs : List UInt8) (w : World) (hr : Rd u8v w w.heap.size A bs) (hn : bs.length = n) (hz : pcheckF x0 x1 x2 x3 x4 x5 x6 x7 x8 n = 0)
    (hx : 0 ≤ x0 ∧ 0 ≤ x1 ∧ 0 ≤ x2 ∧ 0 ≤ x3 ∧ 0 ≤ x4 ∧ 0 ≤ x5 ∧ 0 ≤ x6 ∧ 0 ≤ x7) :
    Calls Try.prog 69 #[.agg #[.int .u64 x0, .int .u64 x1, .int .u64 x2, .int .u64 x3, .int .u64 x4, .int .u64 x5, .int .u64 x6, .int .u64 x7, .int .u64 x8, .slice A n c]] w fun e w' =>
      ∃ A' N c', e = .returned (.tuple #[.slice A' N c', .int .i64 0]) ∧ Own u8v 5 w' w.heap.size (.slice A' N c') (putP x0 x1 x2 x3 x4 x5 x6 x7 x8 bs) ∧ Below w.heap.size w w' := by
  have HR := Lib.hid hr
  have HN := Lib.hid hn
  have HZ := Lib.hid hz
  have hb : (0 ≤ x0 ∧ x0 ≤ 4611686018427387903) ∧ (0 ≤ x1 ∧ x1 ≤ 4611686018427387903) ∧ (0 ≤ x2 ∧ x2 ≤ 4611686018427387903) ∧ (0 ≤ x3 ∧ x3 ≤ 4611686018427387903) ∧ (0 ≤ x4 ∧ x4 ≤ 4611686018427387903) ∧ (0 ≤ x5 ∧ x5 ≤ 4611686018427387903) ∧ (0 ≤ x6 ∧ x6 ≤ 4611686018427387903) ∧ (0 ≤ x7 ∧ x7 ≤ 4611686018427387903) ∧ (0 ≤ x8 ∧ x8 ≤ 4611686018427387903) ∧ n ≤ 1000000 := by
    unfold pcheckF at hz
    (repeat' split at hz) <;> omega
  obtain ⟨⟨a0, b0⟩, ⟨a1, b1⟩, ⟨a2, b2⟩, ⟨a3, b3⟩, ⟨a4, b4⟩, ⟨a5, b5⟩, ⟨a6, b6⟩, ⟨a7, b7⟩, ⟨a8, b8⟩, hn9⟩ := hb
  clear hr hn hz hx
  go_enter Try.func69, Try.ntmps69
  go_wp2_with (first
    | (go_at_call 71; refine (pcheck_any x0 x1 x2 x3 x4 x5 x6 x7 x8 A n c _).mono ?_; rintro e w1 ⟨rfl, hb1⟩; rw [HZ.out]; have hE := (Blk.new w 83 #[.int .u64 x0, .int .u64 x1, .int .u64 x2, .int .u64 x3, .int .u64 x4, .int .u64 x5, .int .u64 x6, .int .u64 x7, .int .u64 x8, .slice A n c]).call hb1; have HST := Lib.hid (putS_start hE (below_then ((Below.refl w.heap.size w).alloc (Nat.le_refl _) _) hb1)); have q0 := HST.out.ex.cell 0; have q1 := HST.out.ex.cell 1; have q2 := HST.out.ex.cell 2; have q3 := HST.out.ex.cell 3; have q4 := HST.out.ex.cell 4; have q5 := HST.out.ex.cell 5; have q6 := HST.out.ex.cell 6; have q7 := HST.out.ex.cell 7; have q8 := HST.out.ex.cell 8; have q9 := HST.out.ex.cell 9; have HB1 : Hid (Below w.heap.size w w1) := below_then ((Below.refl w.heap.size w).alloc (Nat.le_refl _) _) hb1; clear hb1 hE)
    | (go_at_call 72; refine (put1_st HST.out _ _ (by decide) (by omega) (by decide)).mono ?_; rintro e wn ⟨rfl, vn, hs⟩; clear HST q0 q1 q2 q3 q4 q5 q6 q7 q8 q9; have HST := Lib.hid hs; have q0 := HST.out.ex.cell 0; have q1 := HST.out.ex.cell 1; have q2 := HST.out.ex.cell 2; have q3 := HST.out.ex.cell 3; have q4 := HST.out.ex.cell 4; have q5 := HST.out.ex.cell 5; have q6 := HST.out.ex.cell 6; have q7 := HST.out.ex.cell 7; have q8 := HST.out.ex.cell 8; have q9 := HST.out.ex.cell 9; clear hs)
    | (go_at_call 37; go_loud (refine (putI_st HST.out _ (by decide) (by decide)).mono ?_); rintro e wn ⟨rfl, vn, hs⟩; clear HST q0 q1 q2 q3 q4 q5 q6 q7 q8 q9; have HST := Lib.hid hs; have q0 := HST.out.ex.cell 0; have q1 := HST.out.ex.cell 1; have q2 := HST.out.ex.cell 2; have q3 := HST.out.ex.cell 3; have q4 := HST.out.ex.cell 4; have q5 := HST.out.ex.cell 5; have q6 := HST.out.ex.cell 6; have q7 := HST.out.ex.cell 7; have q8 := HST.out.ex.cell 8; have q9 := HST.out.ex.cell 9; clear hs)
    | (go_at_call 38; go_loud (refine (putL_st HST.out A n c bs HR.out HN.out (by decide) (by omega)).mono ?_); rintro e wn ⟨rfl, vn, hs⟩; clear HST q0 q1 q2 q3 q4 q5 q6 q7 q8 q9; have HST := Lib.hid hs; clear hs)
    | (go_at_call 40; go_loud (refine (wDone_ok _ _ _ _ _ HST.out.wr (by have := HST.out.ln; omega)).mono ?_); rintro e wz ⟨Az, Nz, cz, rfl, hown, hbz⟩; have HOWN := Lib.hid hown; have HBZ := Lib.hid hbz; clear hown hbz))
  go_ret2
  refine ⟨Az, Nz, cz, rfl, ?_, below_then HST.out.bl HBZ.out⟩
  have h := HOWN.out.more HST.out.bl.size
  unfold putP putN
  rw [HN.out]
  simpa only [List.append_assoc, List.nil_append] using h

/-- What cannot be put. -/
theorem pput_bad (x0 x1 x2 x3 x4 x5 x6 x7 x8 : Int) (A : Option Addr) (n c : Nat) (w : World) (z : Int) (hz : pcheckF x0 x1 x2 x3 x4 x5 x6 x7 x8 n = z) (hz0 : z ≠ 0) :
    Calls Try.prog 69 #[.agg #[.int .u64 x0, .int .u64 x1, .int .u64 x2, .int .u64 x3, .int .u64 x4, .int .u64 x5, .int .u64 x6, .int .u64 x7, .int .u64 x8, .slice A n c]] w fun e w' =>
      e = .returned (.tuple #[.slice none 0 0, .int .i64 z]) ∧ Below w.heap.size w w' := by
  have HZ := Lib.hid hz
  have hz1 : (z == 0) = false := by simpa using hz0
  clear hz hz0
  go_enter Try.func69, Try.ntmps69
  go_wp2_with (go_at_call 71; refine (pcheck_any x0 x1 x2 x3 x4 x5 x6 x7 x8 A n c _).mono ?_; rintro e w1 ⟨rfl, hb1⟩; rw [HZ.out]; have HB1 : Hid (Below w.heap.size w w1) := below_then ((Below.refl w.heap.size w).alloc (Nat.le_refl _) _) hb1; clear hb1)
  go_ret2
  exact ⟨rfl, HB1.out⟩
end Go.Proofs.Ytmpnhiehkiiepaa
