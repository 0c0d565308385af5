/-
  Contracts of param.Params' Check and Put. No condition.
-/
import Derived.Test.YtmpnhiehkiiepaaVwr
namespace Go.Proofs.Ytmpnhiehkiiepaa
open Go.RowKit

theorem rdA_new {α : Type} (f : α → Value) (w : World) (cs : Array Value) (t : TypeId) (l : List α) (b : Nat) (v : Value) (hb : b < w.heap.size) (hv : ∀ k, v.ownBlock = some k → k < w.heap.size) (h : cs.toList.take l.length = l.map f) :
    RdA f (w.alloc (.cells cs t)) (some ⟨w.heap.size, 0, none⟩) l b v := by
  refine ⟨(Rd.new f w cs t l h).more (by simp), fun _ a ha => ?_⟩
  injection ha with ha
  subst ha
  exact ⟨fun e => by simp at e; omega, fun hv' => by have := hv _ hv'; simp at this⟩

/-- A number with its id, as bytes. -/
def numP (id n : Int) : List UInt8 := putF id ++ putF (lenF n) ++ putF n
theorem numP_len (id n : Int) : (numP id n).length ≤ 24 := by
  have h1 := putF_le id
  have h2 := putF_le (lenF n)
  have h3 := putF_le n
  unfold numP
  simp only [List.length_append]
  omega
theorem wInts_num (l : List UInt8) (id n : Int) (h1 : lenF id ≠ 0) (h2 : lenF n ≠ 0) : wInts l [id, lenF n, n] = (l ++ numP id n, 0) := by
  have h3 : lenF (lenF n) ≠ 0 := by
    have := lenF_spec n
    have := lenF_spec (lenF n)
    omega
  rw [wInts_cons, if_neg h1, wInts_cons, if_neg h3, wInts_cons, if_neg h2]
  simp [wInts, numP]

set_option maxHeartbeats 1000000 in
theorem put1_ok (b base : Nat) (v : Value) (l : List UInt8) (id n : Int) (w : World) (hw : Wr w b base v l 0) (hid0 : 0 ≤ id) (hn0 : 0 ≤ n) (h1 : lenF id ≠ 0) (h2 : lenF n ≠ 0) (hsz : l.length ≤ 1000000) (hbase : base ≤ w.heap.size) :
    Calls Try.prog 72 #[.int .u64 id, .int .u64 n, .pointer (some ⟨b, 0, none⟩)] w fun e w' => e = .returned (.tuple #[]) ∧ ∃ v', Wr w' b base v' (l ++ numP id n) 0 ∧ GrowP w w' b v v' := by
  have hs := lenF_spec n
  have hwi := wInts_num l id n h1 h2
  obtain ⟨k, hk⟩ : ∃ k, k = lenF n := ⟨_, rfl⟩
  rw [← hk] at hwi hs h2
  have hk0 : 0 ≤ k ∧ k ≤ 8 := by omega
  have HW := Lib.hid hw
  have HK := Lib.hid hk
  have HWI := Lib.hid hwi
  clear hw hk hwi hs h1 h2
  go_enter Try.func72, Try.ntmps72
  go_wp2_with (first
    | (go_at_call 26; refine (len_any n _ hn0).mono ?_; rintro e w' ⟨rfl, rfl⟩; rw [← HK.out])
    | (go_at_call 37; have hra := rdA_new u64v w #[.int .u64 id, .int .u64 k, .int .u64 n] 25 [id, k, n] b v HW.out.1.lt HW.out.2.bound rfl; have hnn : ∀ x ∈ [id, k, n], 0 ≤ x := (by intro x hx; simp at hx; omega); refine (wInt_ok b base _ 3 _ v l [id, k, n] _ ⟨HW.out.1.alloc _, HW.out.2.alloc _⟩ hra rfl hnn (by omega) (by simp; omega)).mono ?_; rintro e w2 ⟨rfl, v2, hw2, hg2⟩; have HW2 := Lib.hid hw2; have HG2 := Lib.hid hg2; clear hw2 hg2 hra hnn))
  go_end0
  have hw2 := HW2.out
  rw [HWI.out] at hw2
  exact ⟨rfl, v2, hw2, ((GrowP.refl w b v).alloc _).trans HG2.out⟩

theorem putF_15 : putF 15 = [15] := by decide +kernel
end Go.Proofs.Ytmpnhiehkiiepaa
