/-
  Texts of this claim, part 6: ShaW, ShaX, ShaV, Sxw, Sxv, ShaY, KdfA, KdfB. No condition of its own.
-/
import Derived.OpenShut
import Derived.Test.YtndlhhhebijknaaG5
section
/-
  SHA-256: the document's sum. No condition.
-/
namespace Go.Proofs.Ytndlhhhebijknaa
set_option linter.unusedVariables false
namespace Sx
open Sha

theorem frc_bytesL {n : Nat} {b : Nat → BitVec 8} {j : Nat} {k : SC → Prop} (h : j < n) (hk : k (.w8 (b j))) : frcSC (bytesF n b j) k := by
  rw [bytesF_lt h]; exact hk
/-- The schedule's array while it is made. -/
def wArr (P : Nat → BitVec 8) (m j : Nat) : BitVec 32 := if m ≤ 16 then (if j < m then w0 P j else 0#32) else wS P (m - 16) j
theorem wArr_16 (P : Nat → BitVec 8) (j : Nat) : wArr P 16 j = wS P 0 j := by unfold wArr; rw [if_pos (by omega)]; rfl
/-- A word while it is made. -/
def acc (P : Nat → BitVec 8) (m : Nat) : Nat → BitVec 32
  | 0 => 0#32
  | r + 1 => acc P m r * 256#32 + (P (4 * m + r)).setWidth 32
theorem acc_4 (P : Nat → BitVec 8) (m : Nat) : acc P m 4 = w0 P m := by
  simp only [acc]
  rw [four]
  rfl
theorem outW_at (V : Nat → BitVec 32) (m r : Nat) (hr : r < 4) : outW V (4 * m + r) = (V m >>> (8 * (3 - r))).setWidth 8 := by
  unfold outW
  rw [show (4 * m + r) / 4 = m by omega, show (4 * m + r) % 4 = r by omega]
theorem four_out (V : Nat → BitVec 32) (m r : Nat) (hr : r < 4) : nthC [.w8 ((V m >>> 24).setWidth 8), .w8 ((V m >>> 16).setWidth 8), .w8 ((V m >>> 8).setWidth 8), .w8 ((V m).setWidth 8)] r = .w8 (outW V (4 * m + r)) := by
  rw [outW_at V m r hr]
  have : r = 0 ∨ r = 1 ∨ r = 2 ∨ r = 3 := by omega
  rcases this with rfl | rfl | rfl | rfl <;> rfl
theorem fn_right (x : BitVec 32) (n : Nat) (h : n < 32) (h0 : 0 < n) : Fn Try.prog tds 48 [] [.c (.w32 x), .c (.int .i64 (n : Int))] (fun _ => True) (fun v hs => v = .a (.c (.w32 (ror x n))) ∧ hs = []) := by
  refine fn_of_body tds_ok follows_ Try.func48 rfl (t := .a (.c (.w32 x)) :: .a (.c (.int .i64 (n : Int))) :: anys (Try.f48.ntmps - 2)) rfl (fun w r0 hr _ => ?_)
  obtain rfl : r0 = [] := List.eq_nil_of_length_eq_zero hr
  refine ⟨none, [], [(0, true), (1, true), (2, true), (3, true), (4, true), (5, true), (6, true), (7, true), (8, true)], [], by kernel_rfl, ?_⟩
  (repeat first | refine ⟨by omega, ?_⟩ | refine ⟨by decide, ?_⟩ | refine ⟨idx8 _, ?_⟩ | refine ⟨lt8 (Nat.le_refl _) _, ?_⟩)
  refine ⟨.a (.c (.w32 (ror x n))), [], ⟨[], ⟨rfl, rfl, rfl⟩, ?_, trivial⟩, rfl, rfl⟩
  show x >>> _ ||| x <<< _ = x <<< (32 - n) ||| x >>> n
  have e1 : (n : Int).toNat = n := by omega
  have e2 : (32 - (n : Int)).toNat = 32 - n := by omega
  rw [e1, e2, BitVec.or_comm]
theorem nthC_w32 : ∀ (l : List (BitVec 32)) (j : Nat), j < l.length → nthC (l.map SC.w32) j = .w32 (l.getD j 0)
  | [], _, h => absurd h (by simp)
  | x :: l, 0, _ => rfl
  | x :: l, j + 1, h => nthC_w32 l j (by simpa using h)
set_option maxRecDepth 20000 in
theorem fn_rounds : Fn Try.prog tds 47 [] [] (fun _ => True) (fun v hs => v = .a (.c (.sl 0 0 0 64 64)) ∧ hs = [[.row 64 fun i => .w32 (steps i)]]) := by
  refine fn_of_body tds_ok follows_ Try.func47 rfl (t := anys (Try.f47.ntmps)) rfl (fun w r0 hr _ => ?_)
  obtain rfl : r0 = [] := List.eq_nil_of_length_eq_zero hr
  refine ⟨.a (.c (.sl 0 0 0 64 64)), [[.row 64 fun i => .w32 (steps i)]], ⟨[0], ⟨rfl, rfl, rfl⟩, ?_⟩, rfl, rfl⟩
  (repeat first | exact trivial | refine ⟨rfl, ?_⟩ | refine ⟨fun _ _ => ⟨rfl, trivial⟩, ?_⟩ | refine ⟨by omega, ?_⟩)
  refine ⟨fun j hj => ?_, trivial⟩
  refine eqC_w32 ((nthC_w32 (stepsL.map (BitVec.ofNat 32)) j hj).trans ?_)
  unfold steps
  rw [List.getD_eq_getElem?_getD, List.getElem?_map, List.getD_eq_getElem?_getD]
  cases stepsL[j]? <;> rfl

set_option maxHeartbeats 4000000 in
set_option maxRecDepth 20000 in
theorem fn_rsum (z : Bool) (N o cb : Nat) (l : Bs) (hN : o + l.length ≤ N) (hc : l.length ≤ cb) (hz : z = true → l = []) (hl : l.length < 1099511627776) :
    FnR Try.prog tds 17 1 [bts z N o l.length (L l)] [.c (.sn z 0 0 o l.length cb)] (fun _ => True)
      (fun x hs => ∃ c, x = .a (.c (.sl 1 0 0 32 c)) ∧ hs = [bts z N o l.length (L l), [.row c (bytesF 32 (L (sumL l)))]] ∧ 32 ≤ c) := by
  refine fn_of_body tds_ok follows_ Try.func17 rfl (t := .a (.c (.sn z 0 0 o l.length cb)) :: anys 312) rfl (fun w r0 hr _ => ?_)
  obtain ⟨x0, rfl⟩ := List.length_eq_one_iff.1 hr
  have hfull := full_len l
  have hpl := padP_le (show l.length % 64 < 64 from Nat.mod_lt _ (by omega))
  obtain ⟨Q, hQ, hQ1, hQ2⟩ := full_64 l
  have hLl : ∀ i, i < l.length → L (full l) i = L l i := fun i hi => L_app1 hi
  have hLp : ∀ i, L (full l) (l.length + i) = L (padT l.length) i := fun i => L_app2
  have hfirst : ∀ j, j < 8 → nthC ((firstL.map (BitVec.ofNat 32)).map SC.w32) j = .w32 (first j) := fun j hj => (nthC_w32 (firstL.map (BitVec.ofNat 32)) j hj).trans (by
    unfold first
    rw [List.getD_eq_getElem?_getD, List.getElem?_map, List.getD_eq_getElem?_getD]
    cases firstL[j]? <;> rfl)
  have hp0 : L (padT l.length) 0 = 128#8 := by unfold padT; rw [L_tab (by omega)]; rfl
  have hp1 : ∀ i, 0 < i → i < padP (l.length % 64) → L (padT l.length) i = 0#8 := fun i h1 h2 => by unfold padT; rw [L_tab (by omega)]; unfold padB; rw [if_neg (by omega), if_pos h2]
  have hp2 : ∀ i, i < 8 → L (padT l.length) (padP (l.length % 64) + i) = ((BitVec.ofNat 64 l.length * 8#64) >>> (8 * (7 - i))).setWidth 8 := fun i h1 => by
    unfold padT; rw [L_tab (by omega)]; unfold padB; rw [if_neg (by omega), if_neg (by omega), Nat.add_sub_cancel_left]
  obtain ⟨p, hp⟩ : ∃ p, padP (l.length % 64) = p := ⟨_, rfl⟩
  have hpi := fun k hk => padP_iff (k := k) (show l.length % 64 < 64 from Nat.mod_lt _ (by omega)) hk
  rw [hp] at hpl hp1 hp2 hpi hfull
  -- the bytes, filled up
  have hsrc : ∀ (c' : Nat), l.length ≤ c' → ∀ g : Nat → SC, (∀ i, i < l.length → g i = .w8 (L l i)) → ∀ i, i < l.length → appF (nthC []) 0 (scale 0 (0 + 1)) (scale l.length (0 + 1)) g i = .w8 (L (full l) i) := fun c' hc' g hg i hi => by
    unfold appF
    rw [if_neg (by simp [scale]), if_pos (by simpa [scale] using hi), hLl i hi, ← hg i hi]
    rfl
  (repeat first | refine ⟨by omega, ?_⟩ | refine ⟨by decide, ?_⟩ | refine ⟨idx8 _, ?_⟩ | refine ⟨lt8 (Nat.le_refl _) _, ?_⟩)
  refine sn_bts (N := N) (b := L l) ?_ hN (fun h => by rw [hz h]; rfl) (fun g hg => ?_)
  · rfl
  refine ⟨⟨by decide, by simp [scale], by show _ * 1 ≤ _; omega⟩, fun c1 hc1 => ?_⟩
  refine ⟨by decide, ⟨by omega, by simp only [scale]; omega, by show _ * 1 ≤ _; omega⟩, fun c2 hc2 => ?_⟩
  have hx1 : ∀ i, i < 0 + l.length + 1 → appF (appF (nthC []) 0 (scale 0 (0 + 1)) (scale l.length (0 + 1)) g) 0 (scale (0 + l.length) (0 + 1)) (scale 1 (0 + 1)) (nthC [SC.w8 128#8]) i = .w8 (L (full l) i) := by
    refine app1 (fun j hj => ?_) ?_
    · exact hsrc c1 (by omega) g hg j (by omega)
    · show SC.w8 128#8 = _
      have := hLp 0
      rw [Nat.add_zero] at this
      rw [Nat.zero_add, this, hp0]
  refine .inl ⟨Nat × Nat, fun (k, c) => ⟨[.any, .any, .any, .a (.c (.sl 1 0 0 8 8)), .a (.c (.w64 ((BitVec.ofNat 64 l.length * 8#64)))), .a (.c (.sl 2 0 0 (l.length + 1 + k) c)), .any, .any, .any, .any, .any, .any, .any, .any, .any, .any, .any, .any, .any, .any, .any, .any, .any, .any, .any, .any, .any, .any, .any, .any, .any, .any, .any, .any, .any, .any, .any, .any, .any, .any, .any, .any, .any, .any, .any, .any, .any, .any, .any, .any, .any, .any, .any, .any, .any, .any, .any, .any, .any, .any, .any, .any, .any, .any, .any, .any, .any, .any, .any, .any, .any, .any, .any, .any, .any, .any, .any, .any, .any, .any, .any, .any, .any, .any, .any, .any, .any, .any, .any, .any, .any, .any, .any, .any, .any, .any, .any, .any, .any, .any, .any, .any, .any, .any, .any, .any, .any, .any, .any, .any, .any, .any, .any, .any, .any, .any, .any, .any, .any, .any, .any, .any, .any, .any, .any, .any, .any, .any, .any, .any, .any, .any, .any, .any, .any, .any, .any, .any, .any, .any, .any, .any, .any, .any, .any, .any, .any, .any, .any, .any, .any, .any, .any, .any, .any, .any, .any, .any, .any, .any, .any, .any, .any, .any, .any, .any, .any, .any, .any, .any, .any, .any, .any, .any, .any, .any, .any, .any, .any, .any, .any, .any, .any, .any, .any, .any, .any, .any, .any, .any, .any, .any, .any, .any, .any, .any, .any, .any, .any, .any, .any, .any, .any, .any, .any, .any, .any, .any, .any, .any, .any, .any, .any, .any, .any, .any, .any, .any, .any, .any, .any, .any, .any, .any, .any, .any, .any, .any, .any, .any, .any, .any, .any, .any, .any, .any, .any, .any, .any, .any, .any, .any, .any, .any, .any, .any, .any, .any, .any, .any, .any, .any, .any, .any, .any, .any, .any, .any, .any, .any, .any, .any, .any, .any, .any, .any, .any, .any, .any, .any, .any, .any, .any, .any, .any, .any, .any, .any, .any, .any, .any, .any, .any, .any, .any, .any, .any, .any, .any, .any, .any, .any, .any, .any, .any, .any, .any, .any, .any, .any, .any, .any, .any, .any, .any, .any, .any, .any, .any, .any, .any, .any, .any], [bts z N o l.length (L l), [.row 8 fun i => .w32 (first i)], [.row c (bytesF (l.length + 1 + k) (L (full l)))]]⟩,
    fun (k, c) => k + 1 ≤ p ∧ l.length + 1 + k ≤ c, fun (k, _) => 64 - k, ⟨(0, c2), [0, 1, 5], ⟨⟨rfl, rfl, rfl⟩, ?_⟩, by omega, by omega⟩, fun (k, c) ⟨hk, hc⟩ => ?_⟩
  · (repeat first | exact trivial | refine ⟨rfl, ?_⟩ | refine ⟨fun _ _ => ⟨rfl, trivial⟩, ?_⟩ | refine ⟨fun _ _ => trivial, ?_⟩ | refine ⟨by omega, ?_⟩ | refine ⟨fun _ _ => eqC_winS, ?_⟩ | refine ⟨fun _ _ => eqC_winM, ?_⟩ | refine ⟨fun _ _ => eqC_winB, ?_⟩ | refine ⟨fun _ _ => eqC_selfB, ?_⟩ | refine ⟨fun _ _ => eqC_mpB, ?_⟩)
    refine eqC_bts ?_
    refine ⟨rfl, fun j hj => eqC_w32 (hfirst j hj), ?_⟩
    refine ⟨rfl, fun j hj => eqC_bytes (fun i hi => hx1 i (by omega)) j, ?_⟩
    (repeat first | exact trivial | refine ⟨rfl, ?_⟩ | refine ⟨fun _ _ => ⟨rfl, trivial⟩, ?_⟩ | refine ⟨fun _ _ => trivial, ?_⟩ | refine ⟨by omega, ?_⟩ | refine ⟨fun _ _ => eqC_winS, ?_⟩ | refine ⟨fun _ _ => eqC_winM, ?_⟩ | refine ⟨fun _ _ => eqC_winB, ?_⟩ | refine ⟨fun _ _ => eqC_selfB, ?_⟩ | refine ⟨fun _ _ => eqC_mpB, ?_⟩)
  · (repeat first | refine ⟨by omega, ?_⟩ | refine ⟨by decide, ?_⟩ | refine ⟨idx8 _, ?_⟩ | refine ⟨lt8 (Nat.le_refl _) _, ?_⟩ | refine ⟨rfl, ?_⟩)
    have e1 : ((l.length + 1 + k : Nat) : Int) % 64 = (((l.length % 64 + (k + 1)) % 64 : Nat) : Int) := by omega
    refine ⟨fun h => ?_, fun h => ?_⟩
    · have h1 : ¬ ((l.length + 1 + k : Nat) : Int) % 64 = 56 := of_decide_eq_true h
      have h2 := mt (hpi k hk).2
      have h3 : k + 1 < p := by omega
      refine ⟨by decide, ⟨by omega, by simp [scale], by show _ * 1 ≤ _; omega⟩, fun c' hc' => ?_⟩
      refine ⟨(k + 1, c'), [0, 1, 4], ⟨⟨rfl, rfl, rfl⟩, ?_⟩, by omega, by dsimp only; omega⟩
      (repeat first | exact trivial | refine ⟨rfl, ?_⟩ | refine ⟨fun _ _ => ⟨rfl, trivial⟩, ?_⟩ | refine ⟨fun _ _ => trivial, ?_⟩ | refine ⟨by omega, ?_⟩ | refine ⟨fun _ _ => eqC_winS, ?_⟩ | refine ⟨fun _ _ => eqC_winM, ?_⟩ | refine ⟨fun _ _ => eqC_winB, ?_⟩ | refine ⟨fun _ _ => eqC_selfB, ?_⟩ | refine ⟨fun _ _ => eqC_mpB, ?_⟩)
      refine eqC_bts ?_
      (repeat first | exact trivial | refine ⟨rfl, ?_⟩ | refine ⟨fun _ _ => ⟨rfl, trivial⟩, ?_⟩ | refine ⟨fun _ _ => trivial, ?_⟩ | refine ⟨by omega, ?_⟩ | refine ⟨fun _ _ => eqC_winS, ?_⟩ | refine ⟨fun _ _ => eqC_winM, ?_⟩ | refine ⟨fun _ _ => eqC_winB, ?_⟩ | refine ⟨fun _ _ => eqC_selfB, ?_⟩ | refine ⟨fun _ _ => eqC_mpB, ?_⟩)
      exact ⟨fun j hj => eqC_bytes (app1 (fun _ h => bytesF_lt h) (by show SC.w8 0#8 = _; rw [Nat.add_assoc, hLp, hp1 _ (by omega) (by omega)])) j, trivial⟩
    · have h1 : ((l.length + 1 + k : Nat) : Int) % 64 = 56 := of_decide_eq_false' h
      have h2 : k + 1 = p := (hpi k hk).1 (by omega)
      refine .inl ⟨Nat × Nat, fun (k, c) => ⟨[.any, .any, .any, .a (.c (.sl 1 0 0 8 8)), .a (.c (.w64 ((BitVec.ofNat 64 l.length * 8#64)))), .a (.c (.sl 2 0 0 (l.length + (p + k)) c)), .a (.c (.int .i64 (56 - 8 * (k : Int)))), .any, .any, .any, .any, .any, .any, .any, .any, .any, .any, .any, .any, .any, .any, .any, .any, .any, .any, .any, .any, .any, .any, .any, .any, .any, .any, .any, .any, .any, .any, .any, .any, .any, .any, .any, .any, .any, .any, .any, .any, .any, .any, .any, .any, .any, .any, .any, .any, .any, .any, .any, .any, .any, .any, .any, .any, .any, .any, .any, .any, .any, .any, .any, .any, .any, .any, .any, .any, .any, .any, .any, .any, .any, .any, .any, .any, .any, .any, .any, .any, .any, .any, .any, .any, .any, .any, .any, .any, .any, .any, .any, .any, .any, .any, .any, .any, .any, .any, .any, .any, .any, .any, .any, .any, .any, .any, .any, .any, .any, .any, .any, .any, .any, .any, .any, .any, .any, .any, .any, .any, .any, .any, .any, .any, .any, .any, .any, .any, .any, .any, .any, .any, .any, .any, .any, .any, .any, .any, .any, .any, .any, .any, .any, .any, .any, .any, .any, .any, .any, .any, .any, .any, .any, .any, .any, .any, .any, .any, .any, .any, .any, .any, .any, .any, .any, .any, .any, .any, .any, .any, .any, .any, .any, .any, .any, .any, .any, .any, .any, .any, .any, .any, .any, .any, .any, .any, .any, .any, .any, .any, .any, .any, .any, .any, .any, .any, .any, .any, .any, .any, .any, .any, .any, .any, .any, .any, .any, .any, .any, .any, .any, .any, .any, .any, .any, .any, .any, .any, .any, .any, .any, .any, .any, .any, .any, .any, .any, .any, .any, .any, .any, .any, .any, .any, .any, .any, .any, .any, .any, .any, .any, .any, .any, .any, .any, .any, .any, .any, .any, .any, .any, .any, .any, .any, .any, .any, .any, .any, .any, .any, .any, .any, .any, .any, .any, .any, .any, .any, .any, .any, .any, .any, .any, .any, .any, .any, .any, .any, .any, .any, .any, .any, .any, .any, .any, .any, .any, .any, .any, .any, .any, .any, .any, .any, .any, .any, .any, .any, .any, .any, .any, .any, .any, .any, .any, .any], [bts z N o l.length (L l), [.row 8 fun i => .w32 (first i)], [.row c (bytesF (l.length + (p + k)) (L (full l)))]]⟩,
        fun (k, c) => k ≤ 8 ∧ l.length + (p + k) ≤ c, fun (k, _) => 8 - k, ⟨(0, c), [0, 1, 2], ⟨⟨rfl, rfl, rfl⟩, ?_⟩, by omega, by omega⟩, fun (k, c) ⟨hk, hc⟩ => ⟨fun h => ?_, fun h => ?_⟩⟩
      · (repeat first | exact trivial | refine ⟨rfl, ?_⟩ | refine ⟨fun _ _ => ⟨rfl, trivial⟩, ?_⟩ | refine ⟨fun _ _ => trivial, ?_⟩ | refine ⟨by omega, ?_⟩ | refine ⟨fun _ _ => eqC_winS, ?_⟩ | refine ⟨fun _ _ => eqC_winM, ?_⟩ | refine ⟨fun _ _ => eqC_winB, ?_⟩ | refine ⟨fun _ _ => eqC_selfB, ?_⟩ | refine ⟨fun _ _ => eqC_mpB, ?_⟩)
        refine eqC_bts ?_
        (repeat first | exact trivial | refine ⟨rfl, ?_⟩ | refine ⟨fun _ _ => ⟨rfl, trivial⟩, ?_⟩ | refine ⟨fun _ _ => trivial, ?_⟩ | refine ⟨by omega, ?_⟩ | refine ⟨fun _ _ => eqC_winS, ?_⟩ | refine ⟨fun _ _ => eqC_winM, ?_⟩ | refine ⟨fun _ _ => eqC_winB, ?_⟩ | refine ⟨fun _ _ => eqC_selfB, ?_⟩ | refine ⟨fun _ _ => eqC_mpB, ?_⟩)
        rw [show l.length + 1 + k = l.length + (p + 0) by omega]
        (repeat first | exact trivial | refine ⟨rfl, ?_⟩ | refine ⟨fun _ _ => ⟨rfl, trivial⟩, ?_⟩ | refine ⟨fun _ _ => trivial, ?_⟩ | refine ⟨by omega, ?_⟩ | refine ⟨fun _ _ => eqC_winS, ?_⟩ | refine ⟨fun _ _ => eqC_winM, ?_⟩ | refine ⟨fun _ _ => eqC_winB, ?_⟩ | refine ⟨fun _ _ => eqC_selfB, ?_⟩ | refine ⟨fun _ _ => eqC_mpB, ?_⟩)
      · have hlt : 56 - 8 * (k : Int) ≥ 0 := of_decide_eq_true h
        (repeat first | refine ⟨by omega, ?_⟩ | refine ⟨by decide, ?_⟩ | refine ⟨idx8 _, ?_⟩ | refine ⟨lt8 (Nat.le_refl _) _, ?_⟩)
        refine ⟨⟨by omega, by simp only [scale]; omega, by show _ * 1 ≤ _; omega⟩, fun c' hc' => ?_⟩
        refine ⟨⟨by omega, by omega⟩, (k + 1, c'), [0, 1, 4], ⟨⟨rfl, rfl, rfl⟩, ?_⟩, by omega, by dsimp only; omega⟩
        (repeat first | exact trivial | refine ⟨rfl, ?_⟩ | refine ⟨fun _ _ => ⟨rfl, trivial⟩, ?_⟩ | refine ⟨fun _ _ => trivial, ?_⟩ | refine ⟨by omega, ?_⟩ | refine ⟨fun _ _ => eqC_winS, ?_⟩ | refine ⟨fun _ _ => eqC_winM, ?_⟩ | refine ⟨fun _ _ => eqC_winB, ?_⟩ | refine ⟨fun _ _ => eqC_selfB, ?_⟩ | refine ⟨fun _ _ => eqC_mpB, ?_⟩)
        refine eqC_bts ?_
        (repeat first | exact trivial | refine ⟨rfl, ?_⟩ | refine ⟨fun _ _ => ⟨rfl, trivial⟩, ?_⟩ | refine ⟨fun _ _ => trivial, ?_⟩ | refine ⟨by omega, ?_⟩ | refine ⟨fun _ _ => eqC_winS, ?_⟩ | refine ⟨fun _ _ => eqC_winM, ?_⟩ | refine ⟨fun _ _ => eqC_winB, ?_⟩ | refine ⟨fun _ _ => eqC_selfB, ?_⟩ | refine ⟨fun _ _ => eqC_mpB, ?_⟩)
        refine ⟨fun j hj => eqC_bytes (app1 (fun _ h => bytesF_lt h) ?_) j, trivial⟩
        show SC.w8 (((BitVec.ofNat 64 l.length * 8#64) >>> (56 - 8 * (k : Int)).toNat).setWidth 8) = _
        rw [hLp, hp2 _ (by omega), show (56 - 8 * (k : Int)).toNat = 8 * (7 - k) by omega]
      · obtain rfl : k = 8 := by have : ¬ 56 - 8 * (k : Int) ≥ 0 := of_decide_eq_false h; omega
        have hlen : l.length + (p + 8) = 64 * Q := by rw [← hQ, hfull]
        rw [hlen]
        refine ⟨by kernel_rfl, call_same fn_rounds [] rfl trivial trivial (fun _ _ => trivial) ?_⟩
        rintro x hs ⟨rfl, rfl⟩
        refine .inl ⟨Nat, fun k => ⟨[.any, .any, .any, .a (.c (.sl 1 0 0 8 8)), .any, .a (.c (.sl 2 0 0 (64 * Q) c)), .any, .a (.c (.sl 3 0 0 64 64)), .a (.c (.int .i64 (((64 * k : Nat) : Int)))), .any, .any, .any, .any, .any, .any, .any, .any, .any, .any, .any, .any, .any, .any, .any, .any, .any, .any, .any, .any, .any, .any, .any, .any, .any, .any, .any, .any, .any, .any, .any, .any, .any, .any, .any, .any, .any, .any, .any, .any, .any, .any, .any, .any, .any, .any, .any, .any, .any, .any, .any, .any, .any, .any, .any, .any, .any, .any, .any, .any, .any, .any, .any, .any, .any, .any, .any, .any, .any, .any, .any, .any, .any, .any, .any, .any, .any, .any, .any, .any, .any, .any, .any, .any, .any, .any, .any, .any, .any, .any, .any, .any, .any, .any, .any, .any, .any, .any, .any, .any, .any, .any, .any, .any, .any, .any, .any, .any, .any, .any, .any, .any, .any, .any, .any, .any, .any, .any, .any, .any, .any, .any, .any, .any, .any, .any, .any, .any, .any, .any, .any, .any, .any, .any, .any, .any, .any, .any, .any, .any, .any, .any, .any, .any, .any, .any, .any, .any, .any, .any, .any, .any, .any, .any, .any, .any, .any, .any, .any, .any, .any, .any, .any, .any, .any, .any, .any, .any, .any, .any, .any, .any, .any, .any, .any, .any, .any, .any, .any, .any, .any, .any, .any, .any, .any, .any, .any, .any, .any, .any, .any, .any, .any, .any, .any, .any, .any, .any, .any, .any, .any, .any, .any, .any, .any, .any, .any, .any, .any, .any, .any, .any, .any, .any, .any, .any, .any, .any, .any, .any, .any, .any, .any, .any, .any, .any, .any, .any, .any, .any, .any, .any, .any, .any, .any, .any, .any, .any, .any, .any, .any, .any, .any, .any, .any, .any, .any, .any, .any, .any, .any, .any, .any, .any, .any, .any, .any, .any, .any, .any, .any, .any, .any, .any, .any, .any, .any, .any, .any, .any, .any, .any, .any, .any, .any, .any, .any, .any, .any, .any, .any, .any, .any, .any, .any, .any, .any, .any, .any, .any, .any, .any, .any, .any, .any, .any, .any, .any, .any, .any, .any, .any, .any, .any], [bts z N o l.length (L l), [.row 8 fun i => .w32 ((wordsAt (full l) k).V i)], [.row c (bytesF (64 * Q) (L (full l)))], [.row 64 fun i => .w32 (steps i)]]⟩,
          fun k => k ≤ Q, fun k => Q - k, ⟨0, [0, 1, 2, 3], ⟨⟨rfl, rfl, rfl⟩, ?_⟩, by omega⟩, fun k hk => ⟨fun h => ?_, fun h => ?_⟩⟩
        · (repeat first | exact trivial | refine ⟨rfl, ?_⟩ | refine ⟨fun _ _ => ⟨rfl, trivial⟩, ?_⟩ | refine ⟨fun _ _ => trivial, ?_⟩ | refine ⟨by omega, ?_⟩ | refine ⟨fun _ _ => eqC_winS, ?_⟩ | refine ⟨fun _ _ => eqC_winM, ?_⟩ | refine ⟨fun _ _ => eqC_winB, ?_⟩ | refine ⟨fun _ _ => eqC_selfB, ?_⟩ | refine ⟨fun _ _ => eqC_mpB, ?_⟩)
          refine eqC_bts ?_
          (repeat first | exact trivial | refine ⟨rfl, ?_⟩ | refine ⟨fun _ _ => ⟨rfl, trivial⟩, ?_⟩ | refine ⟨fun _ _ => trivial, ?_⟩ | refine ⟨by omega, ?_⟩ | refine ⟨fun _ _ => eqC_winS, ?_⟩ | refine ⟨fun _ _ => eqC_winM, ?_⟩ | refine ⟨fun _ _ => eqC_winB, ?_⟩ | refine ⟨fun _ _ => eqC_selfB, ?_⟩ | refine ⟨fun _ _ => eqC_mpB, ?_⟩)
        · have hlt : k < Q := by have : ((64 * k : Nat) : Int) < ((64 * Q : Nat) : Int) := of_decide_eq_true h; omega
          obtain ⟨V, hV⟩ : ∃ V, (wordsAt (full l) k).V = V := ⟨_, rfl⟩
          obtain ⟨P, hP⟩ : ∃ P, (fun i => L (full l) (64 * k + i)) = P := ⟨_, rfl⟩
          have hP' : ∀ i, L (full l) (64 * k + i) = P i := fun i => by rw [← hP]
          have hnext : (wordsAt (full l) (k + 1)).V = compress V P := by rw [wordsAt_succ _ _ (by omega), hV, hP]
          rw [hV]
          (repeat first | refine ⟨by omega, ?_⟩ | refine ⟨by decide, ?_⟩ | refine ⟨idx8 _, ?_⟩ | refine ⟨lt8 (Nat.le_refl _) _, ?_⟩ | refine ⟨rfl, ?_⟩)
          refine .inl ⟨Nat, fun m => ⟨[.any, .any, .any, .a (.c (.sl 1 0 0 8 8)), .any, .a (.c (.sl 2 0 0 (64 * Q) c)), .any, .a (.c (.sl 3 0 0 64 64)), .a (.c (.int .i64 (((64 * k : Nat) : Int)))), .a (.c (.sl 4 0 0 64 64)), .a (.c (.int .i64 (↑m))), .any, .any, .any, .any, .any, .any, .any, .any, .any, .any, .any, .any, .any, .any, .any, .any, .any, .any, .any, .any, .any, .any, .any, .any, .any, .any, .any, .any, .any, .any, .any, .any, .any, .any, .any, .any, .any, .any, .any, .any, .any, .any, .any, .any, .any, .any, .any, .any, .any, .any, .any, .any, .any, .any, .any, .any, .any, .any, .any, .any, .any, .any, .any, .any, .any, .any, .any, .any, .any, .any, .any, .any, .any, .any, .any, .any, .any, .any, .any, .any, .any, .any, .any, .any, .any, .any, .any, .any, .any, .any, .any, .any, .any, .any, .any, .any, .any, .any, .any, .any, .any, .any, .any, .any, .any, .any, .any, .any, .any, .any, .any, .any, .any, .any, .any, .any, .any, .any, .any, .any, .any, .any, .any, .any, .any, .any, .any, .any, .any, .any, .any, .any, .any, .any, .any, .any, .any, .any, .any, .any, .any, .any, .any, .any, .any, .any, .any, .any, .any, .any, .any, .any, .any, .any, .any, .any, .any, .any, .any, .any, .any, .any, .any, .any, .any, .any, .any, .any, .any, .any, .any, .any, .any, .any, .any, .any, .any, .any, .any, .any, .any, .any, .any, .any, .any, .any, .any, .any, .any, .any, .any, .any, .any, .any, .any, .any, .any, .any, .any, .any, .any, .any, .any, .any, .any, .any, .any, .any, .any, .any, .any, .any, .any, .any, .any, .any, .any, .any, .any, .any, .any, .any, .any, .any, .any, .any, .any, .any, .any, .any, .any, .any, .any, .any, .any, .any, .any, .any, .any, .any, .any, .any, .any, .any, .any, .any, .any, .any, .any, .any, .any, .any, .any, .any, .any, .any, .any, .any, .any, .any, .any, .any, .any, .any, .any, .any, .any, .any, .any, .any, .any, .any, .any, .any, .any, .any, .any, .any, .any, .any, .any, .any, .any, .any, .any, .any, .any, .any, .any, .any, .any, .any, .any, .any, .any, .any, .any, .any, .any, .any, .any, .any], [bts z N o l.length (L l), [.row 8 fun i => .w32 (V i)], [.row c (bytesF (64 * Q) (L (full l)))], [.row 64 fun i => .w32 (steps i)], [.row 64 fun j => .w32 (wArr P m j)]]⟩,
            fun m => m ≤ 64, fun m => 64 - m, ⟨0, [0, 1, 2, 3, 4], ⟨⟨rfl, rfl, rfl⟩, ?_⟩, by omega⟩, fun m hm => ⟨fun h => ?_, fun h => ?_⟩⟩
          · (repeat first | exact trivial | refine ⟨rfl, ?_⟩ | refine ⟨fun _ _ => ⟨rfl, trivial⟩, ?_⟩ | refine ⟨fun _ _ => trivial, ?_⟩ | refine ⟨by omega, ?_⟩ | refine ⟨fun _ _ => eqC_winS, ?_⟩ | refine ⟨fun _ _ => eqC_winM, ?_⟩ | refine ⟨fun _ _ => eqC_winB, ?_⟩ | refine ⟨fun _ _ => eqC_selfB, ?_⟩ | refine ⟨fun _ _ => eqC_mpB, ?_⟩)
            refine eqC_bts ?_
            (repeat first | exact trivial | refine ⟨rfl, ?_⟩ | refine ⟨fun _ _ => ⟨rfl, trivial⟩, ?_⟩ | refine ⟨fun _ _ => trivial, ?_⟩ | refine ⟨by omega, ?_⟩ | refine ⟨fun _ _ => eqC_winS, ?_⟩ | refine ⟨fun _ _ => eqC_winM, ?_⟩ | refine ⟨fun _ _ => eqC_winB, ?_⟩ | refine ⟨fun _ _ => eqC_selfB, ?_⟩ | refine ⟨fun _ _ => eqC_mpB, ?_⟩)
          · have hlt : (m : Int) < 64 := of_decide_eq_true h
            refine ⟨fun h => ?_, fun h => ?_⟩
            · have hlt16 : (m : Int) < 16 := of_decide_eq_true h
              refine .inl ⟨Nat, fun r => ⟨[.any, .any, .any, .a (.c (.sl 1 0 0 8 8)), .any, .a (.c (.sl 2 0 0 (64 * Q) c)), .any, .a (.c (.sl 3 0 0 64 64)), .a (.c (.int .i64 (((64 * k : Nat) : Int)))), .a (.c (.sl 4 0 0 64 64)), .a (.c (.int .i64 (↑m))), .a (.c (.int .i64 (↑r))), .any, .any, .any, .any, .any, .any, .any, .any, .any, .any, .any, .any, .any, .any, .any, .any, .any, .any, .any, .any, .any, .any, .any, .any, .any, .any, .any, .any, .any, .any, .any, .any, .any, .any, .any, .any, .any, .any, .any, .any, .any, .any, .any, .any, .any, .any, .any, .any, .any, .any, .any, .any, .any, .any, .any, .any, .any, .any, .any, .any, .any, .any, .any, .any, .any, .any, .any, .any, .any, .any, .any, .any, .any, .any, .any, .any, .any, .any, .any, .any, .any, .any, .any, .any, .any, .any, .any, .any, .any, .any, .any, .any, .any, .any, .any, .any, .any, .any, .any, .any, .any, .any, .any, .any, .any, .any, .any, .any, .any, .any, .any, .any, .any, .any, .any, .any, .any, .any, .any, .any, .any, .any, .any, .any, .any, .any, .any, .any, .any, .any, .any, .any, .any, .any, .any, .any, .any, .any, .any, .any, .any, .any, .any, .any, .any, .any, .any, .any, .any, .any, .any, .any, .any, .any, .any, .any, .any, .any, .any, .any, .any, .any, .any, .any, .any, .any, .any, .any, .any, .any, .any, .any, .any, .any, .any, .any, .any, .any, .any, .any, .any, .any, .any, .any, .any, .any, .any, .any, .any, .any, .any, .any, .any, .any, .any, .any, .any, .any, .any, .any, .any, .any, .any, .any, .any, .any, .any, .any, .any, .any, .any, .any, .any, .any, .any, .any, .any, .any, .any, .any, .any, .any, .any, .any, .any, .any, .any, .any, .any, .any, .any, .any, .any, .any, .any, .any, .any, .any, .any, .any, .any, .any, .any, .any, .any, .any, .any, .any, .any, .any, .any, .any, .any, .any, .any, .any, .any, .any, .any, .any, .any, .any, .any, .any, .any, .any, .any, .any, .any, .any, .any, .any, .any, .any, .any, .any, .any, .any, .any, .any, .any, .any, .any, .any, .any, .any, .any, .any, .any, .any, .any, .any, .any, .any, .any, .any, .any, .any, .any, .any, .any], [bts z N o l.length (L l), [.row 8 fun i => .w32 (V i)], [.row c (bytesF (64 * Q) (L (full l)))], [.row 64 fun i => .w32 (steps i)], [.row 64 fun j => .w32 (if j < m then w0 P j else if j = m then acc P m r else 0#32)]]⟩,
                fun r => r ≤ 4, fun r => 4 - r, ⟨0, [0, 1, 2, 3, 4], ⟨⟨rfl, rfl, rfl⟩, ?_⟩, by omega⟩, fun r hr => ⟨fun h => ?_, fun h => ?_⟩⟩
              · (repeat first | exact trivial | refine ⟨rfl, ?_⟩ | refine ⟨fun _ _ => ⟨rfl, trivial⟩, ?_⟩ | refine ⟨fun _ _ => trivial, ?_⟩ | refine ⟨by omega, ?_⟩ | refine ⟨fun _ _ => eqC_winS, ?_⟩ | refine ⟨fun _ _ => eqC_winM, ?_⟩ | refine ⟨fun _ _ => eqC_winB, ?_⟩ | refine ⟨fun _ _ => eqC_selfB, ?_⟩ | refine ⟨fun _ _ => eqC_mpB, ?_⟩)
                refine eqC_bts ?_
                (repeat first | exact trivial | refine ⟨rfl, ?_⟩ | refine ⟨fun _ _ => ⟨rfl, trivial⟩, ?_⟩ | refine ⟨fun _ _ => trivial, ?_⟩ | refine ⟨by omega, ?_⟩ | refine ⟨fun _ _ => eqC_winS, ?_⟩ | refine ⟨fun _ _ => eqC_winM, ?_⟩ | refine ⟨fun _ _ => eqC_winB, ?_⟩ | refine ⟨fun _ _ => eqC_selfB, ?_⟩ | refine ⟨fun _ _ => eqC_mpB, ?_⟩)
                refine ⟨fun j hj => eqC_w32 (congrArg SC.w32 ?_), trivial⟩
                unfold wArr
                rw [if_pos (by omega)]
                by_cases h1 : j < m
                · rw [if_pos h1, if_pos h1]
                · rw [if_neg h1, if_neg h1]
                  by_cases h2 : j = m
                  · rw [if_pos h2]; rfl
                  · rw [if_neg h2]
              · have hlt4 : (r : Int) < 4 := of_decide_eq_true h
                refine ⟨none, [], [(0, true), (1, true), (2, true), (3, true), (4, true), (5, true), (6, true), (7, true), (8, true), (9, true), (10, true), (11, true), (12, true), (13, true), (14, true), (15, true), (16, true), (17, true), (18, true)], [19], by kernel_rfl, ?_⟩
                (repeat first | refine And.intro (by omega) ?_ | refine And.intro (by decide) ?_ | (with_reducible refine frc_parts (by first | omega | decide) ?_) | (with_reducible refine frc_bytesL (by first | omega | decide) ?_) | refine And.intro rfl ?_)
                refine ⟨r + 1, [0, 1, 2, 3, 4], ⟨⟨rfl, rfl, rfl⟩, ?_⟩, by first | omega | (dsimp only; omega), by first | omega | (dsimp only; omega)⟩
                (repeat first | exact trivial | refine ⟨rfl, ?_⟩ | refine ⟨fun _ _ => ⟨rfl, trivial⟩, ?_⟩ | refine ⟨fun _ _ => trivial, ?_⟩ | refine ⟨by omega, ?_⟩ | refine ⟨fun _ _ => eqC_winS, ?_⟩ | refine ⟨fun _ _ => eqC_winM, ?_⟩ | refine ⟨fun _ _ => eqC_winB, ?_⟩ | refine ⟨fun _ _ => eqC_selfB, ?_⟩ | refine ⟨fun _ _ => eqC_mpB, ?_⟩)
                refine eqC_bts ?_
                (repeat first | exact trivial | refine ⟨rfl, ?_⟩ | refine ⟨fun _ _ => ⟨rfl, trivial⟩, ?_⟩ | refine ⟨fun _ _ => trivial, ?_⟩ | refine ⟨by omega, ?_⟩ | refine ⟨fun _ _ => eqC_winS, ?_⟩ | refine ⟨fun _ _ => eqC_winM, ?_⟩ | refine ⟨fun _ _ => eqC_winB, ?_⟩ | refine ⟨fun _ _ => eqC_selfB, ?_⟩ | refine ⟨fun _ _ => eqC_mpB, ?_⟩)
                have e0 : (m : Int).toNat + 0 = m := by omega
                have e5 : (((64 * k : Nat) : Int) + 4 * (m : Int) + (r : Int)).toNat + 0 = 64 * k + (4 * m + r) := by omega
                refine ⟨fun j hj => eqC_w32 ?_, trivial⟩
                rw [e0, e5, hP']
                unfold upd
                by_cases h2 : j = m
                · subst h2
                  rw [if_pos rfl]
                  exact congrArg SC.w32 (by rw [if_neg (Nat.lt_irrefl j), if_pos rfl, if_neg (Nat.lt_irrefl j), if_pos rfl]; rfl)
                · rw [if_neg h2]
                  exact congrArg SC.w32 (by simp only [if_neg h2])
              · obtain rfl : r = 4 := by have : ¬ (r : Int) < 4 := of_decide_eq_false h; have hr : r ≤ 4 := hr; omega
                refine ⟨⟨by omega, by omega⟩, m + 1, [0, 1, 2, 3, 4], ⟨⟨rfl, rfl, rfl⟩, ?_⟩, by first | omega | (dsimp only; omega), by first | omega | (dsimp only; omega)⟩
                (repeat first | exact trivial | refine ⟨rfl, ?_⟩ | refine ⟨fun _ _ => ⟨rfl, trivial⟩, ?_⟩ | refine ⟨fun _ _ => trivial, ?_⟩ | refine ⟨by omega, ?_⟩ | refine ⟨fun _ _ => eqC_winS, ?_⟩ | refine ⟨fun _ _ => eqC_winM, ?_⟩ | refine ⟨fun _ _ => eqC_winB, ?_⟩ | refine ⟨fun _ _ => eqC_selfB, ?_⟩ | refine ⟨fun _ _ => eqC_mpB, ?_⟩)
                refine eqC_bts ?_
                (repeat first | exact trivial | refine ⟨rfl, ?_⟩ | refine ⟨fun _ _ => ⟨rfl, trivial⟩, ?_⟩ | refine ⟨fun _ _ => trivial, ?_⟩ | refine ⟨by omega, ?_⟩ | refine ⟨fun _ _ => eqC_winS, ?_⟩ | refine ⟨fun _ _ => eqC_winM, ?_⟩ | refine ⟨fun _ _ => eqC_winB, ?_⟩ | refine ⟨fun _ _ => eqC_selfB, ?_⟩ | refine ⟨fun _ _ => eqC_mpB, ?_⟩)
                refine ⟨fun j hj => eqC_w32 (congrArg SC.w32 ?_), trivial⟩
                unfold wArr
                rw [acc_4, if_pos (show m + 1 ≤ 16 by omega)]
                by_cases h1 : j < m
                · rw [if_pos h1, if_pos (by omega)]
                · rw [if_neg h1]
                  by_cases h2 : j = m
                  · rw [if_pos h2, if_pos (by omega), h2]
                  · rw [if_neg h2, if_neg (by omega)]
            · have hge16 : ¬ (m : Int) < 16 := of_decide_eq_false h
              obtain ⟨n, rfl⟩ : ∃ n, m = 16 + n := ⟨m - 16, by omega⟩
              have hW : ∀ j, wArr P (16 + n) j = wS P n j := fun j => by
                by_cases h0 : n = 0
                · subst h0; exact wArr_16 P j
                · unfold wArr; rw [if_neg (by omega), Nat.add_sub_cancel_left]
              simp only [hW]
              refine ⟨none, [], [(0, true), (1, true), (2, true), (3, true), (4, true), (6, true), (7, true), (8, true), (9, true), (10, true), (13, true), (14, true), (15, true), (16, true), (17, true), (18, true), (5, false), (11, false), (12, true), (19, true), (20, true)], [], by kernel_rfl, ?_⟩
              (repeat first | refine And.intro (by omega) ?_ | refine And.intro (by decide) ?_ | (with_reducible refine frc_parts (by first | omega | decide) ?_) | (with_reducible refine frc_bytesL (by first | omega | decide) ?_) | refine And.intro rfl ?_)
              refine call_same (fn_right _ 7 (by omega) (by omega)) [] rfl ⟨rfl, rfl, trivial⟩ trivial (fun _ _ => trivial) ?_
              rintro v hs ⟨rfl, rfl⟩
              (repeat first | refine And.intro (by omega) ?_ | refine And.intro (by decide) ?_ | (with_reducible refine frc_parts (by first | omega | decide) ?_) | (with_reducible refine frc_bytesL (by first | omega | decide) ?_) | refine And.intro rfl ?_)
              refine call_same (fn_right _ 18 (by omega) (by omega)) [] rfl ⟨rfl, rfl, trivial⟩ trivial (fun _ _ => trivial) ?_
              rintro v hs ⟨rfl, rfl⟩
              (repeat first | refine And.intro (by omega) ?_ | refine And.intro (by decide) ?_ | (with_reducible refine frc_parts (by first | omega | decide) ?_) | (with_reducible refine frc_bytesL (by first | omega | decide) ?_) | refine And.intro rfl ?_)
              refine ⟨none, [], [(0, true), (1, true), (2, true), (3, true), (4, true), (6, true), (7, true), (8, true), (9, true), (10, true), (13, true), (14, true), (15, true), (16, true), (17, true), (18, true), (5, false), (11, false), (12, true), (19, true), (20, true)], [], by kernel_rfl, ?_⟩
              (repeat first | refine And.intro (by omega) ?_ | refine And.intro (by decide) ?_ | (with_reducible refine frc_parts (by first | omega | decide) ?_) | (with_reducible refine frc_bytesL (by first | omega | decide) ?_) | refine And.intro rfl ?_)
              refine call_same (fn_right _ 17 (by omega) (by omega)) [] rfl ⟨rfl, rfl, trivial⟩ trivial (fun _ _ => trivial) ?_
              rintro v hs ⟨rfl, rfl⟩
              (repeat first | refine And.intro (by omega) ?_ | refine And.intro (by decide) ?_ | (with_reducible refine frc_parts (by first | omega | decide) ?_) | (with_reducible refine frc_bytesL (by first | omega | decide) ?_) | refine And.intro rfl ?_)
              refine call_same (fn_right _ 19 (by omega) (by omega)) [] rfl ⟨rfl, rfl, trivial⟩ trivial (fun _ _ => trivial) ?_
              rintro v hs ⟨rfl, rfl⟩
              (repeat first | refine And.intro (by omega) ?_ | refine And.intro (by decide) ?_ | (with_reducible refine frc_parts (by first | omega | decide) ?_) | (with_reducible refine frc_bytesL (by first | omega | decide) ?_) | refine And.intro rfl ?_)
              refine ⟨none, [], [(0, true), (1, true), (2, true), (3, true), (4, true), (5, true), (6, true), (7, true), (8, true), (9, true), (10, true), (11, true), (12, true), (13, true), (14, true), (15, true), (16, true), (17, true)], [18], by kernel_rfl, ?_⟩
              (repeat first | refine And.intro (by omega) ?_ | refine And.intro (by decide) ?_ | (with_reducible refine frc_parts (by first | omega | decide) ?_) | (with_reducible refine frc_bytesL (by first | omega | decide) ?_) | refine And.intro rfl ?_)
              refine ⟨16 + (n + 1), [0, 1, 2, 3, 4], ⟨⟨rfl, rfl, rfl⟩, ?_⟩, by first | omega | (dsimp only; omega), by first | omega | (dsimp only; omega)⟩
              (repeat first | exact trivial | refine ⟨rfl, ?_⟩ | refine ⟨fun _ _ => ⟨rfl, trivial⟩, ?_⟩ | refine ⟨fun _ _ => trivial, ?_⟩ | refine ⟨by omega, ?_⟩ | refine ⟨fun _ _ => eqC_winS, ?_⟩ | refine ⟨fun _ _ => eqC_winM, ?_⟩ | refine ⟨fun _ _ => eqC_winB, ?_⟩ | refine ⟨fun _ _ => eqC_selfB, ?_⟩ | refine ⟨fun _ _ => eqC_mpB, ?_⟩)
              refine eqC_bts ?_
              (repeat first | exact trivial | refine ⟨rfl, ?_⟩ | refine ⟨fun _ _ => ⟨rfl, trivial⟩, ?_⟩ | refine ⟨fun _ _ => trivial, ?_⟩ | refine ⟨by omega, ?_⟩ | refine ⟨fun _ _ => eqC_winS, ?_⟩ | refine ⟨fun _ _ => eqC_winM, ?_⟩ | refine ⟨fun _ _ => eqC_winB, ?_⟩ | refine ⟨fun _ _ => eqC_selfB, ?_⟩ | refine ⟨fun _ _ => eqC_mpB, ?_⟩)
              have hW' : ∀ j, wArr P (16 + (n + 1)) j = wS P (n + 1) j := fun j => by unfold wArr; rw [if_neg (by omega), Nat.add_sub_cancel_left]
              have j0 : ((16 + n : Nat) : Int).toNat + 0 = 16 + n := by omega
              have j1 : (((16 + n : Nat) : Int) - 16).toNat + 0 = n := by omega
              have j2 : (((16 + n : Nat) : Int) - 15).toNat + 0 = n + 1 := by omega
              have j3 : (((16 + n : Nat) : Int) - 7).toNat + 0 = n + 9 := by omega
              have j4 : (((16 + n : Nat) : Int) - 2).toNat + 0 = n + 14 := by omega
              refine ⟨fun j hj => ?_, trivial⟩
              rw [j0, j1, j2, j3, j4]
              show eqC _ _ (.w32 (wArr P (16 + (n + 1)) j)) True
              rw [hW']
              refine eqC_w32 ((upd_w32 (g := fun i => .w32 (wS P (n + 1) i)) ?_ ?_ j).trans rfl)
              · simp only [wS]
                rfl
              · intro i hi
                simp only [wS, if_neg hi]
          · obtain rfl : m = 64 := by have : ¬ (m : Int) < 64 := of_decide_eq_false h; have hm : m ≤ 64 := hm; omega
            obtain ⟨W, hW⟩ : ∃ W, wS P 48 = W := ⟨_, rfl⟩
            have hWA : ∀ j, wArr P 64 j = W j := fun j => by unfold wArr; rw [if_neg (by omega), ← hW]
            simp only [hWA]
            refine ⟨by decide, ⟨by decide, by decide, by decide⟩, fun c8 hc8 => ?_⟩
            refine .inl ⟨Nat, fun m => ⟨[.any, .any, .any, .a (.c (.sl 1 0 0 8 8)), .any, .a (.c (.sl 2 0 0 (64 * Q) c)), .any, .a (.c (.sl 3 0 0 64 64)), .a (.c (.int .i64 (((64 * k : Nat) : Int)))), .a (.c (.sl 4 0 0 64 64)), .any, .any, .any, .any, .a (.c (.sl 5 0 0 8 c8)), .a (.c (.int .i64 (↑m))), .any, .any, .any, .any, .any, .any, .any, .any, .any, .any, .any, .any, .any, .any, .any, .any, .any, .any, .any, .any, .any, .any, .any, .any, .any, .any, .any, .any, .any, .any, .any, .any, .any, .any, .any, .any, .any, .any, .any, .any, .any, .any, .any, .any, .any, .any, .any, .any, .any, .any, .any, .any, .any, .any, .any, .any, .any, .any, .any, .any, .any, .any, .any, .any, .any, .any, .any, .any, .any, .any, .any, .any, .any, .any, .any, .any, .any, .any, .any, .any, .any, .any, .any, .any, .any, .any, .any, .any, .any, .any, .any, .any, .any, .any, .any, .any, .any, .any, .any, .any, .any, .any, .any, .any, .any, .any, .any, .any, .any, .any, .any, .any, .any, .any, .any, .any, .any, .any, .any, .any, .any, .any, .any, .any, .any, .any, .any, .any, .any, .any, .any, .any, .any, .any, .any, .any, .any, .any, .any, .any, .any, .any, .any, .any, .any, .any, .any, .any, .any, .any, .any, .any, .any, .any, .any, .any, .any, .any, .any, .any, .any, .any, .any, .any, .any, .any, .any, .any, .any, .any, .any, .any, .any, .any, .any, .any, .any, .any, .any, .any, .any, .any, .any, .any, .any, .any, .any, .any, .any, .any, .any, .any, .any, .any, .any, .any, .any, .any, .any, .any, .any, .any, .any, .any, .any, .any, .any, .any, .any, .any, .any, .any, .any, .any, .any, .any, .any, .any, .any, .any, .any, .any, .any, .any, .any, .any, .any, .any, .any, .any, .any, .any, .any, .any, .any, .any, .any, .any, .any, .any, .any, .any, .any, .any, .any, .any, .any, .any, .any, .any, .any, .any, .any, .any, .any, .any, .any, .any, .any, .any, .any, .any, .any, .any, .any, .any, .any, .any, .any, .any, .any, .any, .any, .any, .any, .any, .any, .any, .any, .any, .any, .any, .any, .any, .any, .any, .any, .any, .any, .any, .any, .any, .any, .any, .any, .any, .any], [bts z N o l.length (L l), [.row 8 fun i => .w32 (V i)], [.row c (bytesF (64 * Q) (L (full l)))], [.row 64 fun i => .w32 (steps i)], [.row 64 fun i => .w32 (W i)], [.row c8 (partsF 8 fun i => .w32 (vR W V m i))]]⟩,
              fun m => m ≤ 64, fun m => 64 - m, ⟨0, [0, 1, 2, 3, 4, 6], ⟨⟨rfl, rfl, rfl⟩, ?_⟩, by omega⟩, fun m hm => ⟨fun h => ?_, fun h => ?_⟩⟩
            · (repeat first | exact trivial | refine ⟨rfl, ?_⟩ | refine ⟨fun _ _ => ⟨rfl, trivial⟩, ?_⟩ | refine ⟨fun _ _ => trivial, ?_⟩ | refine ⟨by omega, ?_⟩ | refine ⟨fun _ _ => eqC_winS, ?_⟩ | refine ⟨fun _ _ => eqC_winM, ?_⟩ | refine ⟨fun _ _ => eqC_winB, ?_⟩ | refine ⟨fun _ _ => eqC_selfB, ?_⟩ | refine ⟨fun _ _ => eqC_mpB, ?_⟩)
              refine eqC_bts ?_
              (repeat first | exact trivial | refine ⟨rfl, ?_⟩ | refine ⟨fun _ _ => ⟨rfl, trivial⟩, ?_⟩ | refine ⟨fun _ _ => trivial, ?_⟩ | refine ⟨by omega, ?_⟩ | refine ⟨fun _ _ => eqC_winS, ?_⟩ | refine ⟨fun _ _ => eqC_winM, ?_⟩ | refine ⟨fun _ _ => eqC_winB, ?_⟩ | refine ⟨fun _ _ => eqC_selfB, ?_⟩ | refine ⟨fun _ _ => eqC_mpB, ?_⟩)
              refine ⟨fun j hj => eqC_parts (fun i hi => ?_) j, trivial⟩
              unfold appF
              rw [if_neg (by simp [scale]), if_pos (by simpa [scale] using hi)]
              exact ⟨rfl, trivial⟩
            · have hlt : (m : Int) < 64 := of_decide_eq_true h
              obtain ⟨v, hv⟩ : ∃ v, vR W V m = v := ⟨_, rfl⟩
              rw [hv]
              refine ⟨none, [], [(0, true), (1, true), (2, true), (4, true), (5, true), (6, true), (9, true), (10, true), (11, true), (3, false), (7, false), (8, true), (12, false), (13, true), (14, true)], [], by kernel_rfl, ?_⟩
              (repeat first | refine And.intro (by omega) ?_ | refine And.intro (by decide) ?_ | (with_reducible refine frc_parts (by first | omega | decide) ?_) | (with_reducible refine frc_bytesL (by first | omega | decide) ?_) | refine And.intro rfl ?_)
              refine call_same (fn_right _ 6 (by omega) (by omega)) [] rfl ⟨rfl, rfl, trivial⟩ trivial (fun _ _ => trivial) ?_
              rintro x hs ⟨rfl, rfl⟩
              (repeat first | refine And.intro (by omega) ?_ | refine And.intro (by decide) ?_ | (with_reducible refine frc_parts (by first | omega | decide) ?_) | (with_reducible refine frc_bytesL (by first | omega | decide) ?_) | refine And.intro rfl ?_)
              refine call_same (fn_right _ 11 (by omega) (by omega)) [] rfl ⟨rfl, rfl, trivial⟩ trivial (fun _ _ => trivial) ?_
              rintro x hs ⟨rfl, rfl⟩
              (repeat first | refine And.intro (by omega) ?_ | refine And.intro (by decide) ?_ | (with_reducible refine frc_parts (by first | omega | decide) ?_) | (with_reducible refine frc_bytesL (by first | omega | decide) ?_) | refine And.intro rfl ?_)
              refine call_same (fn_right _ 25 (by omega) (by omega)) [] rfl ⟨rfl, rfl, trivial⟩ trivial (fun _ _ => trivial) ?_
              rintro x hs ⟨rfl, rfl⟩
              (repeat first | refine And.intro (by omega) ?_ | refine And.intro (by decide) ?_ | (with_reducible refine frc_parts (by first | omega | decide) ?_) | (with_reducible refine frc_bytesL (by first | omega | decide) ?_) | refine And.intro rfl ?_)
              refine ⟨none, [], [(0, true), (1, true), (2, true), (3, true), (4, true), (5, true), (6, true), (7, true), (8, true), (9, true), (10, true), (11, true), (12, true), (13, true), (14, true), (15, true), (16, true)], [], by kernel_rfl, ?_⟩
              (repeat first | refine And.intro (by omega) ?_ | refine And.intro (by decide) ?_ | (with_reducible refine frc_parts (by first | omega | decide) ?_) | (with_reducible refine frc_bytesL (by first | omega | decide) ?_) | refine And.intro rfl ?_)
              refine ⟨none, [], [(0, true), (1, true), (2, true), (3, true), (4, true), (5, true), (6, true), (7, true), (8, true), (9, true), (10, true), (11, true), (12, true), (13, true), (14, true), (15, true), (16, true), (17, true)], [], by kernel_rfl, ?_⟩
              (repeat first | refine And.intro (by omega) ?_ | refine And.intro (by decide) ?_ | (with_reducible refine frc_parts (by first | omega | decide) ?_) | (with_reducible refine frc_bytesL (by first | omega | decide) ?_) | refine And.intro rfl ?_)
              refine ⟨none, [], [(0, true), (1, true), (2, true), (4, true), (5, true), (6, true), (9, true), (10, true), (11, true), (3, false), (7, false), (8, true), (12, false), (13, true), (14, true)], [], by kernel_rfl, ?_⟩
              (repeat first | refine And.intro (by omega) ?_ | refine And.intro (by decide) ?_ | (with_reducible refine frc_parts (by first | omega | decide) ?_) | (with_reducible refine frc_bytesL (by first | omega | decide) ?_) | refine And.intro rfl ?_)
              refine call_same (fn_right _ 2 (by omega) (by omega)) [] rfl ⟨rfl, rfl, trivial⟩ trivial (fun _ _ => trivial) ?_
              rintro x hs ⟨rfl, rfl⟩
              (repeat first | refine And.intro (by omega) ?_ | refine And.intro (by decide) ?_ | (with_reducible refine frc_parts (by first | omega | decide) ?_) | (with_reducible refine frc_bytesL (by first | omega | decide) ?_) | refine And.intro rfl ?_)
              refine call_same (fn_right _ 13 (by omega) (by omega)) [] rfl ⟨rfl, rfl, trivial⟩ trivial (fun _ _ => trivial) ?_
              rintro x hs ⟨rfl, rfl⟩
              (repeat first | refine And.intro (by omega) ?_ | refine And.intro (by decide) ?_ | (with_reducible refine frc_parts (by first | omega | decide) ?_) | (with_reducible refine frc_bytesL (by first | omega | decide) ?_) | refine And.intro rfl ?_)
              refine call_same (fn_right _ 22 (by omega) (by omega)) [] rfl ⟨rfl, rfl, trivial⟩ trivial (fun _ _ => trivial) ?_
              rintro x hs ⟨rfl, rfl⟩
              (repeat first | refine And.intro (by omega) ?_ | refine And.intro (by decide) ?_ | (with_reducible refine frc_parts (by first | omega | decide) ?_) | (with_reducible refine frc_bytesL (by first | omega | decide) ?_) | refine And.intro rfl ?_)
              refine ⟨none, [], [(0, true), (1, true), (2, true), (3, true), (4, true), (5, true), (6, true), (7, true), (8, true), (9, true), (10, true), (11, true), (12, true), (13, true), (14, true), (15, true), (16, true), (17, true), (18, true), (19, true), (20, true), (21, true), (22, true), (23, true)], [], by kernel_rfl, ?_⟩
              (repeat first | refine And.intro (by omega) ?_ | refine And.intro (by decide) ?_ | (with_reducible refine frc_parts (by first | omega | decide) ?_) | (with_reducible refine frc_bytesL (by first | omega | decide) ?_) | refine And.intro rfl ?_)
              refine .inl ⟨Nat, fun s => ⟨[.any, .any, .any, .a (.c (.sl 1 0 0 8 8)), .any, .a (.c (.sl 2 0 0 (64 * Q) c)), .any, .a (.c (.sl 3 0 0 64 64)), .a (.c (.int .i64 (((64 * k : Nat) : Int)))), .a (.c (.sl 4 0 0 64 64)), .any, .any, .any, .any, .a (.c (.sl 5 0 0 8 c8)), .a (.c (.int .i64 (↑m))), .any, .any, .a (.c (.w32 ((Sha.one v (steps m) (W m))))), .a (.c (.w32 ((ror (v 0) 2 ^^^ ror (v 0) 13 ^^^ ror (v 0) 22)))), .a (.c (.w32 (((v 0 &&& v 1) ^^^ (v 0 &&& v 2) ^^^ (v 1 &&& v 2))))), .a (.c (.int .i64 (7 - (s : Int)))), .any, .any, .any, .any, .any, .any, .any, .any, .any, .any, .any, .any, .any, .any, .any, .any, .any, .any, .any, .any, .any, .any, .any, .any, .any, .any, .any, .any, .any, .any, .any, .any, .any, .any, .any, .any, .any, .any, .any, .any, .any, .any, .any, .any, .any, .any, .any, .any, .any, .any, .any, .any, .any, .any, .any, .any, .any, .any, .any, .any, .any, .any, .any, .any, .any, .any, .any, .any, .any, .any, .any, .any, .any, .any, .any, .any, .any, .any, .any, .any, .any, .any, .any, .any, .any, .any, .any, .any, .any, .any, .any, .any, .any, .any, .any, .any, .any, .any, .any, .any, .any, .any, .any, .any, .any, .any, .any, .any, .any, .any, .any, .any, .any, .any, .any, .any, .any, .any, .any, .any, .any, .any, .any, .any, .any, .any, .any, .any, .any, .any, .any, .any, .any, .any, .any, .any, .any, .any, .any, .any, .any, .any, .any, .any, .any, .any, .any, .any, .any, .any, .any, .any, .any, .any, .any, .any, .any, .any, .any, .any, .any, .any, .any, .any, .any, .any, .any, .any, .any, .any, .any, .any, .any, .any, .any, .any, .any, .any, .any, .any, .any, .any, .any, .any, .any, .any, .any, .any, .any, .any, .any, .any, .any, .any, .any, .any, .any, .any, .any, .any, .any, .any, .any, .any, .any, .any, .any, .any, .any, .any, .any, .any, .any, .any, .any, .any, .any, .any, .any, .any, .any, .any, .any, .any, .any, .any, .any, .any, .any, .any, .any, .any, .any, .any, .any, .any, .any, .any, .any, .any, .any, .any, .any, .any, .any, .any, .any, .any, .any, .any, .any, .any, .any, .any, .any, .any, .any, .any, .any, .any, .any, .any, .any, .any, .any, .any, .any, .any, .any, .any, .any, .any, .any, .any, .any, .any, .any, .any, .any, .any, .any, .any, .any, .any, .any, .any, .any, .any, .any, .any, .any], [bts z N o l.length (L l), [.row 8 fun i => .w32 (V i)], [.row c (bytesF (64 * Q) (L (full l)))], [.row 64 fun i => .w32 (steps i)], [.row 64 fun i => .w32 (W i)], [.row c8 (partsF 8 fun i => .w32 (if 7 - s < i then v (i - 1) else v i))]]⟩,
                fun s => s ≤ 7, fun s => 7 - s, ⟨0, [0, 1, 2, 3, 4, 5], ⟨⟨rfl, rfl, rfl⟩, ?_⟩, by omega⟩, fun s hs => ⟨fun h => ?_, fun h => ?_⟩⟩
              · (repeat first | exact trivial | refine ⟨rfl, ?_⟩ | refine ⟨fun _ _ => ⟨rfl, trivial⟩, ?_⟩ | refine ⟨fun _ _ => trivial, ?_⟩ | refine ⟨by omega, ?_⟩ | refine ⟨fun _ _ => eqC_winS, ?_⟩ | refine ⟨fun _ _ => eqC_winM, ?_⟩ | refine ⟨fun _ _ => eqC_winB, ?_⟩ | refine ⟨fun _ _ => eqC_selfB, ?_⟩ | refine ⟨fun _ _ => eqC_mpB, ?_⟩)
                refine ⟨?_, ?_⟩
                · unfold Sha.one
                  rw [← not_xor]
                  rfl
                · (repeat first | exact trivial | refine ⟨rfl, ?_⟩ | refine ⟨fun _ _ => ⟨rfl, trivial⟩, ?_⟩ | refine ⟨fun _ _ => trivial, ?_⟩ | refine ⟨by omega, ?_⟩ | refine ⟨fun _ _ => eqC_winS, ?_⟩ | refine ⟨fun _ _ => eqC_winM, ?_⟩ | refine ⟨fun _ _ => eqC_winB, ?_⟩ | refine ⟨fun _ _ => eqC_selfB, ?_⟩ | refine ⟨fun _ _ => eqC_mpB, ?_⟩)
                  refine eqC_bts ?_
                  (repeat first | exact trivial | refine ⟨rfl, ?_⟩ | refine ⟨fun _ _ => ⟨rfl, trivial⟩, ?_⟩ | refine ⟨fun _ _ => trivial, ?_⟩ | refine ⟨by omega, ?_⟩ | refine ⟨fun _ _ => eqC_winS, ?_⟩ | refine ⟨fun _ _ => eqC_winM, ?_⟩ | refine ⟨fun _ _ => eqC_winB, ?_⟩ | refine ⟨fun _ _ => eqC_selfB, ?_⟩ | refine ⟨fun _ _ => eqC_mpB, ?_⟩)
                  refine ⟨fun j hj => eqC_parts (fun i hi => ?_) j, trivial⟩
                  unfold partsF
                  rw [if_pos hi, if_neg (by omega)]
                  exact ⟨rfl, trivial⟩
              · have hgt : 7 - (s : Int) > 0 := of_decide_eq_true h
                (repeat first | refine And.intro (by omega) ?_ | refine And.intro (by decide) ?_ | (with_reducible refine frc_parts (by first | omega | decide) ?_) | (with_reducible refine frc_bytesL (by first | omega | decide) ?_) | refine And.intro rfl ?_)
                refine ⟨s + 1, [0, 1, 2, 3, 4, 5], ⟨⟨rfl, rfl, rfl⟩, ?_⟩, by first | omega | (dsimp only; omega), by first | omega | (dsimp only; omega)⟩
                (repeat first | exact trivial | refine ⟨rfl, ?_⟩ | refine ⟨fun _ _ => ⟨rfl, trivial⟩, ?_⟩ | refine ⟨fun _ _ => trivial, ?_⟩ | refine ⟨by omega, ?_⟩ | refine ⟨fun _ _ => eqC_winS, ?_⟩ | refine ⟨fun _ _ => eqC_winM, ?_⟩ | refine ⟨fun _ _ => eqC_winB, ?_⟩ | refine ⟨fun _ _ => eqC_selfB, ?_⟩ | refine ⟨fun _ _ => eqC_mpB, ?_⟩)
                refine eqC_bts ?_
                (repeat first | exact trivial | refine ⟨rfl, ?_⟩ | refine ⟨fun _ _ => ⟨rfl, trivial⟩, ?_⟩ | refine ⟨fun _ _ => trivial, ?_⟩ | refine ⟨by omega, ?_⟩ | refine ⟨fun _ _ => eqC_winS, ?_⟩ | refine ⟨fun _ _ => eqC_winM, ?_⟩ | refine ⟨fun _ _ => eqC_winB, ?_⟩ | refine ⟨fun _ _ => eqC_selfB, ?_⟩ | refine ⟨fun _ _ => eqC_mpB, ?_⟩)
                have a0 : (7 - (s : Int)).toNat + 0 = 7 - s := by omega
                have a1 : (7 - (s : Int) - 1).toNat + 0 = 6 - s := by omega
                refine ⟨fun j hj => eqC_parts (fun i hi => ?_) j, trivial⟩
                rw [a0, a1]
                unfold upd
                by_cases h2 : i = 7 - s
                · rw [if_pos h2, if_neg (show ¬ 7 - s < 6 - s by omega), h2]
                  refine eqC_w32 (congrArg SC.w32 ?_)
                  rw [if_pos (by omega)]
                  exact congrArg v (by omega)
                · rw [if_neg h2]
                  unfold partsF
                  rw [if_pos hi]
                  refine eqC_w32 (congrArg SC.w32 ?_)
                  have : 7 - s < i ↔ 7 - (s + 1) < i := by omega
                  simp only [this]
              · obtain rfl : s = 7 := by have : ¬ 7 - (s : Int) > 0 := of_decide_eq_false h; have hs : s ≤ 7 := hs; omega
                (repeat first | refine And.intro (by omega) ?_ | refine And.intro (by decide) ?_ | (with_reducible refine frc_parts (by first | omega | decide) ?_) | (with_reducible refine frc_bytesL (by first | omega | decide) ?_) | refine And.intro rfl ?_)
                refine ⟨m + 1, [0, 1, 2, 3, 4, 5], ⟨⟨rfl, rfl, rfl⟩, ?_⟩, by first | omega | (dsimp only; omega), by first | omega | (dsimp only; omega)⟩
                (repeat first | exact trivial | refine ⟨rfl, ?_⟩ | refine ⟨fun _ _ => ⟨rfl, trivial⟩, ?_⟩ | refine ⟨fun _ _ => trivial, ?_⟩ | refine ⟨by omega, ?_⟩ | refine ⟨fun _ _ => eqC_winS, ?_⟩ | refine ⟨fun _ _ => eqC_winM, ?_⟩ | refine ⟨fun _ _ => eqC_winB, ?_⟩ | refine ⟨fun _ _ => eqC_selfB, ?_⟩ | refine ⟨fun _ _ => eqC_mpB, ?_⟩)
                refine eqC_bts ?_
                (repeat first | exact trivial | refine ⟨rfl, ?_⟩ | refine ⟨fun _ _ => ⟨rfl, trivial⟩, ?_⟩ | refine ⟨fun _ _ => trivial, ?_⟩ | refine ⟨by omega, ?_⟩ | refine ⟨fun _ _ => eqC_winS, ?_⟩ | refine ⟨fun _ _ => eqC_winM, ?_⟩ | refine ⟨fun _ _ => eqC_winB, ?_⟩ | refine ⟨fun _ _ => eqC_selfB, ?_⟩ | refine ⟨fun _ _ => eqC_mpB, ?_⟩)
                refine ⟨fun j hj => eqC_parts (fun i hi => ?_) j, trivial⟩
                rw [show vR W V (m + 1) = next v (steps m) (W m) by simp only [vR, hv]]
                have hj8 : i = 0 ∨ i = 1 ∨ i = 2 ∨ i = 3 ∨ i = 4 ∨ i = 5 ∨ i = 6 ∨ i = 7 := by omega
                rcases hj8 with rfl | rfl | rfl | rfl | rfl | rfl | rfl | rfl
                · exact eqC_w32 (congrArg SC.w32 (BitVec.add_assoc _ _ _))
                all_goals exact ⟨rfl, trivial⟩
            · obtain rfl : m = 64 := by have : ¬ (m : Int) < 64 := of_decide_eq_false h; have hm : m ≤ 64 := hm; omega
              obtain ⟨v, hv⟩ : ∃ v, vR W V 64 = v := ⟨_, rfl⟩
              rw [hv]
              refine .inl ⟨Nat, fun m => ⟨[.any, .any, .any, .a (.c (.sl 1 0 0 8 8)), .any, .a (.c (.sl 2 0 0 (64 * Q) c)), .any, .a (.c (.sl 3 0 0 64 64)), .a (.c (.int .i64 (((64 * k : Nat) : Int)))), .any, .any, .any, .any, .any, .a (.c (.sl 4 0 0 8 c8)), .any, .any, .any, .any, .any, .any, .any, .a (.c (.int .i64 (↑m))), .any, .any, .any, .any, .any, .any, .any, .any, .any, .any, .any, .any, .any, .any, .any, .any, .any, .any, .any, .any, .any, .any, .any, .any, .any, .any, .any, .any, .any, .any, .any, .any, .any, .any, .any, .any, .any, .any, .any, .any, .any, .any, .any, .any, .any, .any, .any, .any, .any, .any, .any, .any, .any, .any, .any, .any, .any, .any, .any, .any, .any, .any, .any, .any, .any, .any, .any, .any, .any, .any, .any, .any, .any, .any, .any, .any, .any, .any, .any, .any, .any, .any, .any, .any, .any, .any, .any, .any, .any, .any, .any, .any, .any, .any, .any, .any, .any, .any, .any, .any, .any, .any, .any, .any, .any, .any, .any, .any, .any, .any, .any, .any, .any, .any, .any, .any, .any, .any, .any, .any, .any, .any, .any, .any, .any, .any, .any, .any, .any, .any, .any, .any, .any, .any, .any, .any, .any, .any, .any, .any, .any, .any, .any, .any, .any, .any, .any, .any, .any, .any, .any, .any, .any, .any, .any, .any, .any, .any, .any, .any, .any, .any, .any, .any, .any, .any, .any, .any, .any, .any, .any, .any, .any, .any, .any, .any, .any, .any, .any, .any, .any, .any, .any, .any, .any, .any, .any, .any, .any, .any, .any, .any, .any, .any, .any, .any, .any, .any, .any, .any, .any, .any, .any, .any, .any, .any, .any, .any, .any, .any, .any, .any, .any, .any, .any, .any, .any, .any, .any, .any, .any, .any, .any, .any, .any, .any, .any, .any, .any, .any, .any, .any, .any, .any, .any, .any, .any, .any, .any, .any, .any, .any, .any, .any, .any, .any, .any, .any, .any, .any, .any, .any, .any, .any, .any, .any, .any, .any, .any, .any, .any, .any, .any, .any, .any, .any, .any, .any, .any, .any, .any, .any, .any, .any, .any, .any, .any, .any, .any, .any, .any, .any, .any, .any, .any, .any, .any, .any, .any, .any], [bts z N o l.length (L l), [.row 8 fun i => .w32 (if i < m then V i + v i else V i)], [.row c (bytesF (64 * Q) (L (full l)))], [.row 64 fun i => .w32 (steps i)], [.row c8 (partsF 8 fun i => .w32 (v i))]]⟩,
                fun m => m ≤ 8, fun m => 8 - m, ⟨0, [0, 1, 2, 3, 5], ⟨⟨rfl, rfl, rfl⟩, ?_⟩, by omega⟩, fun m hm => ⟨fun h => ?_, fun h => ?_⟩⟩
              · (repeat first | exact trivial | refine ⟨rfl, ?_⟩ | refine ⟨fun _ _ => ⟨rfl, trivial⟩, ?_⟩ | refine ⟨fun _ _ => trivial, ?_⟩ | refine ⟨by omega, ?_⟩ | refine ⟨fun _ _ => eqC_winS, ?_⟩ | refine ⟨fun _ _ => eqC_winM, ?_⟩ | refine ⟨fun _ _ => eqC_winB, ?_⟩ | refine ⟨fun _ _ => eqC_selfB, ?_⟩ | refine ⟨fun _ _ => eqC_mpB, ?_⟩)
                refine eqC_bts ?_
                (repeat first | exact trivial | refine ⟨rfl, ?_⟩ | refine ⟨fun _ _ => ⟨rfl, trivial⟩, ?_⟩ | refine ⟨fun _ _ => trivial, ?_⟩ | refine ⟨by omega, ?_⟩ | refine ⟨fun _ _ => eqC_winS, ?_⟩ | refine ⟨fun _ _ => eqC_winM, ?_⟩ | refine ⟨fun _ _ => eqC_winB, ?_⟩ | refine ⟨fun _ _ => eqC_selfB, ?_⟩ | refine ⟨fun _ _ => eqC_mpB, ?_⟩)
                refine ⟨fun j hj => eqC_parts (fun i hi => ?_) j, trivial⟩
                unfold partsF
                rw [if_pos hi]
                exact ⟨rfl, trivial⟩
              · have hlt : (m : Int) < 8 := of_decide_eq_true h
                refine ⟨none, [], [(0, true), (1, true), (2, true), (3, true), (4, true), (5, true), (6, true), (7, true), (8, true), (9, true), (10, true), (11, true)], [12], by kernel_rfl, ?_⟩
                (repeat first | refine And.intro (by omega) ?_ | refine And.intro (by decide) ?_ | (with_reducible refine frc_parts (by first | omega | decide) ?_) | (with_reducible refine frc_bytesL (by first | omega | decide) ?_) | refine And.intro rfl ?_)
                refine ⟨m + 1, [0, 1, 2, 3, 4], ⟨⟨rfl, rfl, rfl⟩, ?_⟩, by first | omega | (dsimp only; omega), by first | omega | (dsimp only; omega)⟩
                (repeat first | exact trivial | refine ⟨rfl, ?_⟩ | refine ⟨fun _ _ => ⟨rfl, trivial⟩, ?_⟩ | refine ⟨fun _ _ => trivial, ?_⟩ | refine ⟨by omega, ?_⟩ | refine ⟨fun _ _ => eqC_winS, ?_⟩ | refine ⟨fun _ _ => eqC_winM, ?_⟩ | refine ⟨fun _ _ => eqC_winB, ?_⟩ | refine ⟨fun _ _ => eqC_selfB, ?_⟩ | refine ⟨fun _ _ => eqC_mpB, ?_⟩)
                refine eqC_bts ?_
                have e0 : (m : Int).toNat + 0 = m := by omega
                refine ⟨rfl, fun j hj => ?_, ?_⟩
                · rw [e0]
                  refine eqC_w32 ((upd_w32 (g := fun i => .w32 (if i < m + 1 then V i + v i else V i)) ?_ ?_ j).trans rfl)
                  · simp only [if_pos (show m < m + 1 by omega), if_neg (Nat.lt_irrefl m)]
                  · intro i hi
                    have : i < m + 1 ↔ i < m := by omega
                    simp only [this]
                · (repeat first | exact trivial | refine ⟨rfl, ?_⟩ | refine ⟨fun _ _ => ⟨rfl, trivial⟩, ?_⟩ | refine ⟨fun _ _ => trivial, ?_⟩ | refine ⟨by omega, ?_⟩ | refine ⟨fun _ _ => eqC_winS, ?_⟩ | refine ⟨fun _ _ => eqC_winM, ?_⟩ | refine ⟨fun _ _ => eqC_winB, ?_⟩ | refine ⟨fun _ _ => eqC_selfB, ?_⟩ | refine ⟨fun _ _ => eqC_mpB, ?_⟩)
                  refine ⟨fun j hj => eqC_parts (fun i hi => ?_) j, trivial⟩
                  unfold partsF
                  rw [if_pos hi]
                  exact ⟨rfl, trivial⟩
              · obtain rfl : m = 8 := by have : ¬ (m : Int) < 8 := of_decide_eq_false h; have hm : m ≤ 8 := hm; omega
                (repeat first | refine And.intro (by omega) ?_ | refine And.intro (by decide) ?_ | (with_reducible refine frc_parts (by first | omega | decide) ?_) | (with_reducible refine frc_bytesL (by first | omega | decide) ?_) | refine And.intro rfl ?_)
                refine ⟨k + 1, [0, 1, 2, 3], ⟨⟨rfl, rfl, rfl⟩, ?_⟩, by first | omega | (dsimp only; omega), by first | omega | (dsimp only; omega)⟩
                (repeat first | exact trivial | refine ⟨rfl, ?_⟩ | refine ⟨fun _ _ => ⟨rfl, trivial⟩, ?_⟩ | refine ⟨fun _ _ => trivial, ?_⟩ | refine ⟨by omega, ?_⟩ | refine ⟨fun _ _ => eqC_winS, ?_⟩ | refine ⟨fun _ _ => eqC_winM, ?_⟩ | refine ⟨fun _ _ => eqC_winB, ?_⟩ | refine ⟨fun _ _ => eqC_selfB, ?_⟩ | refine ⟨fun _ _ => eqC_mpB, ?_⟩)
                refine eqC_bts ?_
                refine ⟨rfl, fun j hj => eqC_w32 (congrArg SC.w32 ?_), ?_⟩
                · rw [hnext, if_pos hj]
                  unfold compress
                  rw [hW, hv]
                · (repeat first | exact trivial | refine ⟨rfl, ?_⟩ | refine ⟨fun _ _ => ⟨rfl, trivial⟩, ?_⟩ | refine ⟨fun _ _ => trivial, ?_⟩ | refine ⟨by omega, ?_⟩ | refine ⟨fun _ _ => eqC_winS, ?_⟩ | refine ⟨fun _ _ => eqC_winM, ?_⟩ | refine ⟨fun _ _ => eqC_winB, ?_⟩ | refine ⟨fun _ _ => eqC_selfB, ?_⟩ | refine ⟨fun _ _ => eqC_mpB, ?_⟩)
        · obtain rfl : k = Q := by have : ¬ ((64 * k : Nat) : Int) < ((64 * Q : Nat) : Int) := of_decide_eq_false h; omega
          have hV : ∀ i, i < 32 → L (sumL l) i = outW (wordsAt (full l) k).V i := fun i hi => by
            rw [sumL_full, L_tab hi]
            unfold wordsAt
            rw [← hQ, List.take_length]
          obtain ⟨V, hV'⟩ : ∃ V, (wordsAt (full l) k).V = V := ⟨_, rfl⟩
          rw [hV'] at hV
          rw [hV']
          let X := Option (Nat × Nat)
          refine .inl ⟨X, fun x => match x with
            | none => ⟨[.any, .any, .any, .a (.c (.sl 1 0 0 8 8)), .any, .any, .any, .any, .any, .any, .any, .any, .any, .any, .any, .any, .any, .any, .any, .any, .any, .any, .any, .a (.c (.slc none 0 0)), .a (.c (.int .i64 (0))), .any, .any, .any, .any, .any, .any, .any, .any, .any, .any, .any, .any, .any, .any, .any, .any, .any, .any, .any, .any, .any, .any, .any, .any, .any, .any, .any, .any, .any, .any, .any, .any, .any, .any, .any, .any, .any, .any, .any, .any, .any, .any, .any, .any, .any, .any, .any, .any, .any, .any, .any, .any, .any, .any, .any, .any, .any, .any, .any, .any, .any, .any, .any, .any, .any, .any, .any, .any, .any, .any, .any, .any, .any, .any, .any, .any, .any, .any, .any, .any, .any, .any, .any, .any, .any, .any, .any, .any, .any, .any, .any, .any, .any, .any, .any, .any, .any, .any, .any, .any, .any, .any, .any, .any, .any, .any, .any, .any, .any, .any, .any, .any, .any, .any, .any, .any, .any, .any, .any, .any, .any, .any, .any, .any, .any, .any, .any, .any, .any, .any, .any, .any, .any, .any, .any, .any, .any, .any, .any, .any, .any, .any, .any, .any, .any, .any, .any, .any, .any, .any, .any, .any, .any, .any, .any, .any, .any, .any, .any, .any, .any, .any, .any, .any, .any, .any, .any, .any, .any, .any, .any, .any, .any, .any, .any, .any, .any, .any, .any, .any, .any, .any, .any, .any, .any, .any, .any, .any, .any, .any, .any, .any, .any, .any, .any, .any, .any, .any, .any, .any, .any, .any, .any, .any, .any, .any, .any, .any, .any, .any, .any, .any, .any, .any, .any, .any, .any, .any, .any, .any, .any, .any, .any, .any, .any, .any, .any, .any, .any, .any, .any, .any, .any, .any, .any, .any, .any, .any, .any, .any, .any, .any, .any, .any, .any, .any, .any, .any, .any, .any, .any, .any, .any, .any, .any, .any, .any, .any, .any, .any, .any, .any, .any, .any, .any, .any, .any, .any, .any, .any, .any, .any, .any, .any, .any, .any, .any, .any, .any, .any, .any, .any, .any, .any, .any, .any, .any, .any], [bts z N o l.length (L l), [.row 8 fun i => .w32 (V i)]]⟩
            | some (m, c) => ⟨[.any, .any, .any, .a (.c (.sl 1 0 0 8 8)), .any, .any, .any, .any, .any, .any, .any, .any, .any, .any, .any, .any, .any, .any, .any, .any, .any, .any, .any, .a (.c (.sl 2 0 0 (4 * (m + 1)) c)), .a (.c (.int .i64 (((m + 1 : Nat) : Int)))), .any, .any, .any, .any, .any, .any, .any, .any, .any, .any, .any, .any, .any, .any, .any, .any, .any, .any, .any, .any, .any, .any, .any, .any, .any, .any, .any, .any, .any, .any, .any, .any, .any, .any, .any, .any, .any, .any, .any, .any, .any, .any, .any, .any, .any, .any, .any, .any, .any, .any, .any, .any, .any, .any, .any, .any, .any, .any, .any, .any, .any, .any, .any, .any, .any, .any, .any, .any, .any, .any, .any, .any, .any, .any, .any, .any, .any, .any, .any, .any, .any, .any, .any, .any, .any, .any, .any, .any, .any, .any, .any, .any, .any, .any, .any, .any, .any, .any, .any, .any, .any, .any, .any, .any, .any, .any, .any, .any, .any, .any, .any, .any, .any, .any, .any, .any, .any, .any, .any, .any, .any, .any, .any, .any, .any, .any, .any, .any, .any, .any, .any, .any, .any, .any, .any, .any, .any, .any, .any, .any, .any, .any, .any, .any, .any, .any, .any, .any, .any, .any, .any, .any, .any, .any, .any, .any, .any, .any, .any, .any, .any, .any, .any, .any, .any, .any, .any, .any, .any, .any, .any, .any, .any, .any, .any, .any, .any, .any, .any, .any, .any, .any, .any, .any, .any, .any, .any, .any, .any, .any, .any, .any, .any, .any, .any, .any, .any, .any, .any, .any, .any, .any, .any, .any, .any, .any, .any, .any, .any, .any, .any, .any, .any, .any, .any, .any, .any, .any, .any, .any, .any, .any, .any, .any, .any, .any, .any, .any, .any, .any, .any, .any, .any, .any, .any, .any, .any, .any, .any, .any, .any, .any, .any, .any, .any, .any, .any, .any, .any, .any, .any, .any, .any, .any, .any, .any, .any, .any, .any, .any, .any, .any, .any, .any, .any, .any, .any, .any, .any, .any, .any, .any, .any, .any, .any, .any, .any, .any, .any, .any, .any, .any, .any, .any, .any, .any, .any, .any], [bts z N o l.length (L l), [.row 8 fun i => .w32 (V i)], [.row c (bytesF (4 * (m + 1)) (outW V))]]⟩,
            fun x => match x with
            | none => True
            | some (m, c) => m < 8 ∧ 4 * (m + 1) ≤ c, fun x => match x with
            | none => 300
            | some (m, _) => 8 - m, ⟨none, [0, 1], ⟨⟨rfl, rfl, rfl⟩, ?_⟩, trivial⟩, fun x => ?_⟩
          · (repeat first | exact trivial | refine ⟨rfl, ?_⟩ | refine ⟨fun _ _ => ⟨rfl, trivial⟩, ?_⟩ | refine ⟨fun _ _ => trivial, ?_⟩ | refine ⟨by omega, ?_⟩ | refine ⟨fun _ _ => eqC_winS, ?_⟩ | refine ⟨fun _ _ => eqC_winM, ?_⟩ | refine ⟨fun _ _ => eqC_winB, ?_⟩ | refine ⟨fun _ _ => eqC_selfB, ?_⟩ | refine ⟨fun _ _ => eqC_mpB, ?_⟩)
            refine eqC_bts ?_
            (repeat first | exact trivial | refine ⟨rfl, ?_⟩ | refine ⟨fun _ _ => ⟨rfl, trivial⟩, ?_⟩ | refine ⟨fun _ _ => trivial, ?_⟩ | refine ⟨by omega, ?_⟩ | refine ⟨fun _ _ => eqC_winS, ?_⟩ | refine ⟨fun _ _ => eqC_winM, ?_⟩ | refine ⟨fun _ _ => eqC_winB, ?_⟩ | refine ⟨fun _ _ => eqC_selfB, ?_⟩ | refine ⟨fun _ _ => eqC_mpB, ?_⟩)
          rcases x with _ | ⟨m, c⟩
          · intro _
            refine ⟨fun _ => ?_, fun h => absurd (of_decide_eq_false h) (by omega)⟩
            refine ⟨none, [], [(0, true), (1, true), (2, true), (3, true), (4, true), (5, true), (6, true), (7, true), (8, true), (9, true), (10, true), (11, true), (12, true), (13, true), (14, true), (15, true), (16, true), (17, true), (18, true), (19, true), (20, true), (21, true), (22, true), (23, true), (24, false)], [25, 26], by kernel_rfl, ?_⟩
            (repeat first | refine And.intro (by omega) ?_ | refine And.intro (by decide) ?_ | (with_reducible refine frc_parts (by first | omega | decide) ?_) | (with_reducible refine frc_bytesL (by first | omega | decide) ?_) | refine And.intro rfl ?_)
            refine fun _ c' hc' => ?_
            refine ⟨⟨by omega, by omega⟩, some (0, c'), [0, 1, 3], ⟨⟨rfl, rfl, rfl⟩, ?_⟩, ⟨by omega, by omega⟩, by first | omega | (dsimp only; omega)⟩
            (repeat first | exact trivial | refine ⟨rfl, ?_⟩ | refine ⟨fun _ _ => ⟨rfl, trivial⟩, ?_⟩ | refine ⟨fun _ _ => trivial, ?_⟩ | refine ⟨by omega, ?_⟩ | refine ⟨fun _ _ => eqC_winS, ?_⟩ | refine ⟨fun _ _ => eqC_winM, ?_⟩ | refine ⟨fun _ _ => eqC_winB, ?_⟩ | refine ⟨fun _ _ => eqC_selfB, ?_⟩ | refine ⟨fun _ _ => eqC_mpB, ?_⟩)
            refine eqC_bts ?_
            (repeat first | exact trivial | refine ⟨rfl, ?_⟩ | refine ⟨fun _ _ => ⟨rfl, trivial⟩, ?_⟩ | refine ⟨fun _ _ => trivial, ?_⟩ | refine ⟨by omega, ?_⟩ | refine ⟨fun _ _ => eqC_winS, ?_⟩ | refine ⟨fun _ _ => eqC_winM, ?_⟩ | refine ⟨fun _ _ => eqC_winB, ?_⟩ | refine ⟨fun _ _ => eqC_selfB, ?_⟩ | refine ⟨fun _ _ => eqC_mpB, ?_⟩)
            refine ⟨fun j hj => eqC_bytes (fun i hi => ?_) j, trivial⟩
            unfold newF
            rw [if_pos (by simpa [scale] using hi)]
            have := four_out V 0 i (by omega)
            rw [Nat.mul_zero, Nat.zero_add] at this
            exact this
          · rintro ⟨hm, hc⟩
            refine ⟨fun h => ?_, fun h => ?_⟩
            · have hlt : ((m + 1 : Nat) : Int) < 8 := of_decide_eq_true h
              refine ⟨none, [], [(0, true), (1, true), (2, true), (3, true), (4, true), (5, true), (6, true), (7, true), (8, true), (9, true), (10, true), (11, true), (12, true), (13, true), (14, true), (15, true), (16, true), (17, true), (18, true), (19, true), (20, true), (21, true), (22, true), (23, true), (24, false)], [25, 26], by kernel_rfl, ?_⟩
              (repeat first | refine And.intro (by omega) ?_ | refine And.intro (by decide) ?_ | (with_reducible refine frc_parts (by first | omega | decide) ?_) | (with_reducible refine frc_bytesL (by first | omega | decide) ?_) | refine And.intro rfl ?_)
              refine ⟨⟨by omega, by simp only [scale]; omega, by show _ * 1 ≤ _; omega⟩, fun c' hc' => ?_⟩
              refine ⟨⟨by omega, by omega⟩, some (m + 1, c'), [0, 1, 4], ⟨⟨rfl, rfl, rfl⟩, ?_⟩, ⟨by omega, by omega⟩, by first | omega | (dsimp only; omega)⟩
              (repeat first | exact trivial | refine ⟨rfl, ?_⟩ | refine ⟨fun _ _ => ⟨rfl, trivial⟩, ?_⟩ | refine ⟨fun _ _ => trivial, ?_⟩ | refine ⟨by omega, ?_⟩ | refine ⟨fun _ _ => eqC_winS, ?_⟩ | refine ⟨fun _ _ => eqC_winM, ?_⟩ | refine ⟨fun _ _ => eqC_winB, ?_⟩ | refine ⟨fun _ _ => eqC_selfB, ?_⟩ | refine ⟨fun _ _ => eqC_mpB, ?_⟩)
              refine eqC_bts ?_
              (repeat first | exact trivial | refine ⟨rfl, ?_⟩ | refine ⟨fun _ _ => ⟨rfl, trivial⟩, ?_⟩ | refine ⟨fun _ _ => trivial, ?_⟩ | refine ⟨by omega, ?_⟩ | refine ⟨fun _ _ => eqC_winS, ?_⟩ | refine ⟨fun _ _ => eqC_winM, ?_⟩ | refine ⟨fun _ _ => eqC_winB, ?_⟩ | refine ⟨fun _ _ => eqC_selfB, ?_⟩ | refine ⟨fun _ _ => eqC_mpB, ?_⟩)
              refine ⟨fun j hj => eqC_bytes (fun i hi => ?_) j, trivial⟩
              unfold appF
              have e0 : ((m + 1 : Nat) : Int).toNat + 0 = m + 1 := by omega
              by_cases h2 : i < 4 * (m + 1)
              · rw [if_pos (by simpa [scale] using h2)]; exact bytesF_lt h2
              · rw [if_neg (by simpa [scale] using h2), if_pos (by simp only [scale]; omega), e0]
                have := four_out V (m + 1) (i - 4 * (m + 1)) (by omega)
                rw [show 4 * (m + 1) + (i - 4 * (m + 1)) = i by omega] at this
                exact this
            · obtain rfl : m = 7 := by have : ¬ ((m + 1 : Nat) : Int) < 8 := of_decide_eq_false h; omega
              refine ⟨.a (.c (.sl 1 0 0 32 c)), [bts z N o l.length (L l), [.row c (bytesF 32 (L (sumL l)))]], ⟨[0, 2], ⟨rfl, rfl, rfl⟩, ?_⟩, c, rfl, rfl, hc⟩
              (repeat first | exact trivial | refine ⟨rfl, ?_⟩ | refine ⟨fun _ _ => ⟨rfl, trivial⟩, ?_⟩ | refine ⟨fun _ _ => trivial, ?_⟩ | refine ⟨by omega, ?_⟩ | refine ⟨fun _ _ => eqC_winS, ?_⟩ | refine ⟨fun _ _ => eqC_winM, ?_⟩ | refine ⟨fun _ _ => eqC_winB, ?_⟩ | refine ⟨fun _ _ => eqC_selfB, ?_⟩ | refine ⟨fun _ _ => eqC_mpB, ?_⟩)
              refine eqC_bts ?_
              exact ⟨rfl, fun j hj => eqC_bytes (fun i hi => by rw [bytesF_lt (by omega), hV i hi]) j, trivial⟩
end Sx
end Go.Proofs.Ytndlhhhebijknaa
end

section
/-
  SHA-256: the document's mark. No condition.
-/
namespace Go.Proofs.Ytndlhhhebijknaa
set_option linter.unusedVariables false
namespace Sx
open Sha

theorem eqC_win0 {q : List Nat} {n : Nat} {f : Nat → SC} {b : Nat → BitVec 8} (h : ∀ i, i < n → f i = .w8 (b i)) (j : Nat) : eqC q (f j) (winF 0 n b j) True :=
  eqC_win (fun i hi => by rw [Nat.zero_add]; exact h i hi) j
theorem frc_win {o n i : Nat} {b : Nat → BitVec 8} {k : SC → Prop} (h : i < n) (hk : k (.w8 (b i))) : frcSC (winF o n b (i + o)) k := by
  rw [Nat.add_comm, winF_at _ _ _ h]; exact hk
set_option maxHeartbeats 4000000 in
set_option maxRecDepth 20000 in
theorem fn_rmark (zk zb : Bool) (Nk Nb ok ob ck cb : Nat) (key b : Bs) (hNk : ok + key.length ≤ Nk) (hck : key.length ≤ ck) (hzk : zk = true → key = []) (hNb : ob + b.length ≤ Nb) (hcb : b.length ≤ cb) (hzb : zb = true → b = []) (hkl : key.length < 1099511627776) (hbl : b.length < 549755813888) :
    FnR Try.prog tds 20 2 [bts zk Nk ok key.length (L key), bts zb Nb ob b.length (L b)] [.c (.sn zk 0 0 ok key.length ck), .c (.sn zb 1 0 ob b.length cb)] (fun _ => True)
      (fun x hs => ∃ c, x = .a (.c (.sl 2 0 0 32 c)) ∧ hs = [bts zk Nk ok key.length (L key), bts zb Nb ob b.length (L b), [.row c (bytesF 32 (L (markL key b)))]] ∧ 32 ≤ c) := by
  refine fn_of_body tds_ok follows_ Try.func20 rfl (t := .a (.c (.sn zk 0 0 ok key.length ck)) :: .a (.c (.sn zb 1 0 ob b.length cb)) :: anys 43) rfl (fun w r0 hr _ => ?_)
  obtain ⟨x0, x1, rfl⟩ := len2' hr
  obtain ⟨K, hK⟩ : ∃ K, keyL key = K := ⟨_, rfl⟩
  have hKl : K.length ≤ 64 := by rw [← hK]; exact keyL_le _
  by_cases hlen : 64 < key.length
  · obtain rfl : zk = false := by
      cases zk
      · rfl
      · have := hzk rfl; subst this; simp at hlen
    refine ⟨fun _ => ?_, fun h => absurd (of_decide_eq_false h) (by omega)⟩
    refine ⟨by kernel_rfl, call_same (fn_rsum false Nk ok ck key hNk hck hzk hkl) [0] rfl (by (repeat first | exact trivial | refine ⟨rfl, ?_⟩ | refine ⟨fun _ _ => ⟨rfl, trivial⟩, ?_⟩ | refine ⟨fun _ _ => trivial, ?_⟩ | refine ⟨by omega, ?_⟩ | refine ⟨fun _ _ => eqC_winS, ?_⟩ | refine ⟨fun _ _ => eqC_winM, ?_⟩ | refine ⟨fun _ _ => eqC_winB, ?_⟩ | refine ⟨fun _ _ => eqC_selfB, ?_⟩ | refine ⟨fun _ _ => eqC_mpB, ?_⟩)) (by (repeat first | exact trivial | refine ⟨rfl, ?_⟩ | refine ⟨fun _ _ => ⟨rfl, trivial⟩, ?_⟩ | refine ⟨fun _ _ => trivial, ?_⟩ | refine ⟨by omega, ?_⟩ | refine ⟨fun _ _ => eqC_winS, ?_⟩ | refine ⟨fun _ _ => eqC_winM, ?_⟩ | refine ⟨fun _ _ => eqC_winB, ?_⟩ | refine ⟨fun _ _ => eqC_selfB, ?_⟩ | refine ⟨fun _ _ => eqC_mpB, ?_⟩)) (fun _ _ => trivial) ?_⟩
    rintro x hs ⟨cs, rfl, rfl, hcs⟩
    have hS0 : sumL key = K := by rw [← hK]; unfold keyL; rw [if_pos hlen]
    have hKl2 : K.length = 32 := by rw [← hS0, sumL_len]
    rw [hS0]
    refine ⟨none, [0, 1], [(0, false), (2, true), (1, false), (3, true)], [], by kernel_rfl, ?_⟩
    (repeat first | refine And.intro (by omega) ?_ | refine And.intro (by decide) ?_ | (with_reducible refine frc_parts (by first | omega | decide) ?_) | (with_reducible refine frc_bytesL (by first | omega | decide) ?_) | refine And.intro rfl ?_)
    refine .inl ⟨Nat, fun k => ⟨[.a (.c (.sl 2 0 0 32 cs)), .a (.c (.sn zb 1 0 ob b.length cb)), .any, .any, .any, .a (.c (.sl 3 0 0 64 64)), .a (.c (.sl 4 0 0 64 64)), .a (.c (.int .i64 (↑k))), .any, .any, .any, .any, .any, .any, .any, .any, .any, .any, .any, .any, .any, .any, .any, .any, .any, .any, .any, .any, .any, .any, .any, .any, .any, .any, .any, .any, .any, .any, .any, .any, .any, .any, .any, .any, .any], [bts false Nk ok key.length (L key), bts zb Nb ob b.length (L b), [.row cs (bytesF 32 (L K))], [.row 64 fun i => .w8 (if i < k then L K i ^^^ 0x36#8 else 0#8)], [.row 64 fun i => .w8 (if i < k then L K i ^^^ 0x5c#8 else 0#8)]]⟩,
      fun k => k ≤ 64, fun k => 64 - k, ⟨0, [0, 1, 2, 3, 4], ⟨⟨rfl, rfl, rfl⟩, ?_⟩, by omega⟩, fun k hk => ⟨fun h => ?_, fun h => ?_⟩⟩
    · (repeat first | exact trivial | refine ⟨rfl, ?_⟩ | refine ⟨fun _ _ => ⟨rfl, trivial⟩, ?_⟩ | refine ⟨fun _ _ => trivial, ?_⟩ | refine ⟨by omega, ?_⟩ | refine ⟨fun _ _ => eqC_winS, ?_⟩ | refine ⟨fun _ _ => eqC_winM, ?_⟩ | refine ⟨fun _ _ => eqC_winB, ?_⟩ | refine ⟨fun _ _ => eqC_selfB, ?_⟩ | refine ⟨fun _ _ => eqC_mpB, ?_⟩)
      refine eqC_bts ?_
      (repeat first | exact trivial | refine ⟨rfl, ?_⟩ | refine ⟨fun _ _ => ⟨rfl, trivial⟩, ?_⟩ | refine ⟨fun _ _ => trivial, ?_⟩ | refine ⟨by omega, ?_⟩ | refine ⟨fun _ _ => eqC_winS, ?_⟩ | refine ⟨fun _ _ => eqC_winM, ?_⟩ | refine ⟨fun _ _ => eqC_winB, ?_⟩ | refine ⟨fun _ _ => eqC_selfB, ?_⟩ | refine ⟨fun _ _ => eqC_mpB, ?_⟩)
    · have hlt : (k : Int) < 64 := of_decide_eq_true h
      have hx : ∀ (x : BitVec 8) (j : Nat), eqC [0, 1, 2, 3, 4] (upd (fun i => SC.w8 (if i < k then L K i ^^^ x else 0#8)) k (.w8 (L K k ^^^ x)) j) (.w8 (if j < k + 1 then L K j ^^^ x else 0#8)) True := fun x j => by
        unfold upd
        by_cases hj : j = k
        · rw [if_pos hj, hj, if_pos (by omega)]; exact ⟨rfl, trivial⟩
        · have : j < k + 1 ↔ j < k := by omega
          rw [if_neg hj]; simp only [this]; exact ⟨rfl, trivial⟩
      refine ⟨fun h2 => ?_, fun h2 => ?_⟩
      · have hkl : (k : Int) < ((32 : Nat) : Int) := of_decide_eq_true h2
        (repeat first | refine And.intro (by omega) ?_ | refine And.intro (by decide) ?_ | (with_reducible refine frc_parts (by first | omega | decide) ?_) | (with_reducible refine frc_bytesL (by first | omega | decide) ?_) | refine And.intro rfl ?_)
        refine ⟨k + 1, [0, 1, 2, 3, 4], ⟨⟨rfl, rfl, rfl⟩, ?_⟩, by first | omega | (dsimp only; omega), by first | omega | (dsimp only; omega)⟩
        (repeat first | exact trivial | refine ⟨rfl, ?_⟩ | refine ⟨fun _ _ => ⟨rfl, trivial⟩, ?_⟩ | refine ⟨fun _ _ => trivial, ?_⟩ | refine ⟨by omega, ?_⟩ | refine ⟨fun _ _ => eqC_winS, ?_⟩ | refine ⟨fun _ _ => eqC_winM, ?_⟩ | refine ⟨fun _ _ => eqC_winB, ?_⟩ | refine ⟨fun _ _ => eqC_selfB, ?_⟩ | refine ⟨fun _ _ => eqC_mpB, ?_⟩)
        refine eqC_bts ?_
        (repeat first | exact trivial | refine ⟨rfl, ?_⟩ | refine ⟨fun _ _ => ⟨rfl, trivial⟩, ?_⟩ | refine ⟨fun _ _ => trivial, ?_⟩ | refine ⟨by omega, ?_⟩ | refine ⟨fun _ _ => eqC_winS, ?_⟩ | refine ⟨fun _ _ => eqC_winM, ?_⟩ | refine ⟨fun _ _ => eqC_winB, ?_⟩ | refine ⟨fun _ _ => eqC_selfB, ?_⟩ | refine ⟨fun _ _ => eqC_mpB, ?_⟩)
        have e0 : (k : Int).toNat + 0 = k := by omega
        rw [e0]
        exact ⟨fun j hj => hx _ j, rfl, fun j hj => hx _ j, by (repeat first | exact trivial | refine ⟨rfl, ?_⟩ | refine ⟨fun _ _ => ⟨rfl, trivial⟩, ?_⟩ | refine ⟨fun _ _ => trivial, ?_⟩ | refine ⟨by omega, ?_⟩ | refine ⟨fun _ _ => eqC_winS, ?_⟩ | refine ⟨fun _ _ => eqC_winM, ?_⟩ | refine ⟨fun _ _ => eqC_winB, ?_⟩ | refine ⟨fun _ _ => eqC_selfB, ?_⟩ | refine ⟨fun _ _ => eqC_mpB, ?_⟩)⟩
      · have hkl : ¬ (k : Int) < ((32 : Nat) : Int) := of_decide_eq_false h2
        have hz0 : L K k = 0#8 := L_over (by first | omega | simp)
        rw [hz0] at hx
        (repeat first | refine And.intro (by omega) ?_ | refine And.intro (by decide) ?_ | (with_reducible refine frc_parts (by first | omega | decide) ?_) | (with_reducible refine frc_bytesL (by first | omega | decide) ?_) | refine And.intro rfl ?_)
        refine ⟨k + 1, [0, 1, 2, 3, 4], ⟨⟨rfl, rfl, rfl⟩, ?_⟩, by first | omega | (dsimp only; omega), by first | omega | (dsimp only; omega)⟩
        (repeat first | exact trivial | refine ⟨rfl, ?_⟩ | refine ⟨fun _ _ => ⟨rfl, trivial⟩, ?_⟩ | refine ⟨fun _ _ => trivial, ?_⟩ | refine ⟨by omega, ?_⟩ | refine ⟨fun _ _ => eqC_winS, ?_⟩ | refine ⟨fun _ _ => eqC_winM, ?_⟩ | refine ⟨fun _ _ => eqC_winB, ?_⟩ | refine ⟨fun _ _ => eqC_selfB, ?_⟩ | refine ⟨fun _ _ => eqC_mpB, ?_⟩)
        refine eqC_bts ?_
        (repeat first | exact trivial | refine ⟨rfl, ?_⟩ | refine ⟨fun _ _ => ⟨rfl, trivial⟩, ?_⟩ | refine ⟨fun _ _ => trivial, ?_⟩ | refine ⟨by omega, ?_⟩ | refine ⟨fun _ _ => eqC_winS, ?_⟩ | refine ⟨fun _ _ => eqC_winM, ?_⟩ | refine ⟨fun _ _ => eqC_winB, ?_⟩ | refine ⟨fun _ _ => eqC_selfB, ?_⟩ | refine ⟨fun _ _ => eqC_mpB, ?_⟩)
        have e0 : (k : Int).toNat + 0 = k := by omega
        rw [e0]
        exact ⟨fun j hj => hx _ j, rfl, fun j hj => hx _ j, by (repeat first | exact trivial | refine ⟨rfl, ?_⟩ | refine ⟨fun _ _ => ⟨rfl, trivial⟩, ?_⟩ | refine ⟨fun _ _ => trivial, ?_⟩ | refine ⟨by omega, ?_⟩ | refine ⟨fun _ _ => eqC_winS, ?_⟩ | refine ⟨fun _ _ => eqC_winM, ?_⟩ | refine ⟨fun _ _ => eqC_winB, ?_⟩ | refine ⟨fun _ _ => eqC_selfB, ?_⟩ | refine ⟨fun _ _ => eqC_mpB, ?_⟩)⟩
    · obtain rfl : k = 64 := by have : ¬ (k : Int) < 64 := of_decide_eq_false h; have hk : k ≤ 64 := hk; omega
      obtain ⟨IN, hIN⟩ : ∃ IN, padL 0x36#8 K = IN := ⟨_, rfl⟩
      obtain ⟨OU, hOU⟩ : ∃ OU, padL 0x5c#8 K = OU := ⟨_, rfl⟩
      have hINl : IN.length = 64 := by rw [← hIN, padL_len]
      have hOUl : OU.length = 64 := by rw [← hOU, padL_len]
      have hINi : ∀ i, i < 64 → (if i < 64 then L K i ^^^ 0x36#8 else 0#8) = L IN i := fun i hi => by rw [if_pos hi, ← hIN]; exact (L_tab (b := fun i => L K i ^^^ 0x36#8) hi).symm
      have hOUi : ∀ i, i < 64 → (if i < 64 then L K i ^^^ 0x5c#8 else 0#8) = L OU i := fun i hi => by rw [if_pos hi, ← hOU]; exact (L_tab (b := fun i => L K i ^^^ 0x5c#8) hi).symm
      have hml : markL key b = sumL (OU ++ sumL (IN ++ b)) := by unfold markL; rw [hK, hIN, hOU]
      (repeat first | refine And.intro (by omega) ?_ | refine And.intro (by decide) ?_ | (with_reducible refine frc_parts (by first | omega | decide) ?_) | (with_reducible refine frc_bytesL (by first | omega | decide) ?_) | refine And.intro rfl ?_)
      refine sn_bts (N := Nb) (b := L b) ?_ hNb (fun h => by rw [hzb h]; rfl) (fun g hg => ?_)
      · rfl
      refine ⟨⟨by omega, by simp only [scale]; omega, by show _ * 1 ≤ _; omega⟩, fun c1 hc1 => ?_⟩
      have hr1 : ∀ i, i < (IN ++ b).length → appF (fun i => SC.w8 (if i < 64 then L K i ^^^ 0x36#8 else 0#8)) 0 (scale 64 (0 + 1)) (scale b.length (0 + 1)) g i = .w8 (L (IN ++ b) i) := fun i hi => by
        rw [List.length_append, hINl] at hi
        unfold appF
        by_cases h64 : i < 64
        · rw [if_pos (by simpa [scale] using h64)]
          exact congrArg SC.w8 ((hINi i h64).trans (L_app1 (by omega)).symm)
        · rw [if_neg (by simpa [scale] using h64), if_pos (by simp only [scale]; omega), show scale 64 (0 + 1) = 64 from rfl, hg _ (by omega), L_app, if_neg (by omega), hINl]
      refine ⟨by kernel_rfl, call_same (fn_rsum false c1 0 c1 (IN ++ b) (by rw [List.length_append]; omega) (by rw [List.length_append]; omega) (fun h => Bool.noConfusion h) (by rw [List.length_append]; omega)) [5] rfl ⟨rfl, rfl, ?_, rfl, trivial⟩ ?_ (fun _ _ => trivial) ?_⟩
      · rw [List.length_append, hINl]
      · exact ⟨rfl, fun j hj => eqC_win0 hr1 j, trivial⟩
      rintro x hs ⟨c2, rfl, rfl, hc2⟩
      obtain ⟨S, hS⟩ : ∃ S, sumL (IN ++ b) = S := ⟨_, rfl⟩
      have hSl : S.length = 32 := by rw [← hS, sumL_len]
      rw [hS] at hml
      rw [hS]
      refine ⟨by simp only [scale]; omega, ⟨by omega, by simp only [scale]; omega, by show _ * 1 ≤ _; omega⟩, fun c3 hc3 => ?_⟩
      have hr2 : ∀ i, i < (OU ++ S).length → appF (fun i => SC.w8 (if i < 64 then L K i ^^^ 0x5c#8 else 0#8)) 0 (scale 64 (0 + 1)) (scale 32 (0 + 1)) (fun q => SC.mp (bk 6 [5]) (bytesF 32 (L S) (q + 0))) i = .w8 (L (OU ++ S) i) := fun i hi => by
        rw [List.length_append, hOUl, hSl] at hi
        unfold appF
        by_cases h64 : i < 64
        · rw [if_pos (by simpa [scale] using h64)]
          exact congrArg SC.w8 ((hOUi i h64).trans (L_app1 (by omega)).symm)
        · rw [if_neg (by simpa [scale] using h64), if_pos (by simp only [scale]; omega), show scale 64 (0 + 1) = 64 from rfl, L_app, if_neg (by omega), hOUl]
          show SC.mp _ (bytesF 32 (L S) (i - 64)) = _
          rw [bytesF_lt (by omega)]
          rfl
      refine ⟨by kernel_rfl, call_same (fn_rsum false c3 0 c3 (OU ++ S) (by rw [List.length_append]; omega) (by rw [List.length_append]; omega) (fun h => Bool.noConfusion h) (by rw [List.length_append]; omega)) [7] rfl ⟨rfl, rfl, ?_, rfl, trivial⟩ ?_ (fun _ _ => trivial) ?_⟩
      · rw [List.length_append, hOUl, hSl]
      · exact ⟨rfl, fun j hj => eqC_win0 hr2 j, trivial⟩
      rintro x hs ⟨c4, rfl, rfl, hc4⟩
      refine ⟨.a (.c (.sl 2 0 0 32 c4)), [bts false Nk ok key.length (L key), bts zb Nb ob b.length (L b), [.row c4 (bytesF 32 (L (markL key b)))]], ⟨[0, 1, 8], ⟨rfl, rfl, rfl⟩, ?_⟩, c4, rfl, rfl, hc4⟩
      rw [hml]
      (repeat first | exact trivial | refine ⟨rfl, ?_⟩ | refine ⟨fun _ _ => ⟨rfl, trivial⟩, ?_⟩ | refine ⟨fun _ _ => trivial, ?_⟩ | refine ⟨by omega, ?_⟩ | refine ⟨fun _ _ => eqC_winS, ?_⟩ | refine ⟨fun _ _ => eqC_winM, ?_⟩ | refine ⟨fun _ _ => eqC_winB, ?_⟩ | refine ⟨fun _ _ => eqC_selfB, ?_⟩ | refine ⟨fun _ _ => eqC_mpB, ?_⟩)
      refine eqC_bts ?_
      (repeat first | exact trivial | refine ⟨rfl, ?_⟩ | refine ⟨fun _ _ => ⟨rfl, trivial⟩, ?_⟩ | refine ⟨fun _ _ => trivial, ?_⟩ | refine ⟨by omega, ?_⟩ | refine ⟨fun _ _ => eqC_winS, ?_⟩ | refine ⟨fun _ _ => eqC_winM, ?_⟩ | refine ⟨fun _ _ => eqC_winB, ?_⟩ | refine ⟨fun _ _ => eqC_selfB, ?_⟩ | refine ⟨fun _ _ => eqC_mpB, ?_⟩)
  refine ⟨fun h => absurd (of_decide_eq_true h) (by omega), fun _ => ?_⟩
  obtain rfl : key = K := by rw [← hK]; unfold keyL; rw [if_neg hlen]
  cases zk with
  | true =>
    obtain rfl := hzk rfl
    refine ⟨none, [0, 1], [(0, false), (2, true), (1, false), (3, true)], [], by kernel_rfl, ?_⟩
    (repeat first | refine And.intro (by omega) ?_ | refine And.intro (by decide) ?_ | (with_reducible refine frc_parts (by first | omega | decide) ?_) | (with_reducible refine frc_bytesL (by first | omega | decide) ?_) | refine And.intro rfl ?_)
    refine .inl ⟨Nat, fun k => ⟨[.a (.c (.sn true 0 0 ok 0 ck)), .a (.c (.sn zb 1 0 ob b.length cb)), .any, .any, .any, .a (.c (.sl 2 0 0 64 64)), .a (.c (.sl 3 0 0 64 64)), .a (.c (.int .i64 (↑k))), .any, .any, .any, .any, .any, .any, .any, .any, .any, .any, .any, .any, .any, .any, .any, .any, .any, .any, .any, .any, .any, .any, .any, .any, .any, .any, .any, .any, .any, .any, .any, .any, .any, .any, .any, .any, .any], [bts true Nk ok ([] : Bs).length (L ([] : Bs)), bts zb Nb ob b.length (L b), [.row 64 fun i => .w8 (if i < k then L ([] : Bs) i ^^^ 0x36#8 else 0#8)], [.row 64 fun i => .w8 (if i < k then L ([] : Bs) i ^^^ 0x5c#8 else 0#8)]]⟩,
      fun k => k ≤ 64, fun k => 64 - k, ⟨0, [0, 1, 2, 3], ⟨⟨rfl, rfl, rfl⟩, ?_⟩, by omega⟩, fun k hk => ⟨fun h => ?_, fun h => ?_⟩⟩
    · (repeat first | exact trivial | refine ⟨rfl, ?_⟩ | refine ⟨fun _ _ => ⟨rfl, trivial⟩, ?_⟩ | refine ⟨fun _ _ => trivial, ?_⟩ | refine ⟨by omega, ?_⟩ | refine ⟨fun _ _ => eqC_winS, ?_⟩ | refine ⟨fun _ _ => eqC_winM, ?_⟩ | refine ⟨fun _ _ => eqC_winB, ?_⟩ | refine ⟨fun _ _ => eqC_selfB, ?_⟩ | refine ⟨fun _ _ => eqC_mpB, ?_⟩)
      refine eqC_bts (eqC_bts ?_)
      (repeat first | exact trivial | refine ⟨rfl, ?_⟩ | refine ⟨fun _ _ => ⟨rfl, trivial⟩, ?_⟩ | refine ⟨fun _ _ => trivial, ?_⟩ | refine ⟨by omega, ?_⟩ | refine ⟨fun _ _ => eqC_winS, ?_⟩ | refine ⟨fun _ _ => eqC_winM, ?_⟩ | refine ⟨fun _ _ => eqC_winB, ?_⟩ | refine ⟨fun _ _ => eqC_selfB, ?_⟩ | refine ⟨fun _ _ => eqC_mpB, ?_⟩)
    · have hlt : (k : Int) < 64 := of_decide_eq_true h
      have hx : ∀ (x : BitVec 8) (j : Nat), eqC [0, 1, 2, 3] (upd (fun i => SC.w8 (if i < k then L ([] : Bs) i ^^^ x else 0#8)) k (.w8 (L ([] : Bs) k ^^^ x)) j) (.w8 (if j < k + 1 then L ([] : Bs) j ^^^ x else 0#8)) True := fun x j => by
        unfold upd
        by_cases hj : j = k
        · rw [if_pos hj, hj, if_pos (by omega)]; exact ⟨rfl, trivial⟩
        · have : j < k + 1 ↔ j < k := by omega
          rw [if_neg hj]; simp only [this]; exact ⟨rfl, trivial⟩
      refine ⟨fun h2 => ?_, fun h2 => ?_⟩
      · have hkl : (k : Int) < ((0 : Nat) : Int) := of_decide_eq_true h2
        exact absurd hkl (by omega)
      · have hkl : ¬ (k : Int) < ((0 : Nat) : Int) := of_decide_eq_false h2
        have hz0 : L ([] : Bs) k = 0#8 := L_over (by first | omega | simp)
        rw [hz0] at hx
        (repeat first | refine And.intro (by omega) ?_ | refine And.intro (by decide) ?_ | (with_reducible refine frc_parts (by first | omega | decide) ?_) | (with_reducible refine frc_bytesL (by first | omega | decide) ?_) | refine And.intro rfl ?_)
        refine ⟨k + 1, [0, 1, 2, 3], ⟨⟨rfl, rfl, rfl⟩, ?_⟩, by first | omega | (dsimp only; omega), by first | omega | (dsimp only; omega)⟩
        (repeat first | exact trivial | refine ⟨rfl, ?_⟩ | refine ⟨fun _ _ => ⟨rfl, trivial⟩, ?_⟩ | refine ⟨fun _ _ => trivial, ?_⟩ | refine ⟨by omega, ?_⟩ | refine ⟨fun _ _ => eqC_winS, ?_⟩ | refine ⟨fun _ _ => eqC_winM, ?_⟩ | refine ⟨fun _ _ => eqC_winB, ?_⟩ | refine ⟨fun _ _ => eqC_selfB, ?_⟩ | refine ⟨fun _ _ => eqC_mpB, ?_⟩)
        refine eqC_bts (eqC_bts ?_)
        (repeat first | exact trivial | refine ⟨rfl, ?_⟩ | refine ⟨fun _ _ => ⟨rfl, trivial⟩, ?_⟩ | refine ⟨fun _ _ => trivial, ?_⟩ | refine ⟨by omega, ?_⟩ | refine ⟨fun _ _ => eqC_winS, ?_⟩ | refine ⟨fun _ _ => eqC_winM, ?_⟩ | refine ⟨fun _ _ => eqC_winB, ?_⟩ | refine ⟨fun _ _ => eqC_selfB, ?_⟩ | refine ⟨fun _ _ => eqC_mpB, ?_⟩)
        have e0 : (k : Int).toNat + 0 = k := by omega
        rw [e0]
        exact ⟨fun j hj => hx _ j, rfl, fun j hj => hx _ j, by (repeat first | exact trivial | refine ⟨rfl, ?_⟩ | refine ⟨fun _ _ => ⟨rfl, trivial⟩, ?_⟩ | refine ⟨fun _ _ => trivial, ?_⟩ | refine ⟨by omega, ?_⟩ | refine ⟨fun _ _ => eqC_winS, ?_⟩ | refine ⟨fun _ _ => eqC_winM, ?_⟩ | refine ⟨fun _ _ => eqC_winB, ?_⟩ | refine ⟨fun _ _ => eqC_selfB, ?_⟩ | refine ⟨fun _ _ => eqC_mpB, ?_⟩)⟩
    · obtain rfl : k = 64 := by have : ¬ (k : Int) < 64 := of_decide_eq_false h; have hk : k ≤ 64 := hk; omega
      obtain ⟨IN, hIN⟩ : ∃ IN, padL 0x36#8 ([] : Bs) = IN := ⟨_, rfl⟩
      obtain ⟨OU, hOU⟩ : ∃ OU, padL 0x5c#8 ([] : Bs) = OU := ⟨_, rfl⟩
      have hINl : IN.length = 64 := by rw [← hIN, padL_len]
      have hOUl : OU.length = 64 := by rw [← hOU, padL_len]
      have hINi : ∀ i, i < 64 → (if i < 64 then L ([] : Bs) i ^^^ 0x36#8 else 0#8) = L IN i := fun i hi => by rw [if_pos hi, ← hIN]; exact (L_tab (b := fun i => L ([] : Bs) i ^^^ 0x36#8) hi).symm
      have hOUi : ∀ i, i < 64 → (if i < 64 then L ([] : Bs) i ^^^ 0x5c#8 else 0#8) = L OU i := fun i hi => by rw [if_pos hi, ← hOU]; exact (L_tab (b := fun i => L ([] : Bs) i ^^^ 0x5c#8) hi).symm
      have hml : markL ([] : Bs) b = sumL (OU ++ sumL (IN ++ b)) := by unfold markL; rw [hK, hIN, hOU]
      (repeat first | refine And.intro (by omega) ?_ | refine And.intro (by decide) ?_ | (with_reducible refine frc_parts (by first | omega | decide) ?_) | (with_reducible refine frc_bytesL (by first | omega | decide) ?_) | refine And.intro rfl ?_)
      refine sn_bts (N := Nb) (b := L b) ?_ hNb (fun h => by rw [hzb h]; rfl) (fun g hg => ?_)
      · rfl
      refine ⟨⟨by omega, by simp only [scale]; omega, by show _ * 1 ≤ _; omega⟩, fun c1 hc1 => ?_⟩
      have hr1 : ∀ i, i < (IN ++ b).length → appF (fun i => SC.w8 (if i < 64 then L ([] : Bs) i ^^^ 0x36#8 else 0#8)) 0 (scale 64 (0 + 1)) (scale b.length (0 + 1)) g i = .w8 (L (IN ++ b) i) := fun i hi => by
        rw [List.length_append, hINl] at hi
        unfold appF
        by_cases h64 : i < 64
        · rw [if_pos (by simpa [scale] using h64)]
          exact congrArg SC.w8 ((hINi i h64).trans (L_app1 (by omega)).symm)
        · rw [if_neg (by simpa [scale] using h64), if_pos (by simp only [scale]; omega), show scale 64 (0 + 1) = 64 from rfl, hg _ (by omega), L_app, if_neg (by omega), hINl]
      refine ⟨by kernel_rfl, call_same (fn_rsum false c1 0 c1 (IN ++ b) (by rw [List.length_append]; omega) (by rw [List.length_append]; omega) (fun h => Bool.noConfusion h) (by rw [List.length_append]; omega)) [4] rfl ⟨rfl, rfl, ?_, rfl, trivial⟩ ?_ (fun _ _ => trivial) ?_⟩
      · rw [List.length_append, hINl]
      · exact ⟨rfl, fun j hj => eqC_win0 hr1 j, trivial⟩
      rintro x hs ⟨c2, rfl, rfl, hc2⟩
      obtain ⟨S, hS⟩ : ∃ S, sumL (IN ++ b) = S := ⟨_, rfl⟩
      have hSl : S.length = 32 := by rw [← hS, sumL_len]
      rw [hS] at hml
      rw [hS]
      refine ⟨by simp only [scale]; omega, ⟨by omega, by simp only [scale]; omega, by show _ * 1 ≤ _; omega⟩, fun c3 hc3 => ?_⟩
      have hr2 : ∀ i, i < (OU ++ S).length → appF (fun i => SC.w8 (if i < 64 then L ([] : Bs) i ^^^ 0x5c#8 else 0#8)) 0 (scale 64 (0 + 1)) (scale 32 (0 + 1)) (fun q => SC.mp (bk 5 [4]) (bytesF 32 (L S) (q + 0))) i = .w8 (L (OU ++ S) i) := fun i hi => by
        rw [List.length_append, hOUl, hSl] at hi
        unfold appF
        by_cases h64 : i < 64
        · rw [if_pos (by simpa [scale] using h64)]
          exact congrArg SC.w8 ((hOUi i h64).trans (L_app1 (by omega)).symm)
        · rw [if_neg (by simpa [scale] using h64), if_pos (by simp only [scale]; omega), show scale 64 (0 + 1) = 64 from rfl, L_app, if_neg (by omega), hOUl]
          show SC.mp _ (bytesF 32 (L S) (i - 64)) = _
          rw [bytesF_lt (by omega)]
          rfl
      refine ⟨by kernel_rfl, call_same (fn_rsum false c3 0 c3 (OU ++ S) (by rw [List.length_append]; omega) (by rw [List.length_append]; omega) (fun h => Bool.noConfusion h) (by rw [List.length_append]; omega)) [6] rfl ⟨rfl, rfl, ?_, rfl, trivial⟩ ?_ (fun _ _ => trivial) ?_⟩
      · rw [List.length_append, hOUl, hSl]
      · exact ⟨rfl, fun j hj => eqC_win0 hr2 j, trivial⟩
      rintro x hs ⟨c4, rfl, rfl, hc4⟩
      refine ⟨.a (.c (.sl 2 0 0 32 c4)), [bts true Nk ok ([] : Bs).length (L ([] : Bs)), bts zb Nb ob b.length (L b), [.row c4 (bytesF 32 (L (markL ([] : Bs) b)))]], ⟨[0, 1, 7], ⟨rfl, rfl, rfl⟩, ?_⟩, c4, rfl, rfl, hc4⟩
      rw [hml]
      (repeat first | exact trivial | refine ⟨rfl, ?_⟩ | refine ⟨fun _ _ => ⟨rfl, trivial⟩, ?_⟩ | refine ⟨fun _ _ => trivial, ?_⟩ | refine ⟨by omega, ?_⟩ | refine ⟨fun _ _ => eqC_winS, ?_⟩ | refine ⟨fun _ _ => eqC_winM, ?_⟩ | refine ⟨fun _ _ => eqC_winB, ?_⟩ | refine ⟨fun _ _ => eqC_selfB, ?_⟩ | refine ⟨fun _ _ => eqC_mpB, ?_⟩)
      refine eqC_bts (eqC_bts ?_)
      (repeat first | exact trivial | refine ⟨rfl, ?_⟩ | refine ⟨fun _ _ => ⟨rfl, trivial⟩, ?_⟩ | refine ⟨fun _ _ => trivial, ?_⟩ | refine ⟨by omega, ?_⟩ | refine ⟨fun _ _ => eqC_winS, ?_⟩ | refine ⟨fun _ _ => eqC_winM, ?_⟩ | refine ⟨fun _ _ => eqC_winB, ?_⟩ | refine ⟨fun _ _ => eqC_selfB, ?_⟩ | refine ⟨fun _ _ => eqC_mpB, ?_⟩)
  | false =>
    refine ⟨none, [0, 1], [(0, false), (2, true), (1, false), (3, true)], [], by kernel_rfl, ?_⟩
    (repeat first | refine And.intro (by omega) ?_ | refine And.intro (by decide) ?_ | (with_reducible refine frc_parts (by first | omega | decide) ?_) | (with_reducible refine frc_bytesL (by first | omega | decide) ?_) | refine And.intro rfl ?_)
    refine .inl ⟨Nat, fun k => ⟨[.a (.c (.sn false 0 0 ok key.length ck)), .a (.c (.sn zb 1 0 ob b.length cb)), .any, .any, .any, .a (.c (.sl 2 0 0 64 64)), .a (.c (.sl 3 0 0 64 64)), .a (.c (.int .i64 (↑k))), .any, .any, .any, .any, .any, .any, .any, .any, .any, .any, .any, .any, .any, .any, .any, .any, .any, .any, .any, .any, .any, .any, .any, .any, .any, .any, .any, .any, .any, .any, .any, .any, .any, .any, .any, .any, .any], [bts false Nk ok key.length (L key), bts zb Nb ob b.length (L b), [.row 64 fun i => .w8 (if i < k then L key i ^^^ 0x36#8 else 0#8)], [.row 64 fun i => .w8 (if i < k then L key i ^^^ 0x5c#8 else 0#8)]]⟩,
      fun k => k ≤ 64, fun k => 64 - k, ⟨0, [0, 1, 2, 3], ⟨⟨rfl, rfl, rfl⟩, ?_⟩, by omega⟩, fun k hk => ⟨fun h => ?_, fun h => ?_⟩⟩
    · (repeat first | exact trivial | refine ⟨rfl, ?_⟩ | refine ⟨fun _ _ => ⟨rfl, trivial⟩, ?_⟩ | refine ⟨fun _ _ => trivial, ?_⟩ | refine ⟨by omega, ?_⟩ | refine ⟨fun _ _ => eqC_winS, ?_⟩ | refine ⟨fun _ _ => eqC_winM, ?_⟩ | refine ⟨fun _ _ => eqC_winB, ?_⟩ | refine ⟨fun _ _ => eqC_selfB, ?_⟩ | refine ⟨fun _ _ => eqC_mpB, ?_⟩)
      refine eqC_bts ?_
      (repeat first | exact trivial | refine ⟨rfl, ?_⟩ | refine ⟨fun _ _ => ⟨rfl, trivial⟩, ?_⟩ | refine ⟨fun _ _ => trivial, ?_⟩ | refine ⟨by omega, ?_⟩ | refine ⟨fun _ _ => eqC_winS, ?_⟩ | refine ⟨fun _ _ => eqC_winM, ?_⟩ | refine ⟨fun _ _ => eqC_winB, ?_⟩ | refine ⟨fun _ _ => eqC_selfB, ?_⟩ | refine ⟨fun _ _ => eqC_mpB, ?_⟩)
    · have hlt : (k : Int) < 64 := of_decide_eq_true h
      have hx : ∀ (x : BitVec 8) (j : Nat), eqC [0, 1, 2, 3] (upd (fun i => SC.w8 (if i < k then L key i ^^^ x else 0#8)) k (.w8 (L key k ^^^ x)) j) (.w8 (if j < k + 1 then L key j ^^^ x else 0#8)) True := fun x j => by
        unfold upd
        by_cases hj : j = k
        · rw [if_pos hj, hj, if_pos (by omega)]; exact ⟨rfl, trivial⟩
        · have : j < k + 1 ↔ j < k := by omega
          rw [if_neg hj]; simp only [this]; exact ⟨rfl, trivial⟩
      refine ⟨fun h2 => ?_, fun h2 => ?_⟩
      · have hkl : (k : Int) < ((key.length : Nat) : Int) := of_decide_eq_true h2
        (repeat first | refine And.intro (by omega) ?_ | refine And.intro (by decide) ?_ | (with_reducible refine frc_parts (by first | omega | decide) ?_) | (with_reducible refine frc_bytesL (by first | omega | decide) ?_) | refine And.intro rfl ?_)
        have ew : ok + k = ok + k := rfl
        refine frc_win (show k < key.length by omega) ?_
        (repeat first | refine And.intro (by omega) ?_ | refine And.intro (by decide) ?_ | (with_reducible refine frc_parts (by first | omega | decide) ?_) | (with_reducible refine frc_bytesL (by first | omega | decide) ?_) | refine And.intro rfl ?_)
        refine ⟨k + 1, [0, 1, 2, 3], ⟨⟨rfl, rfl, rfl⟩, ?_⟩, by first | omega | (dsimp only; omega), by first | omega | (dsimp only; omega)⟩
        (repeat first | exact trivial | refine ⟨rfl, ?_⟩ | refine ⟨fun _ _ => ⟨rfl, trivial⟩, ?_⟩ | refine ⟨fun _ _ => trivial, ?_⟩ | refine ⟨by omega, ?_⟩ | refine ⟨fun _ _ => eqC_winS, ?_⟩ | refine ⟨fun _ _ => eqC_winM, ?_⟩ | refine ⟨fun _ _ => eqC_winB, ?_⟩ | refine ⟨fun _ _ => eqC_selfB, ?_⟩ | refine ⟨fun _ _ => eqC_mpB, ?_⟩)
        refine eqC_bts ?_
        (repeat first | exact trivial | refine ⟨rfl, ?_⟩ | refine ⟨fun _ _ => ⟨rfl, trivial⟩, ?_⟩ | refine ⟨fun _ _ => trivial, ?_⟩ | refine ⟨by omega, ?_⟩ | refine ⟨fun _ _ => eqC_winS, ?_⟩ | refine ⟨fun _ _ => eqC_winM, ?_⟩ | refine ⟨fun _ _ => eqC_winB, ?_⟩ | refine ⟨fun _ _ => eqC_selfB, ?_⟩ | refine ⟨fun _ _ => eqC_mpB, ?_⟩)
        have e0 : (k : Int).toNat + 0 = k := by omega
        rw [e0]
        exact ⟨fun j hj => hx _ j, rfl, fun j hj => hx _ j, by (repeat first | exact trivial | refine ⟨rfl, ?_⟩ | refine ⟨fun _ _ => ⟨rfl, trivial⟩, ?_⟩ | refine ⟨fun _ _ => trivial, ?_⟩ | refine ⟨by omega, ?_⟩ | refine ⟨fun _ _ => eqC_winS, ?_⟩ | refine ⟨fun _ _ => eqC_winM, ?_⟩ | refine ⟨fun _ _ => eqC_winB, ?_⟩ | refine ⟨fun _ _ => eqC_selfB, ?_⟩ | refine ⟨fun _ _ => eqC_mpB, ?_⟩)⟩
      · have hkl : ¬ (k : Int) < ((key.length : Nat) : Int) := of_decide_eq_false h2
        have hz0 : L key k = 0#8 := L_over (by first | omega | simp)
        rw [hz0] at hx
        (repeat first | refine And.intro (by omega) ?_ | refine And.intro (by decide) ?_ | (with_reducible refine frc_parts (by first | omega | decide) ?_) | (with_reducible refine frc_bytesL (by first | omega | decide) ?_) | refine And.intro rfl ?_)
        refine ⟨k + 1, [0, 1, 2, 3], ⟨⟨rfl, rfl, rfl⟩, ?_⟩, by first | omega | (dsimp only; omega), by first | omega | (dsimp only; omega)⟩
        (repeat first | exact trivial | refine ⟨rfl, ?_⟩ | refine ⟨fun _ _ => ⟨rfl, trivial⟩, ?_⟩ | refine ⟨fun _ _ => trivial, ?_⟩ | refine ⟨by omega, ?_⟩ | refine ⟨fun _ _ => eqC_winS, ?_⟩ | refine ⟨fun _ _ => eqC_winM, ?_⟩ | refine ⟨fun _ _ => eqC_winB, ?_⟩ | refine ⟨fun _ _ => eqC_selfB, ?_⟩ | refine ⟨fun _ _ => eqC_mpB, ?_⟩)
        refine eqC_bts ?_
        (repeat first | exact trivial | refine ⟨rfl, ?_⟩ | refine ⟨fun _ _ => ⟨rfl, trivial⟩, ?_⟩ | refine ⟨fun _ _ => trivial, ?_⟩ | refine ⟨by omega, ?_⟩ | refine ⟨fun _ _ => eqC_winS, ?_⟩ | refine ⟨fun _ _ => eqC_winM, ?_⟩ | refine ⟨fun _ _ => eqC_winB, ?_⟩ | refine ⟨fun _ _ => eqC_selfB, ?_⟩ | refine ⟨fun _ _ => eqC_mpB, ?_⟩)
        have e0 : (k : Int).toNat + 0 = k := by omega
        rw [e0]
        exact ⟨fun j hj => hx _ j, rfl, fun j hj => hx _ j, by (repeat first | exact trivial | refine ⟨rfl, ?_⟩ | refine ⟨fun _ _ => ⟨rfl, trivial⟩, ?_⟩ | refine ⟨fun _ _ => trivial, ?_⟩ | refine ⟨by omega, ?_⟩ | refine ⟨fun _ _ => eqC_winS, ?_⟩ | refine ⟨fun _ _ => eqC_winM, ?_⟩ | refine ⟨fun _ _ => eqC_winB, ?_⟩ | refine ⟨fun _ _ => eqC_selfB, ?_⟩ | refine ⟨fun _ _ => eqC_mpB, ?_⟩)⟩
    · obtain rfl : k = 64 := by have : ¬ (k : Int) < 64 := of_decide_eq_false h; have hk : k ≤ 64 := hk; omega
      obtain ⟨IN, hIN⟩ : ∃ IN, padL 0x36#8 key = IN := ⟨_, rfl⟩
      obtain ⟨OU, hOU⟩ : ∃ OU, padL 0x5c#8 key = OU := ⟨_, rfl⟩
      have hINl : IN.length = 64 := by rw [← hIN, padL_len]
      have hOUl : OU.length = 64 := by rw [← hOU, padL_len]
      have hINi : ∀ i, i < 64 → (if i < 64 then L key i ^^^ 0x36#8 else 0#8) = L IN i := fun i hi => by rw [if_pos hi, ← hIN]; exact (L_tab (b := fun i => L key i ^^^ 0x36#8) hi).symm
      have hOUi : ∀ i, i < 64 → (if i < 64 then L key i ^^^ 0x5c#8 else 0#8) = L OU i := fun i hi => by rw [if_pos hi, ← hOU]; exact (L_tab (b := fun i => L key i ^^^ 0x5c#8) hi).symm
      have hml : markL key b = sumL (OU ++ sumL (IN ++ b)) := by unfold markL; rw [hK, hIN, hOU]
      (repeat first | refine And.intro (by omega) ?_ | refine And.intro (by decide) ?_ | (with_reducible refine frc_parts (by first | omega | decide) ?_) | (with_reducible refine frc_bytesL (by first | omega | decide) ?_) | refine And.intro rfl ?_)
      refine sn_bts (N := Nb) (b := L b) ?_ hNb (fun h => by rw [hzb h]; rfl) (fun g hg => ?_)
      · rfl
      refine ⟨⟨by omega, by simp only [scale]; omega, by show _ * 1 ≤ _; omega⟩, fun c1 hc1 => ?_⟩
      have hr1 : ∀ i, i < (IN ++ b).length → appF (fun i => SC.w8 (if i < 64 then L key i ^^^ 0x36#8 else 0#8)) 0 (scale 64 (0 + 1)) (scale b.length (0 + 1)) g i = .w8 (L (IN ++ b) i) := fun i hi => by
        rw [List.length_append, hINl] at hi
        unfold appF
        by_cases h64 : i < 64
        · rw [if_pos (by simpa [scale] using h64)]
          exact congrArg SC.w8 ((hINi i h64).trans (L_app1 (by omega)).symm)
        · rw [if_neg (by simpa [scale] using h64), if_pos (by simp only [scale]; omega), show scale 64 (0 + 1) = 64 from rfl, hg _ (by omega), L_app, if_neg (by omega), hINl]
      refine ⟨by kernel_rfl, call_same (fn_rsum false c1 0 c1 (IN ++ b) (by rw [List.length_append]; omega) (by rw [List.length_append]; omega) (fun h => Bool.noConfusion h) (by rw [List.length_append]; omega)) [4] rfl ⟨rfl, rfl, ?_, rfl, trivial⟩ ?_ (fun _ _ => trivial) ?_⟩
      · rw [List.length_append, hINl]
      · exact ⟨rfl, fun j hj => eqC_win0 hr1 j, trivial⟩
      rintro x hs ⟨c2, rfl, rfl, hc2⟩
      obtain ⟨S, hS⟩ : ∃ S, sumL (IN ++ b) = S := ⟨_, rfl⟩
      have hSl : S.length = 32 := by rw [← hS, sumL_len]
      rw [hS] at hml
      rw [hS]
      refine ⟨by simp only [scale]; omega, ⟨by omega, by simp only [scale]; omega, by show _ * 1 ≤ _; omega⟩, fun c3 hc3 => ?_⟩
      have hr2 : ∀ i, i < (OU ++ S).length → appF (fun i => SC.w8 (if i < 64 then L key i ^^^ 0x5c#8 else 0#8)) 0 (scale 64 (0 + 1)) (scale 32 (0 + 1)) (fun q => SC.mp (bk 5 [4]) (bytesF 32 (L S) (q + 0))) i = .w8 (L (OU ++ S) i) := fun i hi => by
        rw [List.length_append, hOUl, hSl] at hi
        unfold appF
        by_cases h64 : i < 64
        · rw [if_pos (by simpa [scale] using h64)]
          exact congrArg SC.w8 ((hOUi i h64).trans (L_app1 (by omega)).symm)
        · rw [if_neg (by simpa [scale] using h64), if_pos (by simp only [scale]; omega), show scale 64 (0 + 1) = 64 from rfl, L_app, if_neg (by omega), hOUl]
          show SC.mp _ (bytesF 32 (L S) (i - 64)) = _
          rw [bytesF_lt (by omega)]
          rfl
      refine ⟨by kernel_rfl, call_same (fn_rsum false c3 0 c3 (OU ++ S) (by rw [List.length_append]; omega) (by rw [List.length_append]; omega) (fun h => Bool.noConfusion h) (by rw [List.length_append]; omega)) [6] rfl ⟨rfl, rfl, ?_, rfl, trivial⟩ ?_ (fun _ _ => trivial) ?_⟩
      · rw [List.length_append, hOUl, hSl]
      · exact ⟨rfl, fun j hj => eqC_win0 hr2 j, trivial⟩
      rintro x hs ⟨c4, rfl, rfl, hc4⟩
      refine ⟨.a (.c (.sl 2 0 0 32 c4)), [bts false Nk ok key.length (L key), bts zb Nb ob b.length (L b), [.row c4 (bytesF 32 (L (markL key b)))]], ⟨[0, 1, 7], ⟨rfl, rfl, rfl⟩, ?_⟩, c4, rfl, rfl, hc4⟩
      rw [hml]
      (repeat first | exact trivial | refine ⟨rfl, ?_⟩ | refine ⟨fun _ _ => ⟨rfl, trivial⟩, ?_⟩ | refine ⟨fun _ _ => trivial, ?_⟩ | refine ⟨by omega, ?_⟩ | refine ⟨fun _ _ => eqC_winS, ?_⟩ | refine ⟨fun _ _ => eqC_winM, ?_⟩ | refine ⟨fun _ _ => eqC_winB, ?_⟩ | refine ⟨fun _ _ => eqC_selfB, ?_⟩ | refine ⟨fun _ _ => eqC_mpB, ?_⟩)
      refine eqC_bts ?_
      (repeat first | exact trivial | refine ⟨rfl, ?_⟩ | refine ⟨fun _ _ => ⟨rfl, trivial⟩, ?_⟩ | refine ⟨fun _ _ => trivial, ?_⟩ | refine ⟨by omega, ?_⟩ | refine ⟨fun _ _ => eqC_winS, ?_⟩ | refine ⟨fun _ _ => eqC_winM, ?_⟩ | refine ⟨fun _ _ => eqC_winB, ?_⟩ | refine ⟨fun _ _ => eqC_selfB, ?_⟩ | refine ⟨fun _ _ => eqC_mpB, ?_⟩)
end Sx
end Go.Proofs.Ytndlhhhebijknaa
end

section
/-
  SHA-256 reckoned by the kernel: the same sums, each word made whole before it is used. Plain. No condition.
-/
namespace Go.Proofs.Ytndlhhhebijknaa
set_option linter.unusedVariables false
namespace Sha
section
variable {α : Sort _}
def frcE (n : Nat) (k : Nat → α) : α := match n with
  | 0 => k 0
  | m + 1 => k (m + 1)
theorem frcE_eq (n : Nat) (k : Nat → α) : frcE n k = k n := by cases n <;> rfl
def frcW (x : BitVec 32) (k : BitVec 32 → α) : α := frcE x.toNat fun n => k (BitVec.ofNat 32 n)
theorem frcW_eq (x : BitVec 32) (k : BitVec 32 → α) : frcW x k = k x := by unfold frcW; rw [frcE_eq, BitVec.ofNat_toNat, BitVec.setWidth_eq]
def frc8 (x : BitVec 8) (k : BitVec 8 → α) : α := frcE x.toNat fun n => k (BitVec.ofNat 8 n)
theorem frc8_eq (x : BitVec 8) (k : BitVec 8 → α) : frc8 x k = k x := by unfold frc8; rw [frcE_eq, BitVec.ofNat_toNat, BitVec.setWidth_eq]
/-- n bytes, each made whole. -/
def tabK (b : Nat → BitVec 8) : Nat → Nat → (Bs → α) → α
  | 0, _, k => k []
  | n + 1, i, k => frc8 (b i) fun x => tabK b n (i + 1) fun l => k (x :: l)
theorem tabK_eq' (b : Nat → BitVec 8) : ∀ (n i : Nat) (k : Bs → α), tabK b n i k = k (tab n fun j => b (i + j))
  | 0, _, _ => rfl
  | n + 1, i, k => by
    simp only [tabK]
    rw [frc8_eq, tabK_eq']
    congr 1
    unfold tab
    rw [List.range_succ_eq_map]
    simp only [List.map_cons, Nat.add_zero, List.map_map, Function.comp_def]
    congr 1
    apply List.map_congr_left
    intro j _
    congr 1; omega
theorem tabK_eq (b : Nat → BitVec 8) (n : Nat) (k : Bs → α) : tabK b n 0 k = k (tab n b) := by rw [tabK_eq']; simp
/-- The first sixteen words, the newest first. -/
def startK (P : Nat → BitVec 8) : Nat → Nat → List (BitVec 32) → (List (BitVec 32) → α) → α
  | 0, _, l, k => k l
  | n + 1, i, l, k => frcW (w0 P i) fun x => startK P n (i + 1) (x :: l) k
def schedK : Nat → List (BitVec 32) → (List (BitVec 32) → α) → α
  | 0, l, k => k l
  | n + 1, l, k => frcW (l.getD 15 0 + sig0 (l.getD 14 0) + l.getD 6 0 + sig1 (l.getD 1 0)) fun x => schedK n (x :: l) k
def roundK : List (BitVec 32) → List (BitVec 32) → BitVec 32 → BitVec 32 → BitVec 32 → BitVec 32 → BitVec 32 → BitVec 32 → BitVec 32 → BitVec 32 → (List (BitVec 32) → α) → α
  | w :: ws, s :: ss, a, b, c, d, e, f, g, h, k =>
    frcW (h + (ror e 6 ^^^ ror e 11 ^^^ ror e 25) + ((e &&& f) ^^^ (~~~e &&& g)) + s + w) fun one =>
    frcW ((ror a 2 ^^^ ror a 13 ^^^ ror a 22) + ((a &&& b) ^^^ (a &&& c) ^^^ (b &&& c))) fun two =>
    frcW (one + two) fun a' => frcW (d + one) fun e' => roundK ws ss a' a b c e' e f g k
  | _, _, a, b, c, d, e, f, g, h, k => k [a, b, c, d, e, f, g, h]
def addK : List (BitVec 32) → List (BitVec 32) → (List (BitVec 32) → α) → α
  | x :: l, y :: m, k => frcW (x + y) fun z => addK l m fun r => k (z :: r)
  | _, _, k => k []
def comprK (V : List (BitVec 32)) (P : Nat → BitVec 8) (k : List (BitVec 32) → α) : α :=
  startK P 16 0 [] fun l => schedK 48 l fun l =>
  roundK l.reverse (stepsL.map (BitVec.ofNat 32)) (V.getD 0 0) (V.getD 1 0) (V.getD 2 0) (V.getD 3 0) (V.getD 4 0) (V.getD 5 0) (V.getD 6 0) (V.getD 7 0) fun v => addK V v k
def blocksK (l : Bs) : Nat → Nat → List (BitVec 32) → (List (BitVec 32) → α) → α
  | 0, _, V, k => k V
  | n + 1, i, V, k => comprK V (fun j => L l (64 * i + j)) fun V => blocksK l n (i + 1) V k
/-- The sum of l. -/
def sumK (l : Bs) (k : Bs → α) : α :=
  tabK (L (full l)) (full l).length 0 fun m => blocksK m (m.length / 64) 0 (firstL.map (BitVec.ofNat 32)) fun V => tabK (outW fun i => V.getD i 0) 32 0 k
end
section
variable {α : Sort _}
def l8 (v : Nat → BitVec 32) : List (BitVec 32) := [v 0, v 1, v 2, v 3, v 4, v 5, v 6, v 7]
theorem l8_get (v : Nat → BitVec 32) {j : Nat} (h : j < 8) : (l8 v).getD j 0 = v j := by
  have : j = 0 ∨ j = 1 ∨ j = 2 ∨ j = 3 ∨ j = 4 ∨ j = 5 ∨ j = 6 ∨ j = 7 := by omega
  rcases this with rfl | rfl | rfl | rfl | rfl | rfl | rfl | rfl <;> rfl
/-- The newest first. -/
def Rep (l : List (BitVec 32)) (m : Nat) (W : Nat → BitVec 32) : Prop := l.length = m ∧ ∀ j, j < m → l.getD (m - 1 - j) 0 = W j
theorem Rep.cons {l : List (BitVec 32)} {m : Nat} {W : Nat → BitVec 32} (h : Rep l m W) : Rep (W m :: l) (m + 1) W :=
  ⟨by simp [h.1], fun j hj => by
    by_cases e : j = m
    · subst e; rw [show j + 1 - 1 - j = 0 by omega]; rfl
    · rw [show m + 1 - 1 - j = (m - 1 - j) + 1 by omega, List.getD_cons_succ]
      exact h.2 j (by omega)⟩
theorem startK_eq (P : Nat → BitVec 8) (W : Nat → BitVec 32) : ∀ (n i : Nat) (l : List (BitVec 32)), (∀ j, j < i + n → w0 P j = W j) → Rep l i W → ∃ l', Rep l' (i + n) W ∧ ∀ k : List (BitVec 32) → α, startK P n i l k = k l'
  | 0, i, l, _, h => ⟨l, h, fun _ => rfl⟩
  | n + 1, i, l, hW, h => by
    obtain ⟨l', h1, h2⟩ := startK_eq P W n (i + 1) (W i :: l) (fun j hj => hW j (by omega)) h.cons
    exact ⟨l', by rwa [show i + (n + 1) = i + 1 + n by omega], fun k => by simp only [startK]; rw [frcW_eq, hW i (by omega), h2]⟩
theorem schedK_eq (W : Nat → BitVec 32) : ∀ (n m : Nat) (l : List (BitVec 32)), (∀ j, j < n → W (m + 16 + j) = W (m + j) + sig0 (W (m + j + 1)) + W (m + j + 9) + sig1 (W (m + j + 14))) → Rep l (m + 16) W → ∃ l', Rep l' (m + 16 + n) W ∧ ∀ k : List (BitVec 32) → α, schedK n l k = k l'
  | 0, m, l, _, h => ⟨l, h, fun _ => rfl⟩
  | n + 1, m, l, hW, h => by
    have e0 := hW 0 (by omega)
    simp only [Nat.add_zero] at e0
    have g : ∀ i, i < 16 → l.getD i 0 = W (m + 15 - i) := fun i hi => by
      have := h.2 (m + 15 - i) (by omega)
      rwa [show m + 16 - 1 - (m + 15 - i) = i by omega] at this
    have e1 : l.getD 15 0 + sig0 (l.getD 14 0) + l.getD 6 0 + sig1 (l.getD 1 0) = W (m + 16) := by
      rw [g 15 (by omega), g 14 (by omega), g 6 (by omega), g 1 (by omega), e0]
      rw [show m + 15 - 15 = m by omega, show m + 15 - 14 = m + 1 by omega, show m + 15 - 6 = m + 9 by omega, show m + 15 - 1 = m + 14 by omega]
    obtain ⟨l', h1, h2⟩ := schedK_eq W n (m + 1) (W (m + 16) :: l) (fun j hj => by
      have := hW (j + 1) (by omega)
      rw [show m + 1 + 16 + j = m + 16 + (j + 1) by omega, show m + 1 + j = m + (j + 1) by omega]
      exact this) (by have := h.cons; rwa [show m + 1 + 16 = m + 16 + 1 by omega])
    exact ⟨l', by rwa [show m + 16 + (n + 1) = m + 1 + 16 + n by omega], fun k => by simp only [schedK]; rw [frcW_eq, e1, h2]⟩
theorem wS_up (P : Nat → BitVec 8) (k i : Nat) (hi : i < 16 + k) : ∀ n, wS P (k + n) i = wS P k i
  | 0 => rfl
  | n + 1 => by
    rw [← Nat.add_assoc]
    simp only [wS]
    rw [if_neg (by omega), wS_up P k i hi n]
theorem wS_at (P : Nat → BitVec 8) (k i : Nat) (hi : i < 16 + k) (hk : k ≤ 48) : wS P 48 i = wS P k i := by
  have := wS_up P k i hi (48 - k)
  rwa [show k + (48 - k) = 48 by omega] at this
theorem wS_new (P : Nat → BitVec 8) (k : Nat) (hk : k < 48) : wS P 48 (16 + k) = wS P 48 k + sig0 (wS P 48 (k + 1)) + wS P 48 (k + 9) + sig1 (wS P 48 (k + 14)) := by
  rw [wS_at P (k + 1) (16 + k) (by omega) (by omega), wS_at P k k (by omega) (by omega), wS_at P k (k + 1) (by omega) (by omega), wS_at P k (k + 9) (by omega) (by omega), wS_at P k (k + 14) (by omega) (by omega)]
  simp only [wS]
  rw [if_pos trivial]
theorem roundK_eq (W V : Nat → BitVec 32) (k : List (BitVec 32) → α) : ∀ (n i : Nat) (v : Nat → BitVec 32), vR W V i = v →
    roundK ((List.range n).map fun j => W (i + j)) ((List.range n).map fun j => steps (i + j)) (v 0) (v 1) (v 2) (v 3) (v 4) (v 5) (v 6) (v 7) k = k (l8 (vR W V (i + n)))
  | 0, i, v, h => by subst h; rfl
  | n + 1, i, v, h => by
    rw [List.range_succ_eq_map, List.map_cons, List.map_cons, roundK, frcW_eq, frcW_eq, frcW_eq, frcW_eq, List.map_map, List.map_map]
    have := roundK_eq W V k n (i + 1) (next v (steps i) (W i)) (by simp only [vR, h])
    rw [show i + (n + 1) = i + 1 + n by omega, ← this]
    have e1 : ((fun j => W (i + j)) ∘ Nat.succ) = fun j => W (i + 1 + j) := funext fun j => congrArg W (show i + (j + 1) = i + 1 + j by omega)
    have e2 : ((fun j => steps (i + j)) ∘ Nat.succ) = fun j => steps (i + 1 + j) := funext fun j => congrArg steps (show i + (j + 1) = i + 1 + j by omega)
    rw [e1, e2]
    rfl
theorem comprK_eq (V : Nat → BitVec 32) (P : Nat → BitVec 8) (k : List (BitVec 32) → α) : comprK (l8 V) P k = k (l8 (compress V P)) := by
  unfold comprK
  obtain ⟨W, hW⟩ : ∃ W, wS P 48 = W := ⟨_, rfl⟩
  obtain ⟨l1, a1, a2⟩ := startK_eq (α := α) P W 16 0 [] (fun j hj => by rw [← hW, wS_at P 0 j (by omega) (by omega)]; simp only [wS]; rw [if_pos (by omega)]) ⟨rfl, fun j hj => absurd hj (by omega)⟩
  rw [a2]
  obtain ⟨l2, b1, b2⟩ := schedK_eq (α := α) W 48 0 l1 (fun j hj => by
    rw [← hW]
    simp only [Nat.zero_add]
    exact wS_new P j hj) a1
  rw [b2]
  have hrev : l2.reverse = (List.range 64).map fun j => W (0 + j) := by
    apply List.ext_getElem
    · simp [b1.1]
    · intro j h1 h2
      have hj : j < 64 := by simpa using h2
      have := b1.2 j hj
      rw [List.getD_eq_getElem?_getD, List.getElem?_eq_getElem (by rw [b1.1]; omega)] at this
      simp only [List.getElem_reverse, List.getElem_map, List.getElem_range, Nat.zero_add, b1.1]
      exact this
  have hst : stepsL.map (BitVec.ofNat 32) = (List.range 64).map fun j => steps (0 + j) := by
    apply List.ext_getElem
    · rfl
    · intro j h1 h2
      have hj : j < stepsL.length := by simpa using h1
      simp only [List.getElem_map, List.getElem_range, Nat.zero_add]
      unfold steps
      rw [List.getD_eq_getElem?_getD, List.getElem?_eq_getElem hj]
      rfl
  rw [hrev, hst]
  have h8 := fun j hj => l8_get V (j := j) hj
  rw [h8 0 (by omega), h8 1 (by omega), h8 2 (by omega), h8 3 (by omega), h8 4 (by omega), h8 5 (by omega), h8 6 (by omega), h8 7 (by omega)]
  rw [roundK_eq W V _ 64 0 V rfl]
  simp only [l8, addK, frcW_eq]
  unfold compress
  rw [hW]
theorem blocksK_eq (m : Bs) (k : List (BitVec 32) → α) : ∀ (n i : Nat), 64 * (i + n) ≤ m.length → blocksK m n i (l8 (wordsAt m i).V) k = k (l8 (wordsAt m (i + n)).V)
  | 0, _, _ => rfl
  | n + 1, i, h => by
    simp only [blocksK]
    rw [comprK_eq, ← wordsAt_succ m i (by omega), blocksK_eq m k n (i + 1) (by omega), show i + (n + 1) = i + 1 + n by omega]
theorem sumK_eq (l : Bs) (k : Bs → α) : sumK l k = k (sumL l) := by
  obtain ⟨Q, hQ, _⟩ := full_64 l
  unfold sumK
  rw [tabK_eq, tab_L, hQ, show 64 * Q / 64 = Q by omega]
  have h0 : firstL.map (BitVec.ofNat 32) = l8 (wordsAt (full l) 0).V := by
    show _ = l8 (pushL d0 ((full l).take (64 * 0))).V
    rw [Nat.mul_zero, List.take_zero]
    rfl
  rw [h0, blocksK_eq (full l) _ Q 0 (by omega), tabK_eq, sumL_full]
  have h1 : (wordsAt (full l) (0 + Q)) = pushL d0 (full l) := by
    unfold wordsAt
    rw [Nat.zero_add, ← hQ, List.take_length]
  rw [h1]
  congr 1
/-- A mark. -/
def padK (x : BitVec 8) (K : Bs) (k : Bs → α) : α := tabK (fun i => L K i ^^^ x) 64 0 k
def keyK (key : Bs) (k : Bs → α) : α := if 64 < key.length then sumK key k else k key
def markK (key m : Bs) (k : Bs → α) : α := keyK key fun K => padK 0x36#8 K fun i => padK 0x5c#8 K fun o => sumK (i ++ m) fun s => sumK (o ++ s) k
theorem markK_eq (key m : Bs) (k : Bs → α) : markK key m k = k (markL key m) := by
  have e : ∀ k' : Bs → α, keyK key k' = k' (keyL key) := fun k' => by
    unfold keyK keyL
    split
    · exact sumK_eq _ _
    · rfl
  unfold markK padK
  rw [e, tabK_eq, tabK_eq, sumK_eq, sumK_eq]
  rfl
end
theorem sum_by {l : Bs} {p : Bs → Bool} (h : sumK l p = true) : p (sumL l) = true := by rwa [sumK_eq] at h
theorem mark_by {key m : Bs} {p : Bs → Bool} (h : markK key m p = true) : p (markL key m) = true := by rwa [markK_eq] at h
end Sha
end Go.Proofs.Ytndlhhhebijknaa
end

section
/-
  From a function over blocks to a law's walk: arguments opened. Over any program. No condition of its own.
-/
namespace Go.Proofs.Ytndlhhhebijknaa
set_option linter.unusedVariables false
namespace Sx
open Go.RowKit Go.ChangeShapes Go.WideShapes

section
variable {H : Type} {enc : TypeId × Value → H} {P : Program} {w : World} {base : Nat} {sp : Nat → Bool} {held : Bool}
theorem wf_w8 {a : Int} (h : (Lit.int .u8 a).wf = true) : a = ((BitVec.ofInt 8 a).toNat : Int) := by
  have := bounds_u8 h
  rw [BitVec.toNat_ofInt]
  omega
/-- An array of bytes as an argument. -/
theorem open_arr8 {n : Nat} {t e : TypeId} (ht : P.underlying t = some (.array n e)) (he : P.underlying e = some (.int .u8)) (hc : P.cellsOf e = 1) (hn : P.cellsOf t = n) {r : Reach} {b0 : Nat} {v : Value} {d : DataW H} {p : List MemPlace}
    (hval : Value.okWide P w r b0 t v) (h : DataW.Trod enc P w base sp held t v d p) : ∃ f : Nat → BitVec 8, v = .agg ((List.range n).map fun i => Value.int .u8 ((f i).toNat : Int)).toArray := by
  obtain ⟨cs, rfl, hsz⟩ : ∃ cs, v = .agg cs ∧ cs.size = P.cellsOf t := by
    simp only [Value.okWide, ht] at hval
    obtain ⟨cs, h1, h2, _⟩ := hval
    exact ⟨cs, h1, h2⟩
  obtain ⟨fuel, hf⟩ := h
  obtain ⟨xs, m, _, _, hl, hx, hel⟩ := DataW.trod_array ht hf
  have cell : ∀ i, i < n → ∃ x : Int, cs[i]? = some (.int .u8 x) ∧ (Lit.int .u8 x).wf = true := by
    intro i hi
    have h1 := hel i hi
    rw [hc, Nat.mul_one, List.getElem?_eq_getElem (by omega)] at h1
    obtain ⟨x, e1, _, wx⟩ := DataW.trod_int he h1
    refine ⟨x, ?_, wx⟩
    have hi2 : i < cs.size := by omega
    have h2 : ((Value.agg cs).cells.toList.drop i).take 1 = [cs[i]] := by
      show (cs.toList.drop i).take 1 = _
      rw [List.drop_eq_getElem_cons (by simpa using hi2)]
      rfl
    rw [h2] at e1
    simp at e1
    rw [Array.getElem?_eq_getElem hi2, e1]
  refine ⟨fun i => match cs[i]? with | some (.int .u8 x) => BitVec.ofInt 8 x | _ => 0#8, ?_⟩
  congr 1
  apply Array.ext
  · simp; omega
  · intro i h1 h2
    obtain ⟨x, e, wx⟩ := cell i (by omega)
    rw [Array.getElem?_eq_getElem h1] at e
    simp only [List.getElem_toArray, List.getElem_map, List.getElem_range, Array.getElem?_eq_getElem h1]
    simp only [Option.some.injEq] at e
    rw [e]
    simp only
    exact congrArg _ (wf_w8 wx)
end
theorem isAs_nil (r : Rho) : IsAs r [] [] := ⟨rfl, fun j x e => by simp at e⟩
theorem isAs_cons {r : Rho} {x : SA} {v : Value} {l : List SA} {vs : List Value} (h : SA.Is r x v) (hs : IsAs r l vs) : IsAs r (x :: l) (v :: vs) :=
  ⟨by simpa using hs.1, fun j y e => by
    cases j with
    | zero => simp at e; subst e; exact ⟨v, rfl, h⟩
    | succ j => exact hs.2 j y e⟩
theorem is_row {r : Rho} {n : Nat} {f : Nat → BitVec 8} : SA.Is r (.agg [.row n fun i => .w8 (f i)]) (.agg ((List.range n).map fun i => Value.int .u8 ((f i).toNat : Int)).toArray) := by
  refine ⟨_, rfl, by simp [flat], fun j x e => ?_⟩
  simp only [flat, List.append_nil, List.getElem?_map, Option.map_eq_some_iff] at e ⊢
  obtain ⟨i, hi, rfl⟩ := e
  exact ⟨_, ⟨i, hi, rfl⟩, rfl⟩
/-- A law's walk. -/
theorem Fn.law {P : Program} {T : List (Nat × TD)} {f : FuncId} {args : List SA} {raw : World → Prop} (h : Fn P T f [] args raw (fun x hs => x = .a (.c (.bool true)) ∧ hs = [])) {w : World} {vs : List Value} (ha : IsAs [] args vs) (hr : raw w) :
    Calls P f vs.toArray w fun e w' => e = .returned (.bool true) ∧ Below w.heap.size w w' := by
  refine (Fn.calls h ha hr).mono ?_
  rintro e w' ⟨v, x, hs, r', rfl, hx, hok, rfl, rfl⟩
  obtain rfl : v = .bool true := hx
  exact ⟨rfl, hok.ext.below0⟩
end Sx
end Go.Proofs.Ytndlhhhebijknaa
end

section
/-
  From a function over blocks that are only read to a law's walk: slices of bytes that came in. Over any program. No condition of its own.
-/
namespace Go.Proofs.Ytndlhhhebijknaa
set_option linter.unusedVariables false
namespace Sx
open Go.RowKit Go.ChangeShapes Go.WideShapes Sha

theorem okWide_spot {P : Program} {w : World} {r : Reach} {b0 : Nat} {t e : TypeId} {a : Option Addr} {n c : Nat} (ht : P.underlying t = some (.slice e)) (h : Value.okWide P w r b0 t (.slice a n c)) : ∀ x, a = some x → x.spot = none := by
  rintro x rfl
  simp only [Value.okWide, ht, Cell.okWide, Cell.ok] at h
  exact h.2.2.2.1
/-- A slice of bytes that came in: nil (z) or not, its bytes, where they lie. -/
structure InB (w : World) (a : Option Addr) (n c : Nat) (z : Bool) (l : Bs) (B f : Nat) : Prop where
  len : l.length = n
  le : n ≤ c
  cap : c ≤ maxLen
  nil : z = true → l = []
  val : ∀ (r : Rho) (i : Nat), r[i]? = some (B, f) → SC.Is r (.sn z i 0 0 n c) (.slice a n c)
  at_ : ∀ r : Rho, At false r w B f (flat (bts z n 0 n (L l)))
theorem open_b8 {w : World} {a : Option Addr} {len cap : Nat} {zs : List Int} (h : IsRow .u8 w a len cap zs) (hs : ∀ x, a = some x → x.spot = none) : ∃ z l B f, InB w a len cap z l B f := by
  rcases h with ⟨rfl, rfl, rfl, rfl⟩ | ⟨x, rfl, hl, hm, hz, hc, hw⟩
  · exact ⟨true, [], 0, 0, rfl, Nat.le_refl _, by unfold maxLen; omega, fun _ => rfl, fun r i _ => .inl ⟨rfl, rfl, rfl, rfl⟩, fun r j y e => by simp [bts, flat] at e⟩
  · obtain ⟨B, f, spot⟩ := x
    obtain rfl : spot = none := hs _ rfl
    refine ⟨false, (zs.take len).map (BitVec.ofInt 8), B, f, by simp; omega, hl, hm, fun h => Bool.noConfusion h, fun r i hr => .inr ⟨rfl, B, f, hr, rfl⟩, fun r j y e => ?_⟩
    have hj : j < len := by
      rcases Nat.lt_or_ge j len with h | h
      · exact h
      · rw [List.getElem?_eq_none (by simpa [bts, flat] using h)] at e; cases e
    have e2 : y = .w8 (L ((zs.take len).map (BitVec.ofInt 8)) j) := by
      simp only [bts, flat, List.append_nil, List.getElem?_map, Option.map_eq_some_iff] at e
      obtain ⟨i, hi, rfl⟩ := e
      rw [List.getElem?_range (by omega)] at hi
      injection hi with hi
      subst hi
      have := winF_at 0 len (L ((zs.take len).map (BitVec.ofInt 8))) hj
      rwa [Nat.zero_add] at this
    subst e2
    have hc1 := hc j (by omega)
    have ha : (⟨B, f, none⟩ : Addr).add j = ⟨B, f + j, none⟩ := by unfold Addr.add; simp
    rw [ha] at hc1
    refine ⟨_, hc1, ?_, fun h => Bool.noConfusion h⟩
    show Value.int .u8 _ = Value.int .u8 _
    congr 1
    have hjz : j < zs.length := by omega
    have h3 : zs.getD j 0 = zs[j] := by rw [List.getD_eq_getElem?_getD, List.getElem?_eq_getElem hjz]; rfl
    have h4 : L ((zs.take len).map (BitVec.ofInt 8)) j = BitVec.ofInt 8 zs[j] := by
      rw [L_lt (by simp; omega)]
      simp
    rw [h3, h4]
    exact wf_w8 (hw _ (List.getElem_mem _))
/-- The blocks lie where r says. -/
def AllAt (R : Rho) (w : World) : List (List Seg) → Rho → Prop
  | [], [] => True
  | ch :: h, (B, f) :: r => At false R w B f (flat ch) ∧ AllAt R w h r
  | _, _ => False
theorem AllAt.len {R : Rho} {w : World} : ∀ {h : List (List Seg)} {r : Rho}, AllAt R w h r → r.length = h.length
  | [], [], _ => rfl
  | _ :: h, _ :: r, k => by rw [List.length_cons, List.length_cons, AllAt.len k.2]
  | [], _ :: _, k => k.elim
  | _ :: _, [], k => k.elim
theorem AllAt.get {R : Rho} {w : World} : ∀ {h : List (List Seg)} {r : Rho}, AllAt R w h r → ∀ (i : Nat) (ch : List Seg) (B f : Nat), h[i]? = some ch → r[i]? = some (B, f) → At false R w B f (flat ch)
  | [], [], _, i, _, _, _, e, _ => by simp at e
  | c :: h, (B', f') :: r, k, 0, _, _, _, e1, e2 => by
    simp at e1 e2
    obtain ⟨rfl, rfl⟩ := e2
    subst e1
    exact k.1
  | c :: h, (B', f') :: r, k, i + 1, _, _, _, e1, e2 => k.2.get i _ _ _ (by simpa using e1) (by simpa using e2)
theorem heapOk_ro {P : Program} {T : List (Nat × TD)} {w : World} {r0 : Rho} {h0 : List (List Seg)} (hat : AllAt r0 w h0 r0) : HeapOk (cx0 P T w r0 h0.length h0) h0 r0 w := by
  have hlen := hat.len
  have hget : ∀ i, h0[i]? = some (getH h0 i) ∨ h0[i]? = none := fun i => by
    rcases Nat.lt_or_ge i h0.length with h | h
    · exact .inl (by rw [List.getElem?_eq_getElem h]; have := getH_eq h0 i; rw [List.getElem?_eq_getElem h] at this; simpa using this.symm)
    · exact .inr (List.getElem?_eq_none h)
  have out : ∀ (i : Nat) (x : Nat × Nat), h0.length ≤ i → r0[i]? = some x → False := fun i x hi e => by
    rw [List.getElem?_eq_none (by omega)] at e; cases e
  refine ⟨Ext.refl _ _, RLe.refl _, Nat.le_of_eq hlen.symm, hlen, fun i ch B f hi hr => ?_, fun i B f ho hr => (out i _ ho hr).elim, fun i B f ho hr => (out i _ ho hr).elim, fun i B f ho hl hr => ?_, fun i ch ho hl hi => ?_, fun i j B f f' ch ch' hij o1 o2 h1 h2 r1 r2 => (out i _ o1 r1).elim⟩
  · have hil : i < h0.length := (List.getElem?_eq_some_iff.1 hi).1
    have : Nat.ble h0.length i = false := by
      cases e : Nat.ble h0.length i
      · rfl
      · have := ble_le e; omega
    show At (Nat.ble h0.length i) _ _ _ _ _
    rw [this]
    exact hat.get i ch B f hi hr
  · refine ⟨?_, ?_⟩
    · show B ∉ (r0.drop h0.length).map (·.1)
      rw [List.drop_eq_nil_of_le (by omega)]
      simp
    · rcases hget i with e | e
      · exact (hat.get i _ B f e hr).lt hl
      · rw [List.getElem?_eq_none_iff] at e
        exact (out i _ e hr).elim
  · have hl : ¬ flat (getH h0 i) ≠ [] := hl
    rcases hget i with e | e
    · rw [hi] at e
      injection e with e
      rw [e]
      exact Classical.not_not.1 hl
    · rw [hi] at e; cases e
/-- A law's walk: what came in is only read. -/
theorem FnR.law {P : Program} {T : List (Nat × TD)} {f : FuncId} {n : Nat} {h0 : List (List Seg)} {args : List SA} {raw : World → Prop} {w : World} {vs : List Value} {r0 : Rho} (h : FnR P T f n h0 args raw (fun x _ => x = .a (.c (.bool true)))) (hn : n = h0.length)
    (hat : AllAt r0 w h0 r0) (ha : IsAs r0 args vs) (hr : raw w) :
    Calls P f vs.toArray w fun e w' => e = .returned (.bool true) ∧ Below w.heap.size w w' := by
  subst hn
  refine (h w r0 vs (heapOk_ro hat) ha hr).mono ?_
  rintro e w' ⟨v, x, hs, r', rfl, hx, hok, rfl⟩
  obtain rfl : v = .bool true := hx
  refine ⟨rfl, ?_⟩
  have e : Ext ((r0.drop h0.length).map (·.1)) w w' := hok.ext
  rw [List.drop_eq_nil_of_le (by rw [hat.len]; exact Nat.le_refl _)] at e
  exact e.below0
end Sx
end Go.Proofs.Ytndlhhhebijknaa
end

section
/-
  SHA-256: the law's fixed fact; marks. No condition.
-/
namespace Go.Proofs.Ytndlhhhebijknaa
set_option linter.unusedVariables false
namespace Sha
/-- Bytes as the model's strings have them. -/
def U8 (l : Bs) : List UInt8 := l.map UInt8.ofBitVec
@[simp] theorem U8_len (l : Bs) : (U8 l).length = l.length := by simp [U8]
theorem U8_get (l : Bs) (q : Nat) (h : q < l.length) : ((U8 l).getD q 0).toBitVec = L l q := by
  rw [L_lt h, List.getD_eq_getElem?_getD, U8, List.getElem?_map, List.getElem?_eq_getElem h]
  rfl
theorem U8_inj {l m : Bs} (h : U8 l = U8 m) : l = m := by
  have : (U8 l).map UInt8.toBitVec = (U8 m).map UInt8.toBitVec := congrArg _ h
  simpa [U8, Function.comp_def] using this
theorem cat2 (a b c : Bs) : cat (ps3 a b c) 2 = a ++ b := by simp [cat, ps3]
theorem cat1 (a b c : Bs) : cat (ps3 a b c) 1 = a := by simp [cat, ps3]
theorem cat3 (a b c : Bs) : cat (ps3 a b c) 3 = a ++ b ++ c := by simp [cat, ps3]
end Sha
namespace Sx
open Sha

theorem eqSegs_nil {q : List Nat} {x : List Seg} {k : Prop} (h : k) : eqSegs q x [] k := by
  cases x with
  | nil => exact h
  | cons a r => cases a <;> exact h
/-- Bytes of a string. -/
theorem str_of {g : Nat → SC} {n : Nat} {M : Bs} (hn : M.length = n) (h : ∀ q, q < n → g q = .w8 (L M q)) : (U8 M).length = n ∧ ∀ q, q < n → g q = .w8 ((U8 M).getD q 0).toBitVec :=
  ⟨by rw [U8_len, hn], fun q hq => by rw [h q hq, U8_get M q (by omega)]⟩
theorem nthC_w8 : ∀ (l : Bs) (j : Nat), j < l.length → nthC (l.map SC.w8) j = .w8 (L l j)
  | [], _, h => absurd h (by simp)
  | x :: l, 0, _ => rfl
  | x :: l, j + 1, h => nthC_w8 l j (by simpa using h)
theorem eqC_lit {q : List Nat} (l : Bs) {j : Nat} (h : j < l.length) : eqC q (nthC (l.map SC.w8) j) (winF 0 l.length (L l) j) True :=
  eqC_win0 (f := nthC (l.map SC.w8)) (fun i hi => nthC_w8 l i hi) j
def abc : Bs := [97#8, 98#8, 99#8]
theorem abc_sum : L (sumL abc) 0 = 186#8 ∧ L (sumL abc) 1 = 120#8 ∧ L (sumL abc) 2 = 22#8 ∧ L (sumL abc) 3 = 191#8 :=
  of_decide_eq_true (sum_by (p := fun l => decide (L l 0 = 186#8 ∧ L l 1 = 120#8 ∧ L l 2 = 22#8 ∧ L l 3 = 191#8)) (by decide +kernel))
set_option maxRecDepth 20000 in
theorem fn_awake3 : Fn Try.prog tds 15 [] [] (fun _ => True) (fun x hs => x = .a (.c (.bool true)) ∧ hs = []) := by
  refine fn_of_body tds_ok follows_ Try.func15 rfl (t := anys 27) rfl (fun w r0 hr _ => ?_)
  obtain rfl : r0 = [] := List.eq_nil_of_length_eq_zero hr
  refine ⟨by kernel_rfl, call_same fn_snew [] rfl trivial trivial (fun _ _ => trivial) ?_⟩
  rintro x hs ⟨rfl, rfl⟩
  (repeat first | refine ⟨by omega, ?_⟩ | refine ⟨by decide, ?_⟩ | refine ⟨idx8 _, ?_⟩ | refine ⟨lt8 (Nat.le_refl _) _, ?_⟩ | refine ⟨rfl, ?_⟩)
  refine call_same (fn_ssum3 false true true 3 0 0 0 0 0 3 0 0 abc [] [] 1 1 1 0 (fun _ => 0) (fun _ => 0) (.inl rfl) (by decide) (by decide) (by decide) (by decide) (by decide) (by decide) (by decide) (fun _ => rfl) (fun _ => rfl) (by decide) (by decide)) [1, 2, 2, 2, 0] rfl (by (repeat first | exact trivial | refine ⟨rfl, ?_⟩ | refine ⟨fun _ _ => ⟨rfl, trivial⟩, ?_⟩ | refine ⟨fun _ _ => trivial, ?_⟩ | refine ⟨by omega, ?_⟩ | refine ⟨fun _ _ => eqC_winS, ?_⟩ | refine ⟨fun _ _ => eqC_winM, ?_⟩ | refine ⟨fun _ _ => eqC_winB, ?_⟩ | refine ⟨fun _ _ => eqC_selfB, ?_⟩ | refine ⟨fun _ _ => eqC_mpB, ?_⟩)) ?_ (fun _ _ => trivial) ?_
  · (repeat first | exact trivial | refine ⟨rfl, ?_⟩ | refine ⟨fun _ _ => ⟨rfl, trivial⟩, ?_⟩ | refine ⟨fun _ _ => trivial, ?_⟩ | refine ⟨by omega, ?_⟩ | refine ⟨fun _ _ => eqC_winS, ?_⟩ | refine ⟨fun _ _ => eqC_winM, ?_⟩ | refine ⟨fun _ _ => eqC_winB, ?_⟩ | refine ⟨fun _ _ => eqC_selfB, ?_⟩ | refine ⟨fun _ _ => eqC_mpB, ?_⟩)
    refine ⟨fun j hj => eqC_lit abc hj, ?_⟩
    (repeat first | exact trivial | refine ⟨rfl, ?_⟩ | refine ⟨fun _ _ => ⟨rfl, trivial⟩, ?_⟩ | refine ⟨fun _ _ => trivial, ?_⟩ | refine ⟨by omega, ?_⟩ | refine ⟨fun _ _ => eqC_winS, ?_⟩ | refine ⟨fun _ _ => eqC_winM, ?_⟩ | refine ⟨fun _ _ => eqC_winB, ?_⟩ | refine ⟨fun _ _ => eqC_selfB, ?_⟩ | refine ⟨fun _ _ => eqC_mpB, ?_⟩)
    refine ⟨fun j hj => eqC_parts (fun i hi => ?_) j, ?_⟩
    · obtain rfl : i = 0 := by omega
      exact ⟨rfl, rfl, rfl, rfl, trivial⟩
    · (repeat first | exact trivial | refine ⟨rfl, ?_⟩ | refine ⟨fun _ _ => ⟨rfl, trivial⟩, ?_⟩ | refine ⟨fun _ _ => trivial, ?_⟩ | refine ⟨by omega, ?_⟩ | refine ⟨fun _ _ => eqC_winS, ?_⟩ | refine ⟨fun _ _ => eqC_winM, ?_⟩ | refine ⟨fun _ _ => eqC_winB, ?_⟩ | refine ⟨fun _ _ => eqC_selfB, ?_⟩ | refine ⟨fun _ _ => eqC_mpB, ?_⟩)
  rintro x hs ⟨rfl, rfl⟩
  rw [cat1]
  obtain ⟨h0, h1, h2, h3⟩ := abc_sum
  obtain ⟨S, hS⟩ : ∃ S, sumL abc = S := ⟨_, rfl⟩
  rw [hS] at h0 h1 h2 h3
  rw [hS]
  (repeat first | refine And.intro (by omega) ?_ | refine And.intro (by decide) ?_ | refine And.intro rfl ?_ | refine And.intro (fun _ => ?_) (fun h => Bool.noConfusion h) | refine And.intro (fun _ => ?_) (fun h => absurd h0 (of_decide_eq_false h)) | refine And.intro (fun _ => ?_) (fun h => absurd h1 (of_decide_eq_false h)) | refine And.intro (fun _ => ?_) (fun h => absurd h2 (of_decide_eq_false h)) | refine And.intro (fun _ => ?_) (fun h => absurd h3 (of_decide_eq_false h)))
  exact ⟨.a (.c (.bool true)), [], ⟨[], ⟨rfl, rfl, rfl⟩, rfl, trivial⟩, rfl, rfl⟩
theorem notTrue : (!true) = false := rfl
set_option maxRecDepth 20000 in
set_option maxHeartbeats 1000000 in
theorem fn_shaMarks (z0 z1 z2 : Bool) (c0 c1 c2 : Nat) (l0 l1 l2 : Bs) (hc0 : l0.length ≤ c0) (hc1 : l1.length ≤ c1) (hc2 : l2.length ≤ c2) (hz0 : z0 = true → l0 = []) (hz1 : z1 = true → l1 = []) (hz2 : z2 = true → l2 = []) :
    FnR Try.prog tds 4 3 [bts z0 l0.length 0 l0.length (L l0), bts z1 l1.length 0 l1.length (L l1), bts z2 l2.length 0 l2.length (L l2)] [.c (.sn z0 0 0 0 l0.length c0), .c (.sn z1 1 0 0 l1.length c1), .c (.sn z2 2 0 0 l2.length c2)] (fun _ => True) (fun x _ => x = .a (.c (.bool true))) := by
  refine fn_of_body tds_ok follows_ Try.func4 rfl (t := [.a (.c (.sn z0 0 0 0 l0.length c0)), .a (.c (.sn z1 1 0 0 l1.length c1)), .a (.c (.sn z2 2 0 0 l2.length c2)), .any, .any, .any, .any, .any, .any, .any, .any, .any, .any, .any, .any, .any, .any, .any, .any, .any, .any, .any, .any, .any, .any, .any, .any, .any, .any, .any, .any, .any, .any, .any, .any, .any, .any, .any, .any, .any]) rfl (fun w r0 hr _ => ?_)
  obtain ⟨x0, x1, x2, rfl⟩ := len3' hr
  refine ⟨by kernel_rfl, call_same fn_awake3 [] rfl trivial trivial (fun _ _ => trivial) ?_⟩
  rintro x hs ⟨rfl, rfl⟩
  refine ⟨fun h => Bool.noConfusion h, fun _ => ?_⟩
  by_cases h0 : 200 < l0.length
  · have e0 : decide ((200 : Int) < (l0.length : Int)) = true := decide_eq_true (by omega)
    (repeat first | refine ⟨fun _ => ?_, fun h => absurd h (by rw [e0]; decide)⟩ | refine ⟨fun h => absurd h (by rw [e0]; decide), fun _ => ?_⟩ | refine ⟨fun _ => ?_, fun h => Bool.noConfusion h⟩ | refine ⟨fun h => Bool.noConfusion h, fun _ => ?_⟩)
    exact ⟨.a (.c (.bool true)), [[], [], []], ⟨[0, 1, 2], ⟨rfl, rfl, rfl⟩, rfl, eqSegs_nil (eqSegs_nil (eqSegs_nil trivial))⟩, rfl⟩
  have e0 : decide ((200 : Int) < (l0.length : Int)) = false := decide_eq_false (by omega)
  by_cases h1 : 200 < l1.length
  · have e1 : decide ((200 : Int) < (l1.length : Int)) = true := decide_eq_true (by omega)
    (repeat first | refine ⟨fun _ => ?_, fun h => absurd h (by rw [e0]; decide)⟩ | refine ⟨fun h => absurd h (by rw [e0]; decide), fun _ => ?_⟩ | refine ⟨fun _ => ?_, fun h => absurd h (by rw [e1]; decide)⟩ | refine ⟨fun h => absurd h (by rw [e1]; decide), fun _ => ?_⟩ | refine ⟨fun _ => ?_, fun h => Bool.noConfusion h⟩ | refine ⟨fun h => Bool.noConfusion h, fun _ => ?_⟩)
    exact ⟨.a (.c (.bool true)), [[], [], []], ⟨[0, 1, 2], ⟨rfl, rfl, rfl⟩, rfl, eqSegs_nil (eqSegs_nil (eqSegs_nil trivial))⟩, rfl⟩
  have e1 : decide ((200 : Int) < (l1.length : Int)) = false := decide_eq_false (by omega)
  by_cases h2 : 200 < l2.length
  · have e2 : decide ((200 : Int) < (l2.length : Int)) = true := decide_eq_true (by omega)
    (repeat first | refine ⟨fun _ => ?_, fun h => absurd h (by rw [e0]; decide)⟩ | refine ⟨fun h => absurd h (by rw [e0]; decide), fun _ => ?_⟩ | refine ⟨fun _ => ?_, fun h => absurd h (by rw [e1]; decide)⟩ | refine ⟨fun h => absurd h (by rw [e1]; decide), fun _ => ?_⟩ | refine ⟨fun _ => ?_, fun h => absurd h (by rw [e2]; decide)⟩ | refine ⟨fun h => absurd h (by rw [e2]; decide), fun _ => ?_⟩ | refine ⟨fun _ => ?_, fun h => Bool.noConfusion h⟩ | refine ⟨fun h => Bool.noConfusion h, fun _ => ?_⟩)
    exact ⟨.a (.c (.bool true)), [[], [], []], ⟨[0, 1, 2], ⟨rfl, rfl, rfl⟩, rfl, eqSegs_nil (eqSegs_nil (eqSegs_nil trivial))⟩, rfl⟩
  have e2 : decide ((200 : Int) < (l2.length : Int)) = false := decide_eq_false (by omega)
  (repeat first | refine ⟨fun _ => ?_, fun h => absurd h (by rw [e0]; decide)⟩ | refine ⟨fun h => absurd h (by rw [e0]; decide), fun _ => ?_⟩ | refine ⟨fun _ => ?_, fun h => absurd h (by rw [e1]; decide)⟩ | refine ⟨fun h => absurd h (by rw [e1]; decide), fun _ => ?_⟩ | refine ⟨fun _ => ?_, fun h => absurd h (by rw [e2]; decide)⟩ | refine ⟨fun h => absurd h (by rw [e2]; decide), fun _ => ?_⟩ | refine ⟨fun _ => ?_, fun h => Bool.noConfusion h⟩ | refine ⟨fun h => Bool.noConfusion h, fun _ => ?_⟩)
  refine ⟨by kernel_rfl, call_same fn_snew [] rfl trivial trivial (fun _ _ => trivial) ?_⟩
  rintro x hs ⟨rfl, rfl⟩
  (repeat first | refine And.intro (by omega) ?_ | refine And.intro (by decide) ?_ | (with_reducible refine frc_parts (by first | omega | decide) ?_) | (with_reducible refine frc_bytesL (by first | omega | decide) ?_) | refine And.intro rfl ?_)
  refine call_same (fn_smark z0 z1 z2 true l0.length l1.length l2.length 0 0 0 0 0 c0 c1 c2 0 l0 l1 l2 [] 2 2 2 0 (fun _ => 0) (fun _ => 0) (.inl rfl) (by omega) hc0 hz0 (by omega) hc1 hz1 (by omega) hc2 hz2 (by decide) (by decide) (fun _ => rfl) (by decide) (by decide)) [0, 1, 2, 4, 4, 3] rfl (by (repeat first | exact trivial | refine ⟨rfl, ?_⟩ | refine ⟨fun _ _ => ⟨rfl, trivial⟩, ?_⟩ | refine ⟨fun _ _ => trivial, ?_⟩ | refine ⟨by omega, ?_⟩ | refine ⟨fun _ _ => eqC_winS, ?_⟩ | refine ⟨fun _ _ => eqC_winM, ?_⟩ | refine ⟨fun _ _ => eqC_winB, ?_⟩ | refine ⟨fun _ _ => eqC_selfB, ?_⟩ | refine ⟨fun _ _ => eqC_mpB, ?_⟩)) ?_ (fun _ _ => trivial) ?_
  · refine eqC_bts (eqC_bts (eqC_bts ?_))
    (repeat first | exact trivial | refine ⟨rfl, ?_⟩ | refine ⟨fun _ _ => ⟨rfl, trivial⟩, ?_⟩ | refine ⟨fun _ _ => trivial, ?_⟩ | refine ⟨by omega, ?_⟩ | refine ⟨fun _ _ => eqC_winS, ?_⟩ | refine ⟨fun _ _ => eqC_winM, ?_⟩ | refine ⟨fun _ _ => eqC_winB, ?_⟩ | refine ⟨fun _ _ => eqC_selfB, ?_⟩ | refine ⟨fun _ _ => eqC_mpB, ?_⟩)
    refine ⟨fun j hj => eqC_parts (fun i hi => ?_) j, ?_⟩
    · have : i = 0 ∨ i = 1 := by omega
      rcases this with rfl | rfl
      · exact ⟨rfl, rfl, rfl, rfl, trivial⟩
      · exact ⟨rfl, rfl, rfl, rfl, trivial⟩
    · (repeat first | exact trivial | refine ⟨rfl, ?_⟩ | refine ⟨fun _ _ => ⟨rfl, trivial⟩, ?_⟩ | refine ⟨fun _ _ => trivial, ?_⟩ | refine ⟨by omega, ?_⟩ | refine ⟨fun _ _ => eqC_winS, ?_⟩ | refine ⟨fun _ _ => eqC_winM, ?_⟩ | refine ⟨fun _ _ => eqC_winB, ?_⟩ | refine ⟨fun _ _ => eqC_selfB, ?_⟩ | refine ⟨fun _ _ => eqC_mpB, ?_⟩)
  rintro x hs ⟨rfl, rfl⟩
  rw [cat2]
  obtain ⟨M, hM⟩ : ∃ M, markL l0 (l1 ++ l2) = M := ⟨_, rfl⟩
  have hMl : M.length = 32 := by rw [← hM, markL_len]
  rw [hM]
  (repeat first | refine And.intro (by omega) ?_ | refine And.intro (by decide) ?_ | (with_reducible refine frc_parts (by first | omega | decide) ?_) | (with_reducible refine frc_bytesL (by first | omega | decide) ?_) | refine And.intro rfl ?_)
  refine ⟨some [5, 9], [], [(0, true), (1, true), (2, true), (4, true), (6, true), (3, false), (5, false), (7, false), (8, false), (9, true), (10, true), (11, true)], [], by kernel_rfl, ?_⟩
  (repeat first | refine And.intro (by omega) ?_ | refine And.intro (by decide) ?_ | (with_reducible refine frc_parts (by first | omega | decide) ?_) | (with_reducible refine frc_bytesL (by first | omega | decide) ?_) | refine And.intro rfl ?_)
  refine ⟨U8 M, str_of hMl (fun q hq => rfl), ?_⟩
  (repeat first | refine And.intro (by omega) ?_ | refine And.intro (by decide) ?_ | (with_reducible refine frc_parts (by first | omega | decide) ?_) | (with_reducible refine frc_bytesL (by first | omega | decide) ?_) | refine And.intro rfl ?_)
  refine sn_bts (N := l1.length) (b := L l1) ?_ (by omega) (fun h => by rw [hz1 h]; rfl) (fun g hg => ?_)
  · rfl
  refine ⟨⟨by omega, by simp [scale], by show _ * 1 ≤ _; omega⟩, fun k1 hk1 => ?_⟩
  refine sn_bts (N := l2.length) (b := L l2) ?_ (by omega) (fun h => by rw [hz2 h]; rfl) (fun g2 hg2 => ?_)
  · rfl
  refine ⟨⟨by omega, by simp only [scale]; omega, by show _ * 1 ≤ _; omega⟩, fun k2 hk2 => ?_⟩
  have hr : ∀ i, i < (l1 ++ l2).length → appF (appF (nthC []) 0 (scale 0 (0 + 1)) (scale l1.length (0 + 1)) g) 0 (scale (0 + l1.length) (0 + 1)) (scale l2.length (0 + 1)) g2 i = .w8 (L (l1 ++ l2) i) := fun i hi => by
    rw [List.length_append] at hi
    rw [L_app]
    unfold appF
    by_cases h : i < l1.length
    · rw [if_pos (by simp only [scale]; omega), if_neg (by simp [scale]), if_pos (by simp only [scale]; omega), if_pos h]
      exact hg i h
    · rw [if_neg (by simp only [scale]; omega), if_pos (by simp only [scale]; omega), if_neg h, show scale (0 + l1.length) (0 + 1) = l1.length from Nat.zero_add _]
      exact hg2 _ (by omega)
  refine ⟨by kernel_rfl, call_same (fn_rmark z0 false l0.length k2 0 0 c0 k2 l0 (l1 ++ l2) (by omega) hc0 hz0 (by rw [List.length_append]; omega) (by rw [List.length_append]; omega) (fun h => Bool.noConfusion h) (by omega) (by rw [List.length_append]; omega)) [0, 8] rfl ⟨rfl, rfl, rfl, rfl, ?_⟩ ?_ (fun _ _ => trivial) ?_⟩
  · exact ⟨rfl, rfl, by rw [List.length_append, Nat.zero_add], rfl, trivial⟩
  · refine eqC_bts ?_
    exact ⟨rfl, fun j hj => eqC_win0 hr j, trivial⟩
  rintro x hs ⟨c, rfl, rfl, hc⟩
  rw [hM]
  (repeat first | refine And.intro (by omega) ?_ | refine And.intro (by decide) ?_ | (with_reducible refine frc_parts (by first | omega | decide) ?_) | (with_reducible refine frc_bytesL (by first | omega | decide) ?_) | refine And.intro rfl ?_)
  refine ⟨by simp only [scale]; omega, U8 M, str_of hMl (fun q hq => ?_), ?_⟩
  · show SC.mp _ (bytesF 32 (L M) (q + 0)) = _
    rw [bytesF_lt (by omega)]
    rfl
  exact ⟨.a (.c (.bool true)), [[], [], []], ⟨[0, 1, 2], ⟨rfl, rfl, rfl⟩, decide_eq_true rfl, eqSegs_nil (eqSegs_nil (eqSegs_nil trivial))⟩, rfl⟩
end Sx
end Go.Proofs.Ytndlhhhebijknaa
end

section
/-
  Secrets out of secrets: the program's Expand. No condition.
-/
namespace Go.Proofs.Ytndlhhhebijknaa
set_option linter.unusedVariables false
namespace Sha
/-- The k-th mark. -/
def exT (s about : Bs) : Nat → Bs
  | 0 => []
  | k + 1 => markL s (exT s about k ++ about ++ [BitVec.ofNat 8 (k + 1)])
/-- The first k marks. -/
def exL (s about : Bs) : Nat → Bs
  | 0 => []
  | k + 1 => exL s about k ++ exT s about (k + 1)
theorem exT_len (s about : Bs) (k : Nat) : (exT s about (k + 1)).length = 32 := markL_len _ _
theorem exL_len (s about : Bs) : ∀ k, (exL s about k).length = 32 * k
  | 0 => rfl
  | k + 1 => by simp only [exL, List.length_append, exL_len s about k, exT_len]; omega
def exF (s about : Bs) (i : Nat) : BitVec 8 := L (exL s about (i / 32 + 1)) i
theorem exL_up (s about : Bs) (k i : Nat) (hi : i < 32 * k) : ∀ n, L (exL s about (k + n)) i = L (exL s about k) i
  | 0 => rfl
  | n + 1 => by
    rw [← Nat.add_assoc]
    simp only [exL]
    rw [L_app1 (by rw [exL_len]; omega), exL_up s about k i hi n]
theorem exL_at (s about : Bs) (k i : Nat) (hi : i < 32 * k) : L (exL s about k) i = exF s about i := by
  unfold exF
  have := exL_up s about (i / 32 + 1) i (by omega) (k - (i / 32 + 1))
  rwa [show i / 32 + 1 + (k - (i / 32 + 1)) = k by omega] at this
end Sha
namespace Sx
open Sha

theorem eqC_n3 {q : List Nat} {a b c a' b' c' : SC} {m : Nat} (hm : m ≤ 3) (h0 : eqC q a a' True) (h1 : 1 < m → eqC q b b' True) (h2 : 2 < m → eqC q c c' True) (j : Nat) : eqC q (nthC [a, b, c] j) (partsF m (nthC [a', b', c']) j) True :=
  eqC_parts (f := nthC [a, b, c]) (fun i hi => by
    have : i = 0 ∨ i = 1 ∨ i = 2 := by omega
    rcases this with rfl | rfl | rfl
    · exact h0
    · exact h1 hi
    · exact h2 hi) j
set_option maxRecDepth 20000 in
set_option maxHeartbeats 2000000 in
theorem fn_kexpand (za : Bool) (Na oa ca : Nat) (s about : Bs) (many : Int) (dn : BitVec 32) (f g : Nat → BitVec 32) (hd : dn = 0#32 ∨ dn = 1#32 ∧ f = first ∧ g = steps)
    (hs : s.length = 32) (hNa : oa + about.length ≤ Na) (hca : about.length ≤ ca) (hza : za = true → about = []) :
    FnR Try.prog tds 23 1 [bts za Na oa about.length (L about), shaT dn 0 f g] [.c (.p 1 0 0), .agg [.row 32 fun i => .w8 (L s i)], .c (.sn za 0 0 oa about.length ca), .c (.int .i64 many)] (fun _ => True)
      (fun x hs => ((many < 0 ∨ 8160 < many) → x = .tup [.c (.slc none 0 0), .c (.int .i64 2)] ∧ hs = [bts za Na oa about.length (L about), shaT dn 0 f g]) ∧
        (0 ≤ many → many ≤ 8160 → ∃ (z : Bool) (N : Nat) (dn' : BitVec 32) (f' g' : Nat → BitVec 32), (dn' = 0#32 ∨ dn' = 1#32 ∧ f' = first ∧ g' = steps) ∧ (z = true → many.toNat = 0) ∧ (0 < many → z = false) ∧ many.toNat ≤ N ∧
          x = .tup [.c (.sn z 2 0 0 many.toNat many.toNat), .c (.int .i64 0)] ∧ hs = [bts za Na oa about.length (L about), shaT dn' 0 f' g', bts z N 0 many.toNat (exF s about)])) := by
  refine fn_of_body tds_ok follows_ Try.func23 rfl (t := [.a (.c (.p 1 0 0)), .a (.agg [.row 32 fun i => .w8 (L s i)]), .a (.c (.sn za 0 0 oa about.length ca)), .a (.c (.int .i64 (many))), .any, .any, .any, .any, .any, .any, .any, .any, .any, .any, .any, .any, .any, .any, .any, .any, .any, .any, .any, .any, .any, .any, .any, .any, .any, .any, .any, .any, .any, .any, .any, .any, .any, .any, .any, .any, .any, .any, .any, .any, .any, .any, .any]) rfl (fun w r0 hr _ => ?_)
  obtain ⟨x0, x1, rfl⟩ := len2' hr
  (repeat first | refine And.intro (by omega) ?_ | refine And.intro (by decide) ?_ | (with_reducible refine frc_parts (by first | omega | decide) ?_) | (with_reducible refine frc_bytesL (by first | omega | decide) ?_) | refine And.intro rfl ?_)
  refine ⟨fun h => Bool.noConfusion h, fun _ => ?_⟩
  by_cases h0 : many < 0
  · have e0 : decide (many < 0) = true := decide_eq_true h0
    (repeat first | refine ⟨fun _ => ?_, fun h => absurd h (by rw [e0]; decide)⟩ | refine ⟨fun h => absurd h (by rw [e0]; decide), fun _ => ?_⟩ | refine ⟨fun _ => ?_, fun h => Bool.noConfusion h⟩ | refine ⟨fun h => Bool.noConfusion h, fun _ => ?_⟩)
    refine ⟨.tup [.c (.slc none 0 0), .c (.int .i64 2)], [bts za Na oa about.length (L about), shaT dn 0 f g], ⟨[0, 1], ⟨rfl, rfl, rfl⟩, ?_⟩, fun _ => ⟨rfl, rfl⟩, fun h => absurd h0 (by omega)⟩
    (repeat first | exact trivial | refine ⟨rfl, ?_⟩ | refine ⟨fun _ _ => ⟨rfl, trivial⟩, ?_⟩ | refine ⟨fun _ _ => trivial, ?_⟩ | refine ⟨by omega, ?_⟩ | refine ⟨fun _ _ => eqC_winS, ?_⟩ | refine ⟨fun _ _ => eqC_winM, ?_⟩ | refine ⟨fun _ _ => eqC_winB, ?_⟩ | refine ⟨fun _ _ => eqC_selfB, ?_⟩ | refine ⟨fun _ _ => eqC_mpB, ?_⟩)
    refine eqC_bts ?_
    (repeat first | exact trivial | refine ⟨rfl, ?_⟩ | refine ⟨fun _ _ => ⟨rfl, trivial⟩, ?_⟩ | refine ⟨fun _ _ => trivial, ?_⟩ | refine ⟨by omega, ?_⟩ | refine ⟨fun _ _ => eqC_winS, ?_⟩ | refine ⟨fun _ _ => eqC_winM, ?_⟩ | refine ⟨fun _ _ => eqC_winB, ?_⟩ | refine ⟨fun _ _ => eqC_selfB, ?_⟩ | refine ⟨fun _ _ => eqC_mpB, ?_⟩)
  have e0 : decide (many < 0) = false := decide_eq_false h0
  by_cases h1 : 8160 < many
  · have e1 : decide (8160 < many) = true := decide_eq_true h1
    (repeat first | refine ⟨fun _ => ?_, fun h => absurd h (by rw [e0]; decide)⟩ | refine ⟨fun h => absurd h (by rw [e0]; decide), fun _ => ?_⟩ | refine ⟨fun _ => ?_, fun h => absurd h (by rw [e1]; decide)⟩ | refine ⟨fun h => absurd h (by rw [e1]; decide), fun _ => ?_⟩ | refine ⟨fun _ => ?_, fun h => Bool.noConfusion h⟩ | refine ⟨fun h => Bool.noConfusion h, fun _ => ?_⟩)
    refine ⟨.tup [.c (.slc none 0 0), .c (.int .i64 2)], [bts za Na oa about.length (L about), shaT dn 0 f g], ⟨[0, 1], ⟨rfl, rfl, rfl⟩, ?_⟩, fun _ => ⟨rfl, rfl⟩, fun _ h => absurd h1 (by omega)⟩
    (repeat first | exact trivial | refine ⟨rfl, ?_⟩ | refine ⟨fun _ _ => ⟨rfl, trivial⟩, ?_⟩ | refine ⟨fun _ _ => trivial, ?_⟩ | refine ⟨by omega, ?_⟩ | refine ⟨fun _ _ => eqC_winS, ?_⟩ | refine ⟨fun _ _ => eqC_winM, ?_⟩ | refine ⟨fun _ _ => eqC_winB, ?_⟩ | refine ⟨fun _ _ => eqC_selfB, ?_⟩ | refine ⟨fun _ _ => eqC_mpB, ?_⟩)
    refine eqC_bts ?_
    (repeat first | exact trivial | refine ⟨rfl, ?_⟩ | refine ⟨fun _ _ => ⟨rfl, trivial⟩, ?_⟩ | refine ⟨fun _ _ => trivial, ?_⟩ | refine ⟨by omega, ?_⟩ | refine ⟨fun _ _ => eqC_winS, ?_⟩ | refine ⟨fun _ _ => eqC_winM, ?_⟩ | refine ⟨fun _ _ => eqC_winB, ?_⟩ | refine ⟨fun _ _ => eqC_selfB, ?_⟩ | refine ⟨fun _ _ => eqC_mpB, ?_⟩)
  have e1 : decide (8160 < many) = false := decide_eq_false h1
  (repeat first | refine ⟨fun _ => ?_, fun h => absurd h (by rw [e0]; decide)⟩ | refine ⟨fun h => absurd h (by rw [e0]; decide), fun _ => ?_⟩ | refine ⟨fun _ => ?_, fun h => absurd h (by rw [e1]; decide)⟩ | refine ⟨fun h => absurd h (by rw [e1]; decide), fun _ => ?_⟩ | refine ⟨fun _ => ?_, fun h => Bool.noConfusion h⟩ | refine ⟨fun h => Bool.noConfusion h, fun _ => ?_⟩)
  obtain ⟨n, rfl⟩ : ∃ n : Nat, many = n := ⟨many.toNat, by omega⟩
  refine .inl ⟨Option (Nat × Nat), fun x => match x with
    | none => ⟨[.a (.c (.p 1 0 0)), .any, .a (.c (.sn za 0 0 oa about.length ca)), .a (.c (.int .i64 (↑n))), .any, .a (.c (.p 2 0 0)), .any, .any, .any, .any, .a (.c (.slc none 0 0)), .a (.c (.slc none 0 0)), .a (.c (.int .i64 (1))), .any, .any, .any, .any, .any, .any, .any, .any, .any, .any, .any, .any, .any, .any, .any, .any, .any, .any, .any, .any, .any, .any, .any, .any, .any, .any, .any, .any, .any, .any, .any, .any, .any, .any], [bts za Na oa about.length (L about), shaT dn 0 f g, [.row 32 fun i => .w8 (L s i)]]⟩
    | some (k, c) => ⟨[.a (.c (.p 1 0 0)), .any, .a (.c (.sn za 0 0 oa about.length ca)), .a (.c (.int .i64 (↑n))), .any, .a (.c (.p 2 0 0)), .any, .any, .any, .any, .a (.c (.sl 3 0 0 (32 * (k + 1)) c)), .a (.c (.sl 4 0 0 32 32)), .a (.c (.int .i64 (((k + 2 : Nat) : Int)))), .any, .any, .any, .any, .any, .any, .any, .any, .any, .any, .any, .any, .any, .any, .any, .any, .any, .any, .any, .any, .any, .any, .any, .any, .any, .any, .any, .any, .any, .any, .any, .any, .any, .any], [bts za Na oa about.length (L about), shaT 1 0 first steps, [.row 32 fun i => .w8 (L s i)], [.row c (bytesF (32 * (k + 1)) (L (exL s about (k + 1))))], [.row 32 fun i => .w8 (L (exT s about (k + 1)) i)]]⟩,
    fun x => match x with
    | none => True
    | some (k, c) => 32 * k < n ∧ 32 * (k + 1) ≤ c, fun x => match x with
    | none => 9000
    | some (k, _) => 300 - k, ⟨none, [0, 1, 2], ⟨⟨rfl, rfl, rfl⟩, ?_⟩, trivial⟩, fun x => ?_⟩
  · (repeat first | exact trivial | refine ⟨rfl, ?_⟩ | refine ⟨fun _ _ => ⟨rfl, trivial⟩, ?_⟩ | refine ⟨fun _ _ => trivial, ?_⟩ | refine ⟨by omega, ?_⟩ | refine ⟨fun _ _ => eqC_winS, ?_⟩ | refine ⟨fun _ _ => eqC_winM, ?_⟩ | refine ⟨fun _ _ => eqC_winB, ?_⟩ | refine ⟨fun _ _ => eqC_selfB, ?_⟩ | refine ⟨fun _ _ => eqC_mpB, ?_⟩)
    refine eqC_bts ?_
    (repeat first | exact trivial | refine ⟨rfl, ?_⟩ | refine ⟨fun _ _ => ⟨rfl, trivial⟩, ?_⟩ | refine ⟨fun _ _ => trivial, ?_⟩ | refine ⟨by omega, ?_⟩ | refine ⟨fun _ _ => eqC_winS, ?_⟩ | refine ⟨fun _ _ => eqC_winM, ?_⟩ | refine ⟨fun _ _ => eqC_winB, ?_⟩ | refine ⟨fun _ _ => eqC_selfB, ?_⟩ | refine ⟨fun _ _ => eqC_mpB, ?_⟩)
  rcases x with _ | ⟨k, c⟩
  · intro _
    refine ⟨fun h => ?_, fun h => ?_⟩
    · have hn : 0 < n := by have : (0 : Int) < n := of_decide_eq_true h; omega
      obtain ⟨M, hM⟩ : ∃ M, markL s ([] ++ about ++ [BitVec.ofNat 8 1]) = M := ⟨_, rfl⟩
      have hM2 : exT s about 1 = M := hM
      have hMl : M.length = 32 := by rw [← hM, markL_len]
      refine ⟨some [], [11], [(0, true), (1, true), (2, true), (3, true), (4, true), (5, true), (6, true), (7, true), (8, false), (9, false), (10, false), (11, false)], [12], by kernel_rfl, ?_⟩
      (repeat first | refine And.intro (by omega) ?_ | refine And.intro (by decide) ?_ | (with_reducible refine frc_parts (by first | omega | decide) ?_) | (with_reducible refine frc_bytesL (by first | omega | decide) ?_) | refine And.intro rfl ?_)
      refine call_same (fn_smark false true za false 32 0 Na 1 0 0 oa 0 32 0 ca 1 s [] about [BitVec.ofNat 8 1] 3 3 3 dn f g hd (by omega) (by omega) (fun h => Bool.noConfusion h) (by decide) (by decide) (fun _ => rfl) hNa hca hza (by decide) (by decide) (fun h => Bool.noConfusion h) (by decide) (by decide)) [2, 3, 0, 3, 4, 1] rfl ⟨rfl, rfl, rfl, hs.symm, rfl, rfl, rfl, rfl, trivial⟩ ?_ (fun _ _ => trivial) ?_
      · (repeat first | exact trivial | refine ⟨rfl, ?_⟩ | refine ⟨fun _ _ => ⟨rfl, trivial⟩, ?_⟩ | refine ⟨fun _ _ => trivial, ?_⟩ | refine ⟨by omega, ?_⟩ | refine ⟨fun _ _ => eqC_winS, ?_⟩ | refine ⟨fun _ _ => eqC_winM, ?_⟩ | refine ⟨fun _ _ => eqC_winB, ?_⟩ | refine ⟨fun _ _ => eqC_selfB, ?_⟩ | refine ⟨fun _ _ => eqC_mpB, ?_⟩)
        refine ⟨fun j hj => eqC_win8 (fun i hi => rfl) j, ?_⟩
        (repeat first | exact trivial | refine ⟨rfl, ?_⟩ | refine ⟨fun _ _ => ⟨rfl, trivial⟩, ?_⟩ | refine ⟨fun _ _ => trivial, ?_⟩ | refine ⟨by omega, ?_⟩ | refine ⟨fun _ _ => eqC_winS, ?_⟩ | refine ⟨fun _ _ => eqC_winM, ?_⟩ | refine ⟨fun _ _ => eqC_winB, ?_⟩ | refine ⟨fun _ _ => eqC_selfB, ?_⟩ | refine ⟨fun _ _ => eqC_mpB, ?_⟩)
        refine eqC_bts ?_
        (repeat first | exact trivial | refine ⟨rfl, ?_⟩ | refine ⟨fun _ _ => ⟨rfl, trivial⟩, ?_⟩ | refine ⟨fun _ _ => trivial, ?_⟩ | refine ⟨by omega, ?_⟩ | refine ⟨fun _ _ => eqC_winS, ?_⟩ | refine ⟨fun _ _ => eqC_winM, ?_⟩ | refine ⟨fun _ _ => eqC_winB, ?_⟩ | refine ⟨fun _ _ => eqC_selfB, ?_⟩ | refine ⟨fun _ _ => eqC_mpB, ?_⟩)
        refine ⟨fun j hj => eqC_win0 (fun i hi => ?_) j, ?_⟩
        · obtain rfl : i = 0 := by have : i < 1 := hi; omega
          rfl
        (repeat first | exact trivial | refine ⟨rfl, ?_⟩ | refine ⟨fun _ _ => ⟨rfl, trivial⟩, ?_⟩ | refine ⟨fun _ _ => trivial, ?_⟩ | refine ⟨by omega, ?_⟩ | refine ⟨fun _ _ => eqC_winS, ?_⟩ | refine ⟨fun _ _ => eqC_winM, ?_⟩ | refine ⟨fun _ _ => eqC_winB, ?_⟩ | refine ⟨fun _ _ => eqC_selfB, ?_⟩ | refine ⟨fun _ _ => eqC_mpB, ?_⟩)
        refine ⟨fun j hj => eqC_n3 (by decide) (by exact ⟨rfl, rfl, rfl, rfl, rfl, trivial⟩) (by exact fun _ => ⟨rfl, rfl, rfl, rfl, trivial⟩) (by exact fun _ => ⟨rfl, rfl, rfl, rfl, trivial⟩) j, ?_⟩
        (repeat first | exact trivial | refine ⟨rfl, ?_⟩ | refine ⟨fun _ _ => ⟨rfl, trivial⟩, ?_⟩ | refine ⟨fun _ _ => trivial, ?_⟩ | refine ⟨by omega, ?_⟩ | refine ⟨fun _ _ => eqC_winS, ?_⟩ | refine ⟨fun _ _ => eqC_winM, ?_⟩ | refine ⟨fun _ _ => eqC_winB, ?_⟩ | refine ⟨fun _ _ => eqC_selfB, ?_⟩ | refine ⟨fun _ _ => eqC_mpB, ?_⟩)
      rintro x hs' ⟨rfl, rfl⟩
      rw [cat3, hM]
      (repeat first | refine And.intro (by omega) ?_ | refine And.intro (by decide) ?_ | (with_reducible refine frc_parts (by first | omega | decide) ?_) | (with_reducible refine frc_bytesL (by first | omega | decide) ?_) | refine And.intro rfl ?_)
      refine ⟨fun h => absurd h (by decide), fun _ c' hc' => ?_⟩
      refine ⟨⟨by omega, by omega⟩, some (0, c'), [0, 1, 2, 6, 5], ⟨⟨rfl, rfl, rfl⟩, ?_⟩, ⟨by omega, by omega⟩, by first | omega | (dsimp only; omega)⟩
      (repeat first | exact trivial | refine ⟨rfl, ?_⟩ | refine ⟨fun _ _ => ⟨rfl, trivial⟩, ?_⟩ | refine ⟨fun _ _ => trivial, ?_⟩ | refine ⟨by omega, ?_⟩ | refine ⟨fun _ _ => eqC_winS, ?_⟩ | refine ⟨fun _ _ => eqC_winM, ?_⟩ | refine ⟨fun _ _ => eqC_winB, ?_⟩ | refine ⟨fun _ _ => eqC_selfB, ?_⟩ | refine ⟨fun _ _ => eqC_mpB, ?_⟩)
      refine eqC_bts ?_
      (repeat first | exact trivial | refine ⟨rfl, ?_⟩ | refine ⟨fun _ _ => ⟨rfl, trivial⟩, ?_⟩ | refine ⟨fun _ _ => trivial, ?_⟩ | refine ⟨by omega, ?_⟩ | refine ⟨fun _ _ => eqC_winS, ?_⟩ | refine ⟨fun _ _ => eqC_winM, ?_⟩ | refine ⟨fun _ _ => eqC_winB, ?_⟩ | refine ⟨fun _ _ => eqC_selfB, ?_⟩ | refine ⟨fun _ _ => eqC_mpB, ?_⟩)
      refine ⟨fun j hj => eqC_bytes (fun i hi => ?_) j, rfl, fun j hj => ?_, trivial⟩
      · unfold newF
        rw [if_pos (by simpa [scale] using hi)]
        have hE : exL s about 1 = M := by rw [← hM2]; rfl
        show _ = SC.w8 (L (exL s about 1) i)
        rw [hE]
        rfl
      · show eqC _ _ (SC.w8 (L (exT s about 1) j)) True
        rw [hM2]
        exact ⟨rfl, trivial⟩
    · obtain rfl : n = 0 := by have : ¬ (0 : Int) < n := of_decide_eq_false h; omega
      (repeat first | refine And.intro (by omega) ?_ | refine And.intro (by decide) ?_ | (with_reducible refine frc_parts (by first | omega | decide) ?_) | (with_reducible refine frc_bytesL (by first | omega | decide) ?_) | refine And.intro rfl ?_)
      refine ⟨.tup [.c (.sn true 2 0 0 0 0), .c (.int .i64 0)], [bts za Na oa about.length (L about), shaT dn 0 f g, []], ⟨[0, 1, 2], ⟨rfl, rfl, rfl⟩, ?_⟩, fun h => absurd h (by omega), fun _ _ => ⟨true, 0, dn, f, g, hd, fun _ => rfl, fun h => absurd h (by omega), Nat.le_refl _, rfl, rfl⟩⟩
      (repeat first | exact trivial | refine ⟨rfl, ?_⟩ | refine ⟨fun _ _ => ⟨rfl, trivial⟩, ?_⟩ | refine ⟨fun _ _ => trivial, ?_⟩ | refine ⟨by omega, ?_⟩ | refine ⟨fun _ _ => eqC_winS, ?_⟩ | refine ⟨fun _ _ => eqC_winM, ?_⟩ | refine ⟨fun _ _ => eqC_winB, ?_⟩ | refine ⟨fun _ _ => eqC_selfB, ?_⟩ | refine ⟨fun _ _ => eqC_mpB, ?_⟩)
      refine eqC_bts ?_
      (repeat first | exact trivial | refine ⟨rfl, ?_⟩ | refine ⟨fun _ _ => ⟨rfl, trivial⟩, ?_⟩ | refine ⟨fun _ _ => trivial, ?_⟩ | refine ⟨by omega, ?_⟩ | refine ⟨fun _ _ => eqC_winS, ?_⟩ | refine ⟨fun _ _ => eqC_winM, ?_⟩ | refine ⟨fun _ _ => eqC_winB, ?_⟩ | refine ⟨fun _ _ => eqC_selfB, ?_⟩ | refine ⟨fun _ _ => eqC_mpB, ?_⟩)
  · rintro ⟨hk, hc⟩
    refine ⟨fun h => ?_, fun h => ?_⟩
    · have hn : 32 * (k + 1) < n := by have : ((32 * (k + 1) : Nat) : Int) < n := of_decide_eq_true h; omega
      obtain ⟨T, hT⟩ : ∃ T, exT s about (k + 1) = T := ⟨_, rfl⟩
      have hTl : T.length = 32 := by rw [← hT, exT_len]
      obtain ⟨M, hM⟩ : ∃ M, markL s (T ++ about ++ [BitVec.ofNat 8 (k + 2)]) = M := ⟨_, rfl⟩
      have hM2 : exT s about (k + 2) = M := by rw [← hM, ← hT]; rfl
      rw [hT]
      have hMl : M.length = 32 := by rw [← hM, markL_len]
      refine ⟨some [], [11], [(0, true), (1, true), (2, true), (3, true), (4, true), (5, true), (6, true), (7, true), (8, false), (9, false), (10, false), (11, false)], [12], by kernel_rfl, ?_⟩
      (repeat first | refine And.intro (by omega) ?_ | refine And.intro (by decide) ?_ | (with_reducible refine frc_parts (by first | omega | decide) ?_) | (with_reducible refine frc_bytesL (by first | omega | decide) ?_) | refine And.intro rfl ?_)
      refine call_same (fn_smark false false za false 32 32 Na 1 0 0 oa 0 32 32 ca 1 s T about [BitVec.ofNat 8 (k + 2)] 3 3 3 1 first steps (.inr ⟨rfl, rfl, rfl⟩) (by omega) (by omega) (fun h => Bool.noConfusion h) (by omega) (by omega) (fun h => Bool.noConfusion h) hNa hca hza (Nat.le_refl 1) (Nat.le_refl 1) (fun h => Bool.noConfusion h) (by decide) (by decide)) [2, 4, 0, 5, 6, 1] rfl ⟨rfl, rfl, rfl, hs.symm, rfl, rfl, rfl, rfl, trivial⟩ ?_ (fun _ _ => trivial) ?_
      · (repeat first | exact trivial | refine ⟨rfl, ?_⟩ | refine ⟨fun _ _ => ⟨rfl, trivial⟩, ?_⟩ | refine ⟨fun _ _ => trivial, ?_⟩ | refine ⟨by omega, ?_⟩ | refine ⟨fun _ _ => eqC_winS, ?_⟩ | refine ⟨fun _ _ => eqC_winM, ?_⟩ | refine ⟨fun _ _ => eqC_winB, ?_⟩ | refine ⟨fun _ _ => eqC_selfB, ?_⟩ | refine ⟨fun _ _ => eqC_mpB, ?_⟩)
        refine ⟨fun j hj => eqC_win8 (fun i hi => rfl) j, ?_⟩
        (repeat first | exact trivial | refine ⟨rfl, ?_⟩ | refine ⟨fun _ _ => ⟨rfl, trivial⟩, ?_⟩ | refine ⟨fun _ _ => trivial, ?_⟩ | refine ⟨by omega, ?_⟩ | refine ⟨fun _ _ => eqC_winS, ?_⟩ | refine ⟨fun _ _ => eqC_winM, ?_⟩ | refine ⟨fun _ _ => eqC_winB, ?_⟩ | refine ⟨fun _ _ => eqC_selfB, ?_⟩ | refine ⟨fun _ _ => eqC_mpB, ?_⟩)
        refine ⟨fun j hj => eqC_win8 (fun i hi => rfl) j, ?_⟩
        (repeat first | exact trivial | refine ⟨rfl, ?_⟩ | refine ⟨fun _ _ => ⟨rfl, trivial⟩, ?_⟩ | refine ⟨fun _ _ => trivial, ?_⟩ | refine ⟨by omega, ?_⟩ | refine ⟨fun _ _ => eqC_winS, ?_⟩ | refine ⟨fun _ _ => eqC_winM, ?_⟩ | refine ⟨fun _ _ => eqC_winB, ?_⟩ | refine ⟨fun _ _ => eqC_selfB, ?_⟩ | refine ⟨fun _ _ => eqC_mpB, ?_⟩)
        refine eqC_bts ?_
        (repeat first | exact trivial | refine ⟨rfl, ?_⟩ | refine ⟨fun _ _ => ⟨rfl, trivial⟩, ?_⟩ | refine ⟨fun _ _ => trivial, ?_⟩ | refine ⟨by omega, ?_⟩ | refine ⟨fun _ _ => eqC_winS, ?_⟩ | refine ⟨fun _ _ => eqC_winM, ?_⟩ | refine ⟨fun _ _ => eqC_winB, ?_⟩ | refine ⟨fun _ _ => eqC_selfB, ?_⟩ | refine ⟨fun _ _ => eqC_mpB, ?_⟩)
        refine ⟨fun j hj => eqC_win0 (fun i hi => ?_) j, ?_⟩
        · obtain rfl : i = 0 := by have : i < 1 := hi; omega
          exact congrArg SC.w8 (BitVec.ofInt_natCast 8 (k + 2))
        (repeat first | exact trivial | refine ⟨rfl, ?_⟩ | refine ⟨fun _ _ => ⟨rfl, trivial⟩, ?_⟩ | refine ⟨fun _ _ => trivial, ?_⟩ | refine ⟨by omega, ?_⟩ | refine ⟨fun _ _ => eqC_winS, ?_⟩ | refine ⟨fun _ _ => eqC_winM, ?_⟩ | refine ⟨fun _ _ => eqC_winB, ?_⟩ | refine ⟨fun _ _ => eqC_selfB, ?_⟩ | refine ⟨fun _ _ => eqC_mpB, ?_⟩)
        refine ⟨fun j hj => eqC_n3 (by decide) (by exact ⟨rfl, rfl, hTl.symm, rfl, trivial⟩) (by exact fun _ => ⟨rfl, rfl, rfl, rfl, trivial⟩) (by exact fun _ => ⟨rfl, rfl, rfl, rfl, trivial⟩) j, ?_⟩
        (repeat first | exact trivial | refine ⟨rfl, ?_⟩ | refine ⟨fun _ _ => ⟨rfl, trivial⟩, ?_⟩ | refine ⟨fun _ _ => trivial, ?_⟩ | refine ⟨by omega, ?_⟩ | refine ⟨fun _ _ => eqC_winS, ?_⟩ | refine ⟨fun _ _ => eqC_winM, ?_⟩ | refine ⟨fun _ _ => eqC_winB, ?_⟩ | refine ⟨fun _ _ => eqC_selfB, ?_⟩ | refine ⟨fun _ _ => eqC_mpB, ?_⟩)
      rintro x hs' ⟨rfl, rfl⟩
      rw [cat3, hM]
      (repeat first | refine And.intro (by omega) ?_ | refine And.intro (by decide) ?_ | (with_reducible refine frc_parts (by first | omega | decide) ?_) | (with_reducible refine frc_bytesL (by first | omega | decide) ?_) | refine And.intro rfl ?_)
      refine ⟨⟨by omega, by simp only [scale]; omega, by show (32 * (k + 1) + 32) * 1 ≤ 140737488355328; omega⟩, fun c' hc' => ?_⟩
      refine ⟨⟨by omega, by omega⟩, some (k + 1, c'), [0, 1, 2, 8, 7], ⟨⟨rfl, rfl, rfl⟩, ?_⟩, ⟨by omega, by omega⟩, by first | omega | (dsimp only; omega)⟩
      (repeat first | exact trivial | refine ⟨rfl, ?_⟩ | refine ⟨fun _ _ => ⟨rfl, trivial⟩, ?_⟩ | refine ⟨fun _ _ => trivial, ?_⟩ | refine ⟨by omega, ?_⟩ | refine ⟨fun _ _ => eqC_winS, ?_⟩ | refine ⟨fun _ _ => eqC_winM, ?_⟩ | refine ⟨fun _ _ => eqC_winB, ?_⟩ | refine ⟨fun _ _ => eqC_selfB, ?_⟩ | refine ⟨fun _ _ => eqC_mpB, ?_⟩)
      refine eqC_bts ?_
      (repeat first | exact trivial | refine ⟨rfl, ?_⟩ | refine ⟨fun _ _ => ⟨rfl, trivial⟩, ?_⟩ | refine ⟨fun _ _ => trivial, ?_⟩ | refine ⟨by omega, ?_⟩ | refine ⟨fun _ _ => eqC_winS, ?_⟩ | refine ⟨fun _ _ => eqC_winM, ?_⟩ | refine ⟨fun _ _ => eqC_winB, ?_⟩ | refine ⟨fun _ _ => eqC_selfB, ?_⟩ | refine ⟨fun _ _ => eqC_mpB, ?_⟩)
      refine ⟨fun j hj => eqC_bytes (fun i hi => ?_) j, rfl, fun j hj => ?_, trivial⟩
      · unfold appF
        have hE : exL s about (k + 2) = exL s about (k + 1) ++ M := by rw [← hM2]; rfl
        show _ = SC.w8 (L (exL s about (k + 2)) i)
        rw [hE, L_app, exL_len]
        by_cases h2 : i < 32 * (k + 1)
        · rw [if_pos (by simpa [scale] using h2), if_pos h2]
          exact bytesF_lt h2
        · rw [if_neg (by simpa [scale] using h2), if_pos (by simp only [scale]; omega), if_neg h2]
          rfl
      · show eqC _ _ (SC.w8 (L (exT s about (k + 2)) j)) True
        rw [hM2]
        exact ⟨rfl, trivial⟩
    · have hn : n ≤ 32 * (k + 1) := by have : ¬ ((32 * (k + 1) : Nat) : Int) < n := of_decide_eq_false h; omega
      (repeat first | refine And.intro (by omega) ?_ | refine And.intro (by decide) ?_ | (with_reducible refine frc_parts (by first | omega | decide) ?_) | (with_reducible refine frc_bytesL (by first | omega | decide) ?_) | refine And.intro rfl ?_)
      refine ⟨.tup [.c (.sn false 2 0 0 n n), .c (.int .i64 0)], [bts za Na oa about.length (L about), shaT 1 0 first steps, bts false c 0 n (exF s about)], ⟨[0, 1, 3], ⟨rfl, rfl, rfl⟩, ?_⟩, fun h => absurd h (by omega), fun _ _ => ⟨false, c, 1, first, steps, .inr ⟨rfl, rfl, rfl⟩, fun h => Bool.noConfusion h, fun _ => rfl, by omega, rfl, rfl⟩⟩
      refine ⟨rfl, ?_, rfl, rfl, rfl, ?_⟩
      · split <;> rfl
      refine eqC_bts ?_
      (repeat first | exact trivial | refine ⟨rfl, ?_⟩ | refine ⟨fun _ _ => ⟨rfl, trivial⟩, ?_⟩ | refine ⟨fun _ _ => trivial, ?_⟩ | refine ⟨by omega, ?_⟩ | refine ⟨fun _ _ => eqC_winS, ?_⟩ | refine ⟨fun _ _ => eqC_winM, ?_⟩ | refine ⟨fun _ _ => eqC_winB, ?_⟩ | refine ⟨fun _ _ => eqC_selfB, ?_⟩ | refine ⟨fun _ _ => eqC_mpB, ?_⟩)
      exact ⟨fun j hj => eqC_win0 (fun i hi => by rw [bytesF_lt (by omega), exL_at _ _ _ _ (by omega)]) j, trivial⟩
end Sx
end Go.Proofs.Ytndlhhhebijknaa
end

section
/-
  Secrets out of secrets: the document's Expand. No condition.
-/
namespace Go.Proofs.Ytndlhhhebijknaa
set_option linter.unusedVariables false
namespace Sx
open Sha

theorem app_row {f g : Nat → SC} {l m : Bs} {n k : Nat} (hn : l.length = n) (hk : m.length = k) (hf : ∀ i, i < n → f i = .w8 (L l i)) (hg : ∀ i, i < k → g i = .w8 (L m i)) (i : Nat) (hi : i < n + k) :
    appF f 0 (scale n (0 + 1)) (scale k (0 + 1)) g i = .w8 (L (l ++ m) i) := by
  have e1 : scale n (0 + 1) = n := by rw [scale_eq, Nat.zero_add, Nat.mul_one]
  have e2 : scale k (0 + 1) = k := by rw [scale_eq, Nat.zero_add, Nat.mul_one]
  unfold appF
  rw [e1, e2, L_app, hn]
  by_cases h : i < n
  · rw [if_pos h, if_pos h]; exact hf i h
  · rw [if_neg h, if_pos hi, if_neg h]; exact hg _ (by omega)
theorem new_row {g : Nat → SC} {m : Bs} {k : Nat} (hg : ∀ i, i < k → g i = .w8 (L m i)) (i : Nat) (hi : i < k) : newF (scale k (0 + 1)) g i = .w8 (L m i) := by
  have e2 : scale k (0 + 1) = k := by rw [scale_eq, Nat.zero_add, Nat.mul_one]
  unfold newF
  rw [e2, if_pos hi]; exact hg i hi
theorem one_row {x y : BitVec 8} (h : x = y) (i : Nat) (hi : i < 1) : nthC [.w8 x] i = .w8 (L [y] i) := by
  obtain rfl : i = 0 := by omega
  subst h; rfl
set_option maxRecDepth 20000 in
set_option maxHeartbeats 2000000 in
theorem fn_rexpand (zs za : Bool) (Ns Na os oa cs ca : Nat) (s about : Bs) (n : Nat) (hNs : os + s.length ≤ Ns) (hcs : s.length ≤ cs) (hzs : zs = true → s = []) (hNa : oa + about.length ≤ Na) (hca : about.length ≤ ca) (hza : za = true → about = [])
    (hsl : s.length < 1000000) (hal : about.length < 1000000) (hn : n ≤ 100000) :
    FnR Try.prog tds 24 2 [bts zs Ns os s.length (L s), bts za Na oa about.length (L about)] [.c (.sn zs 0 0 os s.length cs), .c (.sn za 1 0 oa about.length ca), .c (.int .i64 (n : Int))] (fun _ => True)
      (fun x hs => (n = 0 → x = .a (.c (.slc none 0 0)) ∧ hs = [bts zs Ns os s.length (L s), bts za Na oa about.length (L about)]) ∧ (0 < n → ∃ N c : Nat, n ≤ N ∧ n ≤ c ∧ x = .a (.c (.sl 2 0 0 n c)) ∧ hs = [bts zs Ns os s.length (L s), bts za Na oa about.length (L about), [.row N (winF 0 n (exF s about))]])) := by
  refine fn_of_body tds_ok follows_ Try.func24 rfl (t := [.a (.c (.sn zs 0 0 os s.length cs)), .a (.c (.sn za 1 0 oa about.length ca)), .a (.c (.int .i64 (↑n))), .any, .any, .any, .any, .any, .any, .any, .any, .any, .any, .any, .any, .any, .any, .any, .any, .any, .any, .any, .any, .any, .any, .any, .any, .any, .any, .any, .any, .any, .any, .any, .any, .any]) rfl (fun w r0 hr _ => ?_)
  obtain ⟨x0, x1, rfl⟩ := len2' hr
  refine .inl ⟨Option (Nat × Nat × Nat), fun x => match x with
    | none => ⟨[.a (.c (.sn zs 0 0 os s.length cs)), .a (.c (.sn za 1 0 oa about.length ca)), .a (.c (.int .i64 (↑n))), .any, .any, .any, .any, .a (.c (.slc none 0 0)), .a (.c (.slc none 0 0)), .a (.c (.int .i64 (1))), .any, .any, .any, .any, .any, .any, .any, .any, .any, .any, .any, .any, .any, .any, .any, .any, .any, .any, .any, .any, .any, .any, .any, .any, .any, .any], [bts zs Ns os s.length (L s), bts za Na oa about.length (L about)]⟩
    | some (k, c, cl) => ⟨[.a (.c (.sn zs 0 0 os s.length cs)), .a (.c (.sn za 1 0 oa about.length ca)), .a (.c (.int .i64 (↑n))), .any, .any, .any, .any, .a (.c (.sl 2 0 0 (32 * (k + 1)) c)), .a (.c (.sl 3 0 0 32 cl)), .a (.c (.int .i64 (((k + 2 : Nat) : Int)))), .any, .any, .any, .any, .any, .any, .any, .any, .any, .any, .any, .any, .any, .any, .any, .any, .any, .any, .any, .any, .any, .any, .any, .any, .any, .any], [bts zs Ns os s.length (L s), bts za Na oa about.length (L about), [.row c (bytesF (32 * (k + 1)) (L (exL s about (k + 1))))], [.row cl (bytesF 32 (L (exT s about (k + 1))))]]⟩,
    fun x => match x with
    | none => True
    | some (k, c, cl) => 32 * k < n ∧ 32 * (k + 1) ≤ c ∧ 32 ≤ cl, fun x => match x with
    | none => 9000
    | some (k, _, _) => 5000 - k, ⟨none, [0, 1], ⟨⟨rfl, rfl, rfl⟩, ?_⟩, trivial⟩, fun x => ?_⟩
  · (repeat first | exact trivial | refine ⟨rfl, ?_⟩ | refine ⟨fun _ _ => ⟨rfl, trivial⟩, ?_⟩ | refine ⟨fun _ _ => trivial, ?_⟩ | refine ⟨by omega, ?_⟩ | refine ⟨fun _ _ => eqC_winS, ?_⟩ | refine ⟨fun _ _ => eqC_winM, ?_⟩ | refine ⟨fun _ _ => eqC_winB, ?_⟩ | refine ⟨fun _ _ => eqC_selfB, ?_⟩ | refine ⟨fun _ _ => eqC_mpB, ?_⟩)
    refine eqC_bts (eqC_bts ?_)
    (repeat first | exact trivial | refine ⟨rfl, ?_⟩ | refine ⟨fun _ _ => ⟨rfl, trivial⟩, ?_⟩ | refine ⟨fun _ _ => trivial, ?_⟩ | refine ⟨by omega, ?_⟩ | refine ⟨fun _ _ => eqC_winS, ?_⟩ | refine ⟨fun _ _ => eqC_winM, ?_⟩ | refine ⟨fun _ _ => eqC_winB, ?_⟩ | refine ⟨fun _ _ => eqC_selfB, ?_⟩ | refine ⟨fun _ _ => eqC_mpB, ?_⟩)
  rcases x with _ | ⟨k, c, cl⟩
  · intro _
    refine ⟨fun h => ?_, fun h => ?_⟩
    · have hn : 0 < n := by have : (0 : Int) < n := of_decide_eq_true h; omega
      obtain ⟨T, hT⟩ : ∃ T : Bs, [] = T := ⟨_, rfl⟩
      have hTl : T.length = 0 := by rw [← hT]; rfl
      obtain ⟨M, hM⟩ : ∃ M, markL s (T ++ about ++ [BitVec.ofNat 8 1]) = M := ⟨_, rfl⟩
      have hM2 : exT s about 1 = M := by rw [← hM, ← hT]; rfl
      have hMl : M.length = 32 := by rw [← hM, markL_len]
      (repeat first | refine And.intro (by omega) ?_ | refine And.intro (by decide) ?_ | (with_reducible refine frc_parts (by first | omega | decide) ?_) | (with_reducible refine frc_bytesL (by first | omega | decide) ?_) | refine And.intro rfl ?_)
      refine fun c1 hc1 => ?_
      have r1 : ∀ i, i < 0 + 0 → appF (nthC []) 0 (scale 0 (0 + 1)) (scale 0 (0 + 1)) (fun _ => SC.any) i = .w8 (L ([] ++ T) i) := app_row (n := 0) (k := 0) rfl hTl (fun i hi => absurd hi (by omega)) (fun i hi => absurd hi (by omega))
      refine sn_bts (N := Na) (b := L about) ?_ hNa (fun h => by rw [hza h]; rfl) (fun g hg => ?_)
      · rfl
      refine ⟨⟨by omega, by simp only [scale]; omega, by show (0 + 0 + about.length) * 1 ≤ 140737488355328; omega⟩, fun c2 hc2 => ?_⟩
      have r2 := app_row (n := 0 + 0) (by simp [hTl]) rfl r1 hg
      (repeat first | refine And.intro (by omega) ?_ | refine And.intro (by decide) ?_ | (with_reducible refine frc_parts (by first | omega | decide) ?_) | (with_reducible refine frc_bytesL (by first | omega | decide) ?_) | refine And.intro rfl ?_)
      refine ⟨⟨by omega, by simp only [scale]; omega, by show (0 + 0 + about.length + 1) * 1 ≤ 140737488355328; omega⟩, fun c3 hc3 => ?_⟩
      have r3 := app_row (m := [BitVec.ofNat 8 1]) (k := 1) (by rw [List.length_append, List.nil_append, hTl, Nat.zero_add]) rfl r2 (one_row (x := BitVec.ofInt 8 1) rfl)
      rw [List.nil_append] at r3
      have hXl : (T ++ about ++ [BitVec.ofNat 8 1]).length = 0 + 0 + about.length + 1 := by rw [List.length_append, List.length_append, hTl]; simp
      obtain ⟨X, hX⟩ : ∃ X, T ++ about ++ [BitVec.ofNat 8 1] = X := ⟨_, rfl⟩
      rw [hX] at r3 hXl hM
      refine ⟨by kernel_rfl, call_same (fn_rmark zs false Ns c3 os 0 cs c3 s X hNs hcs hzs (by omega) (by omega) (fun h => Bool.noConfusion h) (by omega) (by omega)) [0, 6] rfl ⟨rfl, rfl, rfl, rfl, rfl, rfl, hXl.symm, rfl, trivial⟩ ?_ (fun _ _ => trivial) ?_⟩
      · refine eqC_bts ?_
        exact ⟨rfl, fun j hj => eqC_win0 (fun i hi => r3 i (by omega)) j, trivial⟩
      rintro x hs' ⟨c4, rfl, rfl, hc4⟩
      rw [hM]
      refine ⟨by simp only [scale]; omega, ⟨rfl, rfl⟩, by decide, fun h => absurd h (by decide), fun _ c5 hc5 => ?_⟩
      refine ⟨⟨by omega, by omega⟩, some (0, c5, c4), [0, 1, 8, 7], ⟨⟨rfl, rfl, rfl⟩, ?_⟩, ⟨by omega, by omega, hc4⟩, by first | omega | (dsimp only; omega)⟩
      (repeat first | exact trivial | refine ⟨rfl, ?_⟩ | refine ⟨fun _ _ => ⟨rfl, trivial⟩, ?_⟩ | refine ⟨fun _ _ => trivial, ?_⟩ | refine ⟨by omega, ?_⟩ | refine ⟨fun _ _ => eqC_winS, ?_⟩ | refine ⟨fun _ _ => eqC_winM, ?_⟩ | refine ⟨fun _ _ => eqC_winB, ?_⟩ | refine ⟨fun _ _ => eqC_selfB, ?_⟩ | refine ⟨fun _ _ => eqC_mpB, ?_⟩)
      refine eqC_bts (eqC_bts ?_)
      (repeat first | exact trivial | refine ⟨rfl, ?_⟩ | refine ⟨fun _ _ => ⟨rfl, trivial⟩, ?_⟩ | refine ⟨fun _ _ => trivial, ?_⟩ | refine ⟨by omega, ?_⟩ | refine ⟨fun _ _ => eqC_winS, ?_⟩ | refine ⟨fun _ _ => eqC_winM, ?_⟩ | refine ⟨fun _ _ => eqC_winB, ?_⟩ | refine ⟨fun _ _ => eqC_selfB, ?_⟩ | refine ⟨fun _ _ => eqC_mpB, ?_⟩)
      refine ⟨fun j hj => eqC_bytes (fun i hi => ?_) j, rfl, fun j hj => ?_, trivial⟩
      · show _ = SC.w8 (L (exL s about 1) i)
        rw [show exL s about 1 = M by rw [← hM2]; rfl]
        refine new_row (fun i hi => ?_) i hi
        show SC.mp _ (bytesF 32 (L M) (i + 0)) = _
        rw [bytesF_lt (by omega)]
        rfl
      · show eqC _ _ (bytesF 32 (L (exT s about 1)) j) True
        rw [hM2]
        exact eqC_mpB
    · obtain rfl : n = 0 := by have : ¬ (0 : Int) < n := of_decide_eq_false h; omega
      (repeat first | refine And.intro (by omega) ?_ | refine And.intro (by decide) ?_ | (with_reducible refine frc_parts (by first | omega | decide) ?_) | (with_reducible refine frc_bytesL (by first | omega | decide) ?_) | refine And.intro rfl ?_)
      refine ⟨.a (.c (.slc none 0 0)), [bts zs Ns os s.length (L s), bts za Na oa about.length (L about)], ⟨[0, 1], ⟨rfl, rfl, rfl⟩, ?_⟩, fun _ => ⟨rfl, rfl⟩, fun h => absurd h (by omega)⟩
      (repeat first | exact trivial | refine ⟨rfl, ?_⟩ | refine ⟨fun _ _ => ⟨rfl, trivial⟩, ?_⟩ | refine ⟨fun _ _ => trivial, ?_⟩ | refine ⟨by omega, ?_⟩ | refine ⟨fun _ _ => eqC_winS, ?_⟩ | refine ⟨fun _ _ => eqC_winM, ?_⟩ | refine ⟨fun _ _ => eqC_winB, ?_⟩ | refine ⟨fun _ _ => eqC_selfB, ?_⟩ | refine ⟨fun _ _ => eqC_mpB, ?_⟩)
      refine eqC_bts (eqC_bts ?_)
      (repeat first | exact trivial | refine ⟨rfl, ?_⟩ | refine ⟨fun _ _ => ⟨rfl, trivial⟩, ?_⟩ | refine ⟨fun _ _ => trivial, ?_⟩ | refine ⟨by omega, ?_⟩ | refine ⟨fun _ _ => eqC_winS, ?_⟩ | refine ⟨fun _ _ => eqC_winM, ?_⟩ | refine ⟨fun _ _ => eqC_winB, ?_⟩ | refine ⟨fun _ _ => eqC_selfB, ?_⟩ | refine ⟨fun _ _ => eqC_mpB, ?_⟩)
  · rintro ⟨hk, hc, hcl⟩
    refine ⟨fun h => ?_, fun h => ?_⟩
    · have hn : 32 * (k + 1) < n := by have : ((32 * (k + 1) : Nat) : Int) < n := of_decide_eq_true h; omega
      obtain ⟨T, hT⟩ : ∃ T, exT s about (k + 1) = T := ⟨_, rfl⟩
      have hTl : T.length = 32 := by rw [← hT, exT_len]
      obtain ⟨M, hM⟩ : ∃ M, markL s (T ++ about ++ [BitVec.ofNat 8 (k + 2)]) = M := ⟨_, rfl⟩
      have hM2 : exT s about (k + 2) = M := by rw [← hM, ← hT]; rfl
      rw [hT]
      have hMl : M.length = 32 := by rw [← hM, markL_len]
      (repeat first | refine And.intro (by omega) ?_ | refine And.intro (by decide) ?_ | (with_reducible refine frc_parts (by first | omega | decide) ?_) | (with_reducible refine frc_bytesL (by first | omega | decide) ?_) | refine And.intro rfl ?_)
      refine ⟨by simp only [scale]; omega, ⟨by decide, by decide, by decide⟩, fun c1 hc1 => ?_⟩
      have r1 : ∀ i, i < 0 + 32 → appF (nthC []) 0 (scale 0 (0 + 1)) (scale 32 (0 + 1)) (fun q => bytesF 32 (L T) (q + 0)) i = .w8 (L ([] ++ T) i) := app_row (n := 0) (k := 32) rfl hTl (fun i hi => absurd hi (by omega)) (fun i hi => bytesF_lt hi)
      refine sn_bts (N := Na) (b := L about) ?_ hNa (fun h => by rw [hza h]; rfl) (fun g hg => ?_)
      · rfl
      refine ⟨⟨by omega, by simp only [scale]; omega, by show (0 + 32 + about.length) * 1 ≤ 140737488355328; omega⟩, fun c2 hc2 => ?_⟩
      have r2 := app_row (n := 0 + 32) (by simp [hTl]) rfl r1 hg
      (repeat first | refine And.intro (by omega) ?_ | refine And.intro (by decide) ?_ | (with_reducible refine frc_parts (by first | omega | decide) ?_) | (with_reducible refine frc_bytesL (by first | omega | decide) ?_) | refine And.intro rfl ?_)
      refine ⟨⟨by omega, by simp only [scale]; omega, by show (0 + 32 + about.length + 1) * 1 ≤ 140737488355328; omega⟩, fun c3 hc3 => ?_⟩
      have r3 := app_row (m := [BitVec.ofNat 8 (k + 2)]) (k := 1) (by rw [List.length_append, List.nil_append, hTl, Nat.zero_add]) rfl r2 (one_row (BitVec.ofInt_natCast 8 (k + 2)))
      rw [List.nil_append] at r3
      have hXl : (T ++ about ++ [BitVec.ofNat 8 (k + 2)]).length = 0 + 32 + about.length + 1 := by rw [List.length_append, List.length_append, hTl]; simp
      obtain ⟨X, hX⟩ : ∃ X, T ++ about ++ [BitVec.ofNat 8 (k + 2)] = X := ⟨_, rfl⟩
      rw [hX] at r3 hXl hM
      refine ⟨by kernel_rfl, call_same (fn_rmark zs false Ns c3 os 0 cs c3 s X hNs hcs hzs (by omega) (by omega) (fun h => Bool.noConfusion h) (by omega) (by omega)) [0, 8] rfl ⟨rfl, rfl, rfl, rfl, rfl, rfl, hXl.symm, rfl, trivial⟩ ?_ (fun _ _ => trivial) ?_⟩
      · refine eqC_bts ?_
        exact ⟨rfl, fun j hj => eqC_win0 (fun i hi => r3 i (by omega)) j, trivial⟩
      rintro x hs' ⟨c4, rfl, rfl, hc4⟩
      rw [hM]
      refine ⟨by simp only [scale]; omega, ⟨by omega, by simp only [scale]; omega, by show (32 * (k + 1) + 32) * 1 ≤ 140737488355328; omega⟩, fun c5 hc5 => ?_⟩
      refine ⟨⟨by omega, by omega⟩, some (k + 1, c5, c4), [0, 1, 10, 9], ⟨⟨rfl, rfl, rfl⟩, ?_⟩, ⟨by omega, by omega, hc4⟩, by first | omega | (dsimp only; omega)⟩
      (repeat first | exact trivial | refine ⟨rfl, ?_⟩ | refine ⟨fun _ _ => ⟨rfl, trivial⟩, ?_⟩ | refine ⟨fun _ _ => trivial, ?_⟩ | refine ⟨by omega, ?_⟩ | refine ⟨fun _ _ => eqC_winS, ?_⟩ | refine ⟨fun _ _ => eqC_winM, ?_⟩ | refine ⟨fun _ _ => eqC_winB, ?_⟩ | refine ⟨fun _ _ => eqC_selfB, ?_⟩ | refine ⟨fun _ _ => eqC_mpB, ?_⟩)
      refine eqC_bts (eqC_bts ?_)
      (repeat first | exact trivial | refine ⟨rfl, ?_⟩ | refine ⟨fun _ _ => ⟨rfl, trivial⟩, ?_⟩ | refine ⟨fun _ _ => trivial, ?_⟩ | refine ⟨by omega, ?_⟩ | refine ⟨fun _ _ => eqC_winS, ?_⟩ | refine ⟨fun _ _ => eqC_winM, ?_⟩ | refine ⟨fun _ _ => eqC_winB, ?_⟩ | refine ⟨fun _ _ => eqC_selfB, ?_⟩ | refine ⟨fun _ _ => eqC_mpB, ?_⟩)
      refine ⟨fun j hj => eqC_bytes (fun i hi => ?_) j, rfl, fun j hj => ?_, trivial⟩
      · show _ = SC.w8 (L (exL s about (k + 2)) i)
        rw [show exL s about (k + 2) = exL s about (k + 1) ++ M by rw [← hM2]; rfl]
        refine app_row (exL_len _ _ _) hMl (fun i hi => bytesF_lt hi) (fun i hi => ?_) i (by have : i < 32 * (k + 1 + 1) := hi; omega)
        show SC.mp _ (bytesF 32 (L M) (i + 0)) = _
        rw [bytesF_lt (by omega)]
        rfl
      · show eqC _ _ (bytesF 32 (L (exT s about (k + 2))) j) True
        rw [hM2]
        exact eqC_mpB
    · have hn : n ≤ 32 * (k + 1) := by have : ¬ ((32 * (k + 1) : Nat) : Int) < n := of_decide_eq_false h; omega
      (repeat first | refine And.intro (by omega) ?_ | refine And.intro (by decide) ?_ | (with_reducible refine frc_parts (by first | omega | decide) ?_) | (with_reducible refine frc_bytesL (by first | omega | decide) ?_) | refine And.intro rfl ?_)
      refine ⟨.a (.c (.sl 2 0 0 n c)), [bts zs Ns os s.length (L s), bts za Na oa about.length (L about), [.row c (winF 0 n (exF s about))]], ⟨[0, 1, 2], ⟨rfl, rfl, rfl⟩, ?_⟩, fun h => absurd h (by omega), fun _ => ⟨c, c, by omega, by omega, rfl, rfl⟩⟩
      refine ⟨?_, rfl, rfl, ?_⟩
      · split <;> rfl
      refine eqC_bts (eqC_bts ?_)
      (repeat first | exact trivial | refine ⟨rfl, ?_⟩ | refine ⟨fun _ _ => ⟨rfl, trivial⟩, ?_⟩ | refine ⟨fun _ _ => trivial, ?_⟩ | refine ⟨by omega, ?_⟩ | refine ⟨fun _ _ => eqC_winS, ?_⟩ | refine ⟨fun _ _ => eqC_winM, ?_⟩ | refine ⟨fun _ _ => eqC_winB, ?_⟩ | refine ⟨fun _ _ => eqC_selfB, ?_⟩ | refine ⟨fun _ _ => eqC_mpB, ?_⟩)
      exact ⟨fun j hj => eqC_win0 (fun i hi => by rw [bytesF_lt (by omega), exL_at _ _ _ _ (by omega)]) j, trivial⟩
end Sx
end Go.Proofs.Ytndlhhhebijknaa
end
