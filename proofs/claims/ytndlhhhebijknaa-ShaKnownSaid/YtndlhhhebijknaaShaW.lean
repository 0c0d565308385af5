/-
  SHA-256: the document's sum. No condition.
-/
import Derived.Test.YtndlhhhebijknaaShaQ
namespace Go.Proofs.Ytndlhhhebijknaa
set_option linter.unusedVariables false
namespace Sx
open Sha

theorem frc_bytesL {n : Nat} {b : Nat → BitVec 8} {j : Nat} {k : SC → Prop} (h : j < n) (hk : k (.w8 (b j))) : frcSC (bytesF n b j) k := by
  rw [bytesF_lt h]; exact hk
/-- The schedule's array while it is made. -/
def wArr (P : Nat → BitVec 8) (m j : Nat) : BitVec 32 := if m ≤ 16 then (if j < m then w0 P j else 0#32) else wS P (m - 16) j
theorem wArr_16 (P : Nat → BitVec 8) (j : Nat) : wArr P 16 j = wS P 0 j := by unfold wArr; rw [if_pos (by omega)]; rfl
/-- A word while it is made. -/
def acc (P : Nat → BitVec 8) (m : Nat) : Nat → BitVec 32
  | 0 => 0#32
  | r + 1 => acc P m r * 256#32 + (P (4 * m + r)).setWidth 32
theorem acc_4 (P : Nat → BitVec 8) (m : Nat) : acc P m 4 = w0 P m := by
  simp only [acc]
  rw [four]
  rfl
theorem outW_at (V : Nat → BitVec 32) (m r : Nat) (hr : r < 4) : outW V (4 * m + r) = (V m >>> (8 * (3 - r))).setWidth 8 := by
  unfold outW
  rw [show (4 * m + r) / 4 = m by omega, show (4 * m + r) % 4 = r by omega]
theorem four_out (V : Nat → BitVec 32) (m r : Nat) (hr : r < 4) : nthC [.w8 ((V m >>> 24).setWidth 8), .w8 ((V m >>> 16).setWidth 8), .w8 ((V m >>> 8).setWidth 8), .w8 ((V m).setWidth 8)] r = .w8 (outW V (4 * m + r)) := by
  rw [outW_at V m r hr]
  have : r = 0 ∨ r = 1 ∨ r = 2 ∨ r = 3 := by omega
  rcases this with rfl | rfl | rfl | rfl <;> rfl
theorem fn_right (x : BitVec 32) (n : Nat) (h : n < 32) (h0 : 0 < n) : Fn Try.prog tds 48 [] [.c (.w32 x), .c (.int .i64 (n : Int))] (fun _ => True) (fun v hs => v = .a (.c (.w32 (ror x n))) ∧ hs = []) := by
  refine fn_of_body tds_ok follows_ Try.func48 rfl (t := .a (.c (.w32 x)) :: .a (.c (.int .i64 (n : Int))) :: anys (Try.f48.ntmps - 2)) rfl (fun w r0 hr _ => ?_)
  obtain rfl : r0 = [] := List.eq_nil_of_length_eq_zero hr
  refine ⟨none, [], [(0, true), (1, true), (2, true), (3, true), (4, true), (5, true), (6, true), (7, true), (8, true)], [], by kernel_rfl, ?_⟩
  (repeat first | refine ⟨by omega, ?_⟩ | refine ⟨by decide, ?_⟩ | refine ⟨idx8 _, ?_⟩ | refine ⟨lt8 (Nat.le_refl _) _, ?_⟩)
  refine ⟨.a (.c (.w32 (ror x n))), [], ⟨[], ⟨rfl, rfl, rfl⟩, ?_, trivial⟩, rfl, rfl⟩
  show x >>> _ ||| x <<< _ = x <<< (32 - n) ||| x >>> n
  have e1 : (n : Int).toNat = n := by omega
  have e2 : (32 - (n : Int)).toNat = 32 - n := by omega
  rw [e1, e2, BitVec.or_comm]
theorem nthC_w32 : ∀ (l : List (BitVec 32)) (j : Nat), j < l.length → nthC (l.map SC.w32) j = .w32 (l.getD j 0)
  | [], _, h => absurd h (by simp)
  | x :: l, 0, _ => rfl
  | x :: l, j + 1, h => nthC_w32 l j (by simpa using h)
set_option maxRecDepth 20000 in
theorem fn_rounds : Fn Try.prog tds 47 [] [] (fun _ => True) (fun v hs => v = .a (.c (.sl 0 0 0 64 64)) ∧ hs = [[.row 64 fun i => .w32 (steps i)]]) := by
  refine fn_of_body tds_ok follows_ Try.func47 rfl (t := anys (Try.f47.ntmps)) rfl (fun w r0 hr _ => ?_)
  obtain rfl : r0 = [] := List.eq_nil_of_length_eq_zero hr
  refine ⟨.a (.c (.sl 0 0 0 64 64)), [[.row 64 fun i => .w32 (steps i)]], ⟨[0], ⟨rfl, rfl, rfl⟩, ?_⟩, rfl, rfl⟩
  (repeat first | exact trivial | refine ⟨rfl, ?_⟩ | refine ⟨fun _ _ => ⟨rfl, trivial⟩, ?_⟩ | refine ⟨by omega, ?_⟩)
  refine ⟨fun j hj => ?_, trivial⟩
  refine eqC_w32 ((nthC_w32 (stepsL.map (BitVec.ofNat 32)) j hj).trans ?_)
  unfold steps
  rw [List.getD_eq_getElem?_getD, List.getElem?_map, List.getD_eq_getElem?_getD]
  cases stepsL[j]? <;> rfl

set_option maxHeartbeats 4000000 in
set_option maxRecDepth 20000 in
theorem fn_rsum (z : Bool) (N o cb : Nat) (l : Bs) (hN : o + l.length ≤ N) (hc : l.length ≤ cb) (hz : z = true → l = []) (hl : l.length < 1099511627776) :
    FnR Try.prog tds 17 1 [bts z N o l.length (L l)] [.c (.sn z 0 0 o l.length cb)] (fun _ => True)
      (fun x hs => ∃ c, x = .a (.c (.sl 1 0 0 32 c)) ∧ hs = [bts z N o l.length (L l), [.row c (bytesF 32 (L (sumL l)))]] ∧ 32 ≤ c) := by
  refine fn_of_body tds_ok follows_ Try.func17 rfl (t := .a (.c (.sn z 0 0 o l.length cb)) :: anys 312) rfl (fun w r0 hr _ => ?_)
  obtain ⟨x0, rfl⟩ := List.length_eq_one_iff.1 hr
  have hfull := full_len l
  have hpl := padP_le (show l.length % 64 < 64 from Nat.mod_lt _ (by omega))
  obtain ⟨Q, hQ, hQ1, hQ2⟩ := full_64 l
  have hLl : ∀ i, i < l.length → L (full l) i = L l i := fun i hi => L_app1 hi
  have hLp : ∀ i, L (full l) (l.length + i) = L (padT l.length) i := fun i => L_app2
  have hfirst : ∀ j, j < 8 → nthC ((firstL.map (BitVec.ofNat 32)).map SC.w32) j = .w32 (first j) := fun j hj => (nthC_w32 (firstL.map (BitVec.ofNat 32)) j hj).trans (by
    unfold first
    rw [List.getD_eq_getElem?_getD, List.getElem?_map, List.getD_eq_getElem?_getD]
    cases firstL[j]? <;> rfl)
  have hp0 : L (padT l.length) 0 = 128#8 := by unfold padT; rw [L_tab (by omega)]; rfl
  have hp1 : ∀ i, 0 < i → i < padP (l.length % 64) → L (padT l.length) i = 0#8 := fun i h1 h2 => by unfold padT; rw [L_tab (by omega)]; unfold padB; rw [if_neg (by omega), if_pos h2]
  have hp2 : ∀ i, i < 8 → L (padT l.length) (padP (l.length % 64) + i) = ((BitVec.ofNat 64 l.length * 8#64) >>> (8 * (7 - i))).setWidth 8 := fun i h1 => by
    unfold padT; rw [L_tab (by omega)]; unfold padB; rw [if_neg (by omega), if_neg (by omega), Nat.add_sub_cancel_left]
  obtain ⟨p, hp⟩ : ∃ p, padP (l.length % 64) = p := ⟨_, rfl⟩
  have hpi := fun k hk => padP_iff (k := k) (show l.length % 64 < 64 from Nat.mod_lt _ (by omega)) hk
  rw [hp] at hpl hp1 hp2 hpi hfull
  -- the bytes, filled up
  have hsrc : ∀ (c' : Nat), l.length ≤ c' → ∀ g : Nat → SC, (∀ i, i < l.length → g i = .w8 (L l i)) → ∀ i, i < l.length → appF (nthC []) 0 (scale 0 (0 + 1)) (scale l.length (0 + 1)) g i = .w8 (L (full l) i) := fun c' hc' g hg i hi => by
    unfold appF
    rw [if_neg (by simp [scale]), if_pos (by simpa [scale] using hi), hLl i hi, ← hg i hi]
    rfl
  (repeat first | refine ⟨by omega, ?_⟩ | refine ⟨by decide, ?_⟩ | refine ⟨idx8 _, ?_⟩ | refine ⟨lt8 (Nat.le_refl _) _, ?_⟩)
  refine sn_bts (N := N) (b := L l) ?_ hN (fun h => by rw [hz h]; rfl) (fun g hg => ?_)
  · rfl
  refine ⟨⟨by decide, by simp [scale], by show _ * 1 ≤ _; omega⟩, fun c1 hc1 => ?_⟩
  refine ⟨by decide, ⟨by omega, by simp only [scale]; omega, by show _ * 1 ≤ _; omega⟩, fun c2 hc2 => ?_⟩
  have hx1 : ∀ i, i < 0 + l.length + 1 → appF (appF (nthC []) 0 (scale 0 (0 + 1)) (scale l.length (0 + 1)) g) 0 (scale (0 + l.length) (0 + 1)) (scale 1 (0 + 1)) (nthC [SC.w8 128#8]) i = .w8 (L (full l) i) := by
    refine app1 (fun j hj => ?_) ?_
    · exact hsrc c1 (by omega) g hg j (by omega)
    · show SC.w8 128#8 = _
      have := hLp 0
      rw [Nat.add_zero] at this
      rw [Nat.zero_add, this, hp0]
  refine .inl ⟨Nat × Nat, fun (k, c) => ⟨[.any, .any, .any, .a (.c (.sl 1 0 0 8 8)), .a (.c (.w64 ((BitVec.ofNat 64 l.length * 8#64)))), .a (.c (.sl 2 0 0 (l.length + 1 + k) c)), .any, .any, .any, .any, .any, .any, .any, .any, .any, .any, .any, .any, .any, .any, .any, .any, .any, .any, .any, .any, .any, .any, .any, .any, .any, .any, .any, .any, .any, .any, .any, .any, .any, .any, .any, .any, .any, .any, .any, .any, .any, .any, .any, .any, .any, .any, .any, .any, .any, .any, .any, .any, .any, .any, .any, .any, .any, .any, .any, .any, .any, .any, .any, .any, .any, .any, .any, .any, .any, .any, .any, .any, .any, .any, .any, .any, .any, .any, .any, .any, .any, .any, .any, .any, .any, .any, .any, .any, .any, .any, .any, .any, .any, .any, .any, .any, .any, .any, .any, .any, .any, .any, .any, .any, .any, .any, .any, .any, .any, .any, .any, .any, .any, .any, .any, .any, .any, .any, .any, .any, .any, .any, .any, .any, .any, .any, .any, .any, .any, .any, .any, .any, .any, .any, .any, .any, .any, .any, .any, .any, .any, .any, .any, .any, .any, .any, .any, .any, .any, .any, .any, .any, .any, .any, .any, .any, .any, .any, .any, .any, .any, .any, .any, .any, .any, .any, .any, .any, .any, .any, .any, .any, .any, .any, .any, .any, .any, .any, .any, .any, .any, .any, .any, .any, .any, .any, .any, .any, .any, .any, .any, .any, .any, .any, .any, .any, .any, .any, .any, .any, .any, .any, .any, .any, .any, .any, .any, .any, .any, .any, .any, .any, .any, .any, .any, .any, .any, .any, .any, .any, .any, .any, .any, .any, .any, .any, .any, .any, .any, .any, .any, .any, .any, .any, .any, .any, .any, .any, .any, .any, .any, .any, .any, .any, .any, .any, .any, .any, .any, .any, .any, .any, .any, .any, .any, .any, .any, .any, .any, .any, .any, .any, .any, .any, .any, .any, .any, .any, .any, .any, .any, .any, .any, .any, .any, .any, .any, .any, .any, .any, .any, .any, .any, .any, .any, .any, .any, .any, .any, .any, .any, .any, .any, .any, .any, .any, .any, .any, .any, .any, .any, .any, .any, .any, .any, .any, .any], [bts z N o l.length (L l), [.row 8 fun i => .w32 (first i)], [.row c (bytesF (l.length + 1 + k) (L (full l)))]]⟩,
    fun (k, c) => k + 1 ≤ p ∧ l.length + 1 + k ≤ c, fun (k, _) => 64 - k, ⟨(0, c2), [0, 1, 5], ⟨⟨rfl, rfl, rfl⟩, ?_⟩, by omega, by omega⟩, fun (k, c) ⟨hk, hc⟩ => ?_⟩
  · (repeat first | exact trivial | refine ⟨rfl, ?_⟩ | refine ⟨fun _ _ => ⟨rfl, trivial⟩, ?_⟩ | refine ⟨fun _ _ => trivial, ?_⟩ | refine ⟨by omega, ?_⟩ | refine ⟨fun _ _ => eqC_winS, ?_⟩ | refine ⟨fun _ _ => eqC_winM, ?_⟩ | refine ⟨fun _ _ => eqC_winB, ?_⟩ | refine ⟨fun _ _ => eqC_selfB, ?_⟩ | refine ⟨fun _ _ => eqC_mpB, ?_⟩)
    refine eqC_bts ?_
    refine ⟨rfl, fun j hj => eqC_w32 (hfirst j hj), ?_⟩
    refine ⟨rfl, fun j hj => eqC_bytes (fun i hi => hx1 i (by omega)) j, ?_⟩
    (repeat first | exact trivial | refine ⟨rfl, ?_⟩ | refine ⟨fun _ _ => ⟨rfl, trivial⟩, ?_⟩ | refine ⟨fun _ _ => trivial, ?_⟩ | refine ⟨by omega, ?_⟩ | refine ⟨fun _ _ => eqC_winS, ?_⟩ | refine ⟨fun _ _ => eqC_winM, ?_⟩ | refine ⟨fun _ _ => eqC_winB, ?_⟩ | refine ⟨fun _ _ => eqC_selfB, ?_⟩ | refine ⟨fun _ _ => eqC_mpB, ?_⟩)
  · (repeat first | refine ⟨by omega, ?_⟩ | refine ⟨by decide, ?_⟩ | refine ⟨idx8 _, ?_⟩ | refine ⟨lt8 (Nat.le_refl _) _, ?_⟩ | refine ⟨rfl, ?_⟩)
    have e1 : ((l.length + 1 + k : Nat) : Int) % 64 = (((l.length % 64 + (k + 1)) % 64 : Nat) : Int) := by omega
    refine ⟨fun h => ?_, fun h => ?_⟩
    · have h1 : ¬ ((l.length + 1 + k : Nat) : Int) % 64 = 56 := of_decide_eq_true h
      have h2 := mt (hpi k hk).2
      have h3 : k + 1 < p := by omega
      refine ⟨by decide, ⟨by omega, by simp [scale], by show _ * 1 ≤ _; omega⟩, fun c' hc' => ?_⟩
      refine ⟨(k + 1, c'), [0, 1, 4], ⟨⟨rfl, rfl, rfl⟩, ?_⟩, by omega, by dsimp only; omega⟩
      (repeat first | exact trivial | refine ⟨rfl, ?_⟩ | refine ⟨fun _ _ => ⟨rfl, trivial⟩, ?_⟩ | refine ⟨fun _ _ => trivial, ?_⟩ | refine ⟨by omega, ?_⟩ | refine ⟨fun _ _ => eqC_winS, ?_⟩ | refine ⟨fun _ _ => eqC_winM, ?_⟩ | refine ⟨fun _ _ => eqC_winB, ?_⟩ | refine ⟨fun _ _ => eqC_selfB, ?_⟩ | refine ⟨fun _ _ => eqC_mpB, ?_⟩)
      refine eqC_bts ?_
      (repeat first | exact trivial | refine ⟨rfl, ?_⟩ | refine ⟨fun _ _ => ⟨rfl, trivial⟩, ?_⟩ | refine ⟨fun _ _ => trivial, ?_⟩ | refine ⟨by omega, ?_⟩ | refine ⟨fun _ _ => eqC_winS, ?_⟩ | refine ⟨fun _ _ => eqC_winM, ?_⟩ | refine ⟨fun _ _ => eqC_winB, ?_⟩ | refine ⟨fun _ _ => eqC_selfB, ?_⟩ | refine ⟨fun _ _ => eqC_mpB, ?_⟩)
      exact ⟨fun j hj => eqC_bytes (app1 (fun _ h => bytesF_lt h) (by show SC.w8 0#8 = _; rw [Nat.add_assoc, hLp, hp1 _ (by omega) (by omega)])) j, trivial⟩
    · have h1 : ((l.length + 1 + k : Nat) : Int) % 64 = 56 := of_decide_eq_false' h
      have h2 : k + 1 = p := (hpi k hk).1 (by omega)
      refine .inl ⟨Nat × Nat, fun (k, c) => ⟨[.any, .any, .any, .a (.c (.sl 1 0 0 8 8)), .a (.c (.w64 ((BitVec.ofNat 64 l.length * 8#64)))), .a (.c (.sl 2 0 0 (l.length + (p + k)) c)), .a (.c (.int .i64 (56 - 8 * (k : Int)))), .any, .any, .any, .any, .any, .any, .any, .any, .any, .any, .any, .any, .any, .any, .any, .any, .any, .any, .any, .any, .any, .any, .any, .any, .any, .any, .any, .any, .any, .any, .any, .any, .any, .any, .any, .any, .any, .any, .any, .any, .any, .any, .any, .any, .any, .any, .any, .any, .any, .any, .any, .any, .any, .any, .any, .any, .any, .any, .any, .any, .any, .any, .any, .any, .any, .any, .any, .any, .any, .any, .any, .any, .any, .any, .any, .any, .any, .any, .any, .any, .any, .any, .any, .any, .any, .any, .any, .any, .any, .any, .any, .any, .any, .any, .any, .any, .any, .any, .any, .any, .any, .any, .any, .any, .any, .any, .any, .any, .any, .any, .any, .any, .any, .any, .any, .any, .any, .any, .any, .any, .any, .any, .any, .any, .any, .any, .any, .any, .any, .any, .any, .any, .any, .any, .any, .any, .any, .any, .any, .any, .any, .any, .any, .any, .any, .any, .any, .any, .any, .any, .any, .any, .any, .any, .any, .any, .any, .any, .any, .any, .any, .any, .any, .any, .any, .any, .any, .any, .any, .any, .any, .any, .any, .any, .any, .any, .any, .any, .any, .any, .any, .any, .any, .any, .any, .any, .any, .any, .any, .any, .any, .any, .any, .any, .any, .any, .any, .any, .any, .any, .any, .any, .any, .any, .any, .any, .any, .any, .any, .any, .any, .any, .any, .any, .any, .any, .any, .any, .any, .any, .any, .any, .any, .any, .any, .any, .any, .any, .any, .any, .any, .any, .any, .any, .any, .any, .any, .any, .any, .any, .any, .any, .any, .any, .any, .any, .any, .any, .any, .any, .any, .any, .any, .any, .any, .any, .any, .any, .any, .any, .any, .any, .any, .any, .any, .any, .any, .any, .any, .any, .any, .any, .any, .any, .any, .any, .any, .any, .any, .any, .any, .any, .any, .any, .any, .any, .any, .any, .any, .any, .any, .any, .any, .any, .any, .any, .any, .any, .any, .any, .any, .any, .any, .any, .any, .any], [bts z N o l.length (L l), [.row 8 fun i => .w32 (first i)], [.row c (bytesF (l.length + (p + k)) (L (full l)))]]⟩,
        fun (k, c) => k ≤ 8 ∧ l.length + (p + k) ≤ c, fun (k, _) => 8 - k, ⟨(0, c), [0, 1, 2], ⟨⟨rfl, rfl, rfl⟩, ?_⟩, by omega, by omega⟩, fun (k, c) ⟨hk, hc⟩ => ⟨fun h => ?_, fun h => ?_⟩⟩
      · (repeat first | exact trivial | refine ⟨rfl, ?_⟩ | refine ⟨fun _ _ => ⟨rfl, trivial⟩, ?_⟩ | refine ⟨fun _ _ => trivial, ?_⟩ | refine ⟨by omega, ?_⟩ | refine ⟨fun _ _ => eqC_winS, ?_⟩ | refine ⟨fun _ _ => eqC_winM, ?_⟩ | refine ⟨fun _ _ => eqC_winB, ?_⟩ | refine ⟨fun _ _ => eqC_selfB, ?_⟩ | refine ⟨fun _ _ => eqC_mpB, ?_⟩)
        refine eqC_bts ?_
        (repeat first | exact trivial | refine ⟨rfl, ?_⟩ | refine ⟨fun _ _ => ⟨rfl, trivial⟩, ?_⟩ | refine ⟨fun _ _ => trivial, ?_⟩ | refine ⟨by omega, ?_⟩ | refine ⟨fun _ _ => eqC_winS, ?_⟩ | refine ⟨fun _ _ => eqC_winM, ?_⟩ | refine ⟨fun _ _ => eqC_winB, ?_⟩ | refine ⟨fun _ _ => eqC_selfB, ?_⟩ | refine ⟨fun _ _ => eqC_mpB, ?_⟩)
        rw [show l.length + 1 + k = l.length + (p + 0) by omega]
        (repeat first | exact trivial | refine ⟨rfl, ?_⟩ | refine ⟨fun _ _ => ⟨rfl, trivial⟩, ?_⟩ | refine ⟨fun _ _ => trivial, ?_⟩ | refine ⟨by omega, ?_⟩ | refine ⟨fun _ _ => eqC_winS, ?_⟩ | refine ⟨fun _ _ => eqC_winM, ?_⟩ | refine ⟨fun _ _ => eqC_winB, ?_⟩ | refine ⟨fun _ _ => eqC_selfB, ?_⟩ | refine ⟨fun _ _ => eqC_mpB, ?_⟩)
      · have hlt : 56 - 8 * (k : Int) ≥ 0 := of_decide_eq_true h
        (repeat first | refine ⟨by omega, ?_⟩ | refine ⟨by decide, ?_⟩ | refine ⟨idx8 _, ?_⟩ | refine ⟨lt8 (Nat.le_refl _) _, ?_⟩)
        refine ⟨⟨by omega, by simp only [scale]; omega, by show _ * 1 ≤ _; omega⟩, fun c' hc' => ?_⟩
        refine ⟨⟨by omega, by omega⟩, (k + 1, c'), [0, 1, 4], ⟨⟨rfl, rfl, rfl⟩, ?_⟩, by omega, by dsimp only; omega⟩
        (repeat first | exact trivial | refine ⟨rfl, ?_⟩ | refine ⟨fun _ _ => ⟨rfl, trivial⟩, ?_⟩ | refine ⟨fun _ _ => trivial, ?_⟩ | refine ⟨by omega, ?_⟩ | refine ⟨fun _ _ => eqC_winS, ?_⟩ | refine ⟨fun _ _ => eqC_winM, ?_⟩ | refine ⟨fun _ _ => eqC_winB, ?_⟩ | refine ⟨fun _ _ => eqC_selfB, ?_⟩ | refine ⟨fun _ _ => eqC_mpB, ?_⟩)
        refine eqC_bts ?_
        (repeat first | exact trivial | refine ⟨rfl, ?_⟩ | refine ⟨fun _ _ => ⟨rfl, trivial⟩, ?_⟩ | refine ⟨fun _ _ => trivial, ?_⟩ | refine ⟨by omega, ?_⟩ | refine ⟨fun _ _ => eqC_winS, ?_⟩ | refine ⟨fun _ _ => eqC_winM, ?_⟩ | refine ⟨fun _ _ => eqC_winB, ?_⟩ | refine ⟨fun _ _ => eqC_selfB, ?_⟩ | refine ⟨fun _ _ => eqC_mpB, ?_⟩)
        refine ⟨fun j hj => eqC_bytes (app1 (fun _ h => bytesF_lt h) ?_) j, trivial⟩
        show SC.w8 (((BitVec.ofNat 64 l.length * 8#64) >>> (56 - 8 * (k : Int)).toNat).setWidth 8) = _
        rw [hLp, hp2 _ (by omega), show (56 - 8 * (k : Int)).toNat = 8 * (7 - k) by omega]
      · obtain rfl : k = 8 := by have : ¬ 56 - 8 * (k : Int) ≥ 0 := of_decide_eq_false h; omega
        have hlen : l.length + (p + 8) = 64 * Q := by rw [← hQ, hfull]
        rw [hlen]
        refine ⟨by kernel_rfl, call_same fn_rounds [] rfl trivial trivial (fun _ _ => trivial) ?_⟩
        rintro x hs ⟨rfl, rfl⟩
        refine .inl ⟨Nat, fun k => ⟨[.any, .any, .any, .a (.c (.sl 1 0 0 8 8)), .any, .a (.c (.sl 2 0 0 (64 * Q) c)), .any, .a (.c (.sl 3 0 0 64 64)), .a (.c (.int .i64 (((64 * k : Nat) : Int)))), .any, .any, .any, .any, .any, .any, .any, .any, .any, .any, .any, .any, .any, .any, .any, .any, .any, .any, .any, .any, .any, .any, .any, .any, .any, .any, .any, .any, .any, .any, .any, .any, .any, .any, .any, .any, .any, .any, .any, .any, .any, .any, .any, .any, .any, .any, .any, .any, .any, .any, .any, .any, .any, .any, .any, .any, .any, .any, .any, .any, .any, .any, .any, .any, .any, .any, .any, .any, .any, .any, .any, .any, .any, .any, .any, .any, .any, .any, .any, .any, .any, .any, .any, .any, .any, .any, .any, .any, .any, .any, .any, .any, .any, .any, .any, .any, .any, .any, .any, .any, .any, .any, .any, .any, .any, .any, .any, .any, .any, .any, .any, .any, .any, .any, .any, .any, .any, .any, .any, .any, .any, .any, .any, .any, .any, .any, .any, .any, .any, .any, .any, .any, .any, .any, .any, .any, .any, .any, .any, .any, .any, .any, .any, .any, .any, .any, .any, .any, .any, .any, .any, .any, .any, .any, .any, .any, .any, .any, .any, .any, .any, .any, .any, .any, .any, .any, .any, .any, .any, .any, .any, .any, .any, .any, .any, .any, .any, .any, .any, .any, .any, .any, .any, .any, .any, .any, .any, .any, .any, .any, .any, .any, .any, .any, .any, .any, .any, .any, .any, .any, .any, .any, .any, .any, .any, .any, .any, .any, .any, .any, .any, .any, .any, .any, .any, .any, .any, .any, .any, .any, .any, .any, .any, .any, .any, .any, .any, .any, .any, .any, .any, .any, .any, .any, .any, .any, .any, .any, .any, .any, .any, .any, .any, .any, .any, .any, .any, .any, .any, .any, .any, .any, .any, .any, .any, .any, .any, .any, .any, .any, .any, .any, .any, .any, .any, .any, .any, .any, .any, .any, .any, .any, .any, .any, .any, .any, .any, .any, .any, .any, .any, .any, .any, .any, .any, .any, .any, .any, .any, .any, .any, .any, .any, .any, .any, .any, .any, .any, .any, .any, .any, .any, .any, .any], [bts z N o l.length (L l), [.row 8 fun i => .w32 ((wordsAt (full l) k).V i)], [.row c (bytesF (64 * Q) (L (full l)))], [.row 64 fun i => .w32 (steps i)]]⟩,
          fun k => k ≤ Q, fun k => Q - k, ⟨0, [0, 1, 2, 3], ⟨⟨rfl, rfl, rfl⟩, ?_⟩, by omega⟩, fun k hk => ⟨fun h => ?_, fun h => ?_⟩⟩
        · (repeat first | exact trivial | refine ⟨rfl, ?_⟩ | refine ⟨fun _ _ => ⟨rfl, trivial⟩, ?_⟩ | refine ⟨fun _ _ => trivial, ?_⟩ | refine ⟨by omega, ?_⟩ | refine ⟨fun _ _ => eqC_winS, ?_⟩ | refine ⟨fun _ _ => eqC_winM, ?_⟩ | refine ⟨fun _ _ => eqC_winB, ?_⟩ | refine ⟨fun _ _ => eqC_selfB, ?_⟩ | refine ⟨fun _ _ => eqC_mpB, ?_⟩)
          refine eqC_bts ?_
          (repeat first | exact trivial | refine ⟨rfl, ?_⟩ | refine ⟨fun _ _ => ⟨rfl, trivial⟩, ?_⟩ | refine ⟨fun _ _ => trivial, ?_⟩ | refine ⟨by omega, ?_⟩ | refine ⟨fun _ _ => eqC_winS, ?_⟩ | refine ⟨fun _ _ => eqC_winM, ?_⟩ | refine ⟨fun _ _ => eqC_winB, ?_⟩ | refine ⟨fun _ _ => eqC_selfB, ?_⟩ | refine ⟨fun _ _ => eqC_mpB, ?_⟩)
        · have hlt : k < Q := by have : ((64 * k : Nat) : Int) < ((64 * Q : Nat) : Int) := of_decide_eq_true h; omega
          obtain ⟨V, hV⟩ : ∃ V, (wordsAt (full l) k).V = V := ⟨_, rfl⟩
          obtain ⟨P, hP⟩ : ∃ P, (fun i => L (full l) (64 * k + i)) = P := ⟨_, rfl⟩
          have hP' : ∀ i, L (full l) (64 * k + i) = P i := fun i => by rw [← hP]
          have hnext : (wordsAt (full l) (k + 1)).V = compress V P := by rw [wordsAt_succ _ _ (by omega), hV, hP]
          rw [hV]
          (repeat first | refine ⟨by omega, ?_⟩ | refine ⟨by decide, ?_⟩ | refine ⟨idx8 _, ?_⟩ | refine ⟨lt8 (Nat.le_refl _) _, ?_⟩ | refine ⟨rfl, ?_⟩)
          refine .inl ⟨Nat, fun m => ⟨[.any, .any, .any, .a (.c (.sl 1 0 0 8 8)), .any, .a (.c (.sl 2 0 0 (64 * Q) c)), .any, .a (.c (.sl 3 0 0 64 64)), .a (.c (.int .i64 (((64 * k : Nat) : Int)))), .a (.c (.sl 4 0 0 64 64)), .a (.c (.int .i64 (↑m))), .any, .any, .any, .any, .any, .any, .any, .any, .any, .any, .any, .any, .any, .any, .any, .any, .any, .any, .any, .any, .any, .any, .any, .any, .any, .any, .any, .any, .any, .any, .any, .any, .any, .any, .any, .any, .any, .any, .any, .any, .any, .any, .any, .any, .any, .any, .any, .any, .any, .any, .any, .any, .any, .any, .any, .any, .any, .any, .any, .any, .any, .any, .any, .any, .any, .any, .any, .any, .any, .any, .any, .any, .any, .any, .any, .any, .any, .any, .any, .any, .any, .any, .any, .any, .any, .any, .any, .any, .any, .any, .any, .any, .any, .any, .any, .any, .any, .any, .any, .any, .any, .any, .any, .any, .any, .any, .any, .any, .any, .any, .any, .any, .any, .any, .any, .any, .any, .any, .any, .any, .any, .any, .any, .any, .any, .any, .any, .any, .any, .any, .any, .any, .any, .any, .any, .any, .any, .any, .any, .any, .any, .any, .any, .any, .any, .any, .any, .any, .any, .any, .any, .any, .any, .any, .any, .any, .any, .any, .any, .any, .any, .any, .any, .any, .any, .any, .any, .any, .any, .any, .any, .any, .any, .any, .any, .any, .any, .any, .any, .any, .any, .any, .any, .any, .any, .any, .any, .any, .any, .any, .any, .any, .any, .any, .any, .any, .any, .any, .any, .any, .any, .any, .any, .any, .any, .any, .any, .any, .any, .any, .any, .any, .any, .any, .any, .any, .any, .any, .any, .any, .any, .any, .any, .any, .any, .any, .any, .any, .any, .any, .any, .any, .any, .any, .any, .any, .any, .any, .any, .any, .any, .any, .any, .any, .any, .any, .any, .any, .any, .any, .any, .any, .any, .any, .any, .any, .any, .any, .any, .any, .any, .any, .any, .any, .any, .any, .any, .any, .any, .any, .any, .any, .any, .any, .any, .any, .any, .any, .any, .any, .any, .any, .any, .any, .any, .any, .any, .any, .any, .any, .any, .any, .any, .any, .any, .any, .any, .any, .any, .any, .any, .any], [bts z N o l.length (L l), [.row 8 fun i => .w32 (V i)], [.row c (bytesF (64 * Q) (L (full l)))], [.row 64 fun i => .w32 (steps i)], [.row 64 fun j => .w32 (wArr P m j)]]⟩,
            fun m => m ≤ 64, fun m => 64 - m, ⟨0, [0, 1, 2, 3, 4], ⟨⟨rfl, rfl, rfl⟩, ?_⟩, by omega⟩, fun m hm => ⟨fun h => ?_, fun h => ?_⟩⟩
          · (repeat first | exact trivial | refine ⟨rfl, ?_⟩ | refine ⟨fun _ _ => ⟨rfl, trivial⟩, ?_⟩ | refine ⟨fun _ _ => trivial, ?_⟩ | refine ⟨by omega, ?_⟩ | refine ⟨fun _ _ => eqC_winS, ?_⟩ | refine ⟨fun _ _ => eqC_winM, ?_⟩ | refine ⟨fun _ _ => eqC_winB, ?_⟩ | refine ⟨fun _ _ => eqC_selfB, ?_⟩ | refine ⟨fun _ _ => eqC_mpB, ?_⟩)
            refine eqC_bts ?_
            (repeat first | exact trivial | refine ⟨rfl, ?_⟩ | refine ⟨fun _ _ => ⟨rfl, trivial⟩, ?_⟩ | refine ⟨fun _ _ => trivial, ?_⟩ | refine ⟨by omega, ?_⟩ | refine ⟨fun _ _ => eqC_winS, ?_⟩ | refine ⟨fun _ _ => eqC_winM, ?_⟩ | refine ⟨fun _ _ => eqC_winB, ?_⟩ | refine ⟨fun _ _ => eqC_selfB, ?_⟩ | refine ⟨fun _ _ => eqC_mpB, ?_⟩)
          · have hlt : (m : Int) < 64 := of_decide_eq_true h
            refine ⟨fun h => ?_, fun h => ?_⟩
            · have hlt16 : (m : Int) < 16 := of_decide_eq_true h
              refine .inl ⟨Nat, fun r => ⟨[.any, .any, .any, .a (.c (.sl 1 0 0 8 8)), .any, .a (.c (.sl 2 0 0 (64 * Q) c)), .any, .a (.c (.sl 3 0 0 64 64)), .a (.c (.int .i64 (((64 * k : Nat) : Int)))), .a (.c (.sl 4 0 0 64 64)), .a (.c (.int .i64 (↑m))), .a (.c (.int .i64 (↑r))), .any, .any, .any, .any, .any, .any, .any, .any, .any, .any, .any, .any, .any, .any, .any, .any, .any, .any, .any, .any, .any, .any, .any, .any, .any, .any, .any, .any, .any, .any, .any, .any, .any, .any, .any, .any, .any, .any, .any, .any, .any, .any, .any, .any, .any, .any, .any, .any, .any, .any, .any, .any, .any, .any, .any, .any, .any, .any, .any, .any, .any, .any, .any, .any, .any, .any, .any, .any, .any, .any, .any, .any, .any, .any, .any, .any, .any, .any, .any, .any, .any, .any, .any, .any, .any, .any, .any, .any, .any, .any, .any, .any, .any, .any, .any, .any, .any, .any, .any, .any, .any, .any, .any, .any, .any, .any, .any, .any, .any, .any, .any, .any, .any, .any, .any, .any, .any, .any, .any, .any, .any, .any, .any, .any, .any, .any, .any, .any, .any, .any, .any, .any, .any, .any, .any, .any, .any, .any, .any, .any, .any, .any, .any, .any, .any, .any, .any, .any, .any, .any, .any, .any, .any, .any, .any, .any, .any, .any, .any, .any, .any, .any, .any, .any, .any, .any, .any, .any, .any, .any, .any, .any, .any, .any, .any, .any, .any, .any, .any, .any, .any, .any, .any, .any, .any, .any, .any, .any, .any, .any, .any, .any, .any, .any, .any, .any, .any, .any, .any, .any, .any, .any, .any, .any, .any, .any, .any, .any, .any, .any, .any, .any, .any, .any, .any, .any, .any, .any, .any, .any, .any, .any, .any, .any, .any, .any, .any, .any, .any, .any, .any, .any, .any, .any, .any, .any, .any, .any, .any, .any, .any, .any, .any, .any, .any, .any, .any, .any, .any, .any, .any, .any, .any, .any, .any, .any, .any, .any, .any, .any, .any, .any, .any, .any, .any, .any, .any, .any, .any, .any, .any, .any, .any, .any, .any, .any, .any, .any, .any, .any, .any, .any, .any, .any, .any, .any, .any, .any, .any, .any, .any, .any, .any, .any, .any, .any, .any, .any, .any, .any, .any], [bts z N o l.length (L l), [.row 8 fun i => .w32 (V i)], [.row c (bytesF (64 * Q) (L (full l)))], [.row 64 fun i => .w32 (steps i)], [.row 64 fun j => .w32 (if j < m then w0 P j else if j = m then acc P m r else 0#32)]]⟩,
                fun r => r ≤ 4, fun r => 4 - r, ⟨0, [0, 1, 2, 3, 4], ⟨⟨rfl, rfl, rfl⟩, ?_⟩, by omega⟩, fun r hr => ⟨fun h => ?_, fun h => ?_⟩⟩
              · (repeat first | exact trivial | refine ⟨rfl, ?_⟩ | refine ⟨fun _ _ => ⟨rfl, trivial⟩, ?_⟩ | refine ⟨fun _ _ => trivial, ?_⟩ | refine ⟨by omega, ?_⟩ | refine ⟨fun _ _ => eqC_winS, ?_⟩ | refine ⟨fun _ _ => eqC_winM, ?_⟩ | refine ⟨fun _ _ => eqC_winB, ?_⟩ | refine ⟨fun _ _ => eqC_selfB, ?_⟩ | refine ⟨fun _ _ => eqC_mpB, ?_⟩)
                refine eqC_bts ?_
                (repeat first | exact trivial | refine ⟨rfl, ?_⟩ | refine ⟨fun _ _ => ⟨rfl, trivial⟩, ?_⟩ | refine ⟨fun _ _ => trivial, ?_⟩ | refine ⟨by omega, ?_⟩ | refine ⟨fun _ _ => eqC_winS, ?_⟩ | refine ⟨fun _ _ => eqC_winM, ?_⟩ | refine ⟨fun _ _ => eqC_winB, ?_⟩ | refine ⟨fun _ _ => eqC_selfB, ?_⟩ | refine ⟨fun _ _ => eqC_mpB, ?_⟩)
                refine ⟨fun j hj => eqC_w32 (congrArg SC.w32 ?_), trivial⟩
                unfold wArr
                rw [if_pos (by omega)]
                by_cases h1 : j < m
                · rw [if_pos h1, if_pos h1]
                · rw [if_neg h1, if_neg h1]
                  by_cases h2 : j = m
                  · rw [if_pos h2]; rfl
                  · rw [if_neg h2]
              · have hlt4 : (r : Int) < 4 := of_decide_eq_true h
                refine ⟨none, [], [(0, true), (1, true), (2, true), (3, true), (4, true), (5, true), (6, true), (7, true), (8, true), (9, true), (10, true), (11, true), (12, true), (13, true), (14, true), (15, true), (16, true), (17, true), (18, true)], [19], by kernel_rfl, ?_⟩
                (repeat first | refine And.intro (by omega) ?_ | refine And.intro (by decide) ?_ | (with_reducible refine frc_parts (by first | omega | decide) ?_) | (with_reducible refine frc_bytesL (by first | omega | decide) ?_) | refine And.intro rfl ?_)
                refine ⟨r + 1, [0, 1, 2, 3, 4], ⟨⟨rfl, rfl, rfl⟩, ?_⟩, by first | omega | (dsimp only; omega), by first | omega | (dsimp only; omega)⟩
                (repeat first | exact trivial | refine ⟨rfl, ?_⟩ | refine ⟨fun _ _ => ⟨rfl, trivial⟩, ?_⟩ | refine ⟨fun _ _ => trivial, ?_⟩ | refine ⟨by omega, ?_⟩ | refine ⟨fun _ _ => eqC_winS, ?_⟩ | refine ⟨fun _ _ => eqC_winM, ?_⟩ | refine ⟨fun _ _ => eqC_winB, ?_⟩ | refine ⟨fun _ _ => eqC_selfB, ?_⟩ | refine ⟨fun _ _ => eqC_mpB, ?_⟩)
                refine eqC_bts ?_
                (repeat first | exact trivial | refine ⟨rfl, ?_⟩ | refine ⟨fun _ _ => ⟨rfl, trivial⟩, ?_⟩ | refine ⟨fun _ _ => trivial, ?_⟩ | refine ⟨by omega, ?_⟩ | refine ⟨fun _ _ => eqC_winS, ?_⟩ | refine ⟨fun _ _ => eqC_winM, ?_⟩ | refine ⟨fun _ _ => eqC_winB, ?_⟩ | refine ⟨fun _ _ => eqC_selfB, ?_⟩ | refine ⟨fun _ _ => eqC_mpB, ?_⟩)
                have e0 : (m : Int).toNat + 0 = m := by omega
                have e5 : (((64 * k : Nat) : Int) + 4 * (m : Int) + (r : Int)).toNat + 0 = 64 * k + (4 * m + r) := by omega
                refine ⟨fun j hj => eqC_w32 ?_, trivial⟩
                rw [e0, e5, hP']
                unfold upd
                by_cases h2 : j = m
                · subst h2
                  rw [if_pos rfl]
                  exact congrArg SC.w32 (by rw [if_neg (Nat.lt_irrefl j), if_pos rfl, if_neg (Nat.lt_irrefl j), if_pos rfl]; rfl)
                · rw [if_neg h2]
                  exact congrArg SC.w32 (by simp only [if_neg h2])
              · obtain rfl : r = 4 := by have : ¬ (r : Int) < 4 := of_decide_eq_false h; have hr : r ≤ 4 := hr; omega
                refine ⟨⟨by omega, by omega⟩, m + 1, [0, 1, 2, 3, 4], ⟨⟨rfl, rfl, rfl⟩, ?_⟩, by first | omega | (dsimp only; omega), by first | omega | (dsimp only; omega)⟩
                (repeat first | exact trivial | refine ⟨rfl, ?_⟩ | refine ⟨fun _ _ => ⟨rfl, trivial⟩, ?_⟩ | refine ⟨fun _ _ => trivial, ?_⟩ | refine ⟨by omega, ?_⟩ | refine ⟨fun _ _ => eqC_winS, ?_⟩ | refine ⟨fun _ _ => eqC_winM, ?_⟩ | refine ⟨fun _ _ => eqC_winB, ?_⟩ | refine ⟨fun _ _ => eqC_selfB, ?_⟩ | refine ⟨fun _ _ => eqC_mpB, ?_⟩)
                refine eqC_bts ?_
                (repeat first | exact trivial | refine ⟨rfl, ?_⟩ | refine ⟨fun _ _ => ⟨rfl, trivial⟩, ?_⟩ | refine ⟨fun _ _ => trivial, ?_⟩ | refine ⟨by omega, ?_⟩ | refine ⟨fun _ _ => eqC_winS, ?_⟩ | refine ⟨fun _ _ => eqC_winM, ?_⟩ | refine ⟨fun _ _ => eqC_winB, ?_⟩ | refine ⟨fun _ _ => eqC_selfB, ?_⟩ | refine ⟨fun _ _ => eqC_mpB, ?_⟩)
                refine ⟨fun j hj => eqC_w32 (congrArg SC.w32 ?_), trivial⟩
                unfold wArr
                rw [acc_4, if_pos (show m + 1 ≤ 16 by omega)]
                by_cases h1 : j < m
                · rw [if_pos h1, if_pos (by omega)]
                · rw [if_neg h1]
                  by_cases h2 : j = m
                  · rw [if_pos h2, if_pos (by omega), h2]
                  · rw [if_neg h2, if_neg (by omega)]
            · have hge16 : ¬ (m : Int) < 16 := of_decide_eq_false h
              obtain ⟨n, rfl⟩ : ∃ n, m = 16 + n := ⟨m - 16, by omega⟩
              have hW : ∀ j, wArr P (16 + n) j = wS P n j := fun j => by
                by_cases h0 : n = 0
                · subst h0; exact wArr_16 P j
                · unfold wArr; rw [if_neg (by omega), Nat.add_sub_cancel_left]
              simp only [hW]
              refine ⟨none, [], [(0, true), (1, true), (2, true), (3, true), (4, true), (6, true), (7, true), (8, true), (9, true), (10, true), (13, true), (14, true), (15, true), (16, true), (17, true), (18, true), (5, false), (11, false), (12, true), (19, true), (20, true)], [], by kernel_rfl, ?_⟩
              (repeat first | refine And.intro (by omega) ?_ | refine And.intro (by decide) ?_ | (with_reducible refine frc_parts (by first | omega | decide) ?_) | (with_reducible refine frc_bytesL (by first | omega | decide) ?_) | refine And.intro rfl ?_)
              refine call_same (fn_right _ 7 (by omega) (by omega)) [] rfl ⟨rfl, rfl, trivial⟩ trivial (fun _ _ => trivial) ?_
              rintro v hs ⟨rfl, rfl⟩
              (repeat first | refine And.intro (by omega) ?_ | refine And.intro (by decide) ?_ | (with_reducible refine frc_parts (by first | omega | decide) ?_) | (with_reducible refine frc_bytesL (by first | omega | decide) ?_) | refine And.intro rfl ?_)
              refine call_same (fn_right _ 18 (by omega) (by omega)) [] rfl ⟨rfl, rfl, trivial⟩ trivial (fun _ _ => trivial) ?_
              rintro v hs ⟨rfl, rfl⟩
              (repeat first | refine And.intro (by omega) ?_ | refine And.intro (by decide) ?_ | (with_reducible refine frc_parts (by first | omega | decide) ?_) | (with_reducible refine frc_bytesL (by first | omega | decide) ?_) | refine And.intro rfl ?_)
              refine ⟨none, [], [(0, true), (1, true), (2, true), (3, true), (4, true), (6, true), (7, true), (8, true), (9, true), (10, true), (13, true), (14, true), (15, true), (16, true), (17, true), (18, true), (5, false), (11, false), (12, true), (19, true), (20, true)], [], by kernel_rfl, ?_⟩
              (repeat first | refine And.intro (by omega) ?_ | refine And.intro (by decide) ?_ | (with_reducible refine frc_parts (by first | omega | decide) ?_) | (with_reducible refine frc_bytesL (by first | omega | decide) ?_) | refine And.intro rfl ?_)
              refine call_same (fn_right _ 17 (by omega) (by omega)) [] rfl ⟨rfl, rfl, trivial⟩ trivial (fun _ _ => trivial) ?_
              rintro v hs ⟨rfl, rfl⟩
              (repeat first | refine And.intro (by omega) ?_ | refine And.intro (by decide) ?_ | (with_reducible refine frc_parts (by first | omega | decide) ?_) | (with_reducible refine frc_bytesL (by first | omega | decide) ?_) | refine And.intro rfl ?_)
              refine call_same (fn_right _ 19 (by omega) (by omega)) [] rfl ⟨rfl, rfl, trivial⟩ trivial (fun _ _ => trivial) ?_
              rintro v hs ⟨rfl, rfl⟩
              (repeat first | refine And.intro (by omega) ?_ | refine And.intro (by decide) ?_ | (with_reducible refine frc_parts (by first | omega | decide) ?_) | (with_reducible refine frc_bytesL (by first | omega | decide) ?_) | refine And.intro rfl ?_)
              refine ⟨none, [], [(0, true), (1, true), (2, true), (3, true), (4, true), (5, true), (6, true), (7, true), (8, true), (9, true), (10, true), (11, true), (12, true), (13, true), (14, true), (15, true), (16, true), (17, true)], [18], by kernel_rfl, ?_⟩
              (repeat first | refine And.intro (by omega) ?_ | refine And.intro (by decide) ?_ | (with_reducible refine frc_parts (by first | omega | decide) ?_) | (with_reducible refine frc_bytesL (by first | omega | decide) ?_) | refine And.intro rfl ?_)
              refine ⟨16 + (n + 1), [0, 1, 2, 3, 4], ⟨⟨rfl, rfl, rfl⟩, ?_⟩, by first | omega | (dsimp only; omega), by first | omega | (dsimp only; omega)⟩
              (repeat first | exact trivial | refine ⟨rfl, ?_⟩ | refine ⟨fun _ _ => ⟨rfl, trivial⟩, ?_⟩ | refine ⟨fun _ _ => trivial, ?_⟩ | refine ⟨by omega, ?_⟩ | refine ⟨fun _ _ => eqC_winS, ?_⟩ | refine ⟨fun _ _ => eqC_winM, ?_⟩ | refine ⟨fun _ _ => eqC_winB, ?_⟩ | refine ⟨fun _ _ => eqC_selfB, ?_⟩ | refine ⟨fun _ _ => eqC_mpB, ?_⟩)
              refine eqC_bts ?_
              (repeat first | exact trivial | refine ⟨rfl, ?_⟩ | refine ⟨fun _ _ => ⟨rfl, trivial⟩, ?_⟩ | refine ⟨fun _ _ => trivial, ?_⟩ | refine ⟨by omega, ?_⟩ | refine ⟨fun _ _ => eqC_winS, ?_⟩ | refine ⟨fun _ _ => eqC_winM, ?_⟩ | refine ⟨fun _ _ => eqC_winB, ?_⟩ | refine ⟨fun _ _ => eqC_selfB, ?_⟩ | refine ⟨fun _ _ => eqC_mpB, ?_⟩)
              have hW' : ∀ j, wArr P (16 + (n + 1)) j = wS P (n + 1) j := fun j => by unfold wArr; rw [if_neg (by omega), Nat.add_sub_cancel_left]
              have j0 : ((16 + n : Nat) : Int).toNat + 0 = 16 + n := by omega
              have j1 : (((16 + n : Nat) : Int) - 16).toNat + 0 = n := by omega
              have j2 : (((16 + n : Nat) : Int) - 15).toNat + 0 = n + 1 := by omega
              have j3 : (((16 + n : Nat) : Int) - 7).toNat + 0 = n + 9 := by omega
              have j4 : (((16 + n : Nat) : Int) - 2).toNat + 0 = n + 14 := by omega
              refine ⟨fun j hj => ?_, trivial⟩
              rw [j0, j1, j2, j3, j4]
              show eqC _ _ (.w32 (wArr P (16 + (n + 1)) j)) True
              rw [hW']
              refine eqC_w32 ((upd_w32 (g := fun i => .w32 (wS P (n + 1) i)) ?_ ?_ j).trans rfl)
              · simp only [wS]
                rfl
              · intro i hi
                simp only [wS, if_neg hi]
          · obtain rfl : m = 64 := by have : ¬ (m : Int) < 64 := of_decide_eq_false h; have hm : m ≤ 64 := hm; omega
            obtain ⟨W, hW⟩ : ∃ W, wS P 48 = W := ⟨_, rfl⟩
            have hWA : ∀ j, wArr P 64 j = W j := fun j => by unfold wArr; rw [if_neg (by omega), ← hW]
            simp only [hWA]
            refine ⟨by decide, ⟨by decide, by decide, by decide⟩, fun c8 hc8 => ?_⟩
            refine .inl ⟨Nat, fun m => ⟨[.any, .any, .any, .a (.c (.sl 1 0 0 8 8)), .any, .a (.c (.sl 2 0 0 (64 * Q) c)), .any, .a (.c (.sl 3 0 0 64 64)), .a (.c (.int .i64 (((64 * k : Nat) : Int)))), .a (.c (.sl 4 0 0 64 64)), .any, .any, .any, .any, .a (.c (.sl 5 0 0 8 c8)), .a (.c (.int .i64 (↑m))), .any, .any, .any, .any, .any, .any, .any, .any, .any, .any, .any, .any, .any, .any, .any, .any, .any, .any, .any, .any, .any, .any, .any, .any, .any, .any, .any, .any, .any, .any, .any, .any, .any, .any, .any, .any, .any, .any, .any, .any, .any, .any, .any, .any, .any, .any, .any, .any, .any, .any, .any, .any, .any, .any, .any, .any, .any, .any, .any, .any, .any, .any, .any, .any, .any, .any, .any, .any, .any, .any, .any, .any, .any, .any, .any, .any, .any, .any, .any, .any, .any, .any, .any, .any, .any, .any, .any, .any, .any, .any, .any, .any, .any, .any, .any, .any, .any, .any, .any, .any, .any, .any, .any, .any, .any, .any, .any, .any, .any, .any, .any, .any, .any, .any, .any, .any, .any, .any, .any, .any, .any, .any, .any, .any, .any, .any, .any, .any, .any, .any, .any, .any, .any, .any, .any, .any, .any, .any, .any, .any, .any, .any, .any, .any, .any, .any, .any, .any, .any, .any, .any, .any, .any, .any, .any, .any, .any, .any, .any, .any, .any, .any, .any, .any, .any, .any, .any, .any, .any, .any, .any, .any, .any, .any, .any, .any, .any, .any, .any, .any, .any, .any, .any, .any, .any, .any, .any, .any, .any, .any, .any, .any, .any, .any, .any, .any, .any, .any, .any, .any, .any, .any, .any, .any, .any, .any, .any, .any, .any, .any, .any, .any, .any, .any, .any, .any, .any, .any, .any, .any, .any, .any, .any, .any, .any, .any, .any, .any, .any, .any, .any, .any, .any, .any, .any, .any, .any, .any, .any, .any, .any, .any, .any, .any, .any, .any, .any, .any, .any, .any, .any, .any, .any, .any, .any, .any, .any, .any, .any, .any, .any, .any, .any, .any, .any, .any, .any, .any, .any, .any, .any, .any, .any, .any, .any, .any, .any, .any, .any, .any, .any, .any, .any, .any, .any, .any, .any, .any, .any, .any, .any, .any, .any, .any, .any, .any, .any], [bts z N o l.length (L l), [.row 8 fun i => .w32 (V i)], [.row c (bytesF (64 * Q) (L (full l)))], [.row 64 fun i => .w32 (steps i)], [.row 64 fun i => .w32 (W i)], [.row c8 (partsF 8 fun i => .w32 (vR W V m i))]]⟩,
              fun m => m ≤ 64, fun m => 64 - m, ⟨0, [0, 1, 2, 3, 4, 6], ⟨⟨rfl, rfl, rfl⟩, ?_⟩, by omega⟩, fun m hm => ⟨fun h => ?_, fun h => ?_⟩⟩
            · (repeat first | exact trivial | refine ⟨rfl, ?_⟩ | refine ⟨fun _ _ => ⟨rfl, trivial⟩, ?_⟩ | refine ⟨fun _ _ => trivial, ?_⟩ | refine ⟨by omega, ?_⟩ | refine ⟨fun _ _ => eqC_winS, ?_⟩ | refine ⟨fun _ _ => eqC_winM, ?_⟩ | refine ⟨fun _ _ => eqC_winB, ?_⟩ | refine ⟨fun _ _ => eqC_selfB, ?_⟩ | refine ⟨fun _ _ => eqC_mpB, ?_⟩)
              refine eqC_bts ?_
              (repeat first | exact trivial | refine ⟨rfl, ?_⟩ | refine ⟨fun _ _ => ⟨rfl, trivial⟩, ?_⟩ | refine ⟨fun _ _ => trivial, ?_⟩ | refine ⟨by omega, ?_⟩ | refine ⟨fun _ _ => eqC_winS, ?_⟩ | refine ⟨fun _ _ => eqC_winM, ?_⟩ | refine ⟨fun _ _ => eqC_winB, ?_⟩ | refine ⟨fun _ _ => eqC_selfB, ?_⟩ | refine ⟨fun _ _ => eqC_mpB, ?_⟩)
              refine ⟨fun j hj => eqC_parts (fun i hi => ?_) j, trivial⟩
              unfold appF
              rw [if_neg (by simp [scale]), if_pos (by simpa [scale] using hi)]
              exact ⟨rfl, trivial⟩
            · have hlt : (m : Int) < 64 := of_decide_eq_true h
              obtain ⟨v, hv⟩ : ∃ v, vR W V m = v := ⟨_, rfl⟩
              rw [hv]
              refine ⟨none, [], [(0, true), (1, true), (2, true), (4, true), (5, true), (6, true), (9, true), (10, true), (11, true), (3, false), (7, false), (8, true), (12, false), (13, true), (14, true)], [], by kernel_rfl, ?_⟩
              (repeat first | refine And.intro (by omega) ?_ | refine And.intro (by decide) ?_ | (with_reducible refine frc_parts (by first | omega | decide) ?_) | (with_reducible refine frc_bytesL (by first | omega | decide) ?_) | refine And.intro rfl ?_)
              refine call_same (fn_right _ 6 (by omega) (by omega)) [] rfl ⟨rfl, rfl, trivial⟩ trivial (fun _ _ => trivial) ?_
              rintro x hs ⟨rfl, rfl⟩
              (repeat first | refine And.intro (by omega) ?_ | refine And.intro (by decide) ?_ | (with_reducible refine frc_parts (by first | omega | decide) ?_) | (with_reducible refine frc_bytesL (by first | omega | decide) ?_) | refine And.intro rfl ?_)
              refine call_same (fn_right _ 11 (by omega) (by omega)) [] rfl ⟨rfl, rfl, trivial⟩ trivial (fun _ _ => trivial) ?_
              rintro x hs ⟨rfl, rfl⟩
              (repeat first | refine And.intro (by omega) ?_ | refine And.intro (by decide) ?_ | (with_reducible refine frc_parts (by first | omega | decide) ?_) | (with_reducible refine frc_bytesL (by first | omega | decide) ?_) | refine And.intro rfl ?_)
              refine call_same (fn_right _ 25 (by omega) (by omega)) [] rfl ⟨rfl, rfl, trivial⟩ trivial (fun _ _ => trivial) ?_
              rintro x hs ⟨rfl, rfl⟩
              (repeat first | refine And.intro (by omega) ?_ | refine And.intro (by decide) ?_ | (with_reducible refine frc_parts (by first | omega | decide) ?_) | (with_reducible refine frc_bytesL (by first | omega | decide) ?_) | refine And.intro rfl ?_)
              refine ⟨none, [], [(0, true), (1, true), (2, true), (3, true), (4, true), (5, true), (6, true), (7, true), (8, true), (9, true), (10, true), (11, true), (12, true), (13, true), (14, true), (15, true), (16, true)], [], by kernel_rfl, ?_⟩
              (repeat first | refine And.intro (by omega) ?_ | refine And.intro (by decide) ?_ | (with_reducible refine frc_parts (by first | omega | decide) ?_) | (with_reducible refine frc_bytesL (by first | omega | decide) ?_) | refine And.intro rfl ?_)
              refine ⟨none, [], [(0, true), (1, true), (2, true), (3, true), (4, true), (5, true), (6, true), (7, true), (8, true), (9, true), (10, true), (11, true), (12, true), (13, true), (14, true), (15, true), (16, true), (17, true)], [], by kernel_rfl, ?_⟩
              (repeat first | refine And.intro (by omega) ?_ | refine And.intro (by decide) ?_ | (with_reducible refine frc_parts (by first | omega | decide) ?_) | (with_reducible refine frc_bytesL (by first | omega | decide) ?_) | refine And.intro rfl ?_)
              refine ⟨none, [], [(0, true), (1, true), (2, true), (4, true), (5, true), (6, true), (9, true), (10, true), (11, true), (3, false), (7, false), (8, true), (12, false), (13, true), (14, true)], [], by kernel_rfl, ?_⟩
              (repeat first | refine And.intro (by omega) ?_ | refine And.intro (by decide) ?_ | (with_reducible refine frc_parts (by first | omega | decide) ?_) | (with_reducible refine frc_bytesL (by first | omega | decide) ?_) | refine And.intro rfl ?_)
              refine call_same (fn_right _ 2 (by omega) (by omega)) [] rfl ⟨rfl, rfl, trivial⟩ trivial (fun _ _ => trivial) ?_
              rintro x hs ⟨rfl, rfl⟩
              (repeat first | refine And.intro (by omega) ?_ | refine And.intro (by decide) ?_ | (with_reducible refine frc_parts (by first | omega | decide) ?_) | (with_reducible refine frc_bytesL (by first | omega | decide) ?_) | refine And.intro rfl ?_)
              refine call_same (fn_right _ 13 (by omega) (by omega)) [] rfl ⟨rfl, rfl, trivial⟩ trivial (fun _ _ => trivial) ?_
              rintro x hs ⟨rfl, rfl⟩
              (repeat first | refine And.intro (by omega) ?_ | refine And.intro (by decide) ?_ | (with_reducible refine frc_parts (by first | omega | decide) ?_) | (with_reducible refine frc_bytesL (by first | omega | decide) ?_) | refine And.intro rfl ?_)
              refine call_same (fn_right _ 22 (by omega) (by omega)) [] rfl ⟨rfl, rfl, trivial⟩ trivial (fun _ _ => trivial) ?_
              rintro x hs ⟨rfl, rfl⟩
              (repeat first | refine And.intro (by omega) ?_ | refine And.intro (by decide) ?_ | (with_reducible refine frc_parts (by first | omega | decide) ?_) | (with_reducible refine frc_bytesL (by first | omega | decide) ?_) | refine And.intro rfl ?_)
              refine ⟨none, [], [(0, true), (1, true), (2, true), (3, true), (4, true), (5, true), (6, true), (7, true), (8, true), (9, true), (10, true), (11, true), (12, true), (13, true), (14, true), (15, true), (16, true), (17, true), (18, true), (19, true), (20, true), (21, true), (22, true), (23, true)], [], by kernel_rfl, ?_⟩
              (repeat first | refine And.intro (by omega) ?_ | refine And.intro (by decide) ?_ | (with_reducible refine frc_parts (by first | omega | decide) ?_) | (with_reducible refine frc_bytesL (by first | omega | decide) ?_) | refine And.intro rfl ?_)
              refine .inl ⟨Nat, fun s => ⟨[.any, .any, .any, .a (.c (.sl 1 0 0 8 8)), .any, .a (.c (.sl 2 0 0 (64 * Q) c)), .any, .a (.c (.sl 3 0 0 64 64)), .a (.c (.int .i64 (((64 * k : Nat) : Int)))), .a (.c (.sl 4 0 0 64 64)), .any, .any, .any, .any, .a (.c (.sl 5 0 0 8 c8)), .a (.c (.int .i64 (↑m))), .any, .any, .a (.c (.w32 ((Sha.one v (steps m) (W m))))), .a (.c (.w32 ((ror (v 0) 2 ^^^ ror (v 0) 13 ^^^ ror (v 0) 22)))), .a (.c (.w32 (((v 0 &&& v 1) ^^^ (v 0 &&& v 2) ^^^ (v 1 &&& v 2))))), .a (.c (.int .i64 (7 - (s : Int)))), .any, .any, .any, .any, .any, .any, .any, .any, .any, .any, .any, .any, .any, .any, .any, .any, .any, .any, .any, .any, .any, .any, .any, .any, .any, .any, .any, .any, .any, .any, .any, .any, .any, .any, .any, .any, .any, .any, .any, .any, .any, .any, .any, .any, .any, .any, .any, .any, .any, .any, .any, .any, .any, .any, .any, .any, .any, .any, .any, .any, .any, .any, .any, .any, .any, .any, .any, .any, .any, .any, .any, .any, .any, .any, .any, .any, .any, .any, .any, .any, .any, .any, .any, .any, .any, .any, .any, .any, .any, .any, .any, .any, .any, .any, .any, .any, .any, .any, .any, .any, .any, .any, .any, .any, .any, .any, .any, .any, .any, .any, .any, .any, .any, .any, .any, .any, .any, .any, .any, .any, .any, .any, .any, .any, .any, .any, .any, .any, .any, .any, .any, .any, .any, .any, .any, .any, .any, .any, .any, .any, .any, .any, .any, .any, .any, .any, .any, .any, .any, .any, .any, .any, .any, .any, .any, .any, .any, .any, .any, .any, .any, .any, .any, .any, .any, .any, .any, .any, .any, .any, .any, .any, .any, .any, .any, .any, .any, .any, .any, .any, .any, .any, .any, .any, .any, .any, .any, .any, .any, .any, .any, .any, .any, .any, .any, .any, .any, .any, .any, .any, .any, .any, .any, .any, .any, .any, .any, .any, .any, .any, .any, .any, .any, .any, .any, .any, .any, .any, .any, .any, .any, .any, .any, .any, .any, .any, .any, .any, .any, .any, .any, .any, .any, .any, .any, .any, .any, .any, .any, .any, .any, .any, .any, .any, .any, .any, .any, .any, .any, .any, .any, .any, .any, .any, .any, .any, .any, .any, .any, .any, .any, .any, .any, .any, .any, .any, .any, .any, .any, .any, .any, .any, .any, .any, .any, .any, .any, .any, .any, .any, .any, .any, .any, .any, .any, .any, .any, .any, .any, .any, .any], [bts z N o l.length (L l), [.row 8 fun i => .w32 (V i)], [.row c (bytesF (64 * Q) (L (full l)))], [.row 64 fun i => .w32 (steps i)], [.row 64 fun i => .w32 (W i)], [.row c8 (partsF 8 fun i => .w32 (if 7 - s < i then v (i - 1) else v i))]]⟩,
                fun s => s ≤ 7, fun s => 7 - s, ⟨0, [0, 1, 2, 3, 4, 5], ⟨⟨rfl, rfl, rfl⟩, ?_⟩, by omega⟩, fun s hs => ⟨fun h => ?_, fun h => ?_⟩⟩
              · (repeat first | exact trivial | refine ⟨rfl, ?_⟩ | refine ⟨fun _ _ => ⟨rfl, trivial⟩, ?_⟩ | refine ⟨fun _ _ => trivial, ?_⟩ | refine ⟨by omega, ?_⟩ | refine ⟨fun _ _ => eqC_winS, ?_⟩ | refine ⟨fun _ _ => eqC_winM, ?_⟩ | refine ⟨fun _ _ => eqC_winB, ?_⟩ | refine ⟨fun _ _ => eqC_selfB, ?_⟩ | refine ⟨fun _ _ => eqC_mpB, ?_⟩)
                refine ⟨?_, ?_⟩
                · unfold Sha.one
                  rw [← not_xor]
                  rfl
                · (repeat first | exact trivial | refine ⟨rfl, ?_⟩ | refine ⟨fun _ _ => ⟨rfl, trivial⟩, ?_⟩ | refine ⟨fun _ _ => trivial, ?_⟩ | refine ⟨by omega, ?_⟩ | refine ⟨fun _ _ => eqC_winS, ?_⟩ | refine ⟨fun _ _ => eqC_winM, ?_⟩ | refine ⟨fun _ _ => eqC_winB, ?_⟩ | refine ⟨fun _ _ => eqC_selfB, ?_⟩ | refine ⟨fun _ _ => eqC_mpB, ?_⟩)
                  refine eqC_bts ?_
                  (repeat first | exact trivial | refine ⟨rfl, ?_⟩ | refine ⟨fun _ _ => ⟨rfl, trivial⟩, ?_⟩ | refine ⟨fun _ _ => trivial, ?_⟩ | refine ⟨by omega, ?_⟩ | refine ⟨fun _ _ => eqC_winS, ?_⟩ | refine ⟨fun _ _ => eqC_winM, ?_⟩ | refine ⟨fun _ _ => eqC_winB, ?_⟩ | refine ⟨fun _ _ => eqC_selfB, ?_⟩ | refine ⟨fun _ _ => eqC_mpB, ?_⟩)
                  refine ⟨fun j hj => eqC_parts (fun i hi => ?_) j, trivial⟩
                  unfold partsF
                  rw [if_pos hi, if_neg (by omega)]
                  exact ⟨rfl, trivial⟩
              · have hgt : 7 - (s : Int) > 0 := of_decide_eq_true h
                (repeat first | refine And.intro (by omega) ?_ | refine And.intro (by decide) ?_ | (with_reducible refine frc_parts (by first | omega | decide) ?_) | (with_reducible refine frc_bytesL (by first | omega | decide) ?_) | refine And.intro rfl ?_)
                refine ⟨s + 1, [0, 1, 2, 3, 4, 5], ⟨⟨rfl, rfl, rfl⟩, ?_⟩, by first | omega | (dsimp only; omega), by first | omega | (dsimp only; omega)⟩
                (repeat first | exact trivial | refine ⟨rfl, ?_⟩ | refine ⟨fun _ _ => ⟨rfl, trivial⟩, ?_⟩ | refine ⟨fun _ _ => trivial, ?_⟩ | refine ⟨by omega, ?_⟩ | refine ⟨fun _ _ => eqC_winS, ?_⟩ | refine ⟨fun _ _ => eqC_winM, ?_⟩ | refine ⟨fun _ _ => eqC_winB, ?_⟩ | refine ⟨fun _ _ => eqC_selfB, ?_⟩ | refine ⟨fun _ _ => eqC_mpB, ?_⟩)
                refine eqC_bts ?_
                (repeat first | exact trivial | refine ⟨rfl, ?_⟩ | refine ⟨fun _ _ => ⟨rfl, trivial⟩, ?_⟩ | refine ⟨fun _ _ => trivial, ?_⟩ | refine ⟨by omega, ?_⟩ | refine ⟨fun _ _ => eqC_winS, ?_⟩ | refine ⟨fun _ _ => eqC_winM, ?_⟩ | refine ⟨fun _ _ => eqC_winB, ?_⟩ | refine ⟨fun _ _ => eqC_selfB, ?_⟩ | refine ⟨fun _ _ => eqC_mpB, ?_⟩)
                have a0 : (7 - (s : Int)).toNat + 0 = 7 - s := by omega
                have a1 : (7 - (s : Int) - 1).toNat + 0 = 6 - s := by omega
                refine ⟨fun j hj => eqC_parts (fun i hi => ?_) j, trivial⟩
                rw [a0, a1]
                unfold upd
                by_cases h2 : i = 7 - s
                · rw [if_pos h2, if_neg (show ¬ 7 - s < 6 - s by omega), h2]
                  refine eqC_w32 (congrArg SC.w32 ?_)
                  rw [if_pos (by omega)]
                  exact congrArg v (by omega)
                · rw [if_neg h2]
                  unfold partsF
                  rw [if_pos hi]
                  refine eqC_w32 (congrArg SC.w32 ?_)
                  have : 7 - s < i ↔ 7 - (s + 1) < i := by omega
                  simp only [this]
              · obtain rfl : s = 7 := by have : ¬ 7 - (s : Int) > 0 := of_decide_eq_false h; have hs : s ≤ 7 := hs; omega
                (repeat first | refine And.intro (by omega) ?_ | refine And.intro (by decide) ?_ | (with_reducible refine frc_parts (by first | omega | decide) ?_) | (with_reducible refine frc_bytesL (by first | omega | decide) ?_) | refine And.intro rfl ?_)
                refine ⟨m + 1, [0, 1, 2, 3, 4, 5], ⟨⟨rfl, rfl, rfl⟩, ?_⟩, by first | omega | (dsimp only; omega), by first | omega | (dsimp only; omega)⟩
                (repeat first | exact trivial | refine ⟨rfl, ?_⟩ | refine ⟨fun _ _ => ⟨rfl, trivial⟩, ?_⟩ | refine ⟨fun _ _ => trivial, ?_⟩ | refine ⟨by omega, ?_⟩ | refine ⟨fun _ _ => eqC_winS, ?_⟩ | refine ⟨fun _ _ => eqC_winM, ?_⟩ | refine ⟨fun _ _ => eqC_winB, ?_⟩ | refine ⟨fun _ _ => eqC_selfB, ?_⟩ | refine ⟨fun _ _ => eqC_mpB, ?_⟩)
                refine eqC_bts ?_
                (repeat first | exact trivial | refine ⟨rfl, ?_⟩ | refine ⟨fun _ _ => ⟨rfl, trivial⟩, ?_⟩ | refine ⟨fun _ _ => trivial, ?_⟩ | refine ⟨by omega, ?_⟩ | refine ⟨fun _ _ => eqC_winS, ?_⟩ | refine ⟨fun _ _ => eqC_winM, ?_⟩ | refine ⟨fun _ _ => eqC_winB, ?_⟩ | refine ⟨fun _ _ => eqC_selfB, ?_⟩ | refine ⟨fun _ _ => eqC_mpB, ?_⟩)
                refine ⟨fun j hj => eqC_parts (fun i hi => ?_) j, trivial⟩
                rw [show vR W V (m + 1) = next v (steps m) (W m) by simp only [vR, hv]]
                have hj8 : i = 0 ∨ i = 1 ∨ i = 2 ∨ i = 3 ∨ i = 4 ∨ i = 5 ∨ i = 6 ∨ i = 7 := by omega
                rcases hj8 with rfl | rfl | rfl | rfl | rfl | rfl | rfl | rfl
                · exact eqC_w32 (congrArg SC.w32 (BitVec.add_assoc _ _ _))
                all_goals exact ⟨rfl, trivial⟩
            · obtain rfl : m = 64 := by have : ¬ (m : Int) < 64 := of_decide_eq_false h; have hm : m ≤ 64 := hm; omega
              obtain ⟨v, hv⟩ : ∃ v, vR W V 64 = v := ⟨_, rfl⟩
              rw [hv]
              refine .inl ⟨Nat, fun m => ⟨[.any, .any, .any, .a (.c (.sl 1 0 0 8 8)), .any, .a (.c (.sl 2 0 0 (64 * Q) c)), .any, .a (.c (.sl 3 0 0 64 64)), .a (.c (.int .i64 (((64 * k : Nat) : Int)))), .any, .any, .any, .any, .any, .a (.c (.sl 4 0 0 8 c8)), .any, .any, .any, .any, .any, .any, .any, .a (.c (.int .i64 (↑m))), .any, .any, .any, .any, .any, .any, .any, .any, .any, .any, .any, .any, .any, .any, .any, .any, .any, .any, .any, .any, .any, .any, .any, .any, .any, .any, .any, .any, .any, .any, .any, .any, .any, .any, .any, .any, .any, .any, .any, .any, .any, .any, .any, .any, .any, .any, .any, .any, .any, .any, .any, .any, .any, .any, .any, .any, .any, .any, .any, .any, .any, .any, .any, .any, .any, .any, .any, .any, .any, .any, .any, .any, .any, .any, .any, .any, .any, .any, .any, .any, .any, .any, .any, .any, .any, .any, .any, .any, .any, .any, .any, .any, .any, .any, .any, .any, .any, .any, .any, .any, .any, .any, .any, .any, .any, .any, .any, .any, .any, .any, .any, .any, .any, .any, .any, .any, .any, .any, .any, .any, .any, .any, .any, .any, .any, .any, .any, .any, .any, .any, .any, .any, .any, .any, .any, .any, .any, .any, .any, .any, .any, .any, .any, .any, .any, .any, .any, .any, .any, .any, .any, .any, .any, .any, .any, .any, .any, .any, .any, .any, .any, .any, .any, .any, .any, .any, .any, .any, .any, .any, .any, .any, .any, .any, .any, .any, .any, .any, .any, .any, .any, .any, .any, .any, .any, .any, .any, .any, .any, .any, .any, .any, .any, .any, .any, .any, .any, .any, .any, .any, .any, .any, .any, .any, .any, .any, .any, .any, .any, .any, .any, .any, .any, .any, .any, .any, .any, .any, .any, .any, .any, .any, .any, .any, .any, .any, .any, .any, .any, .any, .any, .any, .any, .any, .any, .any, .any, .any, .any, .any, .any, .any, .any, .any, .any, .any, .any, .any, .any, .any, .any, .any, .any, .any, .any, .any, .any, .any, .any, .any, .any, .any, .any, .any, .any, .any, .any, .any, .any, .any, .any, .any, .any, .any, .any, .any, .any, .any, .any, .any, .any, .any, .any, .any, .any, .any, .any, .any, .any, .any], [bts z N o l.length (L l), [.row 8 fun i => .w32 (if i < m then V i + v i else V i)], [.row c (bytesF (64 * Q) (L (full l)))], [.row 64 fun i => .w32 (steps i)], [.row c8 (partsF 8 fun i => .w32 (v i))]]⟩,
                fun m => m ≤ 8, fun m => 8 - m, ⟨0, [0, 1, 2, 3, 5], ⟨⟨rfl, rfl, rfl⟩, ?_⟩, by omega⟩, fun m hm => ⟨fun h => ?_, fun h => ?_⟩⟩
              · (repeat first | exact trivial | refine ⟨rfl, ?_⟩ | refine ⟨fun _ _ => ⟨rfl, trivial⟩, ?_⟩ | refine ⟨fun _ _ => trivial, ?_⟩ | refine ⟨by omega, ?_⟩ | refine ⟨fun _ _ => eqC_winS, ?_⟩ | refine ⟨fun _ _ => eqC_winM, ?_⟩ | refine ⟨fun _ _ => eqC_winB, ?_⟩ | refine ⟨fun _ _ => eqC_selfB, ?_⟩ | refine ⟨fun _ _ => eqC_mpB, ?_⟩)
                refine eqC_bts ?_
                (repeat first | exact trivial | refine ⟨rfl, ?_⟩ | refine ⟨fun _ _ => ⟨rfl, trivial⟩, ?_⟩ | refine ⟨fun _ _ => trivial, ?_⟩ | refine ⟨by omega, ?_⟩ | refine ⟨fun _ _ => eqC_winS, ?_⟩ | refine ⟨fun _ _ => eqC_winM, ?_⟩ | refine ⟨fun _ _ => eqC_winB, ?_⟩ | refine ⟨fun _ _ => eqC_selfB, ?_⟩ | refine ⟨fun _ _ => eqC_mpB, ?_⟩)
                refine ⟨fun j hj => eqC_parts (fun i hi => ?_) j, trivial⟩
                unfold partsF
                rw [if_pos hi]
                exact ⟨rfl, trivial⟩
              · have hlt : (m : Int) < 8 := of_decide_eq_true h
                refine ⟨none, [], [(0, true), (1, true), (2, true), (3, true), (4, true), (5, true), (6, true), (7, true), (8, true), (9, true), (10, true), (11, true)], [12], by kernel_rfl, ?_⟩
                (repeat first | refine And.intro (by omega) ?_ | refine And.intro (by decide) ?_ | (with_reducible refine frc_parts (by first | omega | decide) ?_) | (with_reducible refine frc_bytesL (by first | omega | decide) ?_) | refine And.intro rfl ?_)
                refine ⟨m + 1, [0, 1, 2, 3, 4], ⟨⟨rfl, rfl, rfl⟩, ?_⟩, by first | omega | (dsimp only; omega), by first | omega | (dsimp only; omega)⟩
                (repeat first | exact trivial | refine ⟨rfl, ?_⟩ | refine ⟨fun _ _ => ⟨rfl, trivial⟩, ?_⟩ | refine ⟨fun _ _ => trivial, ?_⟩ | refine ⟨by omega, ?_⟩ | refine ⟨fun _ _ => eqC_winS, ?_⟩ | refine ⟨fun _ _ => eqC_winM, ?_⟩ | refine ⟨fun _ _ => eqC_winB, ?_⟩ | refine ⟨fun _ _ => eqC_selfB, ?_⟩ | refine ⟨fun _ _ => eqC_mpB, ?_⟩)
                refine eqC_bts ?_
                have e0 : (m : Int).toNat + 0 = m := by omega
                refine ⟨rfl, fun j hj => ?_, ?_⟩
                · rw [e0]
                  refine eqC_w32 ((upd_w32 (g := fun i => .w32 (if i < m + 1 then V i + v i else V i)) ?_ ?_ j).trans rfl)
                  · simp only [if_pos (show m < m + 1 by omega), if_neg (Nat.lt_irrefl m)]
                  · intro i hi
                    have : i < m + 1 ↔ i < m := by omega
                    simp only [this]
                · (repeat first | exact trivial | refine ⟨rfl, ?_⟩ | refine ⟨fun _ _ => ⟨rfl, trivial⟩, ?_⟩ | refine ⟨fun _ _ => trivial, ?_⟩ | refine ⟨by omega, ?_⟩ | refine ⟨fun _ _ => eqC_winS, ?_⟩ | refine ⟨fun _ _ => eqC_winM, ?_⟩ | refine ⟨fun _ _ => eqC_winB, ?_⟩ | refine ⟨fun _ _ => eqC_selfB, ?_⟩ | refine ⟨fun _ _ => eqC_mpB, ?_⟩)
                  refine ⟨fun j hj => eqC_parts (fun i hi => ?_) j, trivial⟩
                  unfold partsF
                  rw [if_pos hi]
                  exact ⟨rfl, trivial⟩
              · obtain rfl : m = 8 := by have : ¬ (m : Int) < 8 := of_decide_eq_false h; have hm : m ≤ 8 := hm; omega
                (repeat first | refine And.intro (by omega) ?_ | refine And.intro (by decide) ?_ | (with_reducible refine frc_parts (by first | omega | decide) ?_) | (with_reducible refine frc_bytesL (by first | omega | decide) ?_) | refine And.intro rfl ?_)
                refine ⟨k + 1, [0, 1, 2, 3], ⟨⟨rfl, rfl, rfl⟩, ?_⟩, by first | omega | (dsimp only; omega), by first | omega | (dsimp only; omega)⟩
                (repeat first | exact trivial | refine ⟨rfl, ?_⟩ | refine ⟨fun _ _ => ⟨rfl, trivial⟩, ?_⟩ | refine ⟨fun _ _ => trivial, ?_⟩ | refine ⟨by omega, ?_⟩ | refine ⟨fun _ _ => eqC_winS, ?_⟩ | refine ⟨fun _ _ => eqC_winM, ?_⟩ | refine ⟨fun _ _ => eqC_winB, ?_⟩ | refine ⟨fun _ _ => eqC_selfB, ?_⟩ | refine ⟨fun _ _ => eqC_mpB, ?_⟩)
                refine eqC_bts ?_
                refine ⟨rfl, fun j hj => eqC_w32 (congrArg SC.w32 ?_), ?_⟩
                · rw [hnext, if_pos hj]
                  unfold compress
                  rw [hW, hv]
                · (repeat first | exact trivial | refine ⟨rfl, ?_⟩ | refine ⟨fun _ _ => ⟨rfl, trivial⟩, ?_⟩ | refine ⟨fun _ _ => trivial, ?_⟩ | refine ⟨by omega, ?_⟩ | refine ⟨fun _ _ => eqC_winS, ?_⟩ | refine ⟨fun _ _ => eqC_winM, ?_⟩ | refine ⟨fun _ _ => eqC_winB, ?_⟩ | refine ⟨fun _ _ => eqC_selfB, ?_⟩ | refine ⟨fun _ _ => eqC_mpB, ?_⟩)
        · obtain rfl : k = Q := by have : ¬ ((64 * k : Nat) : Int) < ((64 * Q : Nat) : Int) := of_decide_eq_false h; omega
          have hV : ∀ i, i < 32 → L (sumL l) i = outW (wordsAt (full l) k).V i := fun i hi => by
            rw [sumL_full, L_tab hi]
            unfold wordsAt
            rw [← hQ, List.take_length]
          obtain ⟨V, hV'⟩ : ∃ V, (wordsAt (full l) k).V = V := ⟨_, rfl⟩
          rw [hV'] at hV
          rw [hV']
          let X := Option (Nat × Nat)
          refine .inl ⟨X, fun x => match x with
            | none => ⟨[.any, .any, .any, .a (.c (.sl 1 0 0 8 8)), .any, .any, .any, .any, .any, .any, .any, .any, .any, .any, .any, .any, .any, .any, .any, .any, .any, .any, .any, .a (.c (.slc none 0 0)), .a (.c (.int .i64 (0))), .any, .any, .any, .any, .any, .any, .any, .any, .any, .any, .any, .any, .any, .any, .any, .any, .any, .any, .any, .any, .any, .any, .any, .any, .any, .any, .any, .any, .any, .any, .any, .any, .any, .any, .any, .any, .any, .any, .any, .any, .any, .any, .any, .any, .any, .any, .any, .any, .any, .any, .any, .any, .any, .any, .any, .any, .any, .any, .any, .any, .any, .any, .any, .any, .any, .any, .any, .any, .any, .any, .any, .any, .any, .any, .any, .any, .any, .any, .any, .any, .any, .any, .any, .any, .any, .any, .any, .any, .any, .any, .any, .any, .any, .any, .any, .any, .any, .any, .any, .any, .any, .any, .any, .any, .any, .any, .any, .any, .any, .any, .any, .any, .any, .any, .any, .any, .any, .any, .any, .any, .any, .any, .any, .any, .any, .any, .any, .any, .any, .any, .any, .any, .any, .any, .any, .any, .any, .any, .any, .any, .any, .any, .any, .any, .any, .any, .any, .any, .any, .any, .any, .any, .any, .any, .any, .any, .any, .any, .any, .any, .any, .any, .any, .any, .any, .any, .any, .any, .any, .any, .any, .any, .any, .any, .any, .any, .any, .any, .any, .any, .any, .any, .any, .any, .any, .any, .any, .any, .any, .any, .any, .any, .any, .any, .any, .any, .any, .any, .any, .any, .any, .any, .any, .any, .any, .any, .any, .any, .any, .any, .any, .any, .any, .any, .any, .any, .any, .any, .any, .any, .any, .any, .any, .any, .any, .any, .any, .any, .any, .any, .any, .any, .any, .any, .any, .any, .any, .any, .any, .any, .any, .any, .any, .any, .any, .any, .any, .any, .any, .any, .any, .any, .any, .any, .any, .any, .any, .any, .any, .any, .any, .any, .any, .any, .any, .any, .any, .any, .any, .any, .any, .any, .any, .any, .any, .any, .any, .any, .any, .any, .any, .any, .any, .any, .any, .any, .any, .any], [bts z N o l.length (L l), [.row 8 fun i => .w32 (V i)]]⟩
            | some (m, c) => ⟨[.any, .any, .any, .a (.c (.sl 1 0 0 8 8)), .any, .any, .any, .any, .any, .any, .any, .any, .any, .any, .any, .any, .any, .any, .any, .any, .any, .any, .any, .a (.c (.sl 2 0 0 (4 * (m + 1)) c)), .a (.c (.int .i64 (((m + 1 : Nat) : Int)))), .any, .any, .any, .any, .any, .any, .any, .any, .any, .any, .any, .any, .any, .any, .any, .any, .any, .any, .any, .any, .any, .any, .any, .any, .any, .any, .any, .any, .any, .any, .any, .any, .any, .any, .any, .any, .any, .any, .any, .any, .any, .any, .any, .any, .any, .any, .any, .any, .any, .any, .any, .any, .any, .any, .any, .any, .any, .any, .any, .any, .any, .any, .any, .any, .any, .any, .any, .any, .any, .any, .any, .any, .any, .any, .any, .any, .any, .any, .any, .any, .any, .any, .any, .any, .any, .any, .any, .any, .any, .any, .any, .any, .any, .any, .any, .any, .any, .any, .any, .any, .any, .any, .any, .any, .any, .any, .any, .any, .any, .any, .any, .any, .any, .any, .any, .any, .any, .any, .any, .any, .any, .any, .any, .any, .any, .any, .any, .any, .any, .any, .any, .any, .any, .any, .any, .any, .any, .any, .any, .any, .any, .any, .any, .any, .any, .any, .any, .any, .any, .any, .any, .any, .any, .any, .any, .any, .any, .any, .any, .any, .any, .any, .any, .any, .any, .any, .any, .any, .any, .any, .any, .any, .any, .any, .any, .any, .any, .any, .any, .any, .any, .any, .any, .any, .any, .any, .any, .any, .any, .any, .any, .any, .any, .any, .any, .any, .any, .any, .any, .any, .any, .any, .any, .any, .any, .any, .any, .any, .any, .any, .any, .any, .any, .any, .any, .any, .any, .any, .any, .any, .any, .any, .any, .any, .any, .any, .any, .any, .any, .any, .any, .any, .any, .any, .any, .any, .any, .any, .any, .any, .any, .any, .any, .any, .any, .any, .any, .any, .any, .any, .any, .any, .any, .any, .any, .any, .any, .any, .any, .any, .any, .any, .any, .any, .any, .any, .any, .any, .any, .any, .any, .any, .any, .any, .any, .any, .any, .any, .any, .any, .any, .any, .any, .any, .any, .any, .any, .any], [bts z N o l.length (L l), [.row 8 fun i => .w32 (V i)], [.row c (bytesF (4 * (m + 1)) (outW V))]]⟩,
            fun x => match x with
            | none => True
            | some (m, c) => m < 8 ∧ 4 * (m + 1) ≤ c, fun x => match x with
            | none => 300
            | some (m, _) => 8 - m, ⟨none, [0, 1], ⟨⟨rfl, rfl, rfl⟩, ?_⟩, trivial⟩, fun x => ?_⟩
          · (repeat first | exact trivial | refine ⟨rfl, ?_⟩ | refine ⟨fun _ _ => ⟨rfl, trivial⟩, ?_⟩ | refine ⟨fun _ _ => trivial, ?_⟩ | refine ⟨by omega, ?_⟩ | refine ⟨fun _ _ => eqC_winS, ?_⟩ | refine ⟨fun _ _ => eqC_winM, ?_⟩ | refine ⟨fun _ _ => eqC_winB, ?_⟩ | refine ⟨fun _ _ => eqC_selfB, ?_⟩ | refine ⟨fun _ _ => eqC_mpB, ?_⟩)
            refine eqC_bts ?_
            (repeat first | exact trivial | refine ⟨rfl, ?_⟩ | refine ⟨fun _ _ => ⟨rfl, trivial⟩, ?_⟩ | refine ⟨fun _ _ => trivial, ?_⟩ | refine ⟨by omega, ?_⟩ | refine ⟨fun _ _ => eqC_winS, ?_⟩ | refine ⟨fun _ _ => eqC_winM, ?_⟩ | refine ⟨fun _ _ => eqC_winB, ?_⟩ | refine ⟨fun _ _ => eqC_selfB, ?_⟩ | refine ⟨fun _ _ => eqC_mpB, ?_⟩)
          rcases x with _ | ⟨m, c⟩
          · intro _
            refine ⟨fun _ => ?_, fun h => absurd (of_decide_eq_false h) (by omega)⟩
            refine ⟨none, [], [(0, true), (1, true), (2, true), (3, true), (4, true), (5, true), (6, true), (7, true), (8, true), (9, true), (10, true), (11, true), (12, true), (13, true), (14, true), (15, true), (16, true), (17, true), (18, true), (19, true), (20, true), (21, true), (22, true), (23, true), (24, false)], [25, 26], by kernel_rfl, ?_⟩
            (repeat first | refine And.intro (by omega) ?_ | refine And.intro (by decide) ?_ | (with_reducible refine frc_parts (by first | omega | decide) ?_) | (with_reducible refine frc_bytesL (by first | omega | decide) ?_) | refine And.intro rfl ?_)
            refine fun _ c' hc' => ?_
            refine ⟨⟨by omega, by omega⟩, some (0, c'), [0, 1, 3], ⟨⟨rfl, rfl, rfl⟩, ?_⟩, ⟨by omega, by omega⟩, by first | omega | (dsimp only; omega)⟩
            (repeat first | exact trivial | refine ⟨rfl, ?_⟩ | refine ⟨fun _ _ => ⟨rfl, trivial⟩, ?_⟩ | refine ⟨fun _ _ => trivial, ?_⟩ | refine ⟨by omega, ?_⟩ | refine ⟨fun _ _ => eqC_winS, ?_⟩ | refine ⟨fun _ _ => eqC_winM, ?_⟩ | refine ⟨fun _ _ => eqC_winB, ?_⟩ | refine ⟨fun _ _ => eqC_selfB, ?_⟩ | refine ⟨fun _ _ => eqC_mpB, ?_⟩)
            refine eqC_bts ?_
            (repeat first | exact trivial | refine ⟨rfl, ?_⟩ | refine ⟨fun _ _ => ⟨rfl, trivial⟩, ?_⟩ | refine ⟨fun _ _ => trivial, ?_⟩ | refine ⟨by omega, ?_⟩ | refine ⟨fun _ _ => eqC_winS, ?_⟩ | refine ⟨fun _ _ => eqC_winM, ?_⟩ | refine ⟨fun _ _ => eqC_winB, ?_⟩ | refine ⟨fun _ _ => eqC_selfB, ?_⟩ | refine ⟨fun _ _ => eqC_mpB, ?_⟩)
            refine ⟨fun j hj => eqC_bytes (fun i hi => ?_) j, trivial⟩
            unfold newF
            rw [if_pos (by simpa [scale] using hi)]
            have := four_out V 0 i (by omega)
            rw [Nat.mul_zero, Nat.zero_add] at this
            exact this
          · rintro ⟨hm, hc⟩
            refine ⟨fun h => ?_, fun h => ?_⟩
            · have hlt : ((m + 1 : Nat) : Int) < 8 := of_decide_eq_true h
              refine ⟨none, [], [(0, true), (1, true), (2, true), (3, true), (4, true), (5, true), (6, true), (7, true), (8, true), (9, true), (10, true), (11, true), (12, true), (13, true), (14, true), (15, true), (16, true), (17, true), (18, true), (19, true), (20, true), (21, true), (22, true), (23, true), (24, false)], [25, 26], by kernel_rfl, ?_⟩
              (repeat first | refine And.intro (by omega) ?_ | refine And.intro (by decide) ?_ | (with_reducible refine frc_parts (by first | omega | decide) ?_) | (with_reducible refine frc_bytesL (by first | omega | decide) ?_) | refine And.intro rfl ?_)
              refine ⟨⟨by omega, by simp only [scale]; omega, by show _ * 1 ≤ _; omega⟩, fun c' hc' => ?_⟩
              refine ⟨⟨by omega, by omega⟩, some (m + 1, c'), [0, 1, 4], ⟨⟨rfl, rfl, rfl⟩, ?_⟩, ⟨by omega, by omega⟩, by first | omega | (dsimp only; omega)⟩
              (repeat first | exact trivial | refine ⟨rfl, ?_⟩ | refine ⟨fun _ _ => ⟨rfl, trivial⟩, ?_⟩ | refine ⟨fun _ _ => trivial, ?_⟩ | refine ⟨by omega, ?_⟩ | refine ⟨fun _ _ => eqC_winS, ?_⟩ | refine ⟨fun _ _ => eqC_winM, ?_⟩ | refine ⟨fun _ _ => eqC_winB, ?_⟩ | refine ⟨fun _ _ => eqC_selfB, ?_⟩ | refine ⟨fun _ _ => eqC_mpB, ?_⟩)
              refine eqC_bts ?_
              (repeat first | exact trivial | refine ⟨rfl, ?_⟩ | refine ⟨fun _ _ => ⟨rfl, trivial⟩, ?_⟩ | refine ⟨fun _ _ => trivial, ?_⟩ | refine ⟨by omega, ?_⟩ | refine ⟨fun _ _ => eqC_winS, ?_⟩ | refine ⟨fun _ _ => eqC_winM, ?_⟩ | refine ⟨fun _ _ => eqC_winB, ?_⟩ | refine ⟨fun _ _ => eqC_selfB, ?_⟩ | refine ⟨fun _ _ => eqC_mpB, ?_⟩)
              refine ⟨fun j hj => eqC_bytes (fun i hi => ?_) j, trivial⟩
              unfold appF
              have e0 : ((m + 1 : Nat) : Int).toNat + 0 = m + 1 := by omega
              by_cases h2 : i < 4 * (m + 1)
              · rw [if_pos (by simpa [scale] using h2)]; exact bytesF_lt h2
              · rw [if_neg (by simpa [scale] using h2), if_pos (by simp only [scale]; omega), e0]
                have := four_out V (m + 1) (i - 4 * (m + 1)) (by omega)
                rw [show 4 * (m + 1) + (i - 4 * (m + 1)) = i by omega] at this
                exact this
            · obtain rfl : m = 7 := by have : ¬ ((m + 1 : Nat) : Int) < 8 := of_decide_eq_false h; omega
              refine ⟨.a (.c (.sl 1 0 0 32 c)), [bts z N o l.length (L l), [.row c (bytesF 32 (L (sumL l)))]], ⟨[0, 2], ⟨rfl, rfl, rfl⟩, ?_⟩, c, rfl, rfl, hc⟩
              (repeat first | exact trivial | refine ⟨rfl, ?_⟩ | refine ⟨fun _ _ => ⟨rfl, trivial⟩, ?_⟩ | refine ⟨fun _ _ => trivial, ?_⟩ | refine ⟨by omega, ?_⟩ | refine ⟨fun _ _ => eqC_winS, ?_⟩ | refine ⟨fun _ _ => eqC_winM, ?_⟩ | refine ⟨fun _ _ => eqC_winB, ?_⟩ | refine ⟨fun _ _ => eqC_selfB, ?_⟩ | refine ⟨fun _ _ => eqC_mpB, ?_⟩)
              refine eqC_bts ?_
              exact ⟨rfl, fun j hj => eqC_bytes (fun i hi => by rw [bytesF_lt (by omega), hV i hi]) j, trivial⟩
end Sx
end Go.Proofs.Ytndlhhhebijknaa
