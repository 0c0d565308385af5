/-
  SHA-256: bytes written. No condition.
-/
import Derived.Test.YtndlhhhebijknaaShaC
import Derived.Test.YtndlhhhebijknaaShaP
import Derived.Test.YtndlhhhebijknaaAesR2
namespace Go.Proofs.Ytndlhhhebijknaa
set_option linter.unusedVariables false
namespace Sx
open Sha

theorem pushN_step (d : Dg) (B : Nat → BitVec 8) (k m : Nat) (h0 : 0 < m) (hm : (pushN d B k).h + m ≤ 64) :
    pushN d B (k + m) = if (pushN d B k).h + m = 64
      then ⟨compress (pushN d B k).V (fun i => if (pushN d B k).h ≤ i ∧ i < (pushN d B k).h + m then B (k + (i - (pushN d B k).h)) else (pushN d B k).P i), fun i => if (pushN d B k).h ≤ i ∧ i < (pushN d B k).h + m then B (k + (i - (pushN d B k).h)) else (pushN d B k).P i, 0⟩
      else ⟨(pushN d B k).V, fun i => if (pushN d B k).h ≤ i ∧ i < (pushN d B k).h + m then B (k + (i - (pushN d B k).h)) else (pushN d B k).P i, (pushN d B k).h + m⟩ := by
  rw [pushN_add]
  split
  · rename_i h; exact pushN_fill _ _ _ h h0
  · rename_i h; exact pushN_wait _ _ _ (by omega)
theorem len3' {α : Type} : ∀ {l : List α}, l.length = 3 → ∃ a b c, l = [a, b, c]
  | [a, b, c], _ => ⟨a, b, c, rfl⟩
theorem len4' {α : Type} : ∀ {l : List α}, l.length = 4 → ∃ a b c d, l = [a, b, c, d]
  | [a, b, c, d], _ => ⟨a, b, c, d, rfl⟩
theorem len5' {α : Type} : ∀ {l : List α}, l.length = 5 → ∃ a b c d e, l = [a, b, c, d, e]
  | [a, b, c, d, e], _ => ⟨a, b, c, d, e, rfl⟩
/-- n bytes from place o on. -/
def winF (o n : Nat) (b : Nat → BitVec 8) : Nat → SC := fun j => if o ≤ j ∧ j < o + n then .w8 (b (j - o)) else .any
theorem winF_at (o n : Nat) (b : Nat → BitVec 8) {i : Nat} (h : i < n) : winF o n b (o + i) = .w8 (b i) := by
  unfold winF
  rw [if_pos ⟨by omega, by omega⟩, show o + i - o = i by omega]
theorem eqC_win {q : List Nat} {o n : Nat} {f : Nat → SC} {b : Nat → BitVec 8} (h : ∀ i, i < n → f (o + i) = .w8 (b i)) (j : Nat) : eqC q (f j) (winF o n b j) True := by
  unfold winF
  split
  · rename_i hj
    have := h (j - o) (by omega)
    rw [show o + (j - o) = j by omega] at this
    exact eqC_w8 this
  · trivial
theorem eqC_winS {q : List Nat} {o n : Nat} {b : Nat → BitVec 8} {j : Nat} : eqC q (winF o n b j) (winF o n b j) True := eqC_win (fun _ h => winF_at _ _ _ h) j
theorem eqC_winM {q : List Nat} {g : Nat → Nat} {o n : Nat} {b : Nat → BitVec 8} {j : Nat} : eqC q (SC.mp g (winF o n b j)) (winF o n b j) True :=
  eqC_win (f := fun j => SC.mp g (winF o n b j)) (fun _ h => by rw [winF_at _ _ _ h]; rfl) j
theorem eqC_selfB {q : List Nat} {n : Nat} {b : Nat → BitVec 8} {j : Nat} : eqC q (bytesF n b j) (bytesF n b j) True := eqC_bytes (fun _ h => bytesF_lt h) j
theorem eqC_mpB {q : List Nat} {g : Nat → Nat} {n : Nat} {b : Nat → BitVec 8} {j : Nat} : eqC q (SC.mp g (bytesF n b j)) (bytesF n b j) True :=
  eqC_bytes (f := fun j => SC.mp g (bytesF n b j)) (fun j h => by rw [bytesF_lt h]; rfl) j
theorem eqC_winB {q : List Nat} {n : Nat} {b : Nat → BitVec 8} {j : Nat} : eqC q (bytesF n b j) (winF 0 n b j) True :=
  eqC_win (fun i h => by rw [Nat.zero_add]; exact bytesF_lt h) j
/-- Bytes of a slice that may be nil. -/
def bts : Bool → Nat → Nat → Nat → (Nat → BitVec 8) → List Seg
  | true, _, _, _, _ => []
  | false, N, o, n, b => [.row N (winF o n b)]
/-- Bytes of a slice that may be nil, taken as they are. -/
theorem sn_bts {h : List (List Seg)} {z : Bool} {j N o n : Nat} {b : Nat → BitVec 8} {k : (Nat → SC) → Prop} (hj : getH h j = bts z N o n b) (hN : o + n ≤ N) (hz : z = true → n = 0)
    (hk : ∀ g : Nat → SC, (∀ i, i < n → g i = .w8 (b i)) → k g) : ∃ f : Nat → SC, ((z = true → n = 0) ∧ (z = false → SnAt h j 0 o n 1 f)) ∧ k f := by
  refine ⟨fun i => .w8 (b i), ⟨hz, ?_⟩, hk _ fun _ _ => rfl⟩
  rintro rfl
  exact ⟨N, winF o n b, [], by rw [hj]; rfl, hN, fun q hq => by rw [Nat.add_comm]; exact (winF_at _ _ _ hq).symm⟩
theorem copied (q : List Nat) (P b : Nat → BitVec 8) (n h m s o k j : Nat) (e : s = o + k) (hm : k + m ≤ n) : eqC q (updN (fun j => SC.w8 (P j)) h m (fun q => winF o n b (q + s)) j) (SC.w8 (if h ≤ j ∧ j < h + m then b (k + (j - h)) else P j)) True := by
  unfold updN
  by_cases hj : h ≤ j ∧ j < h + m
  · rw [if_pos hj, if_pos hj]
    show eqC q (winF o n b (j - h + s)) _ _
    rw [show j - h + s = o + (k + (j - h)) by omega, winF_at _ _ _ (by omega)]
    exact ⟨rfl, trivial⟩
  · rw [if_neg hj, if_neg hj]
    exact ⟨rfl, trivial⟩
set_option maxRecDepth 20000 in
theorem fn_swrite (z : Bool) (n c N o : Nat) (b : Nat → BitVec 8) (d : Dg) (a : BitVec 64) (hd : d.h < 64) (hN : o + n ≤ N) (hc : n ≤ c) (hz : z = true → n = 0) :
    FnR Try.prog tds 50 2 [shaT 1 0 first steps, bts z N o n b, digC 0 d.V d.P d.h a] [.c (.p 2 0 0), .c (.sn z 1 0 o n c)] (fun _ => True)
      (fun x hs => x = .tup [] ∧ hs = [shaT 1 0 first steps, bts z N o n b, digC 0 (pushN d b n).V (pushN d b n).P (pushN d b n).h (a + BitVec.ofNat 64 n)]) := by
  refine fn_of_body tds_ok follows_ Try.func50 rfl (t := [.a (.c (.p 2 0 0)), .a (.c (.sn z 1 0 o n c)), .any, .any, .any, .any, .any, .any, .any, .any, .any, .any, .any, .any, .any, .any, .any, .any, .any, .any, .any, .any, .any, .any, .any, .any, .any, .any, .any, .any, .any, .any, .any, .any, .any, .any, .any, .any, .any, .any, .any, .any, .any, .any, .any, .any, .any, .any, .any]) rfl (fun w r0 hr _ => ?_)
  obtain ⟨x0, x1, x2, rfl⟩ := len3' hr
  cases z with
  | true =>
    obtain rfl := hz rfl
    (repeat first | refine ⟨by omega, ?_⟩ | refine ⟨by decide, ?_⟩ | refine ⟨idx8 _, ?_⟩ | refine ⟨lt8 (Nat.le_refl _) _, ?_⟩ | refine ⟨rfl, ?_⟩)
    refine .inl ⟨Unit, fun _ => ⟨[.a (.c (.p 2 0 0)), .a (.c (.sn true 1 0 o 0 c)), .any, .any, .any, .any, .any, .any, .any, .any, .any, .any, .any, .any, .any, .any, .any, .any, .any, .any, .any, .any, .any, .any, .any, .any, .any, .any, .any, .any, .any, .any, .any, .any, .any, .any, .any, .any, .any, .any, .any, .any, .any, .any, .any, .any, .any, .any, .any], [shaT 1 0 first steps, bts true N o 0 b, digC 0 d.V d.P d.h (a + BitVec.ofNat 64 0)]⟩,
      fun _ => True, fun _ => 0, ⟨(), [0, 1, 2], ⟨⟨rfl, rfl, rfl⟩, ?_⟩, trivial⟩, fun _ _ => ⟨fun h => absurd (of_decide_eq_true h) (by decide), fun h => ?_⟩⟩
    · (repeat first | exact trivial | refine ⟨rfl, ?_⟩ | refine ⟨fun _ _ => ⟨rfl, trivial⟩, ?_⟩ | refine ⟨by omega, ?_⟩)
    · refine ⟨.tup [], _, ⟨[0, 1, 2], ⟨rfl, rfl, rfl⟩, ?_⟩, rfl, rfl⟩
      (repeat first | exact trivial | refine ⟨rfl, ?_⟩ | refine ⟨fun _ _ => ⟨rfl, trivial⟩, ?_⟩ | refine ⟨by omega, ?_⟩)
  | false =>
  (repeat first | refine ⟨by omega, ?_⟩ | refine ⟨by decide, ?_⟩ | refine ⟨idx8 _, ?_⟩ | refine ⟨lt8 (Nat.le_refl _) _, ?_⟩ | refine ⟨rfl, ?_⟩)
  refine .inl ⟨Nat × Nat × Nat, fun (k, oo, cc) => ⟨[.a (.c (.p 2 0 0)), .a (.c (.sn false 1 0 oo (n - k) cc)), .any, .any, .any, .any, .any, .any, .any, .any, .any, .any, .any, .any, .any, .any, .any, .any, .any, .any, .any, .any, .any, .any, .any, .any, .any, .any, .any, .any, .any, .any, .any, .any, .any, .any, .any, .any, .any, .any, .any, .any, .any, .any, .any, .any, .any, .any, .any], [shaT 1 0 first steps, [.row N (winF o n b)], digC 0 (pushN d b k).V (pushN d b k).P (pushN d b k).h (a + BitVec.ofNat 64 n)]⟩,
    fun (k, oo, cc) => k ≤ n ∧ (k < n → oo = o + k) ∧ n - k ≤ cc ∧ cc ≤ c, fun (k, _, _) => n - k, ⟨(0, o, c), [0, 1, 2], ⟨⟨rfl, rfl, rfl⟩, ?_⟩, by omega, by omega, by omega, by omega⟩, fun (k, oo, cc) ⟨hk, hoo, hcc, hcc'⟩ => ⟨fun h => ?_, fun h => ?_⟩⟩
  · (repeat first | exact trivial | refine ⟨rfl, ?_⟩ | refine ⟨fun _ _ => ⟨rfl, trivial⟩, ?_⟩ | refine ⟨fun _ _ => trivial, ?_⟩ | refine ⟨by omega, ?_⟩ | refine ⟨fun _ _ => eqC_winS, ?_⟩ | refine ⟨fun _ _ => eqC_winM, ?_⟩ | refine ⟨fun _ _ => eqC_winB, ?_⟩ | refine ⟨fun _ _ => eqC_selfB, ?_⟩ | refine ⟨fun _ _ => eqC_mpB, ?_⟩)
  · have hlt : k < n := by have : ((n - k : Nat) : Int) > 0 := of_decide_eq_true h; omega
    obtain rfl : oo = o + k := hoo hlt
    obtain ⟨D, hD⟩ : ∃ D, pushN d b k = D := ⟨_, rfl⟩
    have hDl : D.h < 64 := by rw [← hD]; exact pushN_lt hd _ _
    have hst := fun m h0 hm => pushN_step d b k m h0 hm
    rw [hD] at hst ⊢
    refine ⟨none, [], [(0, true), (1, true), (2, true), (3, true), (4, true), (5, true), (6, true), (7, true), (8, true)], [9, 10], by kernel_rfl, ?_⟩
    (repeat first | refine ⟨by omega, ?_⟩ | refine ⟨by decide, ?_⟩ | refine ⟨idx8 _, ?_⟩ | refine ⟨lt8 (Nat.le_refl _) _, ?_⟩ | refine ⟨rfl, ?_⟩)
    have e1 : ((D.h : Nat) : Int).toNat = D.h := by omega
    have e64 : ((64 : Nat) : Int).toNat = 64 := rfl
    simp only [frcN_eq, e1, e64, if_neg (show ¬ 64 = D.h by omega)]
    have hsrc : 1 * (n - k) ≤ N := by omega
    (repeat first | refine ⟨by omega, ?_⟩ | refine ⟨by decide, ?_⟩ | refine ⟨idx8 _, ?_⟩ | refine ⟨lt8 (Nat.le_refl _) _, ?_⟩ | refine ⟨rfl, ?_⟩)
    refine ⟨fun q => winF o n b (q + (o + k)), ⟨fun h => Bool.noConfusion h, fun _ => ⟨N, winF o n b, [], rfl, by simp only [scale]; omega, fun _ _ => rfl⟩⟩, ?_⟩
    refine ⟨by omega, ?_⟩
    generalize hm : min (n - k) (64 - D.h) = m
    have hm1 : m ≤ n - k ∧ m ≤ 64 - D.h ∧ 0 < m ∧ (m = n - k ∨ m = 64 - D.h) := by omega
    (repeat first | refine ⟨by omega, ?_⟩ | refine ⟨by decide, ?_⟩ | refine ⟨idx8 _, ?_⟩ | refine ⟨lt8 (Nat.le_refl _) _, ?_⟩ | refine ⟨rfl, ?_⟩)
    have e2 : ((m : Nat) : Int).toNat = m := by omega
    have e3 : ((n - k : Nat) : Int).toNat = n - k := by omega
    have e4 : ((cc : Nat) : Int).toNat = cc := by omega
    simp only [frcN_eq, e2, e3]
    generalize ho2 : (if cc = m then o + k else o + k + m * 1) = o2
    have e5 : n - k - m = n - (k + m) := by omega
    rw [e5]
    have hs := hst m (by omega) (by omega)
    have hb1 : k + m ≤ n := by omega
    have hb2 : n - (k + m) ≤ cc - m := by omega
    have hb3 : cc - m ≤ c := by omega
    have hb4 : n - (k + m) < n - k := by omega
    have hb5 : k + m < n → o2 = o + (k + m) := fun hlt2 => by rw [← ho2, if_neg (by omega)]; omega
    have hb6 : 0 + D.h * 1 = D.h := by omega
    rw [hb6]
    refine ⟨fun h2 => ?_, fun h2 => ?_⟩
    · have h64 : D.h + m = 64 := by have := of_decide_eq_true h2; omega
      rw [if_pos h64] at hs
      refine ⟨by kernel_rfl, call_same (fn_smix D.V (fun i => if D.h ≤ i ∧ i < D.h + m then b (k + (i - D.h)) else D.P i) ((D.h : Int) + m) (a + BitVec.ofNat 64 n)) [0, 2] rfl ⟨rfl, trivial⟩ ?_ (fun _ _ => trivial) ?_⟩
      · (repeat first | exact trivial | refine ⟨rfl, ?_⟩ | refine ⟨fun _ _ => ⟨rfl, trivial⟩, ?_⟩ | refine ⟨fun _ _ => trivial, ?_⟩ | refine ⟨by omega, ?_⟩ | refine ⟨fun _ _ => eqC_winS, ?_⟩ | refine ⟨fun _ _ => eqC_winM, ?_⟩ | refine ⟨fun _ _ => eqC_winB, ?_⟩ | refine ⟨fun _ _ => eqC_selfB, ?_⟩ | refine ⟨fun _ _ => eqC_mpB, ?_⟩)
        refine ⟨fun j hj => copied _ D.P b n D.h m (o + k) o k j rfl hb1, ?_⟩
        (repeat first | exact trivial | refine ⟨rfl, ?_⟩ | refine ⟨fun _ _ => ⟨rfl, trivial⟩, ?_⟩ | refine ⟨fun _ _ => trivial, ?_⟩ | refine ⟨by omega, ?_⟩ | refine ⟨fun _ _ => eqC_winS, ?_⟩ | refine ⟨fun _ _ => eqC_winM, ?_⟩ | refine ⟨fun _ _ => eqC_winB, ?_⟩ | refine ⟨fun _ _ => eqC_selfB, ?_⟩ | refine ⟨fun _ _ => eqC_mpB, ?_⟩)
      · rintro x hs' ⟨rfl, rfl⟩
        refine ⟨rfl, ?_⟩
        refine ⟨(k + m, o2, cc - m), [0, 1, 2], ⟨⟨rfl, rfl, rfl⟩, ?_⟩, ⟨hb1, hb5, hb2, hb3⟩, hb4⟩
        dsimp only
        rw [hs]
        (repeat first | exact trivial | refine ⟨rfl, ?_⟩ | refine ⟨fun _ _ => ⟨rfl, trivial⟩, ?_⟩ | refine ⟨fun _ _ => trivial, ?_⟩ | refine ⟨by omega, ?_⟩ | refine ⟨fun _ _ => eqC_winS, ?_⟩ | refine ⟨fun _ _ => eqC_winM, ?_⟩ | refine ⟨fun _ _ => eqC_winB, ?_⟩ | refine ⟨fun _ _ => eqC_selfB, ?_⟩ | refine ⟨fun _ _ => eqC_mpB, ?_⟩)
    · have h64 : ¬ D.h + m = 64 := by have := of_decide_eq_false h2; omega
      rw [if_neg h64] at hs
      refine ⟨(k + m, o2, cc - m), [0, 1, 2], ⟨⟨rfl, rfl, rfl⟩, ?_⟩, ⟨hb1, hb5, hb2, hb3⟩, hb4⟩
      dsimp only
      rw [hs]
      (repeat first | exact trivial | refine ⟨rfl, ?_⟩ | refine ⟨fun _ _ => ⟨rfl, trivial⟩, ?_⟩ | refine ⟨fun _ _ => trivial, ?_⟩ | refine ⟨by omega, ?_⟩ | refine ⟨fun _ _ => eqC_winS, ?_⟩ | refine ⟨fun _ _ => eqC_winM, ?_⟩ | refine ⟨fun _ _ => eqC_winB, ?_⟩ | refine ⟨fun _ _ => eqC_selfB, ?_⟩ | refine ⟨fun _ _ => eqC_mpB, ?_⟩)
      refine ⟨fun j hj => copied _ D.P b n D.h m (o + k) o k j rfl hb1, ?_⟩
      (repeat first | exact trivial | refine ⟨rfl, ?_⟩ | refine ⟨fun _ _ => ⟨rfl, trivial⟩, ?_⟩ | refine ⟨fun _ _ => trivial, ?_⟩ | refine ⟨by omega, ?_⟩ | refine ⟨fun _ _ => eqC_winS, ?_⟩ | refine ⟨fun _ _ => eqC_winM, ?_⟩ | refine ⟨fun _ _ => eqC_winB, ?_⟩ | refine ⟨fun _ _ => eqC_selfB, ?_⟩ | refine ⟨fun _ _ => eqC_mpB, ?_⟩)
  · have hkn : k = n := by have : ¬ ((n - k : Nat) : Int) > 0 := of_decide_eq_false h; omega
    subst hkn
    refine ⟨.tup [], _, ⟨[0, 1, 2], ⟨rfl, rfl, rfl⟩, ?_⟩, rfl, rfl⟩
    (repeat first | exact trivial | refine ⟨rfl, ?_⟩ | refine ⟨fun _ _ => ⟨rfl, trivial⟩, ?_⟩ | refine ⟨fun _ _ => trivial, ?_⟩ | refine ⟨by omega, ?_⟩ | refine ⟨fun _ _ => eqC_winS, ?_⟩ | refine ⟨fun _ _ => eqC_winM, ?_⟩ | refine ⟨fun _ _ => eqC_winB, ?_⟩ | refine ⟨fun _ _ => eqC_selfB, ?_⟩ | refine ⟨fun _ _ => eqC_mpB, ?_⟩)
end Sx
end Go.Proofs.Ytndlhhhebijknaa
