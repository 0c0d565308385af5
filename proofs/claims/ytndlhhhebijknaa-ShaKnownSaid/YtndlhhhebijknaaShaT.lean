/-
  SHA-256: a sum of at most three parts, each in a block of its own. No condition.
-/
import Derived.Test.YtndlhhhebijknaaShaS
namespace Go.Proofs.Ytndlhhhebijknaa
set_option linter.unusedVariables false
namespace Sha
def ps3 (l0 l1 l2 : Bs) : Nat → Bs
  | 0 => l0
  | 1 => l1
  | _ => l2
end Sha
namespace Sx
open Sha

theorem eqC_P3 {a b c : SC} {q : List Nat} {m : Nat} (hm : m ≤ 3) (h0 : eqC q a a True) (h1 : eqC q b b True) (h2 : eqC q c c True) {j : Nat} :
    eqC q (partsF m (nthC [a, b, c]) j) (partsF m (nthC [a, b, c]) j) True := eqC_partsS (fun i hi => by
  have : i = 0 ∨ i = 1 ∨ i = 2 := by omega
  rcases this with rfl | rfl | rfl
  · exact h0
  · exact h1
  · exact h2)
theorem eqC_P012 {q : List Nat} {m : Nat} (hm : m ≤ 3) {z0 z1 z2 : Bool} {o0 o1 o2 n0 n1 n2 c0 c1 c2 : Nat} {j : Nat} :
    eqC (0 :: 1 :: 2 :: q) (partsF m (nthC [.sn z0 0 0 o0 n0 c0, .sn z1 1 0 o1 n1 c1, .sn z2 2 0 o2 n2 c2]) j) (partsF m (nthC [.sn z0 0 0 o0 n0 c0, .sn z1 1 0 o1 n1 c1, .sn z2 2 0 o2 n2 c2]) j) True :=
  eqC_P3 (q := 0 :: 1 :: 2 :: q) (a := .sn z0 0 0 o0 n0 c0) (b := .sn z1 1 0 o1 n1 c1) (c := .sn z2 2 0 o2 n2 c2) hm ⟨rfl, rfl, rfl, rfl, trivial⟩ ⟨rfl, rfl, rfl, rfl, trivial⟩ ⟨rfl, rfl, rfl, rfl, trivial⟩
theorem eqC_bts {q : List Nat} {z : Bool} {N o n : Nat} {b : Nat → BitVec 8} {k : Prop} (hk : k) : eqSegs q (bts z N o n b) (bts z N o n b) k := by
  cases z
  · exact ⟨rfl, fun j hj => eqC_winS, hk⟩
  · exact hk
theorem eqC_btsM {q : List Nat} {g : Nat → Nat} {z : Bool} {N o n : Nat} {b : Nat → BitVec 8} {k : Prop} (hk : k) : eqSegs q (mpL g (bts z N o n b)) (bts z N o n b) k := by
  cases z
  · exact ⟨rfl, fun j hj => eqC_winM, hk⟩
  · exact hk
set_option maxRecDepth 20000 in
theorem fn_ssum3 (z0 z1 z2 : Bool) (N0 N1 N2 o0 o1 o2 c0 c1 c2 : Nat) (l0 l1 l2 : Bs) (cm M m : Nat) (dn : BitVec 32) (f s : Nat → BitVec 32) (hd : dn = 0#32 ∨ dn = 1#32 ∧ f = first ∧ s = steps)
    (hN0 : o0 + l0.length ≤ N0) (hN1 : o1 + l1.length ≤ N1) (hN2 : o2 + l2.length ≤ N2) (hc0 : l0.length ≤ c0) (hc1 : l1.length ≤ c1) (hc2 : l2.length ≤ c2)
    (hz0 : z0 = true → l0 = []) (hz1 : z1 = true → l1 = []) (hz2 : z2 = true → l2 = []) (hm : m ≤ M) (hM : m ≤ 3) :
    FnR Try.prog tds 18 4 [bts z0 N0 o0 l0.length (L l0), bts z1 N1 o1 l1.length (L l1), bts z2 N2 o2 l2.length (L l2), [.row M (partsF m (nthC [.sn z0 0 0 o0 l0.length c0, .sn z1 1 0 o1 l1.length c1, .sn z2 2 0 o2 l2.length c2]))], shaT dn 0 f s] [.c (.p 4 0 0), .c (.sl 3 0 0 m cm)] (fun _ => True)
      (fun x hs => x = .a (.agg [.row 32 fun i => .w8 (L (sumL (cat (ps3 l0 l1 l2) m)) i)]) ∧ hs = [bts z0 N0 o0 l0.length (L l0), bts z1 N1 o1 l1.length (L l1), bts z2 N2 o2 l2.length (L l2), [.row M (partsF m (nthC [.sn z0 0 0 o0 l0.length c0, .sn z1 1 0 o1 l1.length c1, .sn z2 2 0 o2 l2.length c2]))], shaT 1 0 first steps]) := by
  refine fn_of_body tds_ok follows_ Try.func18 rfl (t := [.a (.c (.p 4 0 0)), .a (.c (.sl 3 0 0 m cm)), .any, .any, .any, .any, .any, .any, .any, .any, .any, .any, .any, .any, .any, .any, .any, .any, .any, .any, .any, .any, .any]) rfl (fun w r0 hr _ => ?_)
  obtain ⟨x0, x1, x2, x3, x4, rfl⟩ := len5' hr
  refine ⟨fun h => Bool.noConfusion h, fun _ => ?_⟩
  refine ⟨by kernel_rfl, call_same (fn_begin dn f s hd) [4] rfl (by (repeat first | exact trivial | refine ⟨rfl, ?_⟩ | refine ⟨fun _ _ => ⟨rfl, trivial⟩, ?_⟩ | refine ⟨fun _ _ => trivial, ?_⟩ | refine ⟨by omega, ?_⟩ | refine ⟨fun _ _ => eqC_winS, ?_⟩ | refine ⟨fun _ _ => eqC_winM, ?_⟩ | refine ⟨fun _ _ => eqC_winB, ?_⟩ | refine ⟨fun _ _ => eqC_selfB, ?_⟩ | refine ⟨fun _ _ => eqC_mpB, ?_⟩)) (by (repeat first | exact trivial | refine ⟨rfl, ?_⟩ | refine ⟨fun _ _ => ⟨rfl, trivial⟩, ?_⟩ | refine ⟨fun _ _ => trivial, ?_⟩ | refine ⟨by omega, ?_⟩ | refine ⟨fun _ _ => eqC_winS, ?_⟩ | refine ⟨fun _ _ => eqC_winM, ?_⟩ | refine ⟨fun _ _ => eqC_winB, ?_⟩ | refine ⟨fun _ _ => eqC_selfB, ?_⟩ | refine ⟨fun _ _ => eqC_mpB, ?_⟩)) (fun _ _ => trivial) ?_⟩
  rintro x hs ⟨rfl, rfl⟩
  (repeat first | refine ⟨by omega, ?_⟩ | refine ⟨by decide, ?_⟩ | refine ⟨idx8 _, ?_⟩ | refine ⟨lt8 (Nat.le_refl _) _, ?_⟩ | refine ⟨rfl, ?_⟩)
  obtain ⟨ps, hps⟩ : ∃ ps, ps3 l0 l1 l2 = ps := ⟨_, rfl⟩
  rw [hps]
  have hl : ∀ (k : Nat) (l : Bs), ps k = l → pushN (pushL d0 (cat ps k)) (L l) l.length = pushL d0 (cat ps (k + 1)) ∧ BitVec.ofNat 64 (cat ps k).length + BitVec.ofNat 64 l.length = BitVec.ofNat 64 (cat ps (k + 1)).length := by
    rintro k l rfl
    refine ⟨by rw [pushN_L]; simp only [cat]; rw [pushL_app], by simp only [cat, List.length_append, ofNat_add64]⟩
  refine .inl ⟨Nat, fun k => ⟨[.any, .any, .any, .any, .a (.c (.p 5 0 0)), .a (.c (.p 6 0 0)), .any, .any, .any, .any, .any, .any, .any, .a (.c (.sl 3 0 0 m cm)), .a (.c (.int .i64 (↑m))), .a (.c (.int .i64 (↑k))), .any, .any, .any, .any, .any, .any, .any], [bts z0 N0 o0 l0.length (L l0), bts z1 N1 o1 l1.length (L l1), bts z2 N2 o2 l2.length (L l2), [.row M (partsF m (nthC [.sn z0 0 0 o0 l0.length c0, .sn z1 1 0 o1 l1.length c1, .sn z2 2 0 o2 l2.length c2]))], shaT 1 0 first steps, [.row 32 fun _ => .w8 0#8], digC 4 (pushL d0 (cat ps k)).V (pushL d0 (cat ps k)).P (pushL d0 (cat ps k)).h (BitVec.ofNat 64 (cat ps k).length)]⟩,
    fun k => k ≤ m, fun k => m - k, ⟨0, [0, 1, 2, 3, 4, 5, 6], ⟨⟨rfl, rfl, rfl⟩, ?_⟩, by omega⟩, fun k hk => ⟨fun h => ?_, fun h => ?_⟩⟩
  · (repeat first | exact trivial | refine ⟨rfl, ?_⟩ | refine ⟨fun _ _ => ⟨rfl, trivial⟩, ?_⟩ | refine ⟨fun _ _ => trivial, ?_⟩ | refine ⟨by omega, ?_⟩ | refine ⟨fun _ _ => eqC_winS, ?_⟩ | refine ⟨fun _ _ => eqC_winM, ?_⟩ | refine ⟨fun _ _ => eqC_winB, ?_⟩ | refine ⟨fun _ _ => eqC_selfB, ?_⟩ | refine ⟨fun _ _ => eqC_mpB, ?_⟩)
    refine eqC_bts (eqC_bts (eqC_bts ⟨rfl, fun j hj => eqC_P012 hM, ?_⟩))
    (repeat first | exact trivial | refine ⟨rfl, ?_⟩ | refine ⟨fun _ _ => ⟨rfl, trivial⟩, ?_⟩ | refine ⟨fun _ _ => trivial, ?_⟩ | refine ⟨by omega, ?_⟩ | refine ⟨fun _ _ => eqC_winS, ?_⟩ | refine ⟨fun _ _ => eqC_winM, ?_⟩ | refine ⟨fun _ _ => eqC_winB, ?_⟩ | refine ⟨fun _ _ => eqC_selfB, ?_⟩ | refine ⟨fun _ _ => eqC_mpB, ?_⟩)
  · have hlt : k < m := by have : (k : Int) < (m : Int) := of_decide_eq_true h; omega
    (repeat first | refine ⟨by omega, ?_⟩ | refine ⟨by decide, ?_⟩ | refine ⟨idx8 _, ?_⟩ | refine ⟨lt8 (Nat.le_refl _) _, ?_⟩)
    have e1 : (k : Int).toNat + 0 = k := by omega
    rw [e1]
    refine frc_parts hlt ?_
    obtain ⟨D, hD⟩ : ∃ D, pushL d0 (cat ps k) = D := ⟨_, rfl⟩
    have hDl : D.h < 64 := by rw [← hD]; exact pushL_lt (by decide) _
    rw [hD]
    have hk3 : k = 0 ∨ k = 1 ∨ k = 2 := by omega
    rcases hk3 with rfl | rfl | rfl
    · obtain ⟨hk1, hl1⟩ := hl 0 l0 (by rw [← hps]; rfl)
      rw [hD] at hk1
      refine ⟨by kernel_rfl, call_same (fn_swrite z0 l0.length c0 N0 o0 (L l0) D (BitVec.ofNat 64 (cat ps 0).length) hDl hN0 hc0 (fun h => by rw [hz0 h]; rfl)) [4, 0, 6] rfl (by (repeat first | exact trivial | refine ⟨rfl, ?_⟩ | refine ⟨fun _ _ => ⟨rfl, trivial⟩, ?_⟩ | refine ⟨fun _ _ => trivial, ?_⟩ | refine ⟨by omega, ?_⟩ | refine ⟨fun _ _ => eqC_winS, ?_⟩ | refine ⟨fun _ _ => eqC_winM, ?_⟩ | refine ⟨fun _ _ => eqC_winB, ?_⟩ | refine ⟨fun _ _ => eqC_selfB, ?_⟩ | refine ⟨fun _ _ => eqC_mpB, ?_⟩)) ?_ (fun _ _ => trivial) ?_⟩
      · (repeat first | exact trivial | refine ⟨rfl, ?_⟩ | refine ⟨fun _ _ => ⟨rfl, trivial⟩, ?_⟩ | refine ⟨fun _ _ => trivial, ?_⟩ | refine ⟨by omega, ?_⟩ | refine ⟨fun _ _ => eqC_winS, ?_⟩ | refine ⟨fun _ _ => eqC_winM, ?_⟩ | refine ⟨fun _ _ => eqC_winB, ?_⟩ | refine ⟨fun _ _ => eqC_selfB, ?_⟩ | refine ⟨fun _ _ => eqC_mpB, ?_⟩)
        refine eqC_bts ?_
        (repeat first | exact trivial | refine ⟨rfl, ?_⟩ | refine ⟨fun _ _ => ⟨rfl, trivial⟩, ?_⟩ | refine ⟨fun _ _ => trivial, ?_⟩ | refine ⟨by omega, ?_⟩ | refine ⟨fun _ _ => eqC_winS, ?_⟩ | refine ⟨fun _ _ => eqC_winM, ?_⟩ | refine ⟨fun _ _ => eqC_winB, ?_⟩ | refine ⟨fun _ _ => eqC_selfB, ?_⟩ | refine ⟨fun _ _ => eqC_mpB, ?_⟩)
      · rintro x hs ⟨rfl, rfl⟩
        rw [hk1, hl1]
        refine ⟨⟨by omega, by omega⟩, 1, [0, 1, 2, 3, 4, 5, 6], ⟨⟨rfl, rfl, rfl⟩, ?_⟩, by dsimp only; omega, by dsimp only; omega⟩
        (repeat first | exact trivial | refine ⟨rfl, ?_⟩ | refine ⟨fun _ _ => ⟨rfl, trivial⟩, ?_⟩ | refine ⟨fun _ _ => trivial, ?_⟩ | refine ⟨by omega, ?_⟩ | refine ⟨fun _ _ => eqC_winS, ?_⟩ | refine ⟨fun _ _ => eqC_winM, ?_⟩ | refine ⟨fun _ _ => eqC_winB, ?_⟩ | refine ⟨fun _ _ => eqC_selfB, ?_⟩ | refine ⟨fun _ _ => eqC_mpB, ?_⟩)
        refine eqC_bts (eqC_bts (eqC_bts ⟨rfl, fun j hj => eqC_P012 hM, ?_⟩))
        (repeat first | exact trivial | refine ⟨rfl, ?_⟩ | refine ⟨fun _ _ => ⟨rfl, trivial⟩, ?_⟩ | refine ⟨fun _ _ => trivial, ?_⟩ | refine ⟨by omega, ?_⟩ | refine ⟨fun _ _ => eqC_winS, ?_⟩ | refine ⟨fun _ _ => eqC_winM, ?_⟩ | refine ⟨fun _ _ => eqC_winB, ?_⟩ | refine ⟨fun _ _ => eqC_selfB, ?_⟩ | refine ⟨fun _ _ => eqC_mpB, ?_⟩)
    · obtain ⟨hk1, hl1⟩ := hl 1 l1 (by rw [← hps]; rfl)
      rw [hD] at hk1
      refine ⟨by kernel_rfl, call_same (fn_swrite z1 l1.length c1 N1 o1 (L l1) D (BitVec.ofNat 64 (cat ps 1).length) hDl hN1 hc1 (fun h => by rw [hz1 h]; rfl)) [4, 1, 6] rfl (by (repeat first | exact trivial | refine ⟨rfl, ?_⟩ | refine ⟨fun _ _ => ⟨rfl, trivial⟩, ?_⟩ | refine ⟨fun _ _ => trivial, ?_⟩ | refine ⟨by omega, ?_⟩ | refine ⟨fun _ _ => eqC_winS, ?_⟩ | refine ⟨fun _ _ => eqC_winM, ?_⟩ | refine ⟨fun _ _ => eqC_winB, ?_⟩ | refine ⟨fun _ _ => eqC_selfB, ?_⟩ | refine ⟨fun _ _ => eqC_mpB, ?_⟩)) ?_ (fun _ _ => trivial) ?_⟩
      · (repeat first | exact trivial | refine ⟨rfl, ?_⟩ | refine ⟨fun _ _ => ⟨rfl, trivial⟩, ?_⟩ | refine ⟨fun _ _ => trivial, ?_⟩ | refine ⟨by omega, ?_⟩ | refine ⟨fun _ _ => eqC_winS, ?_⟩ | refine ⟨fun _ _ => eqC_winM, ?_⟩ | refine ⟨fun _ _ => eqC_winB, ?_⟩ | refine ⟨fun _ _ => eqC_selfB, ?_⟩ | refine ⟨fun _ _ => eqC_mpB, ?_⟩)
        refine eqC_bts ?_
        (repeat first | exact trivial | refine ⟨rfl, ?_⟩ | refine ⟨fun _ _ => ⟨rfl, trivial⟩, ?_⟩ | refine ⟨fun _ _ => trivial, ?_⟩ | refine ⟨by omega, ?_⟩ | refine ⟨fun _ _ => eqC_winS, ?_⟩ | refine ⟨fun _ _ => eqC_winM, ?_⟩ | refine ⟨fun _ _ => eqC_winB, ?_⟩ | refine ⟨fun _ _ => eqC_selfB, ?_⟩ | refine ⟨fun _ _ => eqC_mpB, ?_⟩)
      · rintro x hs ⟨rfl, rfl⟩
        rw [hk1, hl1]
        refine ⟨⟨by omega, by omega⟩, 2, [0, 1, 2, 3, 4, 5, 6], ⟨⟨rfl, rfl, rfl⟩, ?_⟩, by dsimp only; omega, by dsimp only; omega⟩
        (repeat first | exact trivial | refine ⟨rfl, ?_⟩ | refine ⟨fun _ _ => ⟨rfl, trivial⟩, ?_⟩ | refine ⟨fun _ _ => trivial, ?_⟩ | refine ⟨by omega, ?_⟩ | refine ⟨fun _ _ => eqC_winS, ?_⟩ | refine ⟨fun _ _ => eqC_winM, ?_⟩ | refine ⟨fun _ _ => eqC_winB, ?_⟩ | refine ⟨fun _ _ => eqC_selfB, ?_⟩ | refine ⟨fun _ _ => eqC_mpB, ?_⟩)
        refine eqC_bts (eqC_bts (eqC_bts ⟨rfl, fun j hj => eqC_P012 hM, ?_⟩))
        (repeat first | exact trivial | refine ⟨rfl, ?_⟩ | refine ⟨fun _ _ => ⟨rfl, trivial⟩, ?_⟩ | refine ⟨fun _ _ => trivial, ?_⟩ | refine ⟨by omega, ?_⟩ | refine ⟨fun _ _ => eqC_winS, ?_⟩ | refine ⟨fun _ _ => eqC_winM, ?_⟩ | refine ⟨fun _ _ => eqC_winB, ?_⟩ | refine ⟨fun _ _ => eqC_selfB, ?_⟩ | refine ⟨fun _ _ => eqC_mpB, ?_⟩)
    · obtain ⟨hk1, hl1⟩ := hl 2 l2 (by rw [← hps]; rfl)
      rw [hD] at hk1
      refine ⟨by kernel_rfl, call_same (fn_swrite z2 l2.length c2 N2 o2 (L l2) D (BitVec.ofNat 64 (cat ps 2).length) hDl hN2 hc2 (fun h => by rw [hz2 h]; rfl)) [4, 2, 6] rfl (by (repeat first | exact trivial | refine ⟨rfl, ?_⟩ | refine ⟨fun _ _ => ⟨rfl, trivial⟩, ?_⟩ | refine ⟨fun _ _ => trivial, ?_⟩ | refine ⟨by omega, ?_⟩ | refine ⟨fun _ _ => eqC_winS, ?_⟩ | refine ⟨fun _ _ => eqC_winM, ?_⟩ | refine ⟨fun _ _ => eqC_winB, ?_⟩ | refine ⟨fun _ _ => eqC_selfB, ?_⟩ | refine ⟨fun _ _ => eqC_mpB, ?_⟩)) ?_ (fun _ _ => trivial) ?_⟩
      · (repeat first | exact trivial | refine ⟨rfl, ?_⟩ | refine ⟨fun _ _ => ⟨rfl, trivial⟩, ?_⟩ | refine ⟨fun _ _ => trivial, ?_⟩ | refine ⟨by omega, ?_⟩ | refine ⟨fun _ _ => eqC_winS, ?_⟩ | refine ⟨fun _ _ => eqC_winM, ?_⟩ | refine ⟨fun _ _ => eqC_winB, ?_⟩ | refine ⟨fun _ _ => eqC_selfB, ?_⟩ | refine ⟨fun _ _ => eqC_mpB, ?_⟩)
        refine eqC_bts ?_
        (repeat first | exact trivial | refine ⟨rfl, ?_⟩ | refine ⟨fun _ _ => ⟨rfl, trivial⟩, ?_⟩ | refine ⟨fun _ _ => trivial, ?_⟩ | refine ⟨by omega, ?_⟩ | refine ⟨fun _ _ => eqC_winS, ?_⟩ | refine ⟨fun _ _ => eqC_winM, ?_⟩ | refine ⟨fun _ _ => eqC_winB, ?_⟩ | refine ⟨fun _ _ => eqC_selfB, ?_⟩ | refine ⟨fun _ _ => eqC_mpB, ?_⟩)
      · rintro x hs ⟨rfl, rfl⟩
        rw [hk1, hl1]
        refine ⟨⟨by omega, by omega⟩, 3, [0, 1, 2, 3, 4, 5, 6], ⟨⟨rfl, rfl, rfl⟩, ?_⟩, by dsimp only; omega, by dsimp only; omega⟩
        (repeat first | exact trivial | refine ⟨rfl, ?_⟩ | refine ⟨fun _ _ => ⟨rfl, trivial⟩, ?_⟩ | refine ⟨fun _ _ => trivial, ?_⟩ | refine ⟨by omega, ?_⟩ | refine ⟨fun _ _ => eqC_winS, ?_⟩ | refine ⟨fun _ _ => eqC_winM, ?_⟩ | refine ⟨fun _ _ => eqC_winB, ?_⟩ | refine ⟨fun _ _ => eqC_selfB, ?_⟩ | refine ⟨fun _ _ => eqC_mpB, ?_⟩)
        refine eqC_bts (eqC_bts (eqC_bts ⟨rfl, fun j hj => eqC_P012 hM, ?_⟩))
        (repeat first | exact trivial | refine ⟨rfl, ?_⟩ | refine ⟨fun _ _ => ⟨rfl, trivial⟩, ?_⟩ | refine ⟨fun _ _ => trivial, ?_⟩ | refine ⟨by omega, ?_⟩ | refine ⟨fun _ _ => eqC_winS, ?_⟩ | refine ⟨fun _ _ => eqC_winM, ?_⟩ | refine ⟨fun _ _ => eqC_winB, ?_⟩ | refine ⟨fun _ _ => eqC_selfB, ?_⟩ | refine ⟨fun _ _ => eqC_mpB, ?_⟩)
  · obtain rfl : k = m := by have : ¬ (k : Int) < (m : Int) := of_decide_eq_false h; have hk : k ≤ m := hk; omega
    obtain ⟨D, hD⟩ : ∃ D, pushL d0 (cat ps k) = D := ⟨_, rfl⟩
    have hDl : D.h < 64 := by rw [← hD]; exact pushL_lt (by decide) _
    obtain ⟨S, hS⟩ : ∃ S, sumL (cat ps k) = S := ⟨_, rfl⟩
    have hSL : ∀ i, i < 32 → endV D (BitVec.ofNat 64 (cat ps k).length) i = L S i := fun i hi => by rw [← hS, L_sumL _ hi, hD]
    rw [hD]
    refine ⟨by kernel_rfl, call_same (fn_send D (BitVec.ofNat 64 (cat ps k).length) hDl) [4, 6] rfl (by (repeat first | exact trivial | refine ⟨rfl, ?_⟩ | refine ⟨fun _ _ => ⟨rfl, trivial⟩, ?_⟩ | refine ⟨fun _ _ => trivial, ?_⟩ | refine ⟨by omega, ?_⟩ | refine ⟨fun _ _ => eqC_winS, ?_⟩ | refine ⟨fun _ _ => eqC_winM, ?_⟩ | refine ⟨fun _ _ => eqC_winB, ?_⟩ | refine ⟨fun _ _ => eqC_selfB, ?_⟩ | refine ⟨fun _ _ => eqC_mpB, ?_⟩)) (by (repeat first | exact trivial | refine ⟨rfl, ?_⟩ | refine ⟨fun _ _ => ⟨rfl, trivial⟩, ?_⟩ | refine ⟨fun _ _ => trivial, ?_⟩ | refine ⟨by omega, ?_⟩ | refine ⟨fun _ _ => eqC_winS, ?_⟩ | refine ⟨fun _ _ => eqC_winM, ?_⟩ | refine ⟨fun _ _ => eqC_winB, ?_⟩ | refine ⟨fun _ _ => eqC_selfB, ?_⟩ | refine ⟨fun _ _ => eqC_mpB, ?_⟩)) (fun _ _ => trivial) ?_⟩
    rintro x hs ⟨rfl, V', P', h', a', rfl⟩
    (repeat first | refine ⟨by omega, ?_⟩ | refine ⟨by decide, ?_⟩ | refine ⟨idx8 _, ?_⟩ | refine ⟨lt8 (Nat.le_refl _) _, ?_⟩ | refine ⟨rfl, ?_⟩)
    refine ⟨.a (.agg [.row 32 fun i => .w8 (L S i)]), [bts z0 N0 o0 l0.length (L l0), bts z1 N1 o1 l1.length (L l1), bts z2 N2 o2 l2.length (L l2), [.row M (partsF k (nthC [.sn z0 0 0 o0 l0.length c0, .sn z1 1 0 o1 l1.length c1, .sn z2 2 0 o2 l2.length c2]))], shaT 1 0 first steps], ⟨[0, 1, 2, 3, 4], ⟨rfl, rfl, rfl⟩, ?_⟩, by rw [← hS], rfl⟩
    (repeat first | exact trivial | refine ⟨rfl, ?_⟩ | refine ⟨fun _ _ => ⟨rfl, trivial⟩, ?_⟩ | refine ⟨fun _ _ => trivial, ?_⟩ | refine ⟨by omega, ?_⟩ | refine ⟨fun _ _ => eqC_winS, ?_⟩ | refine ⟨fun _ _ => eqC_winM, ?_⟩ | refine ⟨fun _ _ => eqC_winB, ?_⟩ | refine ⟨fun _ _ => eqC_selfB, ?_⟩ | refine ⟨fun _ _ => eqC_mpB, ?_⟩)
    refine ⟨fun j hj => eqC_w8 (congrArg SC.w8 (hSL j hj)), ?_⟩
    refine eqC_bts (eqC_bts (eqC_bts ⟨rfl, fun j hj => eqC_P012 hM, ?_⟩))
    (repeat first | exact trivial | refine ⟨rfl, ?_⟩ | refine ⟨fun _ _ => ⟨rfl, trivial⟩, ?_⟩ | refine ⟨fun _ _ => trivial, ?_⟩ | refine ⟨by omega, ?_⟩ | refine ⟨fun _ _ => eqC_winS, ?_⟩ | refine ⟨fun _ _ => eqC_winM, ?_⟩ | refine ⟨fun _ _ => eqC_winB, ?_⟩ | refine ⟨fun _ _ => eqC_selfB, ?_⟩ | refine ⟨fun _ _ => eqC_mpB, ?_⟩)
end Sx
end Go.Proofs.Ytndlhhhebijknaa
