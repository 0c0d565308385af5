/-
  SHA-256: sums of parts. No condition.
-/
import Derived.Test.YtndlhhhebijknaaShaL
namespace Go.Proofs.Ytndlhhhebijknaa
set_option linter.unusedVariables false
namespace Sx
open Sha

/-- Things of which only the first m are known. -/
def partsF (m : Nat) (g : Nat → SC) : Nat → SC := fun i => if i < m then g i else .any
theorem frc_parts {m : Nat} {g : Nat → SC} {i : Nat} {k : SC → Prop} (h : i < m) (hk : frcSC (g i) k) : frcSC (partsF m g i) k := by
  unfold partsF; rw [if_pos h]; exact hk
theorem eqC_parts {q : List Nat} {m : Nat} {f g : Nat → SC} (h : ∀ i, i < m → eqC q (f i) (g i) True) (j : Nat) : eqC q (f j) (partsF m g j) True := by
  unfold partsF
  split
  · exact h j ‹_›
  · trivial
theorem eqC_partsS {q : List Nat} {m : Nat} {g : Nat → SC} (h : ∀ i, i < m → eqC q (g i) (g i) True) {j : Nat} : eqC q (partsF m g j) (partsF m g j) True :=
  eqC_parts (fun i hi => by unfold partsF; rw [if_pos hi]; exact h i hi) j
theorem eqC_parts0 {q : List Nat} {m : Nat} {z : Bool} {a b c : Nat → Nat} {j : Nat} : eqC (0 :: q) (partsF m (fun i => .sn z 0 0 (a i) (b i) (c i)) j) (partsF m (fun i => .sn z 0 0 (a i) (b i) (c i)) j) True :=
  eqC_partsS (q := 0 :: q) (g := fun i => .sn z 0 0 (a i) (b i) (c i)) (fun i hi => ⟨rfl, rfl, rfl, rfl, trivial⟩)
/-- A part of some bytes. -/
def sub (l : Bs) (o n : Nat) : Bs := (l.drop o).take n
set_option maxRecDepth 20000 in
theorem fn_ssum (z : Bool) (N o c cm M m : Nat) (l : Bs) (po pn pc : Nat → Nat) (dn : BitVec 32) (f s : Nat → BitVec 32) (hd : dn = 0#32 ∨ dn = 1#32 ∧ f = first ∧ s = steps)
    (hN : o + l.length ≤ N) (hz : z = true → l = []) (hm : m ≤ M) (hM : M < 9223372036854775808) (hp : ∀ i, i < m → po i + pn i ≤ l.length ∧ pn i ≤ pc i) :
    FnR Try.prog tds 18 2 [bts z N o l.length (L l), [.row M (partsF m fun i => .sn z 0 0 (o + po i) (pn i) (pc i))], shaT dn 0 f s] [.c (.p 2 0 0), .c (.sl 1 0 0 m cm)] (fun _ => True)
      (fun x hs => x = .a (.agg [.row 32 fun i => .w8 (L (sumL (cat (fun i => sub l (po i) (pn i)) m)) i)]) ∧ hs = [bts z N o l.length (L l), [.row M (partsF m fun i => .sn z 0 0 (o + po i) (pn i) (pc i))], shaT 1 0 first steps]) := by
  refine fn_of_body tds_ok follows_ Try.func18 rfl (t := [.a (.c (.p 2 0 0)), .a (.c (.sl 1 0 0 m cm)), .any, .any, .any, .any, .any, .any, .any, .any, .any, .any, .any, .any, .any, .any, .any, .any, .any, .any, .any, .any, .any]) rfl (fun w r0 hr _ => ?_)
  obtain ⟨x0, x1, x2, rfl⟩ := len3' hr
  refine ⟨fun h => Bool.noConfusion h, fun _ => ?_⟩
  refine ⟨by kernel_rfl, call_same (fn_begin dn f s hd) [2] rfl (by (repeat first | exact trivial | refine ⟨rfl, ?_⟩ | refine ⟨fun _ _ => ⟨rfl, trivial⟩, ?_⟩ | refine ⟨fun _ _ => trivial, ?_⟩ | refine ⟨by omega, ?_⟩ | refine ⟨fun _ _ => eqC_winS, ?_⟩ | refine ⟨fun _ _ => eqC_winM, ?_⟩ | refine ⟨fun _ _ => eqC_winB, ?_⟩ | refine ⟨fun _ _ => eqC_selfB, ?_⟩ | refine ⟨fun _ _ => eqC_mpB, ?_⟩)) (by (repeat first | exact trivial | refine ⟨rfl, ?_⟩ | refine ⟨fun _ _ => ⟨rfl, trivial⟩, ?_⟩ | refine ⟨fun _ _ => trivial, ?_⟩ | refine ⟨by omega, ?_⟩ | refine ⟨fun _ _ => eqC_winS, ?_⟩ | refine ⟨fun _ _ => eqC_winM, ?_⟩ | refine ⟨fun _ _ => eqC_winB, ?_⟩ | refine ⟨fun _ _ => eqC_selfB, ?_⟩ | refine ⟨fun _ _ => eqC_mpB, ?_⟩)) (fun _ _ => trivial) ?_⟩
  rintro x hs ⟨rfl, rfl⟩
  (repeat first | refine ⟨by omega, ?_⟩ | refine ⟨by decide, ?_⟩ | refine ⟨idx8 _, ?_⟩ | refine ⟨lt8 (Nat.le_refl _) _, ?_⟩ | refine ⟨rfl, ?_⟩)
  obtain ⟨ps, hps⟩ : ∃ ps, (fun i => sub l (po i) (pn i)) = ps := ⟨_, rfl⟩
  rw [hps]
  refine .inl ⟨Nat, fun k => ⟨[.any, .any, .any, .any, .a (.c (.p 3 0 0)), .a (.c (.p 4 0 0)), .any, .any, .any, .any, .any, .any, .any, .a (.c (.sl 1 0 0 m cm)), .a (.c (.int .i64 (↑m))), .a (.c (.int .i64 (↑k))), .any, .any, .any, .any, .any, .any, .any], [bts z N o l.length (L l), [.row M (partsF m fun i => .sn z 0 0 (o + po i) (pn i) (pc i))], shaT 1 0 first steps, [.row 32 fun _ => .w8 0#8], digC 2 (pushL d0 (cat ps k)).V (pushL d0 (cat ps k)).P (pushL d0 (cat ps k)).h (BitVec.ofNat 64 (cat ps k).length)]⟩,
    fun k => k ≤ m, fun k => m - k, ⟨0, [0, 1, 2, 3, 4], ⟨⟨rfl, rfl, rfl⟩, ?_⟩, by omega⟩, fun k hk => ⟨fun h => ?_, fun h => ?_⟩⟩
  · cases z
    all_goals
      (repeat first | exact trivial | refine ⟨rfl, ?_⟩ | refine ⟨fun _ _ => ⟨rfl, trivial⟩, ?_⟩ | refine ⟨fun _ _ => trivial, ?_⟩ | refine ⟨by omega, ?_⟩ | refine ⟨fun _ _ => eqC_winS, ?_⟩ | refine ⟨fun _ _ => eqC_winM, ?_⟩ | refine ⟨fun _ _ => eqC_winB, ?_⟩ | refine ⟨fun _ _ => eqC_selfB, ?_⟩ | refine ⟨fun _ _ => eqC_mpB, ?_⟩)
      refine ⟨fun j hj => eqC_parts0, ?_⟩
      (repeat first | exact trivial | refine ⟨rfl, ?_⟩ | refine ⟨fun _ _ => ⟨rfl, trivial⟩, ?_⟩ | refine ⟨fun _ _ => trivial, ?_⟩ | refine ⟨by omega, ?_⟩ | refine ⟨fun _ _ => eqC_winS, ?_⟩ | refine ⟨fun _ _ => eqC_winM, ?_⟩ | refine ⟨fun _ _ => eqC_winB, ?_⟩ | refine ⟨fun _ _ => eqC_selfB, ?_⟩ | refine ⟨fun _ _ => eqC_mpB, ?_⟩)
  · have hlt : k < m := by have : (k : Int) < (m : Int) := of_decide_eq_true h; omega
    (repeat first | refine ⟨by omega, ?_⟩ | refine ⟨by decide, ?_⟩ | refine ⟨idx8 _, ?_⟩ | refine ⟨lt8 (Nat.le_refl _) _, ?_⟩)
    have e1 : (k : Int).toNat + 0 = k := by omega
    rw [e1]
    refine frc_parts hlt ?_
    obtain ⟨hp1, hp2⟩ := hp k hlt
    obtain ⟨D, hD⟩ : ∃ D, pushL d0 (cat ps k) = D := ⟨_, rfl⟩
    have hDl : D.h < 64 := by rw [← hD]; exact pushL_lt (by decide) _
    have hb : (ps k).length = pn k := by rw [← hps]; simp only [sub, List.length_take, List.length_drop]; omega
    have hk1 : pushN D (fun j => L l (po k + j)) (pn k) = pushL d0 (cat ps (k + 1)) := by
      rw [pushN_of D hb (fun i hi => by rw [← hps]; exact (L_sub l _ _ i hi).symm)]
      simp only [cat]
      rw [pushL_app, hD]
    have hl1 : BitVec.ofNat 64 (cat ps k).length + BitVec.ofNat 64 (pn k) = BitVec.ofNat 64 (cat ps (k + 1)).length := by
      simp only [cat, List.length_append, hb, ofNat_add64]
    rw [hD]
    refine ⟨by kernel_rfl, call_same (fn_swrite z (pn k) (pc k) N (o + po k) (fun j => L l (po k + j)) D (BitVec.ofNat 64 (cat ps k).length) hDl (by omega) hp2 (fun h => by have := hz h; subst this; simp at hp1; omega)) [2, 0, 4] rfl (by (repeat first | exact trivial | refine ⟨rfl, ?_⟩ | refine ⟨fun _ _ => ⟨rfl, trivial⟩, ?_⟩ | refine ⟨fun _ _ => trivial, ?_⟩ | refine ⟨by omega, ?_⟩ | refine ⟨fun _ _ => eqC_winS, ?_⟩ | refine ⟨fun _ _ => eqC_winM, ?_⟩ | refine ⟨fun _ _ => eqC_winB, ?_⟩ | refine ⟨fun _ _ => eqC_selfB, ?_⟩ | refine ⟨fun _ _ => eqC_mpB, ?_⟩)) ?_ (fun _ _ => trivial) ?_⟩
    · cases z
      all_goals
        (repeat first | exact trivial | refine ⟨rfl, ?_⟩ | refine ⟨fun _ _ => ⟨rfl, trivial⟩, ?_⟩ | refine ⟨fun _ _ => trivial, ?_⟩ | refine ⟨by omega, ?_⟩ | refine ⟨fun _ _ => eqC_winS, ?_⟩ | refine ⟨fun _ _ => eqC_winM, ?_⟩ | refine ⟨fun _ _ => eqC_winB, ?_⟩ | refine ⟨fun _ _ => eqC_selfB, ?_⟩ | refine ⟨fun _ _ => eqC_mpB, ?_⟩)
      refine ⟨fun j hj => eqC_win (fun i hi => ?_) j, ?_⟩
      · show winF o l.length (L l) (o + po k + i) = _
        rw [Nat.add_assoc, winF_at _ _ _ (by omega)]
      · (repeat first | exact trivial | refine ⟨rfl, ?_⟩ | refine ⟨fun _ _ => ⟨rfl, trivial⟩, ?_⟩ | refine ⟨fun _ _ => trivial, ?_⟩ | refine ⟨by omega, ?_⟩ | refine ⟨fun _ _ => eqC_winS, ?_⟩ | refine ⟨fun _ _ => eqC_winM, ?_⟩ | refine ⟨fun _ _ => eqC_winB, ?_⟩ | refine ⟨fun _ _ => eqC_selfB, ?_⟩ | refine ⟨fun _ _ => eqC_mpB, ?_⟩)
    · rintro x hs ⟨rfl, rfl⟩
      rw [hk1, hl1]
      refine ⟨⟨by omega, by omega⟩, k + 1, [0, 1, 2, 3, 4], ⟨⟨rfl, rfl, rfl⟩, ?_⟩, by dsimp only; omega, by dsimp only; omega⟩
      cases z
      all_goals
        (repeat first | exact trivial | refine ⟨rfl, ?_⟩ | refine ⟨fun _ _ => ⟨rfl, trivial⟩, ?_⟩ | refine ⟨fun _ _ => trivial, ?_⟩ | refine ⟨by omega, ?_⟩ | refine ⟨fun _ _ => eqC_winS, ?_⟩ | refine ⟨fun _ _ => eqC_winM, ?_⟩ | refine ⟨fun _ _ => eqC_winB, ?_⟩ | refine ⟨fun _ _ => eqC_selfB, ?_⟩ | refine ⟨fun _ _ => eqC_mpB, ?_⟩)
        refine ⟨fun j hj => eqC_parts0, ?_⟩
        (repeat first | exact trivial | refine ⟨rfl, ?_⟩ | refine ⟨fun _ _ => ⟨rfl, trivial⟩, ?_⟩ | refine ⟨fun _ _ => trivial, ?_⟩ | refine ⟨by omega, ?_⟩ | refine ⟨fun _ _ => eqC_winS, ?_⟩ | refine ⟨fun _ _ => eqC_winM, ?_⟩ | refine ⟨fun _ _ => eqC_winB, ?_⟩ | refine ⟨fun _ _ => eqC_selfB, ?_⟩ | refine ⟨fun _ _ => eqC_mpB, ?_⟩)
  · obtain rfl : k = m := by have : ¬ (k : Int) < (m : Int) := of_decide_eq_false h; have hk : k ≤ m := hk; omega
    obtain ⟨D, hD⟩ : ∃ D, pushL d0 (cat ps k) = D := ⟨_, rfl⟩
    have hDl : D.h < 64 := by rw [← hD]; exact pushL_lt (by decide) _
    obtain ⟨S, hS⟩ : ∃ S, sumL (cat ps k) = S := ⟨_, rfl⟩
    have hSL : ∀ i, i < 32 → endV D (BitVec.ofNat 64 (cat ps k).length) i = L S i := fun i hi => by rw [← hS, L_sumL _ hi, hD]
    rw [hD]
    refine ⟨by kernel_rfl, call_same (fn_send D (BitVec.ofNat 64 (cat ps k).length) hDl) [2, 4] rfl (by (repeat first | exact trivial | refine ⟨rfl, ?_⟩ | refine ⟨fun _ _ => ⟨rfl, trivial⟩, ?_⟩ | refine ⟨fun _ _ => trivial, ?_⟩ | refine ⟨by omega, ?_⟩ | refine ⟨fun _ _ => eqC_winS, ?_⟩ | refine ⟨fun _ _ => eqC_winM, ?_⟩ | refine ⟨fun _ _ => eqC_winB, ?_⟩ | refine ⟨fun _ _ => eqC_selfB, ?_⟩ | refine ⟨fun _ _ => eqC_mpB, ?_⟩)) (by (repeat first | exact trivial | refine ⟨rfl, ?_⟩ | refine ⟨fun _ _ => ⟨rfl, trivial⟩, ?_⟩ | refine ⟨fun _ _ => trivial, ?_⟩ | refine ⟨by omega, ?_⟩ | refine ⟨fun _ _ => eqC_winS, ?_⟩ | refine ⟨fun _ _ => eqC_winM, ?_⟩ | refine ⟨fun _ _ => eqC_winB, ?_⟩ | refine ⟨fun _ _ => eqC_selfB, ?_⟩ | refine ⟨fun _ _ => eqC_mpB, ?_⟩)) (fun _ _ => trivial) ?_⟩
    rintro x hs ⟨rfl, V', P', h', a', rfl⟩
    (repeat first | refine ⟨by omega, ?_⟩ | refine ⟨by decide, ?_⟩ | refine ⟨idx8 _, ?_⟩ | refine ⟨lt8 (Nat.le_refl _) _, ?_⟩ | refine ⟨rfl, ?_⟩)
    refine ⟨.a (.agg [.row 32 fun i => .w8 (L S i)]), [bts z N o l.length (L l), [.row M (partsF k fun i => .sn z 0 0 (o + po i) (pn i) (pc i))], shaT 1 0 first steps], ⟨[0, 1, 2], ⟨rfl, rfl, rfl⟩, ?_⟩, by rw [← hS], rfl⟩
    cases z
    all_goals
      (repeat first | exact trivial | refine ⟨rfl, ?_⟩ | refine ⟨fun _ _ => ⟨rfl, trivial⟩, ?_⟩ | refine ⟨fun _ _ => trivial, ?_⟩ | refine ⟨by omega, ?_⟩ | refine ⟨fun _ _ => eqC_winS, ?_⟩ | refine ⟨fun _ _ => eqC_winM, ?_⟩ | refine ⟨fun _ _ => eqC_winB, ?_⟩ | refine ⟨fun _ _ => eqC_selfB, ?_⟩ | refine ⟨fun _ _ => eqC_mpB, ?_⟩)
      refine ⟨fun j hj => eqC_w8 (congrArg SC.w8 (hSL j hj)), ?_⟩
      (repeat first | exact trivial | refine ⟨rfl, ?_⟩ | refine ⟨fun _ _ => ⟨rfl, trivial⟩, ?_⟩ | refine ⟨fun _ _ => trivial, ?_⟩ | refine ⟨by omega, ?_⟩ | refine ⟨fun _ _ => eqC_winS, ?_⟩ | refine ⟨fun _ _ => eqC_winM, ?_⟩ | refine ⟨fun _ _ => eqC_winB, ?_⟩ | refine ⟨fun _ _ => eqC_selfB, ?_⟩ | refine ⟨fun _ _ => eqC_mpB, ?_⟩)
      refine ⟨fun j hj => eqC_parts0, ?_⟩
      (repeat first | exact trivial | refine ⟨rfl, ?_⟩ | refine ⟨fun _ _ => ⟨rfl, trivial⟩, ?_⟩ | refine ⟨fun _ _ => trivial, ?_⟩ | refine ⟨by omega, ?_⟩ | refine ⟨fun _ _ => eqC_winS, ?_⟩ | refine ⟨fun _ _ => eqC_winM, ?_⟩ | refine ⟨fun _ _ => eqC_winB, ?_⟩ | refine ⟨fun _ _ => eqC_selfB, ?_⟩ | refine ⟨fun _ _ => eqC_mpB, ?_⟩)
end Sx
end Go.Proofs.Ytndlhhhebijknaa
