/-
  Texts of this claim, part 9: HnI, Sxw2, HnM. No condition of its own.
-/
import Derived.Test.YtkjdkeolkigibaaG8
section
/-
  Any message as bytes, and back; cut, or with more behind. No condition.
-/
namespace Go.Proofs.Ytkjdkeolkigibaa
set_option linter.unusedVariables false
namespace Sx
open Sha Vi
theorem U8_add (a b : Bs) : U8 (a ++ b) = U8 a ++ U8 b := by simp [U8]
set_option maxRecDepth 20000 in
set_option maxHeartbeats 16000000 in
theorem fn_handBytes (x : Ms) (hxr : x.r.length = 32) (hxm : x.m.length = 32) (hxf : x.p.s.Fit) (k : BitVec 8) (cut : BitVec 16) (M : Sl) (hMf : M.Fit) :
    FnR Try.prog tds 9 2 [svB x.p.s, svB M] [.agg (msC 0 x), .c (.w8 k), .c (.w16 cut), .c (svC 1 M)] (fun _ => True)
    (fun y _ => y = .a (.c (.bool true))) := by
  refine fn_of_body tds_ok follows_ Try.func9 rfl (t := .a (.agg (msC 0 x)) :: .a (.c (.w8 k)) :: .a (.c (.w16 cut)) :: .a (.c (svC 1 M)) :: anys (Try.f9.ntmps - 4)) rfl (fun w r0 hr _ => ?_)
  obtain ⟨x0, x1, rfl⟩ := len2' hr
  (repeat first | (refine And.intro ?_ ?_; first | exact rfl | ((exact fun h => absurd h (by first | decide)); intro yy; clear yy) | (rotate_left; (exact fun h => absurd h (by first | decide)); intro yy; clear yy) | decide | omega) | (with_reducible refine frc_bytesL (by first | omega | decide) ?_) | (with_reducible refine frc_bytesM (by first | omega | decide) ?_))
  refine call_same fn_awake13 [0] rfl (by (repeat first | exact trivial | refine ent1 ?_)) (by exact eqSegs_nil (by (repeat first | exact trivial | refine ent1 ?_))) (fun _ _ => trivial) ?_
  rintro y hs' ⟨rfl, rfl⟩
  by_cases h1 : 100 < x.p.s.l.length
  · have e1 : decide ((100 : Int) < (x.p.s.l.length : Int)) = true := decide_eq_true (by omega)
    (repeat first | (refine And.intro ?_ ?_; first | exact rfl | ((exact fun h => absurd h (by first | decide | (rw [e1]; decide))); intro yy; clear yy) | (rotate_left; (exact fun h => absurd h (by first | decide | (rw [e1]; decide))); intro yy; clear yy) | decide | omega) | (with_reducible refine frc_bytesL (by first | omega | decide) ?_) | (with_reducible refine frc_bytesM (by first | omega | decide) ?_))
    refine ⟨.a (.c (.bool true)), [svB x.p.s, svB M], ⟨[0, 1], ⟨rfl, rfl, rfl⟩, ?_⟩, rfl⟩
    (repeat first | exact trivial | refine ent1 ?_)
    refine eqC_bts (eqC_bts ?_)
    (repeat first | exact trivial | refine ent1 ?_)
  have e1 : decide ((100 : Int) < (x.p.s.l.length : Int)) = false := decide_eq_false (by omega)
  by_cases h2 : 50 < M.l.length
  · have e2 : decide ((50 : Int) < (M.l.length : Int)) = true := decide_eq_true (by omega)
    (repeat first | (refine And.intro ?_ ?_; first | exact rfl | ((exact fun h => absurd h (by first | decide | (rw [e1]; decide) | (rw [e2]; decide))); intro yy; clear yy) | (rotate_left; (exact fun h => absurd h (by first | decide | (rw [e1]; decide) | (rw [e2]; decide))); intro yy; clear yy) | decide | omega) | (with_reducible refine frc_bytesL (by first | omega | decide) ?_) | (with_reducible refine frc_bytesM (by first | omega | decide) ?_))
    refine ⟨.a (.c (.bool true)), [svB x.p.s, svB M], ⟨[0, 1], ⟨rfl, rfl, rfl⟩, ?_⟩, rfl⟩
    (repeat first | exact trivial | refine ent1 ?_)
    refine eqC_bts (eqC_bts ?_)
    (repeat first | exact trivial | refine ent1 ?_)
  have e2 : decide ((50 : Int) < (M.l.length : Int)) = false := decide_eq_false (by omega)
  have hx : x.Ok := ⟨hxr, hxf.ok (by omega), hxm⟩
  have hM : M.Ok := hMf.ok (by omega)
  have e9 : decide ((0 : Int) ≠ 0) = false := by decide
  (repeat first | (refine And.intro ?_ ?_; first | exact rfl | ((exact fun h => absurd h (by first | decide | (rw [e1]; decide) | (rw [e2]; decide))); intro yy; clear yy) | (rotate_left; (exact fun h => absurd h (by first | decide | (rw [e1]; decide) | (rw [e2]; decide))); intro yy; clear yy) | decide | omega) | (with_reducible refine frc_bytesL (by first | omega | decide) ?_) | (with_reducible refine frc_bytesM (by first | omega | decide) ?_))
  refine call_same (fn_lhfit x hx k) [0] rfl (by (repeat first | exact trivial | refine ent1 ?_)) (by refine eqC_bts ?_; (repeat first | exact trivial | refine ent1 ?_)) (fun _ _ => trivial) ?_
  rintro y hs' ⟨rfl, rfl⟩
  obtain ⟨hX, hE, hbr⟩ := fitMs_ok hx k
  have hsub := fitMs_sub x k
  generalize fitMs x k = X at hX hE hbr hsub ⊢
  have hXr := hX.r
  have hXm := hX.m
  have hPO := open_put hX
  have hPl := putMs_len X
  have hbl := bodyMs_len hX hE
  (repeat first | (refine And.intro ?_ ?_; first | exact rfl | ((exact fun h => absurd h (by first | decide)); intro yy; clear yy) | (rotate_left; (exact fun h => absurd h (by first | decide)); intro yy; clear yy) | decide | omega) | (with_reducible refine frc_bytesL (by first | omega | decide) ?_) | (with_reducible refine frc_bytesM (by first | omega | decide) ?_))
  refine call_same (fn_msputS X hX hE) [0] rfl (by (repeat first | exact trivial | refine ent1 ?_)) (by refine hsub.ent ?_; (repeat first | exact trivial | refine ent1 ?_)) (fun _ _ => trivial) ?_
  rintro y hs' ⟨c, hc, rfl, rfl⟩
  have hw0 := whole_put hX hE
  have hwc := fun (m : Nat) => whole_cut (m := m) hX hE
  have htk := fun (z : Ms) (e : Int) => take_putMs (y := z) (e := e) hX hE hbr
  have htc := fun (z : Ms) (e : Int) (m : Nat) => take_cutMs (y := z) (e := e) (m := m) hX hE
  have htm := fun (z : Ms) (e : Int) => take_moreMs (y := z) (e := e) (more := [0#8]) hX hE (by decide)
  generalize putMs X = P at hPO hPl hc hw0 hwc htk htc htm ⊢
  have hPs : P.length ≤ 1000 := by omega
  have hP36 : 36 ≤ P.length := by omega
  have oP : Sl.Ok ⟨false, c, 0, c, P⟩ := own_ok hc (by omega)
  (repeat first | (refine And.intro ?_ ?_; first | exact rfl | ((exact fun h => absurd h (by first | decide | (rw [e9]; decide))); intro yy; clear yy) | (rotate_left; (exact fun h => absurd h (by first | decide | (rw [e9]; decide))); intro yy; clear yy) | decide | omega) | (with_reducible refine frc_bytesL (by first | omega | decide) ?_) | (with_reducible refine frc_bytesM (by first | omega | decide) ?_))
  refine ⟨some [3, 4, 5], [], [(0, true), (1, true), (2, true), (3, true), (4, true), (5, true), (8, true), (9, true), (10, true), (6, false), (7, true), (11, true), (12, true), (13, true)], [], by kernel_rfl, ?_⟩
  (repeat first | (refine And.intro ?_ ?_; first | exact rfl | ((exact fun h => absurd h (by first | decide | (rw [e9]; decide))); intro yy; clear yy) | (rotate_left; (exact fun h => absurd h (by first | decide | (rw [e9]; decide))); intro yy; clear yy) | decide | omega) | (with_reducible refine frc_bytesL (by first | omega | decide) ?_) | (with_reducible refine frc_bytesM (by first | omega | decide) ?_))
  refine ⟨by show 0 + P.length ≤ c; omega, U8 P, str_of rfl (fun i hi => mp_row i hi), ?_⟩
  (repeat first | (refine And.intro ?_ ?_; first | exact rfl | ((exact fun h => absurd h (by first | decide | (rw [e9]; decide))); intro yy; clear yy) | (rotate_left; (exact fun h => absurd h (by first | decide | (rw [e9]; decide))); intro yy; clear yy) | decide | omega) | (with_reducible refine frc_bytesL (by first | omega | decide) ?_) | (with_reducible refine frc_bytesM (by first | omega | decide) ?_))
  refine ⟨U8 X.m, str_of hXm (fun q hq => rfl), ?_⟩
  (repeat first | (refine And.intro ?_ ?_; first | exact rfl | ((exact fun h => absurd h (by first | decide | (rw [e9]; decide))); intro yy; clear yy) | (rotate_left; (exact fun h => absurd h (by first | decide | (rw [e9]; decide))); intro yy; clear yy) | decide | omega) | (with_reducible refine frc_bytesL (by first | omega | decide) ?_) | (with_reducible refine frc_bytesM (by first | omega | decide) ?_))
  refine call_same (fn_hbody X hX hE) [0] rfl (by (repeat first | exact trivial | refine ent1 ?_)) (by refine hsub.ent ?_; (repeat first | exact trivial | refine ent1 ?_)) (fun _ _ => trivial) ?_
  rintro y hs' ⟨c2, hc2, rfl, rfl⟩
  generalize openMs X = O at hPO hc2 ⊢
  (repeat first | (refine And.intro ?_ ?_; first | exact rfl | ((exact fun h => absurd h (by first | decide | (rw [e9]; decide))); intro yy; clear yy) | (rotate_left; (exact fun h => absurd h (by first | decide | (rw [e9]; decide))); intro yy; clear yy) | decide | omega) | (with_reducible refine frc_bytesL (by first | omega | decide) ?_) | (with_reducible refine frc_bytesM (by first | omega | decide) ?_))
  refine ⟨by show 0 + O.length ≤ c2; omega, U8 O, str_of rfl (fun i hi => mp_row i hi), ?_⟩
  have k1 : (!decide (U8 P = U8 O ++ U8 X.m)) = false := by rw [← U8_add, hPO]; simp
  have hOP : O.length ≤ P.length := by rw [← hPO, List.length_append]; omega
  (repeat first | (refine And.intro ?_ ?_; first | exact rfl | ((exact fun h => absurd h (by first | decide | (rw [e9]; decide))); intro yy; clear yy) | (rotate_left; (exact fun h => absurd h (by first | decide | (rw [e9]; decide))); intro yy; clear yy) | decide | omega) | (with_reducible refine frc_bytesL (by first | omega | decide) ?_) | (with_reducible refine frc_bytesM (by first | omega | decide) ?_))
  refine And.intro (show (U8 O).length + (U8 X.m).length ≤ 9223372036854775807 by rw [U8_len, U8_len]; omega) ?_
  (repeat first | (refine And.intro ?_ ?_; first | exact rfl | ((exact fun h => absurd h (by first | decide | (rw [e9]; decide) | (rw [k1]; decide))); intro yy; clear yy) | (rotate_left; (exact fun h => absurd h (by first | decide | (rw [e9]; decide) | (rw [k1]; decide))); intro yy; clear yy) | decide | omega) | (with_reducible refine frc_bytesL (by first | omega | decide) ?_) | (with_reducible refine frc_bytesM (by first | omega | decide) ?_))
  refine call_same (fn_mtake ⟨false, c, 0, c, P⟩ oP) [4] rfl (by (repeat first | exact trivial | refine ent1 ?_)) (by refine ⟨rfl, fun j hj => eqC_winBM (Nat.le_refl _), ?_⟩; (repeat first | exact trivial | refine ent1 ?_)) (fun _ _ => trivial) ?_
  rintro y hs' ⟨z, e, hz, hzo, rfl, rfl⟩
  obtain ⟨rfl, hzk, hzr, hzp, hzm⟩ := htk _ _ hz
  have k2 : decide (z.k ≠ X.k) = false := decide_eq_false fun h => h hzk
  (repeat first | (refine And.intro ?_ ?_; first | exact rfl | ((exact fun h => absurd h (by first | decide | (rw [e9]; decide) | (rw [k1]; decide) | (rw [k2]; decide))); intro yy; clear yy) | (rotate_left; (exact fun h => absurd h (by first | decide | (rw [e9]; decide) | (rw [k1]; decide) | (rw [k2]; decide))); intro yy; clear yy) | decide | omega) | (with_reducible refine frc_bytesL (by first | omega | decide) ?_) | (with_reducible refine frc_bytesM (by first | omega | decide) ?_))
  refine ⟨⟨rfl, rfl, fun j hj => rfl, fun j hj => rfl⟩, fun b1 hb1 => ?_⟩
  have k3 : (!b1) = false := by rw [hb1.2 (fun j hj => by rw [hzr]; rfl)]; rfl
  (repeat first | (refine And.intro ?_ ?_; first | exact rfl | ((exact fun h => absurd h (by first | decide | (rw [e9]; decide) | (rw [k1]; decide) | (rw [k2]; decide) | (rw [k3]; decide))); intro yy; clear yy) | (rotate_left; (exact fun h => absurd h (by first | decide | (rw [e9]; decide) | (rw [k1]; decide) | (rw [k2]; decide) | (rw [k3]; decide))); intro yy; clear yy) | decide | omega) | (with_reducible refine frc_bytesL (by first | omega | decide) ?_) | (with_reducible refine frc_bytesM (by first | omega | decide) ?_))
  refine ⟨⟨rfl, rfl, fun j hj => rfl, fun j hj => rfl⟩, fun b2 hb2 => ?_⟩
  have k4 : (!b2) = false := by rw [hb2.2 (fun j hj => by rw [hzm]; rfl)]; rfl
  (repeat first | (refine And.intro ?_ ?_; first | exact rfl | ((exact fun h => absurd h (by first | decide | (rw [e9]; decide) | (rw [k1]; decide) | (rw [k2]; decide) | (rw [k3]; decide) | (rw [k4]; decide))); intro yy; clear yy) | (rotate_left; (exact fun h => absurd h (by first | decide | (rw [e9]; decide) | (rw [k1]; decide) | (rw [k2]; decide) | (rw [k3]; decide) | (rw [k4]; decide))); intro yy; clear yy) | decide | omega) | (with_reducible refine frc_bytesL (by first | omega | decide) ?_) | (with_reducible refine frc_bytesM (by first | omega | decide) ?_))
  refine call_same (fn_psame z.p X.p hzo hX.p) [6, 0] rfl (by (repeat first | exact trivial | refine ent1 ?_)) (by refine eqC_btsM (hsub.ent ?_); (repeat first | exact trivial | refine ent1 ?_)) (fun _ _ => trivial) ?_
  rintro y hs' ⟨rfl, rfl⟩
  have k5 : (!decide (sameP z.p X.p)) = false := by rw [decide_eq_true hzp]; rfl
  (repeat first | (refine And.intro ?_ ?_; first | exact rfl | ((exact fun h => absurd h (by first | decide | (rw [e9]; decide) | (rw [k1]; decide) | (rw [k2]; decide) | (rw [k3]; decide) | (rw [k4]; decide) | (rw [k5]; decide))); intro yy; clear yy) | (rotate_left; (exact fun h => absurd h (by first | decide | (rw [e9]; decide) | (rw [k1]; decide) | (rw [k2]; decide) | (rw [k3]; decide) | (rw [k4]; decide) | (rw [k5]; decide))); intro yy; clear yy) | decide | omega) | (with_reducible refine frc_bytesL (by first | omega | decide) ?_) | (with_reducible refine frc_bytesM (by first | omega | decide) ?_))
  clear hzk hzr hzp hzm hb1 hb2 hz
  refine ⟨by show 0 + P.length ≤ c; omega, ?_⟩
  refine ⟨⟨Nat.le_refl _, Nat.le_refl _, by show (0 + P.length) * 1 ≤ 140737488355328; omega⟩, fun c5 hc5 => ?_⟩
  refine sn_bts rfl hM.fit (fun h => by rw [hM.nil h]; rfl) (fun g hg => ?_)
  refine ⟨⟨hc5, by show 0 + c5 ≤ c5; omega, by show (0 + P.length + M.l.length) * 1 ≤ 140737488355328; omega⟩, fun c6 hc6 => ?_⟩
  (repeat first | (refine And.intro ?_ ?_; first | exact rfl | ((exact fun h => absurd h (by first | decide)); intro yy; clear yy) | (rotate_left; (exact fun h => absurd h (by first | decide)); intro yy; clear yy) | decide | omega) | (with_reducible refine frc_bytesL (by first | omega | decide) ?_) | (with_reducible refine frc_bytesM (by first | omega | decide) ?_))
  have hQl : (P ++ M.l).length = 0 + P.length + M.l.length := by rw [List.length_append]; omega
  have oQ : Sl.Ok ⟨false, c6, 0, c6, P ++ M.l⟩ := own_ok (by rw [hQl]; exact hc6) (by omega)
  refine call_same (fn_whole ⟨false, c6, 0, c6, P ++ M.l⟩ oQ) [10] rfl (by (repeat first | exact trivial | refine ent1 ?_); refine ⟨hQl.symm, rfl, ?_⟩; (repeat first | exact trivial | refine ent1 ?_)) ?_ (fun _ _ => trivial) ?_
  · refine ⟨rfl, fun j hj => eqC_win0 (n := (P ++ M.l).length) (b := L (P ++ M.l)) (fun i hi => ?_) j, ?_⟩
    · rw [hQl] at hi
      exact app_row (l := P) (m := M.l) (n := 0 + P.length) (k := M.l.length) (Nat.zero_add _).symm rfl (fun i hi => app_row (l := []) (m := P) (n := 0) (k := P.length) rfl rfl (fun i hi => absurd hi (by omega)) (fun q hq => mp_row q hq) i hi) hg i hi
    (repeat first | exact trivial | refine ent1 ?_)
  rintro y hs' ⟨rfl, rfl⟩
  rw [show wholeM (Sl.l ⟨false, c6, 0, c6, P ++ M.l⟩) = (P.length, 0) from hw0 M.l]
  clear hQl oQ hc6 hg
  (repeat first | (refine And.intro ?_ ?_; first | exact rfl | ((exact fun h => absurd h (by first | decide)); intro yy; clear yy) | (rotate_left; (exact fun h => absurd h (by first | decide)); intro yy; clear yy) | decide | omega) | (with_reducible refine frc_bytesL (by first | omega | decide) ?_) | (with_reducible refine frc_bytesM (by first | omega | decide) ?_))
  rw [show ((cut.toNat : Nat) : Int) % ((P.length : Nat) : Int) = ((cut.toNat % P.length : Nat) : Int) from (Int.natCast_emod _ _).symm]
  have hat : cut.toNat % P.length < P.length := Nat.mod_lt _ (by omega)
  generalize cut.toNat % P.length = m at hat ⊢
  have hTl : (P.take m).length = m := by rw [List.length_take]; omega
  have oT : Sl.Ok ⟨false, c, 0, c, P.take m⟩ := own_ok (by rw [hTl]; omega) (by rw [hTl]; omega)
  have hrow : ∀ (g : Nat → Nat) (i : Nat), i < (P.take m).length → SC.mp g (bytesF P.length (L P) i) = .w8 (L (P.take m) i) := fun g i hi => by
    rw [hTl] at hi
    rw [bytesF_lt (by omega), take_L hi]
    rfl
  have hmt : ((m : Nat) : Int).toNat - 0 = (P.take m).length := by rw [hTl]; omega
  (repeat first | (refine And.intro ?_ ?_; first | exact rfl | ((exact fun h => absurd h (by first | decide)); intro yy; clear yy) | (rotate_left; (exact fun h => absurd h (by first | decide)); intro yy; clear yy) | decide | omega) | (with_reducible refine frc_bytesL (by first | omega | decide) ?_) | (with_reducible refine frc_bytesM (by first | omega | decide) ?_))
  refine call_same (fn_whole ⟨false, c, 0, c, P.take m⟩ oT) [4] rfl (by (repeat first | exact trivial | refine ent1 ?_); refine ⟨by show (if c = 0 then 0 else 0 + 0 * 1) = 0; split <;> rfl, hmt, Nat.sub_zero _, ?_⟩; (repeat first | exact trivial | refine ent1 ?_)) ?_ (fun _ _ => trivial) ?_
  · refine ⟨rfl, fun j hj => eqC_win0 (f := fun j => SC.mp (bk 4 [0]) (bytesF P.length (L P) j)) (n := (P.take m).length) (b := L (P.take m)) (fun i hi => hrow _ i hi) j, ?_⟩
    (repeat first | exact trivial | refine ent1 ?_)
  rintro y hs' ⟨rfl, rfl⟩
  rw [show wholeM (Sl.l ⟨false, c, 0, c, P.take m⟩) = (0, 0) from hwc m hat]
  (repeat first | (refine And.intro ?_ ?_; first | exact rfl | ((exact fun h => absurd h (by first | decide)); intro yy; clear yy) | (rotate_left; (exact fun h => absurd h (by first | decide)); intro yy; clear yy) | decide | omega) | (with_reducible refine frc_bytesL (by first | omega | decide) ?_) | (with_reducible refine frc_bytesM (by first | omega | decide) ?_))
  refine call_same (fn_mtake ⟨false, c, 0, c, P.take m⟩ oT) [4] rfl (by (repeat first | exact trivial | refine ent1 ?_); refine ⟨by show (if c = 0 then 0 else 0 + 0 * 1) = 0; split <;> rfl, hmt, Nat.sub_zero _, ?_⟩; (repeat first | exact trivial | refine ent1 ?_)) ?_ (fun _ _ => trivial) ?_
  · refine ⟨rfl, fun j hj => eqC_win0 (f := fun j => SC.mp (bk 4 [0]) (bytesF P.length (L P) j)) (n := (P.take m).length) (b := L (P.take m)) (fun i hi => hrow _ i hi) j, ?_⟩
    (repeat first | exact trivial | refine ent1 ?_)
  rintro y hs' ⟨z2, e, hz2, hzo2, rfl, rfl⟩
  obtain rfl := htc z2 e m hat hz2
  clear hz2
  (repeat first | (refine And.intro ?_ ?_; first | exact rfl | ((exact fun h => absurd h (by first | decide)); intro yy; clear yy) | (rotate_left; (exact fun h => absurd h (by first | decide)); intro yy; clear yy) | decide | omega) | (with_reducible refine frc_bytesL (by first | omega | decide) ?_) | (with_reducible refine frc_bytesM (by first | omega | decide) ?_))
  refine ⟨by show 0 + P.length ≤ c; omega, ?_⟩
  refine ⟨⟨Nat.le_refl _, Nat.le_refl _, by show (0 + P.length) * 1 ≤ 140737488355328; omega⟩, fun c7 hc7 => ?_⟩
  refine ⟨by show 0 + 1 ≤ 1; decide, ?_⟩
  refine ⟨⟨hc7, by show 0 + c7 ≤ c7; omega, by show (0 + P.length + 1) * 1 ≤ 140737488355328; omega⟩, fun c8 hc8 => ?_⟩
  (repeat first | (refine And.intro ?_ ?_; first | exact rfl | ((exact fun h => absurd h (by first | decide)); intro yy; clear yy) | (rotate_left; (exact fun h => absurd h (by first | decide)); intro yy; clear yy) | decide | omega) | (with_reducible refine frc_bytesL (by first | omega | decide) ?_) | (with_reducible refine frc_bytesM (by first | omega | decide) ?_))
  have hRl : (P ++ [0#8]).length = 0 + P.length + 1 := by rw [List.length_append, Nat.zero_add]; rfl
  have oR : Sl.Ok ⟨false, c8, 0, c8, P ++ [0#8]⟩ := own_ok (by rw [hRl]; exact hc8) (by omega)
  refine call_same (fn_mtake ⟨false, c8, 0, c8, P ++ [0#8]⟩ oR) [16] rfl (by (repeat first | exact trivial | refine ent1 ?_); refine ⟨hRl.symm, rfl, ?_⟩; (repeat first | exact trivial | refine ent1 ?_)) ?_ (fun _ _ => trivial) ?_
  · refine ⟨rfl, fun j hj => eqC_win0 (n := (P ++ [0#8]).length) (b := L (P ++ [0#8])) (fun i hi => ?_) j, ?_⟩
    · rw [hRl] at hi
      exact app_row (l := P) (m := [0#8]) (n := 0 + P.length) (k := 1) (Nat.zero_add _).symm rfl (fun i hi => app_row (l := []) (m := P) (n := 0) (k := P.length) rfl rfl (fun i hi => absurd hi (by omega)) (fun q hq => mp_row q hq) i hi) (fun q hq => one_row rfl q hq) i hi
    (repeat first | exact trivial | refine ent1 ?_)
  rintro y hs' ⟨z3, e, hz3, hzo3, rfl, rfl⟩
  obtain rfl := htm z3 e hz3
  clear hz3 hRl oR hc8 hc7
  have k1 : decide (((P.length : Nat) : Int) ≠ ((P.length : Nat) : Int)) = false := decide_eq_false fun h => h rfl
  have k2 : decide (((0 : Nat) : Int) ≠ 0) = false := by decide
  have k3 : decide ((3 : Int) ≠ 3) = false := by decide
  have k4 : decide ((24 : Int) ≠ 24) = false := by decide
  (repeat first | (refine And.intro ?_ ?_; first | exact rfl | ((exact fun h => absurd h (by first | decide | (rw [e9]; decide) | (rw [k1]; decide) | (rw [k2]; decide) | (rw [k3]; decide) | (rw [k4]; decide))); intro yy; clear yy) | (rotate_left; (exact fun h => absurd h (by first | decide | (rw [e9]; decide) | (rw [k1]; decide) | (rw [k2]; decide) | (rw [k3]; decide) | (rw [k4]; decide))); intro yy; clear yy) | decide | omega) | (with_reducible refine frc_bytesL (by first | omega | decide) ?_) | (with_reducible refine frc_bytesM (by first | omega | decide) ?_))
  refine call_same (fn_msput x hx) [0] rfl (by (repeat first | exact trivial | refine ent1 ?_)) (by refine eqC_bts ?_; (repeat first | exact trivial | refine ent1 ?_)) (fun _ _ => trivial) ?_
  rintro y hs' ⟨t, ht, hl, rfl, rfl⟩
  by_cases g1 : x.k = 1#8
  · have f1 : decide (x.k = 1#8) = true := decide_eq_true g1
    (repeat first | (refine And.intro ?_ ?_; first | exact rfl | ((exact fun h => absurd h (by first | decide | (rw [f1]; decide))); intro yy; clear yy) | (rotate_left; (exact fun h => absurd h (by first | decide | (rw [f1]; decide))); intro yy; clear yy) | decide | omega) | (with_reducible refine frc_bytesL (by first | omega | decide) ?_) | (with_reducible refine frc_bytesM (by first | omega | decide) ?_))
    refine ⟨.a (.c (.bool true)), [svB x.p.s, svB M], ⟨[0, 1], ⟨rfl, rfl, rfl⟩, ?_⟩, rfl⟩
    (repeat first | exact trivial | refine ent1 ?_)
    refine eqC_bts (eqC_bts ?_)
    (repeat first | exact trivial | refine ent1 ?_)
  have f1 : decide (x.k = 1#8) = false := decide_eq_false g1
  by_cases g2 : x.k = 2#8
  · have f2 : decide (x.k = 2#8) = true := decide_eq_true g2
    (repeat first | (refine And.intro ?_ ?_; first | exact rfl | ((exact fun h => absurd h (by first | decide | (rw [f1]; decide) | (rw [f2]; decide))); intro yy; clear yy) | (rotate_left; (exact fun h => absurd h (by first | decide | (rw [f1]; decide) | (rw [f2]; decide))); intro yy; clear yy) | decide | omega) | (with_reducible refine frc_bytesL (by first | omega | decide) ?_) | (with_reducible refine frc_bytesM (by first | omega | decide) ?_))
    refine ⟨.a (.c (.bool true)), [svB x.p.s, svB M], ⟨[0, 1], ⟨rfl, rfl, rfl⟩, ?_⟩, rfl⟩
    (repeat first | exact trivial | refine ent1 ?_)
    refine eqC_bts (eqC_bts ?_)
    (repeat first | exact trivial | refine ent1 ?_)
  have f2 : decide (x.k = 2#8) = false := decide_eq_false g2
  by_cases g3 : x.k = 20#8
  · have f3 : decide (x.k = 20#8) = true := decide_eq_true g3
    (repeat first | (refine And.intro ?_ ?_; first | exact rfl | ((exact fun h => absurd h (by first | decide | (rw [f1]; decide) | (rw [f2]; decide) | (rw [f3]; decide))); intro yy; clear yy) | (rotate_left; (exact fun h => absurd h (by first | decide | (rw [f1]; decide) | (rw [f2]; decide) | (rw [f3]; decide))); intro yy; clear yy) | decide | omega) | (with_reducible refine frc_bytesL (by first | omega | decide) ?_) | (with_reducible refine frc_bytesM (by first | omega | decide) ?_))
    refine ⟨.a (.c (.bool true)), [svB x.p.s, svB M], ⟨[0, 1], ⟨rfl, rfl, rfl⟩, ?_⟩, rfl⟩
    (repeat first | exact trivial | refine ent1 ?_)
    refine eqC_bts (eqC_bts ?_)
    (repeat first | exact trivial | refine ent1 ?_)
  have f3 : decide (x.k = 20#8) = false := decide_eq_false g3
  have hu : errMs x = 5 := by unfold errMs knownK; rw [f1, f2, f3]; rfl
  rw [hu]
  have f4 : decide ((5 : Int) = 5) = true := by decide
  (repeat first | (refine And.intro ?_ ?_; first | exact rfl | ((exact fun h => absurd h (by first | decide | (rw [f1]; decide) | (rw [f2]; decide) | (rw [f3]; decide) | (rw [f4]; decide))); intro yy; clear yy) | (rotate_left; (exact fun h => absurd h (by first | decide | (rw [f1]; decide) | (rw [f2]; decide) | (rw [f3]; decide) | (rw [f4]; decide))); intro yy; clear yy) | decide | omega) | (with_reducible refine frc_bytesL (by first | omega | decide) ?_) | (with_reducible refine frc_bytesM (by first | omega | decide) ?_))
  refine ⟨.a (.c (.bool true)), [svB x.p.s, svB M], ⟨[0, 1], ⟨rfl, rfl, rfl⟩, ?_⟩, rfl⟩
  (repeat first | exact trivial | refine ent1 ?_)
  refine eqC_bts (eqC_bts ?_)
  (repeat first | exact trivial | refine ent1 ?_)
end Sx
end Go.Proofs.Ytkjdkeolkigibaa
end

section
/-
  Numbers of sixteen bits as arguments. Over any program. No condition of its own.
-/
namespace Go.Proofs.Ytkjdkeolkigibaa
set_option linter.unusedVariables false
namespace Sx
open Go.ChangeShapes

theorem wf_w16 {a : Int} (h : (Lit.int .u16 a).wf = true) : a = ((BitVec.ofInt 16 a).toNat : Int) := by
  have := bounds_u16 h
  rw [BitVec.toNat_ofInt]
  omega
theorem wf_w64 {a : Int} (h : (Lit.int .u64 a).wf = true) : a = ((BitVec.ofInt 64 a).toNat : Int) := by
  have := bounds_u64 h
  rw [BitVec.toNat_ofInt]
  omega
end Sx
end Go.Proofs.Ytkjdkeolkigibaa
end

section
/-
  A message as an argument, opened. No condition.
-/
namespace Go.Proofs.Ytkjdkeolkigibaa
set_option linter.unusedVariables false
namespace Sx
open Go.RowKit Go.ChangeShapes Go.WideShapes Sha Vi

/-- A message that came in: its cells; where its source lies. -/
structure MsIn (w : World) (x : Ms) (cs : Array Value) (B f : Nat) : Prop where
  r : x.r.length = 32
  m : x.m.length = 32
  fit : x.p.s.Fit
  at_ : ∀ r : Rho, At false r w B f (flat (svB x.p.s))
  is : ∀ r : Rho, r[0]? = some (B, f) → SA.Is r (.agg (msC 0 x)) (.agg cs)
theorem isL_app {r : Rho} {l1 l2 : List SC} {v1 v2 : List Value} (h1 : IsL r l1 v1) (h2 : IsL r l2 v2) : IsL r (l1 ++ l2) (v1 ++ v2) := by
  refine ⟨by rw [List.length_append, List.length_append, h1.1, h2.1], fun j x e => ?_⟩
  rw [List.getElem?_append] at e ⊢
  rw [← h1.1]
  split at e
  · rename_i h; rw [if_pos h]; exact h1.2 j x e
  · rename_i h; rw [if_neg h]; exact h2.2 _ x e
section
variable {H : Type} {enc : TypeId × Value → H} {P : Program} {w : World} {base : Nat} {held : Bool}
theorem trod_arr8 {t e : TypeId} {n : Nat} {fuel : Nat} {cs : List Value} {y : DataW H × List MemPlace} (ht : P.underlying t = some (.array n e)) (he : P.underlying e = some (.int .u8)) (hc : P.cellsOf e = 1) (hn : P.cellsOf t = n)
    (h : DataW.trod enc P w base (fun _ => true) held fuel t cs = some y) : ∃ l : Bs, l.length = n ∧ ∀ r : Rho, IsL r ((List.range n).map fun i => .w8 (L l i)) cs := by
  obtain ⟨xs, m, _, _, hl, hx, hel⟩ := DataW.trod_array ht h
  have cell : ∀ i, i < n → ∃ x : Int, cs[i]? = some (.int .u8 x) ∧ (Lit.int .u8 x).wf = true := by
    intro i hi
    have h1 := hel i hi
    rw [hc, Nat.mul_one, List.getElem?_eq_getElem (by omega)] at h1
    obtain ⟨x, e1, _, wx⟩ := DataW.trod_int he h1
    refine ⟨x, ?_, wx⟩
    have hi2 : i < cs.length := by omega
    have h2 : (cs.drop i).take 1 = [cs[i]] := by
      rw [List.drop_eq_getElem_cons hi2]
      rfl
    rw [h2] at e1
    simp at e1
    rw [List.getElem?_eq_getElem hi2, e1]
  refine ⟨tab n fun i => match cs[i]? with | some (.int .u8 x) => BitVec.ofInt 8 x | _ => 0#8, tab_len _ _, fun r => ⟨by simp; omega, fun j x e => ?_⟩⟩
  have hj : j < n := by
    have := (List.getElem?_eq_some_iff.1 e).1
    simpa using this
  obtain ⟨v, e1, wx⟩ := cell j hj
  refine ⟨_, e1, ?_⟩
  simp [hj] at e
  subst e
  rw [L_tab hj, e1]
  exact congrArg _ (wf_w8 wx)
theorem one_u64 {t : TypeId} {fuel : Nat} {cs : List Value} {y : DataW H × List MemPlace} (ht : P.underlying t = some (.int .u64)) (h : DataW.trod enc P w base (fun _ => true) held fuel t cs = some y) : ∃ b : BitVec 64, ∀ r : Rho, IsL r [.w64 b] cs := by
  obtain ⟨x, rfl, _, wx⟩ := DataW.trod_int ht h
  exact ⟨BitVec.ofInt 64 x, fun r => isL_cons (congrArg _ (wf_w64 wx)) (isL_nil r)⟩
theorem one_u8 {t : TypeId} {fuel : Nat} {cs : List Value} {y : DataW H × List MemPlace} (ht : P.underlying t = some (.int .u8)) (h : DataW.trod enc P w base (fun _ => true) held fuel t cs = some y) : ∃ b : BitVec 8, ∀ r : Rho, IsL r [.w8 b] cs := by
  obtain ⟨x, rfl, _, wx⟩ := DataW.trod_int ht h
  exact ⟨BitVec.ofInt 8 x, fun r => isL_cons (congrArg _ (wf_w8 wx)) (isL_nil r)⟩
theorem one_b8 {t e : TypeId} {fuel : Nat} {cs : List Value} {y : DataW H × List MemPlace} (ht : P.underlying t = some (.slice e)) (he : P.underlying e = some (.int .u8)) (hc : P.cellsOf e = 1) (hsp : ∀ x n c, cs = [.slice (some x) n c] → x.spot = none)
    (h : DataW.trod enc P w base (fun _ => true) held fuel t cs = some y) : ∃ (z : Bool) (c : Nat) (l : Bs) (B f : Nat), (slI z c l).Fit ∧ (∀ r : Rho, At false r w B f (flat (svB (slI z c l)))) ∧ ∀ r : Rho, r[0]? = some (B, f) → IsL r [svC 0 (slI z c l)] cs := by
  rcases open_ints ht he hc h with ⟨rfl, _⟩ | ⟨x, n, c, zs, rfl, _, hl, hm, hz, _, hcell, hwz⟩
  · obtain ⟨z, l, B, f, h⟩ := open_b8 (w := w) (.inl ⟨rfl, rfl, rfl, rfl⟩) (fun x e => by cases e)
    exact ⟨z, 0, l, B, f, h.fit, fun r => h.at' r, fun r hr => isL_cons (h.val' hr) (isL_nil r)⟩
  · obtain ⟨z, l, B, f, h⟩ := open_b8 (w := w) (len := n) (cap := c) (zs := zs) (.inr ⟨_, rfl, hl, hm, by simpa using hz, fun i hi => hcell i hi, hwz⟩) (fun y e => by cases e; exact hsp x n c rfl)
    exact ⟨z, c, l, B, f, h.fit, fun r => h.at' r, fun r hr => isL_cons (h.val' hr) (isL_nil r)⟩
end
theorem split4 {α : Type} {l : List α} (h : l.length = 75) : l = l.take 1 ++ (l.drop 1).take 32 ++ (l.drop 33).take 10 ++ (l.drop 43).take 32 := by
  have e1 : ∀ (k n : Nat), l.drop k = (l.drop k).take n ++ l.drop (k + n) := fun k n => by
    conv => lhs; rw [← List.take_append_drop n (l.drop k)]
    rw [List.drop_drop]
  have e2 := e1 0 1
  have e3 := e1 1 32
  have e4 := e1 33 10
  have e5 := e1 43 32
  rw [List.drop_zero] at e2
  have e6 : l.drop (43 + 32) = [] := List.drop_eq_nil_of_le (by omega)
  rw [e6, List.append_nil] at e5
  conv => lhs; rw [e2, show l.drop (0 + 1) = l.drop 1 from rfl, e3, show l.drop (1 + 32) = l.drop 33 from rfl, e4, show l.drop (33 + 10) = l.drop 43 from rfl, e5]
  simp only [List.append_assoc]
section
variable {H : Type} {enc : TypeId × Value → H} {w : World} {base : Nat} {held : Bool}
set_option maxRecDepth 100000 in
theorem open_params {fuel : Nat} {cs : List Value} {y : DataW H × List MemPlace} (hlen : cs.length = 10) (hsp : ∀ x n c, cs[9]? = some (.slice (some x) n c) → x.spot = none) (h : DataW.trod enc Try.prog w base (fun _ => true) held fuel 40 cs = some y) :
    ∃ (p : Pm) (B f : Nat), p.s.Fit ∧ (∀ r : Rho, At false r w B f (flat (svB p.s))) ∧ ∀ r : Rho, r[0]? = some (B, f) → IsL r (flat (pmC 0 p)) cs := by
  obtain ⟨xs, n, _, _, _, hxl, hg⟩ := DataW.trod_struct Try.underlying40 h
  match cs, hlen with
  | [c0, c1, c2, c3, c4, c5, c6, c7, c8, c9], _ =>
    match xs, hxl with
    | [y0, y1, y2, y3, y4, y5, y6, y7, y8, y9], _ =>
      obtain ⟨b0, h0⟩ := one_u64 (P := Try.prog) (cs := [c0]) (y := y0) Try.underlying38 (hg 0 _ rfl)
      obtain ⟨b1, h1⟩ := one_u64 (P := Try.prog) (cs := [c1]) (y := y1) Try.underlying38 (hg 1 _ rfl)
      obtain ⟨b2, h2⟩ := one_u64 (P := Try.prog) (cs := [c2]) (y := y2) Try.underlying38 (hg 2 _ rfl)
      obtain ⟨b3, h3⟩ := one_u64 (P := Try.prog) (cs := [c3]) (y := y3) Try.underlying38 (hg 3 _ rfl)
      obtain ⟨b4, h4⟩ := one_u64 (P := Try.prog) (cs := [c4]) (y := y4) Try.underlying38 (hg 4 _ rfl)
      obtain ⟨b5, h5⟩ := one_u64 (P := Try.prog) (cs := [c5]) (y := y5) Try.underlying38 (hg 5 _ rfl)
      obtain ⟨b6, h6⟩ := one_u64 (P := Try.prog) (cs := [c6]) (y := y6) Try.underlying38 (hg 6 _ rfl)
      obtain ⟨b7, h7⟩ := one_u64 (P := Try.prog) (cs := [c7]) (y := y7) Try.underlying38 (hg 7 _ rfl)
      obtain ⟨b8, h8⟩ := one_u64 (P := Try.prog) (cs := [c8]) (y := y8) Try.underlying38 (hg 8 _ rfl)
      obtain ⟨z, c, l, B, f, hfit, hat, h9⟩ := one_b8 (P := Try.prog) (cs := [c9]) (y := y9) Try.underlying23 Try.underlying5 (by kernel_rfl) (fun x n c e => hsp x n c (by injection e with e; rw [e]; rfl)) (hg 9 _ rfl)
      refine ⟨⟨b0, b1, b2, b3, b4, b5, b6, b7, b8, slI z c l⟩, B, f, hfit, hat, fun r hr => ?_⟩
      exact isL_app (h0 r) (isL_app (h1 r) (isL_app (h2 r) (isL_app (h3 r) (isL_app (h4 r) (isL_app (h5 r) (isL_app (h6 r) (isL_app (h7 r) (isL_app (h8 r) (h9 r hr)))))))))
set_option maxRecDepth 100000 in
theorem open_msg {rc : Reach} {b0 : Nat} {v : Value} {d : DataW H} {p : List MemPlace} (hval : Value.okWide Try.prog w rc b0 75 v) (h : DataW.Trod enc Try.prog w base (fun _ => true) held 75 v d p) :
    ∃ (x : Ms) (cs : Array Value) (B f : Nat), v = .agg cs ∧ MsIn w x cs B f := by
  obtain ⟨cs, rfl, hsz⟩ := okWide_struct Try.underlying75 hval
  have hsz : cs.size = 75 := hsz.trans (by kernel_rfl)
  obtain ⟨fuel, hf⟩ := h
  obtain ⟨xs, n, _, _, _, hxl, hg⟩ := DataW.trod_struct Try.underlying75 hf
  have hsp : ∀ x n c, cs[42]? = some (.slice (some x) n c) → x.spot = none := fun x n c e => okWide_cells Try.underlying75 hval e x rfl
  have hl : cs.toList.length = 75 := by simpa using hsz
  match xs, hxl with
  | [y0, y1, y2, y3], _ =>
    obtain ⟨k, h0⟩ := one_u8 (P := Try.prog) (cs := cs.toList.take 1) (y := y0) Try.underlying5 (hg 0 _ rfl)
    obtain ⟨r, hr, h1⟩ := trod_arr8 (P := Try.prog) (cs := (cs.toList.drop 1).take 32) (y := y1) Try.underlying73 Try.underlying5 (by kernel_rfl) (by kernel_rfl) (hg 1 _ rfl)
    obtain ⟨p, B, f, hfit, hat, h2⟩ := open_params (cs := (cs.toList.drop 33).take 10) (y := y2) (by simp; omega) (fun x n c e => hsp x n c (by simpa using e)) (hg 2 _ rfl)
    obtain ⟨m, hm, h3⟩ := trod_arr8 (P := Try.prog) (cs := (cs.toList.drop 43).take 32) (y := y3) Try.underlying73 Try.underlying5 (by kernel_rfl) (by kernel_rfl) (hg 3 _ rfl)
    refine ⟨⟨k, r, p, m⟩, cs, B, f, rfl, hr, hm, hfit, hat, fun ρ hρ => ?_⟩
    refine ⟨cs.toList, by simp, ?_⟩
    rw [split4 hl]
    exact isL_app (isL_app (isL_app (h0 ρ) (h1 ρ)) (h2 ρ hρ)) (h3 ρ)
end
end Sx
end Go.Proofs.Ytkjdkeolkigibaa
end
