/-
  Texts of this claim, part 5: HpB, HdA, HdE, HpC, SeP, SeQ, Once, Once2. No condition of its own.
-/
import Derived.Tactics
import Derived.Tactics2
import Derived.Defers
import Derived.Laws.Pointers
import Derived.Laws.LoneSync
import Derived.RegionTactic
import Derived.RegionCalls
import Derived.ChangeAlike
import Derived.Test.YtkjdkeolkigibaaGreatG4
section
/-
  Headers taken: long ones. No condition.
-/
namespace Go.Proofs.YtkjdkeolkigibaaGreat
set_option linter.unusedVariables false
namespace Vi
open Sha
/-- What a datagram with a long header begins with: an error, or its space, ids, token; how far it goes. -/
inductive PM where
  | no (e : Int)
  | ok (sp : BitVec 8) (t f k : Bs) (at_ en : Nat)
def longP (b : Bs) : PM :=
  if L b 0 &&& 48#8 ≠ 0#8 ∧ L b 0 &&& 48#8 ≠ 32#8 then .no 5
  else if 5 ≤ b.length ∧ (b.drop 1).take 4 ≠ [0#8, 0#8, 0#8, 1#8] then .no 12
  else match bytesM b 0 5 with
    | (_, l, e) => match partsM (if L b 0 &&& 48#8 = 0#8 then 0#8 else 1#8) l e with
      | ((t, f, k, n), l', e') => if e' ≠ 0 then .no e' else .ok (if L b 0 &&& 48#8 = 0#8 then 0#8 else 1#8) t f k (b.length - l'.length) (b.length - l'.length + n)
end Vi
namespace Sx
open Sha Vi

/-- What is parsed: a space, ids, a token, no number; how far it goes. -/
abbrev psC (a b c : Nat) (sp : BitVec 8) (t f k : Sl) (at_ en : Nat) : List Seg := [.one (.w8 sp), .one (svC a t), .one (svC b f), .one (svC c k), .one (.bool false), .one (.slc none 0 0), .one (.int .i64 (at_ : Nat)), .one (.int .i64 (en : Nat))]
abbrev ps0 : List Seg := [.one (.w8 0#8), .one (.slc none 0 0), .one (.slc none 0 0), .one (.slc none 0 0), .one (.bool false), .one (.slc none 0 0), .one (.int .i64 0), .one (.int .i64 0)]
/-- What is answered: nothing, with an error; or what was parsed, in blocks of its own behind the given ones. -/
def psRes (h0 : List (List Seg)) (m : PM) (y : SV) (hs : List (List Seg)) : Prop := match m with
  | .no e => y = .tup [.agg ps0, .c (.int .i64 e)] ∧ hs = h0
  | .ok sp t f k at_ en => ∃ T F K : Sl, T.Ok ∧ F.Ok ∧ K.Ok ∧ T.l = t ∧ F.l = f ∧ K.l = k ∧ y = .tup [.agg (psC h0.length (h0.length + 1) (h0.length + 2) sp T F K at_ en), .c (.int .i64 0)] ∧ hs = h0 ++ [svB T, svB F, svB K]
theorem ver_row (i : Nat) (hi : i < 4) : nthC [.w8 0#8, .w8 0#8, .w8 0#8, .w8 1#8] i = .w8 (L [0#8, 0#8, 0#8, 1#8] i) := nthC_w8 [0#8, 0#8, 0#8, 1#8] i hi
set_option maxRecDepth 20000 in
set_option maxHeartbeats 8000000 in
theorem fn_parseLong (s : Sl) (hs : s.Ok) (h0 : 0 < s.l.length) : FnR Tryz.prog tds 24 1 [svB s] [.c (svC 0 s)] (fun _ => True)
    (fun y hs => psRes [svB s] (longP s.l) y hs) := by
  refine fn_of_body tds_ok follows_ Tryz.func24 rfl (t := .a (.c (svC 0 s)) :: anys (Tryz.f24.ntmps - 1)) rfl (fun w r0 hr0 _ => ?_)
  obtain ⟨x0, rfl⟩ := List.length_eq_one_iff.1 hr0
  have hz := hs.pos h0
  have hN := hs.fit
  have hcp := hs.cap
  have hsm := hs.small
  rw [svB_row hz]
  (repeat first | refine And.intro (by omega) ?_ | refine And.intro (by decide) ?_ | (with_reducible refine frc_parts (by first | omega | decide) ?_) | (with_reducible refine frc_bytesL (by first | omega | decide) ?_) | refine And.intro rfl ?_)
  with_reducible refine frc_winA 0 rfl h0 ?_
  by_cases k0 : L s.l 0 &&& 48#8 = 0#8
  · have e0 : decide (L s.l 0 &&& 48#8 = 0#8) = true := decide_eq_true k0
    (repeat first | refine And.intro (by omega) ?_ | refine And.intro (by decide) ?_ | refine And.intro rfl ?_ | refine And.intro (fun _ => ?_) (fun h => Bool.noConfusion h) | refine And.intro (fun h => Bool.noConfusion h) (fun _ => ?_) | refine And.intro (fun _ => ?_) (fun h => absurd h (by rw [e0]; decide)) | refine And.intro (fun h => absurd h (by rw [e0]; decide)) (fun _ => ?_))
    by_cases h5 : 5 ≤ s.l.length
    · have e5 : decide ((5 : Int) ≤ (s.l.length : Int)) = true := decide_eq_true (by omega)
      (repeat first | refine And.intro (by omega) ?_ | refine And.intro (by decide) ?_ | refine And.intro rfl ?_ | refine And.intro (fun _ => ?_) (fun h => Bool.noConfusion h) | refine And.intro (fun h => Bool.noConfusion h) (fun _ => ?_) | refine And.intro (fun _ => ?_) (fun h => absurd h (by rw [e0]; decide)) | refine And.intro (fun h => absurd h (by rw [e0]; decide)) (fun _ => ?_) | refine And.intro (fun _ => ?_) (fun h => absurd h (by rw [e5]; decide)) | refine And.intro (fun h => absurd h (by rw [e5]; decide)) (fun _ => ?_))
      have l4 : ((s.l.drop 1).take 4).length = 4 := by rw [List.length_take, List.length_drop]; omega
      refine call_same (fn_equal ⟨s.z, s.N, s.o + 1, s.c - 1, (s.l.drop 1).take 4⟩ ⟨false, 4, 0, 4, [0#8, 0#8, 0#8, 1#8]⟩ ⟨(by rw [l4]; dsimp only; omega), (by rw [l4]; dsimp only; omega), (fun h => by rw [hz] at h; cases h), (by rw [l4]; omega)⟩ ⟨by decide, by decide, fun h => Bool.noConfusion h, by decide⟩) [0, 3] rfl ?_ ?_ (fun _ _ => trivial) ?_
      · refine ⟨rfl, by show (if s.c = 1 then s.o else s.o + 1 * 1) = s.o + 1; rw [if_neg (by omega)], l4.symm, rfl, ?_⟩
        (repeat first | exact trivial | refine ent1 ?_)
      · rw [svB_row (s := ⟨s.z, s.N, s.o + 1, s.c - 1, (s.l.drop 1).take 4⟩) hz]
        refine ⟨rfl, fun j hj => eqC_win (fun i hi => ?_) j, ?_⟩
        · have hi : i < 4 := by rw [← l4]; exact hi
          have := winF_at s.o s.l.length (L s.l) (i := 1 + i) (by omega)
          rw [← Nat.add_assoc] at this
          rw [this, L_sub _ _ _ _ hi]
        refine ⟨rfl, fun j hj => eqC_win0 (fun i hi => ver_row i hi) j, trivial⟩
      rintro x hs' ⟨rfl, rfl⟩
      by_cases h6 : (s.l.drop 1).take 4 = [0#8, 0#8, 0#8, 1#8]
      rotate_left
      · have e6 : (!decide ((s.l.drop 1).take 4 = [0#8, 0#8, 0#8, 1#8])) = true := by rw [decide_eq_false h6]; rfl
        (repeat first | refine And.intro (by omega) ?_ | refine And.intro (by decide) ?_ | refine And.intro rfl ?_ | refine And.intro (fun _ => ?_) (fun h => Bool.noConfusion h) | refine And.intro (fun h => Bool.noConfusion h) (fun _ => ?_) | refine And.intro (fun _ => ?_) (fun h => absurd h (by rw [e5]; decide)) | refine And.intro (fun h => absurd h (by rw [e5]; decide)) (fun _ => ?_) | refine And.intro (fun _ => ?_) (fun h => absurd h (by rw [e6]; decide)) | refine And.intro (fun h => absurd h (by rw [e6]; decide)) (fun _ => ?_))
        have hM : longP s.l = .no 12 := by unfold longP; rw [if_neg (fun e => by first | exact e.1 k0 | exact e.2 k1), if_pos ⟨h5, h6⟩]
        rw [hM]
        refine ⟨.tup [.agg ps0, .c (.int .i64 12)], _, ⟨[0], ⟨rfl, rfl, rfl⟩, ?_⟩, rfl, rfl⟩
        (repeat first | exact trivial | refine ent1 ?_)
      have e6 : (!decide ((s.l.drop 1).take 4 = [0#8, 0#8, 0#8, 1#8])) = false := by rw [decide_eq_true h6]; rfl
      (repeat first | refine And.intro (by omega) ?_ | refine And.intro (by decide) ?_ | refine And.intro rfl ?_ | refine And.intro (fun _ => ?_) (fun h => Bool.noConfusion h) | refine And.intro (fun h => Bool.noConfusion h) (fun _ => ?_) | refine And.intro (fun _ => ?_) (fun h => absurd h (by rw [e5]; decide)) | refine And.intro (fun h => absurd h (by rw [e5]; decide)) (fun _ => ?_) | refine And.intro (fun _ => ?_) (fun h => absurd h (by rw [e6]; decide)) | refine And.intro (fun h => absurd h (by rw [e6]; decide)) (fun _ => ?_))
      refine call_same (fn_vread s hs) [0] rfl (by (repeat first | exact trivial | refine ent1 ?_)) ?_ (fun _ _ => trivial) ?_
      · rw [svB_row hz]
        (repeat first | exact trivial | refine ent1 ?_)
      rintro x hs' ⟨A, r, hAl, hr, rfl, rfl⟩
      (repeat first | refine And.intro (by omega) ?_ | refine And.intro (by decide) ?_ | refine And.intro rfl ?_ | refine And.intro (fun _ => ?_) (fun h => Bool.noConfusion h) | refine And.intro (fun h => Bool.noConfusion h) (fun _ => ?_))
      refine call_same (fn_rbytes A r 5 hr) [5, 4] rfl (by (repeat first | exact trivial | refine ent1 ?_)) ?_ (fun _ _ => trivial) ?_
      · refine eqC_btsM ?_
        (repeat first | exact trivial | refine ent1 ?_)
      rintro x hs' ⟨t0, r0', l0, e0', x0', hr0', ht0, rfl, rfl⟩
      (repeat first | refine And.intro (by omega) ?_ | refine And.intro (by decide) ?_ | refine And.intro rfl ?_ | refine And.intro (fun _ => ?_) (fun h => Bool.noConfusion h) | refine And.intro (fun h => Bool.noConfusion h) (fun _ => ?_))
      refine call_same (fn_takeId A r0' hr0') [5, 4] rfl (by (repeat first | exact trivial | refine ent1 ?_)) ?_ (fun _ _ => trivial) ?_
      · refine eqC_btsM ?_
        (repeat first | exact trivial | refine ent1 ?_)
      rintro x hs' ⟨t, r1, l1, e1', hx1, hr1, ht, rfl, rfl⟩
      (repeat first | refine And.intro (by omega) ?_ | refine And.intro (by decide) ?_ | refine And.intro rfl ?_ | refine And.intro (fun _ => ?_) (fun h => Bool.noConfusion h) | refine And.intro (fun h => Bool.noConfusion h) (fun _ => ?_))
      refine call_same (fn_takeId A r1 hr1) [5, 4] rfl (by (repeat first | exact trivial | refine ent1 ?_)) ?_ (fun _ _ => trivial) ?_
      · refine eqC_btsM ?_
        (repeat first | exact trivial | refine ent1 ?_)
      rintro x hs' ⟨f, r2, l2, e2', hx2, hr2, hf, rfl, rfl⟩
      (repeat first | refine And.intro (by omega) ?_ | refine And.intro (by decide) ?_ | refine And.intro rfl ?_ | refine And.intro (fun _ => ?_) (fun h => Bool.noConfusion h) | refine And.intro (fun h => Bool.noConfusion h) (fun _ => ?_))
      refine call_same (fn_rlong A r2 64 hr2 (by decide)) [5, 4] rfl (by (repeat first | exact trivial | refine ent1 ?_)) ?_ (fun _ _ => trivial) ?_
      · refine eqC_btsM ?_
        (repeat first | exact trivial | refine ent1 ?_)
      rintro x hs' ⟨k, r3, l3, e3', hx3, hr3, hk, rfl, rfl⟩
      (repeat first | refine And.intro (by omega) ?_ | refine And.intro (by decide) ?_ | refine And.intro rfl ?_ | refine And.intro (fun _ => ?_) (fun h => Bool.noConfusion h) | refine And.intro (fun h => Bool.noConfusion h) (fun _ => ?_))
      refine call_same (fn_rcount A r3 1204 hr3 (by decide)) [5, 4] rfl (by (repeat first | exact trivial | refine ent1 ?_)) ?_ (fun _ _ => trivial) ?_
      · refine eqC_btsM ?_
        (repeat first | exact trivial | refine ent1 ?_)
      rintro x hs' ⟨n, r4, l4, e4', hx4, hr4, rfl, rfl⟩
      (repeat first | refine And.intro (by omega) ?_ | refine And.intro (by decide) ?_ | refine And.intro rfl ?_ | refine And.intro (fun _ => ?_) (fun h => Bool.noConfusion h) | refine And.intro (fun h => Bool.noConfusion h) (fun _ => ?_))
      refine call_same (fn_rleft A r4 hr4) [5, 4] rfl (by (repeat first | exact trivial | refine ent1 ?_)) ?_ (fun _ _ => trivial) ?_
      · refine eqC_btsM ?_
        (repeat first | exact trivial | refine ent1 ?_)
      rintro x hs' ⟨rfl, rfl⟩
      by_cases hn : l4.length < n
      · have q4 : decide ((l4.length : Int) < (n : Int)) = true := decide_eq_true (by omega)
        (repeat first | refine And.intro (by omega) ?_ | refine And.intro (by decide) ?_ | refine And.intro rfl ?_ | refine And.intro (fun _ => ?_) (fun h => Bool.noConfusion h) | refine And.intro (fun h => Bool.noConfusion h) (fun _ => ?_) | refine And.intro (fun _ => ?_) (fun h => absurd h (by rw [q4]; decide)) | refine And.intro (fun h => absurd h (by rw [q4]; decide)) (fun _ => ?_))
        refine call_same (fn_rfail A r4 3 hr4) [5, 4] rfl (by (repeat first | exact trivial | refine ent1 ?_)) ?_ (fun _ _ => trivial) ?_
        · refine eqC_btsM ?_
          (repeat first | exact trivial | refine ent1 ?_)
        rintro x hs' ⟨r5, l5, e5', hx5, hr5, rfl, rfl⟩
        (repeat first | refine And.intro (by omega) ?_ | refine And.intro (by decide) ?_ | (with_reducible refine frc_parts (by first | omega | decide) ?_) | (with_reducible refine frc_bytesL (by first | omega | decide) ?_) | refine And.intro rfl ?_)
        refine call_same (fn_rerr A r5 hr5) [5, 4] rfl (by (repeat first | exact trivial | refine ent1 ?_)) ?_ (fun _ _ => trivial) ?_
        · refine eqC_btsM ?_
          (repeat first | exact trivial | refine ent1 ?_)
        rintro x hs' ⟨rfl, rfl⟩
        have hLen : lenM l3 e3' = (n, l5, e5') := by
          unfold lenM
          rw [hx4]
          show (match (if l4.length < n then failM l4 e4' 3 else (l4, e4')) with | (l2, e2) => (n, l2, e2)) = _
          rw [if_pos hn, hx5]
        have hPa : partsM 0#8 l0 e0' = ((t.l, f.l, (k).l, n), l5, e5') := by
          unfold partsM
          rw [hx1]
          show (match idM l1 e1' with | (f, l2, e2) => match (if 0#8 = 0#8 then longM l2 e2 64 else ([], l2, e2)) with | (k, l3, e3) => match lenM l3 e3 with | (n, l4, e4) => ((t.l, f, k, n), l4, e4)) = _
          rw [hx2]
          show (match longM l2 e2' 64 with | (k, l3, e3) => match lenM l3 e3 with | (n, l4, e4) => ((t.l, f.l, k, n), l4, e4)) = _
          rw [hx3]
          show (match lenM l3 e3' with | (n, l4, e4) => ((t.l, f.l, k.l, n), l4, e4)) = _
          rw [hLen]
        have hM : longP s.l = if e5' ≠ 0 then .no e5' else .ok 0#8 t.l f.l (k).l (s.l.length - l5.length) (s.l.length - l5.length + n) := by
          unfold longP
          rw [if_neg (fun e => by first | exact e.1 k0 | exact e.2 k1), if_neg (fun e => e.2 h6), x0', if_pos k0]
          show (match partsM 0#8 l0 e0' with | ((t, f, k, n), l', e') => if e' ≠ 0 then PM.no e' else .ok 0#8 t f k (s.l.length - l'.length) (s.l.length - l'.length + n)) = _
          rw [hPa]
        by_cases h5 : e5' = 0
        rotate_left
        · have q5 : decide (e5' ≠ 0) = true := decide_eq_true h5
          rw [hM, if_pos h5]
          (repeat first | refine And.intro (by omega) ?_ | refine And.intro (by decide) ?_ | refine And.intro rfl ?_ | refine And.intro (fun _ => ?_) (fun h => Bool.noConfusion h) | refine And.intro (fun h => Bool.noConfusion h) (fun _ => ?_) | refine And.intro (fun _ => ?_) (fun h => absurd h (by rw [q5]; decide)) | refine And.intro (fun h => absurd h (by rw [q5]; decide)) (fun _ => ?_))
          refine ⟨.tup [.agg ps0, .c (.int .i64 e5')], _, ⟨[0], ⟨rfl, rfl, rfl⟩, ?_⟩, rfl, rfl⟩
          (repeat first | exact trivial | refine ent1 ?_)
        have q5 : decide (e5' ≠ 0) = false := decide_eq_false (by omega)
        rw [hM, if_neg (show ¬ e5' ≠ 0 from fun e => e h5)]
        (repeat first | refine And.intro (by omega) ?_ | refine And.intro (by decide) ?_ | refine And.intro rfl ?_ | refine And.intro (fun _ => ?_) (fun h => Bool.noConfusion h) | refine And.intro (fun h => Bool.noConfusion h) (fun _ => ?_) | refine And.intro (fun _ => ?_) (fun h => absurd h (by rw [q5]; decide)) | refine And.intro (fun h => absurd h (by rw [q5]; decide)) (fun _ => ?_))
        refine call_same (fn_rleft A r5 hr5) [5, 4] rfl (by (repeat first | exact trivial | refine ent1 ?_)) ?_ (fun _ _ => trivial) ?_
        · refine eqC_btsM ?_
          (repeat first | exact trivial | refine ent1 ?_)
        rintro x hs' ⟨rfl, rfl⟩
        have hft := hr5.fit
        have hAs : A.l.length = s.l.length := by rw [hAl]
        have hnl := countM_le hx4
        (repeat first | refine And.intro (by omega) ?_ | refine And.intro (by decide) ?_ | (with_reducible refine frc_parts (by first | omega | decide) ?_) | (with_reducible refine frc_bytesL (by first | omega | decide) ?_) | refine And.intro rfl ?_)
        refine ⟨.tup [.agg (psC 1 2 3 0#8 t f (k) (s.l.length - l5.length) (s.l.length - l5.length + n)), .c (.int .i64 0)], [[.row s.N (winF s.o s.l.length (L s.l))], svB t, svB f, svB (k)], ⟨[0, 7, 8, 9], ⟨rfl, rfl, rfl⟩, ?_⟩, t, f, k, ht, hf, hk, rfl, rfl, rfl, rfl, rfl⟩
        (repeat first | exact trivial | refine ent1 ?_)
        refine eqC_btsM ?_
        (repeat first | exact trivial | refine ent1 ?_)
        refine eqC_btsM ?_
        (repeat first | exact trivial | refine ent1 ?_)
        refine eqC_btsM ?_
        (repeat first | exact trivial | refine ent1 ?_)
      have q4 : decide ((l4.length : Int) < (n : Int)) = false := decide_eq_false (by omega)
      (repeat first | refine And.intro (by omega) ?_ | refine And.intro (by decide) ?_ | refine And.intro rfl ?_ | refine And.intro (fun _ => ?_) (fun h => Bool.noConfusion h) | refine And.intro (fun h => Bool.noConfusion h) (fun _ => ?_) | refine And.intro (fun _ => ?_) (fun h => absurd h (by rw [q4]; decide)) | refine And.intro (fun h => absurd h (by rw [q4]; decide)) (fun _ => ?_))
      obtain ⟨r5, l5, e5', hr5, hx5⟩ : ∃ r5 l5 e5', RdI A r5 l5 e5' ∧ (r5, l5, e5') = (r4, l4, e4') := ⟨r4, l4, e4', hr4, rfl⟩
      simp only [Prod.mk.injEq] at hx5
      obtain ⟨rfl, rfl, rfl⟩ := hx5
      refine call_same (fn_rerr A r5 hr5) [5, 4] rfl (by (repeat first | exact trivial | refine ent1 ?_)) ?_ (fun _ _ => trivial) ?_
      · refine eqC_btsM ?_
        (repeat first | exact trivial | refine ent1 ?_)
      rintro x hs' ⟨rfl, rfl⟩
      have hLen : lenM l3 e3' = (n, l5, e5') := by
        unfold lenM
        rw [hx4]
        show (match (if l5.length < n then failM l5 e5' 3 else (l5, e5')) with | (l2, e2) => (n, l2, e2)) = _
        rw [if_neg hn]
      have hPa : partsM 0#8 l0 e0' = ((t.l, f.l, (k).l, n), l5, e5') := by
        unfold partsM
        rw [hx1]
        show (match idM l1 e1' with | (f, l2, e2) => match (if 0#8 = 0#8 then longM l2 e2 64 else ([], l2, e2)) with | (k, l3, e3) => match lenM l3 e3 with | (n, l4, e4) => ((t.l, f, k, n), l4, e4)) = _
        rw [hx2]
        show (match longM l2 e2' 64 with | (k, l3, e3) => match lenM l3 e3 with | (n, l4, e4) => ((t.l, f.l, k, n), l4, e4)) = _
        rw [hx3]
        show (match lenM l3 e3' with | (n, l4, e4) => ((t.l, f.l, k.l, n), l4, e4)) = _
        rw [hLen]
      have hM : longP s.l = if e5' ≠ 0 then .no e5' else .ok 0#8 t.l f.l (k).l (s.l.length - l5.length) (s.l.length - l5.length + n) := by
        unfold longP
        rw [if_neg (fun e => by first | exact e.1 k0 | exact e.2 k1), if_neg (fun e => e.2 h6), x0', if_pos k0]
        show (match partsM 0#8 l0 e0' with | ((t, f, k, n), l', e') => if e' ≠ 0 then PM.no e' else .ok 0#8 t f k (s.l.length - l'.length) (s.l.length - l'.length + n)) = _
        rw [hPa]
      by_cases h5 : e5' = 0
      rotate_left
      · have q5 : decide (e5' ≠ 0) = true := decide_eq_true h5
        rw [hM, if_pos h5]
        (repeat first | refine And.intro (by omega) ?_ | refine And.intro (by decide) ?_ | refine And.intro rfl ?_ | refine And.intro (fun _ => ?_) (fun h => Bool.noConfusion h) | refine And.intro (fun h => Bool.noConfusion h) (fun _ => ?_) | refine And.intro (fun _ => ?_) (fun h => absurd h (by rw [q5]; decide)) | refine And.intro (fun h => absurd h (by rw [q5]; decide)) (fun _ => ?_))
        refine ⟨.tup [.agg ps0, .c (.int .i64 e5')], _, ⟨[0], ⟨rfl, rfl, rfl⟩, ?_⟩, rfl, rfl⟩
        (repeat first | exact trivial | refine ent1 ?_)
      have q5 : decide (e5' ≠ 0) = false := decide_eq_false (by omega)
      rw [hM, if_neg (show ¬ e5' ≠ 0 from fun e => e h5)]
      (repeat first | refine And.intro (by omega) ?_ | refine And.intro (by decide) ?_ | refine And.intro rfl ?_ | refine And.intro (fun _ => ?_) (fun h => Bool.noConfusion h) | refine And.intro (fun h => Bool.noConfusion h) (fun _ => ?_) | refine And.intro (fun _ => ?_) (fun h => absurd h (by rw [q5]; decide)) | refine And.intro (fun h => absurd h (by rw [q5]; decide)) (fun _ => ?_))
      refine call_same (fn_rleft A r5 hr5) [5, 4] rfl (by (repeat first | exact trivial | refine ent1 ?_)) ?_ (fun _ _ => trivial) ?_
      · refine eqC_btsM ?_
        (repeat first | exact trivial | refine ent1 ?_)
      rintro x hs' ⟨rfl, rfl⟩
      have hft := hr5.fit
      have hAs : A.l.length = s.l.length := by rw [hAl]
      have hnl := countM_le hx4
      (repeat first | refine And.intro (by omega) ?_ | refine And.intro (by decide) ?_ | (with_reducible refine frc_parts (by first | omega | decide) ?_) | (with_reducible refine frc_bytesL (by first | omega | decide) ?_) | refine And.intro rfl ?_)
      refine ⟨.tup [.agg (psC 1 2 3 0#8 t f (k) (s.l.length - l5.length) (s.l.length - l5.length + n)), .c (.int .i64 0)], [[.row s.N (winF s.o s.l.length (L s.l))], svB t, svB f, svB (k)], ⟨[0, 7, 8, 9], ⟨rfl, rfl, rfl⟩, ?_⟩, t, f, k, ht, hf, hk, rfl, rfl, rfl, rfl, rfl⟩
      (repeat first | exact trivial | refine ent1 ?_)
      refine eqC_btsM ?_
      (repeat first | exact trivial | refine ent1 ?_)
      refine eqC_btsM ?_
      (repeat first | exact trivial | refine ent1 ?_)
      refine eqC_btsM ?_
      (repeat first | exact trivial | refine ent1 ?_)
    have e5 : decide ((5 : Int) ≤ (s.l.length : Int)) = false := decide_eq_false (by omega)
    (repeat first | refine And.intro (by omega) ?_ | refine And.intro (by decide) ?_ | refine And.intro rfl ?_ | refine And.intro (fun _ => ?_) (fun h => Bool.noConfusion h) | refine And.intro (fun h => Bool.noConfusion h) (fun _ => ?_) | refine And.intro (fun _ => ?_) (fun h => absurd h (by rw [e0]; decide)) | refine And.intro (fun h => absurd h (by rw [e0]; decide)) (fun _ => ?_) | refine And.intro (fun _ => ?_) (fun h => absurd h (by rw [e5]; decide)) | refine And.intro (fun h => absurd h (by rw [e5]; decide)) (fun _ => ?_))
    refine call_same (fn_vread s hs) [0] rfl (by (repeat first | exact trivial | refine ent1 ?_)) ?_ (fun _ _ => trivial) ?_
    · rw [svB_row hz]
      (repeat first | exact trivial | refine ent1 ?_)
    rintro x hs' ⟨A, r, hAl, hr, rfl, rfl⟩
    (repeat first | refine And.intro (by omega) ?_ | refine And.intro (by decide) ?_ | refine And.intro rfl ?_ | refine And.intro (fun _ => ?_) (fun h => Bool.noConfusion h) | refine And.intro (fun h => Bool.noConfusion h) (fun _ => ?_))
    refine call_same (fn_rbytes A r 5 hr) [4, 3] rfl (by (repeat first | exact trivial | refine ent1 ?_)) ?_ (fun _ _ => trivial) ?_
    · refine eqC_btsM ?_
      (repeat first | exact trivial | refine ent1 ?_)
    rintro x hs' ⟨t0, r0', l0, e0', x0', hr0', ht0, rfl, rfl⟩
    (repeat first | refine And.intro (by omega) ?_ | refine And.intro (by decide) ?_ | refine And.intro rfl ?_ | refine And.intro (fun _ => ?_) (fun h => Bool.noConfusion h) | refine And.intro (fun h => Bool.noConfusion h) (fun _ => ?_))
    refine call_same (fn_takeId A r0' hr0') [4, 3] rfl (by (repeat first | exact trivial | refine ent1 ?_)) ?_ (fun _ _ => trivial) ?_
    · refine eqC_btsM ?_
      (repeat first | exact trivial | refine ent1 ?_)
    rintro x hs' ⟨t, r1, l1, e1', hx1, hr1, ht, rfl, rfl⟩
    (repeat first | refine And.intro (by omega) ?_ | refine And.intro (by decide) ?_ | refine And.intro rfl ?_ | refine And.intro (fun _ => ?_) (fun h => Bool.noConfusion h) | refine And.intro (fun h => Bool.noConfusion h) (fun _ => ?_))
    refine call_same (fn_takeId A r1 hr1) [4, 3] rfl (by (repeat first | exact trivial | refine ent1 ?_)) ?_ (fun _ _ => trivial) ?_
    · refine eqC_btsM ?_
      (repeat first | exact trivial | refine ent1 ?_)
    rintro x hs' ⟨f, r2, l2, e2', hx2, hr2, hf, rfl, rfl⟩
    (repeat first | refine And.intro (by omega) ?_ | refine And.intro (by decide) ?_ | refine And.intro rfl ?_ | refine And.intro (fun _ => ?_) (fun h => Bool.noConfusion h) | refine And.intro (fun h => Bool.noConfusion h) (fun _ => ?_))
    refine call_same (fn_rlong A r2 64 hr2 (by decide)) [4, 3] rfl (by (repeat first | exact trivial | refine ent1 ?_)) ?_ (fun _ _ => trivial) ?_
    · refine eqC_btsM ?_
      (repeat first | exact trivial | refine ent1 ?_)
    rintro x hs' ⟨k, r3, l3, e3', hx3, hr3, hk, rfl, rfl⟩
    (repeat first | refine And.intro (by omega) ?_ | refine And.intro (by decide) ?_ | refine And.intro rfl ?_ | refine And.intro (fun _ => ?_) (fun h => Bool.noConfusion h) | refine And.intro (fun h => Bool.noConfusion h) (fun _ => ?_))
    refine call_same (fn_rcount A r3 1204 hr3 (by decide)) [4, 3] rfl (by (repeat first | exact trivial | refine ent1 ?_)) ?_ (fun _ _ => trivial) ?_
    · refine eqC_btsM ?_
      (repeat first | exact trivial | refine ent1 ?_)
    rintro x hs' ⟨n, r4, l4, e4', hx4, hr4, rfl, rfl⟩
    (repeat first | refine And.intro (by omega) ?_ | refine And.intro (by decide) ?_ | refine And.intro rfl ?_ | refine And.intro (fun _ => ?_) (fun h => Bool.noConfusion h) | refine And.intro (fun h => Bool.noConfusion h) (fun _ => ?_))
    refine call_same (fn_rleft A r4 hr4) [4, 3] rfl (by (repeat first | exact trivial | refine ent1 ?_)) ?_ (fun _ _ => trivial) ?_
    · refine eqC_btsM ?_
      (repeat first | exact trivial | refine ent1 ?_)
    rintro x hs' ⟨rfl, rfl⟩
    by_cases hn : l4.length < n
    · have q4 : decide ((l4.length : Int) < (n : Int)) = true := decide_eq_true (by omega)
      (repeat first | refine And.intro (by omega) ?_ | refine And.intro (by decide) ?_ | refine And.intro rfl ?_ | refine And.intro (fun _ => ?_) (fun h => Bool.noConfusion h) | refine And.intro (fun h => Bool.noConfusion h) (fun _ => ?_) | refine And.intro (fun _ => ?_) (fun h => absurd h (by rw [q4]; decide)) | refine And.intro (fun h => absurd h (by rw [q4]; decide)) (fun _ => ?_))
      refine call_same (fn_rfail A r4 3 hr4) [4, 3] rfl (by (repeat first | exact trivial | refine ent1 ?_)) ?_ (fun _ _ => trivial) ?_
      · refine eqC_btsM ?_
        (repeat first | exact trivial | refine ent1 ?_)
      rintro x hs' ⟨r5, l5, e5', hx5, hr5, rfl, rfl⟩
      (repeat first | refine And.intro (by omega) ?_ | refine And.intro (by decide) ?_ | (with_reducible refine frc_parts (by first | omega | decide) ?_) | (with_reducible refine frc_bytesL (by first | omega | decide) ?_) | refine And.intro rfl ?_)
      refine call_same (fn_rerr A r5 hr5) [4, 3] rfl (by (repeat first | exact trivial | refine ent1 ?_)) ?_ (fun _ _ => trivial) ?_
      · refine eqC_btsM ?_
        (repeat first | exact trivial | refine ent1 ?_)
      rintro x hs' ⟨rfl, rfl⟩
      have hLen : lenM l3 e3' = (n, l5, e5') := by
        unfold lenM
        rw [hx4]
        show (match (if l4.length < n then failM l4 e4' 3 else (l4, e4')) with | (l2, e2) => (n, l2, e2)) = _
        rw [if_pos hn, hx5]
      have hPa : partsM 0#8 l0 e0' = ((t.l, f.l, (k).l, n), l5, e5') := by
        unfold partsM
        rw [hx1]
        show (match idM l1 e1' with | (f, l2, e2) => match (if 0#8 = 0#8 then longM l2 e2 64 else ([], l2, e2)) with | (k, l3, e3) => match lenM l3 e3 with | (n, l4, e4) => ((t.l, f, k, n), l4, e4)) = _
        rw [hx2]
        show (match longM l2 e2' 64 with | (k, l3, e3) => match lenM l3 e3 with | (n, l4, e4) => ((t.l, f.l, k, n), l4, e4)) = _
        rw [hx3]
        show (match lenM l3 e3' with | (n, l4, e4) => ((t.l, f.l, k.l, n), l4, e4)) = _
        rw [hLen]
      have hM : longP s.l = if e5' ≠ 0 then .no e5' else .ok 0#8 t.l f.l (k).l (s.l.length - l5.length) (s.l.length - l5.length + n) := by
        unfold longP
        rw [if_neg (fun e => by first | exact e.1 k0 | exact e.2 k1), if_neg (fun e => h5 e.1), x0', if_pos k0]
        show (match partsM 0#8 l0 e0' with | ((t, f, k, n), l', e') => if e' ≠ 0 then PM.no e' else .ok 0#8 t f k (s.l.length - l'.length) (s.l.length - l'.length + n)) = _
        rw [hPa]
      by_cases h5 : e5' = 0
      rotate_left
      · have q5 : decide (e5' ≠ 0) = true := decide_eq_true h5
        rw [hM, if_pos h5]
        (repeat first | refine And.intro (by omega) ?_ | refine And.intro (by decide) ?_ | refine And.intro rfl ?_ | refine And.intro (fun _ => ?_) (fun h => Bool.noConfusion h) | refine And.intro (fun h => Bool.noConfusion h) (fun _ => ?_) | refine And.intro (fun _ => ?_) (fun h => absurd h (by rw [q5]; decide)) | refine And.intro (fun h => absurd h (by rw [q5]; decide)) (fun _ => ?_))
        refine ⟨.tup [.agg ps0, .c (.int .i64 e5')], _, ⟨[0], ⟨rfl, rfl, rfl⟩, ?_⟩, rfl, rfl⟩
        (repeat first | exact trivial | refine ent1 ?_)
      have q5 : decide (e5' ≠ 0) = false := decide_eq_false (by omega)
      rw [hM, if_neg (show ¬ e5' ≠ 0 from fun e => e h5)]
      (repeat first | refine And.intro (by omega) ?_ | refine And.intro (by decide) ?_ | refine And.intro rfl ?_ | refine And.intro (fun _ => ?_) (fun h => Bool.noConfusion h) | refine And.intro (fun h => Bool.noConfusion h) (fun _ => ?_) | refine And.intro (fun _ => ?_) (fun h => absurd h (by rw [q5]; decide)) | refine And.intro (fun h => absurd h (by rw [q5]; decide)) (fun _ => ?_))
      refine call_same (fn_rleft A r5 hr5) [4, 3] rfl (by (repeat first | exact trivial | refine ent1 ?_)) ?_ (fun _ _ => trivial) ?_
      · refine eqC_btsM ?_
        (repeat first | exact trivial | refine ent1 ?_)
      rintro x hs' ⟨rfl, rfl⟩
      have hft := hr5.fit
      have hAs : A.l.length = s.l.length := by rw [hAl]
      have hnl := countM_le hx4
      (repeat first | refine And.intro (by omega) ?_ | refine And.intro (by decide) ?_ | (with_reducible refine frc_parts (by first | omega | decide) ?_) | (with_reducible refine frc_bytesL (by first | omega | decide) ?_) | refine And.intro rfl ?_)
      refine ⟨.tup [.agg (psC 1 2 3 0#8 t f (k) (s.l.length - l5.length) (s.l.length - l5.length + n)), .c (.int .i64 0)], [[.row s.N (winF s.o s.l.length (L s.l))], svB t, svB f, svB (k)], ⟨[0, 6, 7, 8], ⟨rfl, rfl, rfl⟩, ?_⟩, t, f, k, ht, hf, hk, rfl, rfl, rfl, rfl, rfl⟩
      (repeat first | exact trivial | refine ent1 ?_)
      refine eqC_btsM ?_
      (repeat first | exact trivial | refine ent1 ?_)
      refine eqC_btsM ?_
      (repeat first | exact trivial | refine ent1 ?_)
      refine eqC_btsM ?_
      (repeat first | exact trivial | refine ent1 ?_)
    have q4 : decide ((l4.length : Int) < (n : Int)) = false := decide_eq_false (by omega)
    (repeat first | refine And.intro (by omega) ?_ | refine And.intro (by decide) ?_ | refine And.intro rfl ?_ | refine And.intro (fun _ => ?_) (fun h => Bool.noConfusion h) | refine And.intro (fun h => Bool.noConfusion h) (fun _ => ?_) | refine And.intro (fun _ => ?_) (fun h => absurd h (by rw [q4]; decide)) | refine And.intro (fun h => absurd h (by rw [q4]; decide)) (fun _ => ?_))
    obtain ⟨r5, l5, e5', hr5, hx5⟩ : ∃ r5 l5 e5', RdI A r5 l5 e5' ∧ (r5, l5, e5') = (r4, l4, e4') := ⟨r4, l4, e4', hr4, rfl⟩
    simp only [Prod.mk.injEq] at hx5
    obtain ⟨rfl, rfl, rfl⟩ := hx5
    refine call_same (fn_rerr A r5 hr5) [4, 3] rfl (by (repeat first | exact trivial | refine ent1 ?_)) ?_ (fun _ _ => trivial) ?_
    · refine eqC_btsM ?_
      (repeat first | exact trivial | refine ent1 ?_)
    rintro x hs' ⟨rfl, rfl⟩
    have hLen : lenM l3 e3' = (n, l5, e5') := by
      unfold lenM
      rw [hx4]
      show (match (if l5.length < n then failM l5 e5' 3 else (l5, e5')) with | (l2, e2) => (n, l2, e2)) = _
      rw [if_neg hn]
    have hPa : partsM 0#8 l0 e0' = ((t.l, f.l, (k).l, n), l5, e5') := by
      unfold partsM
      rw [hx1]
      show (match idM l1 e1' with | (f, l2, e2) => match (if 0#8 = 0#8 then longM l2 e2 64 else ([], l2, e2)) with | (k, l3, e3) => match lenM l3 e3 with | (n, l4, e4) => ((t.l, f, k, n), l4, e4)) = _
      rw [hx2]
      show (match longM l2 e2' 64 with | (k, l3, e3) => match lenM l3 e3 with | (n, l4, e4) => ((t.l, f.l, k, n), l4, e4)) = _
      rw [hx3]
      show (match lenM l3 e3' with | (n, l4, e4) => ((t.l, f.l, k.l, n), l4, e4)) = _
      rw [hLen]
    have hM : longP s.l = if e5' ≠ 0 then .no e5' else .ok 0#8 t.l f.l (k).l (s.l.length - l5.length) (s.l.length - l5.length + n) := by
      unfold longP
      rw [if_neg (fun e => by first | exact e.1 k0 | exact e.2 k1), if_neg (fun e => h5 e.1), x0', if_pos k0]
      show (match partsM 0#8 l0 e0' with | ((t, f, k, n), l', e') => if e' ≠ 0 then PM.no e' else .ok 0#8 t f k (s.l.length - l'.length) (s.l.length - l'.length + n)) = _
      rw [hPa]
    by_cases h5 : e5' = 0
    rotate_left
    · have q5 : decide (e5' ≠ 0) = true := decide_eq_true h5
      rw [hM, if_pos h5]
      (repeat first | refine And.intro (by omega) ?_ | refine And.intro (by decide) ?_ | refine And.intro rfl ?_ | refine And.intro (fun _ => ?_) (fun h => Bool.noConfusion h) | refine And.intro (fun h => Bool.noConfusion h) (fun _ => ?_) | refine And.intro (fun _ => ?_) (fun h => absurd h (by rw [q5]; decide)) | refine And.intro (fun h => absurd h (by rw [q5]; decide)) (fun _ => ?_))
      refine ⟨.tup [.agg ps0, .c (.int .i64 e5')], _, ⟨[0], ⟨rfl, rfl, rfl⟩, ?_⟩, rfl, rfl⟩
      (repeat first | exact trivial | refine ent1 ?_)
    have q5 : decide (e5' ≠ 0) = false := decide_eq_false (by omega)
    rw [hM, if_neg (show ¬ e5' ≠ 0 from fun e => e h5)]
    (repeat first | refine And.intro (by omega) ?_ | refine And.intro (by decide) ?_ | refine And.intro rfl ?_ | refine And.intro (fun _ => ?_) (fun h => Bool.noConfusion h) | refine And.intro (fun h => Bool.noConfusion h) (fun _ => ?_) | refine And.intro (fun _ => ?_) (fun h => absurd h (by rw [q5]; decide)) | refine And.intro (fun h => absurd h (by rw [q5]; decide)) (fun _ => ?_))
    refine call_same (fn_rleft A r5 hr5) [4, 3] rfl (by (repeat first | exact trivial | refine ent1 ?_)) ?_ (fun _ _ => trivial) ?_
    · refine eqC_btsM ?_
      (repeat first | exact trivial | refine ent1 ?_)
    rintro x hs' ⟨rfl, rfl⟩
    have hft := hr5.fit
    have hAs : A.l.length = s.l.length := by rw [hAl]
    have hnl := countM_le hx4
    (repeat first | refine And.intro (by omega) ?_ | refine And.intro (by decide) ?_ | (with_reducible refine frc_parts (by first | omega | decide) ?_) | (with_reducible refine frc_bytesL (by first | omega | decide) ?_) | refine And.intro rfl ?_)
    refine ⟨.tup [.agg (psC 1 2 3 0#8 t f (k) (s.l.length - l5.length) (s.l.length - l5.length + n)), .c (.int .i64 0)], [[.row s.N (winF s.o s.l.length (L s.l))], svB t, svB f, svB (k)], ⟨[0, 6, 7, 8], ⟨rfl, rfl, rfl⟩, ?_⟩, t, f, k, ht, hf, hk, rfl, rfl, rfl, rfl, rfl⟩
    (repeat first | exact trivial | refine ent1 ?_)
    refine eqC_btsM ?_
    (repeat first | exact trivial | refine ent1 ?_)
    refine eqC_btsM ?_
    (repeat first | exact trivial | refine ent1 ?_)
    refine eqC_btsM ?_
    (repeat first | exact trivial | refine ent1 ?_)
  have e0 : decide (L s.l 0 &&& 48#8 = 0#8) = false := decide_eq_false k0
  by_cases k1 : L s.l 0 &&& 48#8 = 32#8
  · have e1 : decide (L s.l 0 &&& 48#8 = 32#8) = true := decide_eq_true k1
    (repeat first | refine And.intro (by omega) ?_ | refine And.intro (by decide) ?_ | refine And.intro rfl ?_ | refine And.intro (fun _ => ?_) (fun h => Bool.noConfusion h) | refine And.intro (fun h => Bool.noConfusion h) (fun _ => ?_) | refine And.intro (fun _ => ?_) (fun h => absurd h (by rw [e0]; decide)) | refine And.intro (fun h => absurd h (by rw [e0]; decide)) (fun _ => ?_) | refine And.intro (fun _ => ?_) (fun h => absurd h (by rw [e1]; decide)) | refine And.intro (fun h => absurd h (by rw [e1]; decide)) (fun _ => ?_))
    by_cases h5 : 5 ≤ s.l.length
    · have e5 : decide ((5 : Int) ≤ (s.l.length : Int)) = true := decide_eq_true (by omega)
      (repeat first | refine And.intro (by omega) ?_ | refine And.intro (by decide) ?_ | refine And.intro rfl ?_ | refine And.intro (fun _ => ?_) (fun h => Bool.noConfusion h) | refine And.intro (fun h => Bool.noConfusion h) (fun _ => ?_) | refine And.intro (fun _ => ?_) (fun h => absurd h (by rw [e0]; decide)) | refine And.intro (fun h => absurd h (by rw [e0]; decide)) (fun _ => ?_) | refine And.intro (fun _ => ?_) (fun h => absurd h (by rw [e1]; decide)) | refine And.intro (fun h => absurd h (by rw [e1]; decide)) (fun _ => ?_) | refine And.intro (fun _ => ?_) (fun h => absurd h (by rw [e5]; decide)) | refine And.intro (fun h => absurd h (by rw [e5]; decide)) (fun _ => ?_))
      have l4 : ((s.l.drop 1).take 4).length = 4 := by rw [List.length_take, List.length_drop]; omega
      refine call_same (fn_equal ⟨s.z, s.N, s.o + 1, s.c - 1, (s.l.drop 1).take 4⟩ ⟨false, 4, 0, 4, [0#8, 0#8, 0#8, 1#8]⟩ ⟨(by rw [l4]; dsimp only; omega), (by rw [l4]; dsimp only; omega), (fun h => by rw [hz] at h; cases h), (by rw [l4]; omega)⟩ ⟨by decide, by decide, fun h => Bool.noConfusion h, by decide⟩) [0, 3] rfl ?_ ?_ (fun _ _ => trivial) ?_
      · refine ⟨rfl, by show (if s.c = 1 then s.o else s.o + 1 * 1) = s.o + 1; rw [if_neg (by omega)], l4.symm, rfl, ?_⟩
        (repeat first | exact trivial | refine ent1 ?_)
      · rw [svB_row (s := ⟨s.z, s.N, s.o + 1, s.c - 1, (s.l.drop 1).take 4⟩) hz]
        refine ⟨rfl, fun j hj => eqC_win (fun i hi => ?_) j, ?_⟩
        · have hi : i < 4 := by rw [← l4]; exact hi
          have := winF_at s.o s.l.length (L s.l) (i := 1 + i) (by omega)
          rw [← Nat.add_assoc] at this
          rw [this, L_sub _ _ _ _ hi]
        refine ⟨rfl, fun j hj => eqC_win0 (fun i hi => ver_row i hi) j, trivial⟩
      rintro x hs' ⟨rfl, rfl⟩
      by_cases h6 : (s.l.drop 1).take 4 = [0#8, 0#8, 0#8, 1#8]
      rotate_left
      · have e6 : (!decide ((s.l.drop 1).take 4 = [0#8, 0#8, 0#8, 1#8])) = true := by rw [decide_eq_false h6]; rfl
        (repeat first | refine And.intro (by omega) ?_ | refine And.intro (by decide) ?_ | refine And.intro rfl ?_ | refine And.intro (fun _ => ?_) (fun h => Bool.noConfusion h) | refine And.intro (fun h => Bool.noConfusion h) (fun _ => ?_) | refine And.intro (fun _ => ?_) (fun h => absurd h (by rw [e5]; decide)) | refine And.intro (fun h => absurd h (by rw [e5]; decide)) (fun _ => ?_) | refine And.intro (fun _ => ?_) (fun h => absurd h (by rw [e6]; decide)) | refine And.intro (fun h => absurd h (by rw [e6]; decide)) (fun _ => ?_))
        have hM : longP s.l = .no 12 := by unfold longP; rw [if_neg (fun e => by first | exact e.1 k0 | exact e.2 k1), if_pos ⟨h5, h6⟩]
        rw [hM]
        refine ⟨.tup [.agg ps0, .c (.int .i64 12)], _, ⟨[0], ⟨rfl, rfl, rfl⟩, ?_⟩, rfl, rfl⟩
        (repeat first | exact trivial | refine ent1 ?_)
      have e6 : (!decide ((s.l.drop 1).take 4 = [0#8, 0#8, 0#8, 1#8])) = false := by rw [decide_eq_true h6]; rfl
      (repeat first | refine And.intro (by omega) ?_ | refine And.intro (by decide) ?_ | refine And.intro rfl ?_ | refine And.intro (fun _ => ?_) (fun h => Bool.noConfusion h) | refine And.intro (fun h => Bool.noConfusion h) (fun _ => ?_) | refine And.intro (fun _ => ?_) (fun h => absurd h (by rw [e5]; decide)) | refine And.intro (fun h => absurd h (by rw [e5]; decide)) (fun _ => ?_) | refine And.intro (fun _ => ?_) (fun h => absurd h (by rw [e6]; decide)) | refine And.intro (fun h => absurd h (by rw [e6]; decide)) (fun _ => ?_))
      refine call_same (fn_vread s hs) [0] rfl (by (repeat first | exact trivial | refine ent1 ?_)) ?_ (fun _ _ => trivial) ?_
      · rw [svB_row hz]
        (repeat first | exact trivial | refine ent1 ?_)
      rintro x hs' ⟨A, r, hAl, hr, rfl, rfl⟩
      (repeat first | refine And.intro (by omega) ?_ | refine And.intro (by decide) ?_ | refine And.intro rfl ?_ | refine And.intro (fun _ => ?_) (fun h => Bool.noConfusion h) | refine And.intro (fun h => Bool.noConfusion h) (fun _ => ?_))
      refine call_same (fn_rbytes A r 5 hr) [5, 4] rfl (by (repeat first | exact trivial | refine ent1 ?_)) ?_ (fun _ _ => trivial) ?_
      · refine eqC_btsM ?_
        (repeat first | exact trivial | refine ent1 ?_)
      rintro x hs' ⟨t0, r0', l0, e0', x0', hr0', ht0, rfl, rfl⟩
      (repeat first | refine And.intro (by omega) ?_ | refine And.intro (by decide) ?_ | refine And.intro rfl ?_ | refine And.intro (fun _ => ?_) (fun h => Bool.noConfusion h) | refine And.intro (fun h => Bool.noConfusion h) (fun _ => ?_))
      refine call_same (fn_takeId A r0' hr0') [5, 4] rfl (by (repeat first | exact trivial | refine ent1 ?_)) ?_ (fun _ _ => trivial) ?_
      · refine eqC_btsM ?_
        (repeat first | exact trivial | refine ent1 ?_)
      rintro x hs' ⟨t, r1, l1, e1', hx1, hr1, ht, rfl, rfl⟩
      (repeat first | refine And.intro (by omega) ?_ | refine And.intro (by decide) ?_ | refine And.intro rfl ?_ | refine And.intro (fun _ => ?_) (fun h => Bool.noConfusion h) | refine And.intro (fun h => Bool.noConfusion h) (fun _ => ?_))
      refine call_same (fn_takeId A r1 hr1) [5, 4] rfl (by (repeat first | exact trivial | refine ent1 ?_)) ?_ (fun _ _ => trivial) ?_
      · refine eqC_btsM ?_
        (repeat first | exact trivial | refine ent1 ?_)
      rintro x hs' ⟨f, r2, l2, e2', hx2, hr2, hf, rfl, rfl⟩
      obtain ⟨r3, l3, e3', hr3, hx3⟩ : ∃ r3 l3 e3', RdI A r3 l3 e3' ∧ (r3, l3, e3') = (r2, l2, e2') := ⟨r2, l2, e2', hr2, rfl⟩
      simp only [Prod.mk.injEq] at hx3
      obtain ⟨rfl, rfl, rfl⟩ := hx3
      (repeat first | refine And.intro (by omega) ?_ | refine And.intro (by decide) ?_ | refine And.intro rfl ?_ | refine And.intro (fun _ => ?_) (fun h => Bool.noConfusion h) | refine And.intro (fun h => Bool.noConfusion h) (fun _ => ?_))
      (repeat first | refine And.intro (by omega) ?_ | refine And.intro (by decide) ?_ | refine And.intro rfl ?_ | refine And.intro (fun _ => ?_) (fun h => Bool.noConfusion h) | refine And.intro (fun h => Bool.noConfusion h) (fun _ => ?_))
      refine call_same (fn_rcount A r3 1204 hr3 (by decide)) [5, 4] rfl (by (repeat first | exact trivial | refine ent1 ?_)) ?_ (fun _ _ => trivial) ?_
      · refine eqC_btsM ?_
        (repeat first | exact trivial | refine ent1 ?_)
      rintro x hs' ⟨n, r4, l4, e4', hx4, hr4, rfl, rfl⟩
      (repeat first | refine And.intro (by omega) ?_ | refine And.intro (by decide) ?_ | refine And.intro rfl ?_ | refine And.intro (fun _ => ?_) (fun h => Bool.noConfusion h) | refine And.intro (fun h => Bool.noConfusion h) (fun _ => ?_))
      refine call_same (fn_rleft A r4 hr4) [5, 4] rfl (by (repeat first | exact trivial | refine ent1 ?_)) ?_ (fun _ _ => trivial) ?_
      · refine eqC_btsM ?_
        (repeat first | exact trivial | refine ent1 ?_)
      rintro x hs' ⟨rfl, rfl⟩
      by_cases hn : l4.length < n
      · have q4 : decide ((l4.length : Int) < (n : Int)) = true := decide_eq_true (by omega)
        (repeat first | refine And.intro (by omega) ?_ | refine And.intro (by decide) ?_ | refine And.intro rfl ?_ | refine And.intro (fun _ => ?_) (fun h => Bool.noConfusion h) | refine And.intro (fun h => Bool.noConfusion h) (fun _ => ?_) | refine And.intro (fun _ => ?_) (fun h => absurd h (by rw [q4]; decide)) | refine And.intro (fun h => absurd h (by rw [q4]; decide)) (fun _ => ?_))
        refine call_same (fn_rfail A r4 3 hr4) [5, 4] rfl (by (repeat first | exact trivial | refine ent1 ?_)) ?_ (fun _ _ => trivial) ?_
        · refine eqC_btsM ?_
          (repeat first | exact trivial | refine ent1 ?_)
        rintro x hs' ⟨r5, l5, e5', hx5, hr5, rfl, rfl⟩
        (repeat first | refine And.intro (by omega) ?_ | refine And.intro (by decide) ?_ | (with_reducible refine frc_parts (by first | omega | decide) ?_) | (with_reducible refine frc_bytesL (by first | omega | decide) ?_) | refine And.intro rfl ?_)
        refine call_same (fn_rerr A r5 hr5) [5, 4] rfl (by (repeat first | exact trivial | refine ent1 ?_)) ?_ (fun _ _ => trivial) ?_
        · refine eqC_btsM ?_
          (repeat first | exact trivial | refine ent1 ?_)
        rintro x hs' ⟨rfl, rfl⟩
        have hLen : lenM l3 e3' = (n, l5, e5') := by
          unfold lenM
          rw [hx4]
          show (match (if l4.length < n then failM l4 e4' 3 else (l4, e4')) with | (l2, e2) => (n, l2, e2)) = _
          rw [if_pos hn, hx5]
        have hPa : partsM 1#8 l0 e0' = ((t.l, f.l, ((⟨true, 0, 0, 0, []⟩ : Sl)).l, n), l5, e5') := by
          unfold partsM
          rw [hx1]
          show (match idM l1 e1' with | (f, l2, e2) => match (if 1#8 = 0#8 then longM l2 e2 64 else ([], l2, e2)) with | (k, l3, e3) => match lenM l3 e3 with | (n, l4, e4) => ((t.l, f, k, n), l4, e4)) = _
          rw [hx2]
          show (match lenM l3 e3' with | (n, l4, e4) => ((t.l, f.l, [], n), l4, e4)) = _
          rw [hLen]
        have hM : longP s.l = if e5' ≠ 0 then .no e5' else .ok 1#8 t.l f.l ((⟨true, 0, 0, 0, []⟩ : Sl)).l (s.l.length - l5.length) (s.l.length - l5.length + n) := by
          unfold longP
          rw [if_neg (fun e => by first | exact e.1 k0 | exact e.2 k1), if_neg (fun e => e.2 h6), x0', if_neg k0]
          show (match partsM 1#8 l0 e0' with | ((t, f, k, n), l', e') => if e' ≠ 0 then PM.no e' else .ok 1#8 t f k (s.l.length - l'.length) (s.l.length - l'.length + n)) = _
          rw [hPa]
        by_cases h5 : e5' = 0
        rotate_left
        · have q5 : decide (e5' ≠ 0) = true := decide_eq_true h5
          rw [hM, if_pos h5]
          (repeat first | refine And.intro (by omega) ?_ | refine And.intro (by decide) ?_ | refine And.intro rfl ?_ | refine And.intro (fun _ => ?_) (fun h => Bool.noConfusion h) | refine And.intro (fun h => Bool.noConfusion h) (fun _ => ?_) | refine And.intro (fun _ => ?_) (fun h => absurd h (by rw [q5]; decide)) | refine And.intro (fun h => absurd h (by rw [q5]; decide)) (fun _ => ?_))
          refine ⟨.tup [.agg ps0, .c (.int .i64 e5')], _, ⟨[0], ⟨rfl, rfl, rfl⟩, ?_⟩, rfl, rfl⟩
          (repeat first | exact trivial | refine ent1 ?_)
        have q5 : decide (e5' ≠ 0) = false := decide_eq_false (by omega)
        rw [hM, if_neg (show ¬ e5' ≠ 0 from fun e => e h5)]
        (repeat first | refine And.intro (by omega) ?_ | refine And.intro (by decide) ?_ | refine And.intro rfl ?_ | refine And.intro (fun _ => ?_) (fun h => Bool.noConfusion h) | refine And.intro (fun h => Bool.noConfusion h) (fun _ => ?_) | refine And.intro (fun _ => ?_) (fun h => absurd h (by rw [q5]; decide)) | refine And.intro (fun h => absurd h (by rw [q5]; decide)) (fun _ => ?_))
        refine call_same (fn_rleft A r5 hr5) [5, 4] rfl (by (repeat first | exact trivial | refine ent1 ?_)) ?_ (fun _ _ => trivial) ?_
        · refine eqC_btsM ?_
          (repeat first | exact trivial | refine ent1 ?_)
        rintro x hs' ⟨rfl, rfl⟩
        have hft := hr5.fit
        have hAs : A.l.length = s.l.length := by rw [hAl]
        have hnl := countM_le hx4
        (repeat first | refine And.intro (by omega) ?_ | refine And.intro (by decide) ?_ | (with_reducible refine frc_parts (by first | omega | decide) ?_) | (with_reducible refine frc_bytesL (by first | omega | decide) ?_) | refine And.intro rfl ?_)
        refine ⟨.tup [.agg (psC 1 2 3 1#8 t f ((⟨true, 0, 0, 0, []⟩ : Sl)) (s.l.length - l5.length) (s.l.length - l5.length + n)), .c (.int .i64 0)], [[.row s.N (winF s.o s.l.length (L s.l))], svB t, svB f, svB ((⟨true, 0, 0, 0, []⟩ : Sl))], ⟨[0, 7, 8, 4], ⟨rfl, rfl, rfl⟩, ?_⟩, t, f, (⟨true, 0, 0, 0, []⟩ : Sl), ht, hf, nil_ok, rfl, rfl, rfl, rfl, rfl⟩
        (repeat first | exact trivial | refine ent1 ?_)
        refine eqC_btsM ?_
        (repeat first | exact trivial | refine ent1 ?_)
        refine eqC_btsM ?_
        (repeat first | exact trivial | refine ent1 ?_)
      have q4 : decide ((l4.length : Int) < (n : Int)) = false := decide_eq_false (by omega)
      (repeat first | refine And.intro (by omega) ?_ | refine And.intro (by decide) ?_ | refine And.intro rfl ?_ | refine And.intro (fun _ => ?_) (fun h => Bool.noConfusion h) | refine And.intro (fun h => Bool.noConfusion h) (fun _ => ?_) | refine And.intro (fun _ => ?_) (fun h => absurd h (by rw [q4]; decide)) | refine And.intro (fun h => absurd h (by rw [q4]; decide)) (fun _ => ?_))
      obtain ⟨r5, l5, e5', hr5, hx5⟩ : ∃ r5 l5 e5', RdI A r5 l5 e5' ∧ (r5, l5, e5') = (r4, l4, e4') := ⟨r4, l4, e4', hr4, rfl⟩
      simp only [Prod.mk.injEq] at hx5
      obtain ⟨rfl, rfl, rfl⟩ := hx5
      refine call_same (fn_rerr A r5 hr5) [5, 4] rfl (by (repeat first | exact trivial | refine ent1 ?_)) ?_ (fun _ _ => trivial) ?_
      · refine eqC_btsM ?_
        (repeat first | exact trivial | refine ent1 ?_)
      rintro x hs' ⟨rfl, rfl⟩
      have hLen : lenM l3 e3' = (n, l5, e5') := by
        unfold lenM
        rw [hx4]
        show (match (if l5.length < n then failM l5 e5' 3 else (l5, e5')) with | (l2, e2) => (n, l2, e2)) = _
        rw [if_neg hn]
      have hPa : partsM 1#8 l0 e0' = ((t.l, f.l, ((⟨true, 0, 0, 0, []⟩ : Sl)).l, n), l5, e5') := by
        unfold partsM
        rw [hx1]
        show (match idM l1 e1' with | (f, l2, e2) => match (if 1#8 = 0#8 then longM l2 e2 64 else ([], l2, e2)) with | (k, l3, e3) => match lenM l3 e3 with | (n, l4, e4) => ((t.l, f, k, n), l4, e4)) = _
        rw [hx2]
        show (match lenM l3 e3' with | (n, l4, e4) => ((t.l, f.l, [], n), l4, e4)) = _
        rw [hLen]
      have hM : longP s.l = if e5' ≠ 0 then .no e5' else .ok 1#8 t.l f.l ((⟨true, 0, 0, 0, []⟩ : Sl)).l (s.l.length - l5.length) (s.l.length - l5.length + n) := by
        unfold longP
        rw [if_neg (fun e => by first | exact e.1 k0 | exact e.2 k1), if_neg (fun e => e.2 h6), x0', if_neg k0]
        show (match partsM 1#8 l0 e0' with | ((t, f, k, n), l', e') => if e' ≠ 0 then PM.no e' else .ok 1#8 t f k (s.l.length - l'.length) (s.l.length - l'.length + n)) = _
        rw [hPa]
      by_cases h5 : e5' = 0
      rotate_left
      · have q5 : decide (e5' ≠ 0) = true := decide_eq_true h5
        rw [hM, if_pos h5]
        (repeat first | refine And.intro (by omega) ?_ | refine And.intro (by decide) ?_ | refine And.intro rfl ?_ | refine And.intro (fun _ => ?_) (fun h => Bool.noConfusion h) | refine And.intro (fun h => Bool.noConfusion h) (fun _ => ?_) | refine And.intro (fun _ => ?_) (fun h => absurd h (by rw [q5]; decide)) | refine And.intro (fun h => absurd h (by rw [q5]; decide)) (fun _ => ?_))
        refine ⟨.tup [.agg ps0, .c (.int .i64 e5')], _, ⟨[0], ⟨rfl, rfl, rfl⟩, ?_⟩, rfl, rfl⟩
        (repeat first | exact trivial | refine ent1 ?_)
      have q5 : decide (e5' ≠ 0) = false := decide_eq_false (by omega)
      rw [hM, if_neg (show ¬ e5' ≠ 0 from fun e => e h5)]
      (repeat first | refine And.intro (by omega) ?_ | refine And.intro (by decide) ?_ | refine And.intro rfl ?_ | refine And.intro (fun _ => ?_) (fun h => Bool.noConfusion h) | refine And.intro (fun h => Bool.noConfusion h) (fun _ => ?_) | refine And.intro (fun _ => ?_) (fun h => absurd h (by rw [q5]; decide)) | refine And.intro (fun h => absurd h (by rw [q5]; decide)) (fun _ => ?_))
      refine call_same (fn_rleft A r5 hr5) [5, 4] rfl (by (repeat first | exact trivial | refine ent1 ?_)) ?_ (fun _ _ => trivial) ?_
      · refine eqC_btsM ?_
        (repeat first | exact trivial | refine ent1 ?_)
      rintro x hs' ⟨rfl, rfl⟩
      have hft := hr5.fit
      have hAs : A.l.length = s.l.length := by rw [hAl]
      have hnl := countM_le hx4
      (repeat first | refine And.intro (by omega) ?_ | refine And.intro (by decide) ?_ | (with_reducible refine frc_parts (by first | omega | decide) ?_) | (with_reducible refine frc_bytesL (by first | omega | decide) ?_) | refine And.intro rfl ?_)
      refine ⟨.tup [.agg (psC 1 2 3 1#8 t f ((⟨true, 0, 0, 0, []⟩ : Sl)) (s.l.length - l5.length) (s.l.length - l5.length + n)), .c (.int .i64 0)], [[.row s.N (winF s.o s.l.length (L s.l))], svB t, svB f, svB ((⟨true, 0, 0, 0, []⟩ : Sl))], ⟨[0, 7, 8, 4], ⟨rfl, rfl, rfl⟩, ?_⟩, t, f, (⟨true, 0, 0, 0, []⟩ : Sl), ht, hf, nil_ok, rfl, rfl, rfl, rfl, rfl⟩
      (repeat first | exact trivial | refine ent1 ?_)
      refine eqC_btsM ?_
      (repeat first | exact trivial | refine ent1 ?_)
      refine eqC_btsM ?_
      (repeat first | exact trivial | refine ent1 ?_)
    have e5 : decide ((5 : Int) ≤ (s.l.length : Int)) = false := decide_eq_false (by omega)
    (repeat first | refine And.intro (by omega) ?_ | refine And.intro (by decide) ?_ | refine And.intro rfl ?_ | refine And.intro (fun _ => ?_) (fun h => Bool.noConfusion h) | refine And.intro (fun h => Bool.noConfusion h) (fun _ => ?_) | refine And.intro (fun _ => ?_) (fun h => absurd h (by rw [e0]; decide)) | refine And.intro (fun h => absurd h (by rw [e0]; decide)) (fun _ => ?_) | refine And.intro (fun _ => ?_) (fun h => absurd h (by rw [e1]; decide)) | refine And.intro (fun h => absurd h (by rw [e1]; decide)) (fun _ => ?_) | refine And.intro (fun _ => ?_) (fun h => absurd h (by rw [e5]; decide)) | refine And.intro (fun h => absurd h (by rw [e5]; decide)) (fun _ => ?_))
    refine call_same (fn_vread s hs) [0] rfl (by (repeat first | exact trivial | refine ent1 ?_)) ?_ (fun _ _ => trivial) ?_
    · rw [svB_row hz]
      (repeat first | exact trivial | refine ent1 ?_)
    rintro x hs' ⟨A, r, hAl, hr, rfl, rfl⟩
    (repeat first | refine And.intro (by omega) ?_ | refine And.intro (by decide) ?_ | refine And.intro rfl ?_ | refine And.intro (fun _ => ?_) (fun h => Bool.noConfusion h) | refine And.intro (fun h => Bool.noConfusion h) (fun _ => ?_))
    refine call_same (fn_rbytes A r 5 hr) [4, 3] rfl (by (repeat first | exact trivial | refine ent1 ?_)) ?_ (fun _ _ => trivial) ?_
    · refine eqC_btsM ?_
      (repeat first | exact trivial | refine ent1 ?_)
    rintro x hs' ⟨t0, r0', l0, e0', x0', hr0', ht0, rfl, rfl⟩
    (repeat first | refine And.intro (by omega) ?_ | refine And.intro (by decide) ?_ | refine And.intro rfl ?_ | refine And.intro (fun _ => ?_) (fun h => Bool.noConfusion h) | refine And.intro (fun h => Bool.noConfusion h) (fun _ => ?_))
    refine call_same (fn_takeId A r0' hr0') [4, 3] rfl (by (repeat first | exact trivial | refine ent1 ?_)) ?_ (fun _ _ => trivial) ?_
    · refine eqC_btsM ?_
      (repeat first | exact trivial | refine ent1 ?_)
    rintro x hs' ⟨t, r1, l1, e1', hx1, hr1, ht, rfl, rfl⟩
    (repeat first | refine And.intro (by omega) ?_ | refine And.intro (by decide) ?_ | refine And.intro rfl ?_ | refine And.intro (fun _ => ?_) (fun h => Bool.noConfusion h) | refine And.intro (fun h => Bool.noConfusion h) (fun _ => ?_))
    refine call_same (fn_takeId A r1 hr1) [4, 3] rfl (by (repeat first | exact trivial | refine ent1 ?_)) ?_ (fun _ _ => trivial) ?_
    · refine eqC_btsM ?_
      (repeat first | exact trivial | refine ent1 ?_)
    rintro x hs' ⟨f, r2, l2, e2', hx2, hr2, hf, rfl, rfl⟩
    obtain ⟨r3, l3, e3', hr3, hx3⟩ : ∃ r3 l3 e3', RdI A r3 l3 e3' ∧ (r3, l3, e3') = (r2, l2, e2') := ⟨r2, l2, e2', hr2, rfl⟩
    simp only [Prod.mk.injEq] at hx3
    obtain ⟨rfl, rfl, rfl⟩ := hx3
    (repeat first | refine And.intro (by omega) ?_ | refine And.intro (by decide) ?_ | refine And.intro rfl ?_ | refine And.intro (fun _ => ?_) (fun h => Bool.noConfusion h) | refine And.intro (fun h => Bool.noConfusion h) (fun _ => ?_))
    (repeat first | refine And.intro (by omega) ?_ | refine And.intro (by decide) ?_ | refine And.intro rfl ?_ | refine And.intro (fun _ => ?_) (fun h => Bool.noConfusion h) | refine And.intro (fun h => Bool.noConfusion h) (fun _ => ?_))
    refine call_same (fn_rcount A r3 1204 hr3 (by decide)) [4, 3] rfl (by (repeat first | exact trivial | refine ent1 ?_)) ?_ (fun _ _ => trivial) ?_
    · refine eqC_btsM ?_
      (repeat first | exact trivial | refine ent1 ?_)
    rintro x hs' ⟨n, r4, l4, e4', hx4, hr4, rfl, rfl⟩
    (repeat first | refine And.intro (by omega) ?_ | refine And.intro (by decide) ?_ | refine And.intro rfl ?_ | refine And.intro (fun _ => ?_) (fun h => Bool.noConfusion h) | refine And.intro (fun h => Bool.noConfusion h) (fun _ => ?_))
    refine call_same (fn_rleft A r4 hr4) [4, 3] rfl (by (repeat first | exact trivial | refine ent1 ?_)) ?_ (fun _ _ => trivial) ?_
    · refine eqC_btsM ?_
      (repeat first | exact trivial | refine ent1 ?_)
    rintro x hs' ⟨rfl, rfl⟩
    by_cases hn : l4.length < n
    · have q4 : decide ((l4.length : Int) < (n : Int)) = true := decide_eq_true (by omega)
      (repeat first | refine And.intro (by omega) ?_ | refine And.intro (by decide) ?_ | refine And.intro rfl ?_ | refine And.intro (fun _ => ?_) (fun h => Bool.noConfusion h) | refine And.intro (fun h => Bool.noConfusion h) (fun _ => ?_) | refine And.intro (fun _ => ?_) (fun h => absurd h (by rw [q4]; decide)) | refine And.intro (fun h => absurd h (by rw [q4]; decide)) (fun _ => ?_))
      refine call_same (fn_rfail A r4 3 hr4) [4, 3] rfl (by (repeat first | exact trivial | refine ent1 ?_)) ?_ (fun _ _ => trivial) ?_
      · refine eqC_btsM ?_
        (repeat first | exact trivial | refine ent1 ?_)
      rintro x hs' ⟨r5, l5, e5', hx5, hr5, rfl, rfl⟩
      (repeat first | refine And.intro (by omega) ?_ | refine And.intro (by decide) ?_ | (with_reducible refine frc_parts (by first | omega | decide) ?_) | (with_reducible refine frc_bytesL (by first | omega | decide) ?_) | refine And.intro rfl ?_)
      refine call_same (fn_rerr A r5 hr5) [4, 3] rfl (by (repeat first | exact trivial | refine ent1 ?_)) ?_ (fun _ _ => trivial) ?_
      · refine eqC_btsM ?_
        (repeat first | exact trivial | refine ent1 ?_)
      rintro x hs' ⟨rfl, rfl⟩
      have hLen : lenM l3 e3' = (n, l5, e5') := by
        unfold lenM
        rw [hx4]
        show (match (if l4.length < n then failM l4 e4' 3 else (l4, e4')) with | (l2, e2) => (n, l2, e2)) = _
        rw [if_pos hn, hx5]
      have hPa : partsM 1#8 l0 e0' = ((t.l, f.l, ((⟨true, 0, 0, 0, []⟩ : Sl)).l, n), l5, e5') := by
        unfold partsM
        rw [hx1]
        show (match idM l1 e1' with | (f, l2, e2) => match (if 1#8 = 0#8 then longM l2 e2 64 else ([], l2, e2)) with | (k, l3, e3) => match lenM l3 e3 with | (n, l4, e4) => ((t.l, f, k, n), l4, e4)) = _
        rw [hx2]
        show (match lenM l3 e3' with | (n, l4, e4) => ((t.l, f.l, [], n), l4, e4)) = _
        rw [hLen]
      have hM : longP s.l = if e5' ≠ 0 then .no e5' else .ok 1#8 t.l f.l ((⟨true, 0, 0, 0, []⟩ : Sl)).l (s.l.length - l5.length) (s.l.length - l5.length + n) := by
        unfold longP
        rw [if_neg (fun e => by first | exact e.1 k0 | exact e.2 k1), if_neg (fun e => h5 e.1), x0', if_neg k0]
        show (match partsM 1#8 l0 e0' with | ((t, f, k, n), l', e') => if e' ≠ 0 then PM.no e' else .ok 1#8 t f k (s.l.length - l'.length) (s.l.length - l'.length + n)) = _
        rw [hPa]
      by_cases h5 : e5' = 0
      rotate_left
      · have q5 : decide (e5' ≠ 0) = true := decide_eq_true h5
        rw [hM, if_pos h5]
        (repeat first | refine And.intro (by omega) ?_ | refine And.intro (by decide) ?_ | refine And.intro rfl ?_ | refine And.intro (fun _ => ?_) (fun h => Bool.noConfusion h) | refine And.intro (fun h => Bool.noConfusion h) (fun _ => ?_) | refine And.intro (fun _ => ?_) (fun h => absurd h (by rw [q5]; decide)) | refine And.intro (fun h => absurd h (by rw [q5]; decide)) (fun _ => ?_))
        refine ⟨.tup [.agg ps0, .c (.int .i64 e5')], _, ⟨[0], ⟨rfl, rfl, rfl⟩, ?_⟩, rfl, rfl⟩
        (repeat first | exact trivial | refine ent1 ?_)
      have q5 : decide (e5' ≠ 0) = false := decide_eq_false (by omega)
      rw [hM, if_neg (show ¬ e5' ≠ 0 from fun e => e h5)]
      (repeat first | refine And.intro (by omega) ?_ | refine And.intro (by decide) ?_ | refine And.intro rfl ?_ | refine And.intro (fun _ => ?_) (fun h => Bool.noConfusion h) | refine And.intro (fun h => Bool.noConfusion h) (fun _ => ?_) | refine And.intro (fun _ => ?_) (fun h => absurd h (by rw [q5]; decide)) | refine And.intro (fun h => absurd h (by rw [q5]; decide)) (fun _ => ?_))
      refine call_same (fn_rleft A r5 hr5) [4, 3] rfl (by (repeat first | exact trivial | refine ent1 ?_)) ?_ (fun _ _ => trivial) ?_
      · refine eqC_btsM ?_
        (repeat first | exact trivial | refine ent1 ?_)
      rintro x hs' ⟨rfl, rfl⟩
      have hft := hr5.fit
      have hAs : A.l.length = s.l.length := by rw [hAl]
      have hnl := countM_le hx4
      (repeat first | refine And.intro (by omega) ?_ | refine And.intro (by decide) ?_ | (with_reducible refine frc_parts (by first | omega | decide) ?_) | (with_reducible refine frc_bytesL (by first | omega | decide) ?_) | refine And.intro rfl ?_)
      refine ⟨.tup [.agg (psC 1 2 3 1#8 t f ((⟨true, 0, 0, 0, []⟩ : Sl)) (s.l.length - l5.length) (s.l.length - l5.length + n)), .c (.int .i64 0)], [[.row s.N (winF s.o s.l.length (L s.l))], svB t, svB f, svB ((⟨true, 0, 0, 0, []⟩ : Sl))], ⟨[0, 6, 7, 3], ⟨rfl, rfl, rfl⟩, ?_⟩, t, f, (⟨true, 0, 0, 0, []⟩ : Sl), ht, hf, nil_ok, rfl, rfl, rfl, rfl, rfl⟩
      (repeat first | exact trivial | refine ent1 ?_)
      refine eqC_btsM ?_
      (repeat first | exact trivial | refine ent1 ?_)
      refine eqC_btsM ?_
      (repeat first | exact trivial | refine ent1 ?_)
    have q4 : decide ((l4.length : Int) < (n : Int)) = false := decide_eq_false (by omega)
    (repeat first | refine And.intro (by omega) ?_ | refine And.intro (by decide) ?_ | refine And.intro rfl ?_ | refine And.intro (fun _ => ?_) (fun h => Bool.noConfusion h) | refine And.intro (fun h => Bool.noConfusion h) (fun _ => ?_) | refine And.intro (fun _ => ?_) (fun h => absurd h (by rw [q4]; decide)) | refine And.intro (fun h => absurd h (by rw [q4]; decide)) (fun _ => ?_))
    obtain ⟨r5, l5, e5', hr5, hx5⟩ : ∃ r5 l5 e5', RdI A r5 l5 e5' ∧ (r5, l5, e5') = (r4, l4, e4') := ⟨r4, l4, e4', hr4, rfl⟩
    simp only [Prod.mk.injEq] at hx5
    obtain ⟨rfl, rfl, rfl⟩ := hx5
    refine call_same (fn_rerr A r5 hr5) [4, 3] rfl (by (repeat first | exact trivial | refine ent1 ?_)) ?_ (fun _ _ => trivial) ?_
    · refine eqC_btsM ?_
      (repeat first | exact trivial | refine ent1 ?_)
    rintro x hs' ⟨rfl, rfl⟩
    have hLen : lenM l3 e3' = (n, l5, e5') := by
      unfold lenM
      rw [hx4]
      show (match (if l5.length < n then failM l5 e5' 3 else (l5, e5')) with | (l2, e2) => (n, l2, e2)) = _
      rw [if_neg hn]
    have hPa : partsM 1#8 l0 e0' = ((t.l, f.l, ((⟨true, 0, 0, 0, []⟩ : Sl)).l, n), l5, e5') := by
      unfold partsM
      rw [hx1]
      show (match idM l1 e1' with | (f, l2, e2) => match (if 1#8 = 0#8 then longM l2 e2 64 else ([], l2, e2)) with | (k, l3, e3) => match lenM l3 e3 with | (n, l4, e4) => ((t.l, f, k, n), l4, e4)) = _
      rw [hx2]
      show (match lenM l3 e3' with | (n, l4, e4) => ((t.l, f.l, [], n), l4, e4)) = _
      rw [hLen]
    have hM : longP s.l = if e5' ≠ 0 then .no e5' else .ok 1#8 t.l f.l ((⟨true, 0, 0, 0, []⟩ : Sl)).l (s.l.length - l5.length) (s.l.length - l5.length + n) := by
      unfold longP
      rw [if_neg (fun e => by first | exact e.1 k0 | exact e.2 k1), if_neg (fun e => h5 e.1), x0', if_neg k0]
      show (match partsM 1#8 l0 e0' with | ((t, f, k, n), l', e') => if e' ≠ 0 then PM.no e' else .ok 1#8 t f k (s.l.length - l'.length) (s.l.length - l'.length + n)) = _
      rw [hPa]
    by_cases h5 : e5' = 0
    rotate_left
    · have q5 : decide (e5' ≠ 0) = true := decide_eq_true h5
      rw [hM, if_pos h5]
      (repeat first | refine And.intro (by omega) ?_ | refine And.intro (by decide) ?_ | refine And.intro rfl ?_ | refine And.intro (fun _ => ?_) (fun h => Bool.noConfusion h) | refine And.intro (fun h => Bool.noConfusion h) (fun _ => ?_) | refine And.intro (fun _ => ?_) (fun h => absurd h (by rw [q5]; decide)) | refine And.intro (fun h => absurd h (by rw [q5]; decide)) (fun _ => ?_))
      refine ⟨.tup [.agg ps0, .c (.int .i64 e5')], _, ⟨[0], ⟨rfl, rfl, rfl⟩, ?_⟩, rfl, rfl⟩
      (repeat first | exact trivial | refine ent1 ?_)
    have q5 : decide (e5' ≠ 0) = false := decide_eq_false (by omega)
    rw [hM, if_neg (show ¬ e5' ≠ 0 from fun e => e h5)]
    (repeat first | refine And.intro (by omega) ?_ | refine And.intro (by decide) ?_ | refine And.intro rfl ?_ | refine And.intro (fun _ => ?_) (fun h => Bool.noConfusion h) | refine And.intro (fun h => Bool.noConfusion h) (fun _ => ?_) | refine And.intro (fun _ => ?_) (fun h => absurd h (by rw [q5]; decide)) | refine And.intro (fun h => absurd h (by rw [q5]; decide)) (fun _ => ?_))
    refine call_same (fn_rleft A r5 hr5) [4, 3] rfl (by (repeat first | exact trivial | refine ent1 ?_)) ?_ (fun _ _ => trivial) ?_
    · refine eqC_btsM ?_
      (repeat first | exact trivial | refine ent1 ?_)
    rintro x hs' ⟨rfl, rfl⟩
    have hft := hr5.fit
    have hAs : A.l.length = s.l.length := by rw [hAl]
    have hnl := countM_le hx4
    (repeat first | refine And.intro (by omega) ?_ | refine And.intro (by decide) ?_ | (with_reducible refine frc_parts (by first | omega | decide) ?_) | (with_reducible refine frc_bytesL (by first | omega | decide) ?_) | refine And.intro rfl ?_)
    refine ⟨.tup [.agg (psC 1 2 3 1#8 t f ((⟨true, 0, 0, 0, []⟩ : Sl)) (s.l.length - l5.length) (s.l.length - l5.length + n)), .c (.int .i64 0)], [[.row s.N (winF s.o s.l.length (L s.l))], svB t, svB f, svB ((⟨true, 0, 0, 0, []⟩ : Sl))], ⟨[0, 6, 7, 3], ⟨rfl, rfl, rfl⟩, ?_⟩, t, f, (⟨true, 0, 0, 0, []⟩ : Sl), ht, hf, nil_ok, rfl, rfl, rfl, rfl, rfl⟩
    (repeat first | exact trivial | refine ent1 ?_)
    refine eqC_btsM ?_
    (repeat first | exact trivial | refine ent1 ?_)
    refine eqC_btsM ?_
    (repeat first | exact trivial | refine ent1 ?_)
  have e1 : decide (L s.l 0 &&& 48#8 = 32#8) = false := decide_eq_false k1
  have hM : longP s.l = .no 5 := by unfold longP; rw [if_pos ⟨k0, k1⟩]
  rw [hM]
  (repeat first | refine And.intro (by omega) ?_ | refine And.intro (by decide) ?_ | refine And.intro rfl ?_ | refine And.intro (fun _ => ?_) (fun h => Bool.noConfusion h) | refine And.intro (fun h => Bool.noConfusion h) (fun _ => ?_) | refine And.intro (fun _ => ?_) (fun h => absurd h (by rw [e0]; decide)) | refine And.intro (fun h => absurd h (by rw [e0]; decide)) (fun _ => ?_) | refine And.intro (fun _ => ?_) (fun h => absurd h (by rw [e1]; decide)) | refine And.intro (fun h => absurd h (by rw [e1]; decide)) (fun _ => ?_))
  refine ⟨.tup [.agg ps0, .c (.int .i64 5)], _, ⟨[0], ⟨rfl, rfl, rfl⟩, ?_⟩, rfl, rfl⟩
  (repeat first | exact trivial | refine ent1 ?_)
end Sx
end Go.Proofs.YtkjdkeolkigibaaGreat
end

section
/-
  Headers: what they can't be. No condition.
-/
namespace Go.Proofs.YtkjdkeolkigibaaGreat
set_option linter.unusedVariables false
namespace Sx
open Sha Vi

/-- A header: its space, its slices. -/
structure Hd where
  sp : BitVec 8
  t : Sl
  f : Sl
  k : Sl
  turn : Bool
  n : Sl
structure Hd.Ok (h : Hd) : Prop where
  t : h.t.Ok
  f : h.f.Ok
  k : h.k.Ok
  n : h.n.Ok
abbrev hdC (a b c d : Nat) (h : Hd) : List Seg := [.one (.w8 h.sp), .one (svC a h.t), .one (svC b h.f), .one (svC c h.k), .one (.bool h.turn), .one (svC d h.n)]
abbrev hdB (h : Hd) : List (List Seg) := [svB h.t, svB h.f, svB h.k, svB h.n]
/-- What a header can't be. -/
def checkM (h : Hd) : Int :=
  if 3#8 ≤ h.sp then 5 else if 20 < h.t.l.length ∨ 20 < h.f.l.length ∨ 64 < h.k.l.length then 6 else if h.n.l.length < 1 ∨ 4 < h.n.l.length then 6 else
  if 0 < h.k.l.length ∧ h.sp ≠ 0#8 then 4 else if 0 < h.f.l.length ∧ h.sp = 2#8 then 4 else if h.turn = true ∧ h.sp ≠ 2#8 then 4 else 0
theorem lt2 : ∀ x : BitVec 8, 2#8 < x ↔ 3#8 ≤ x := by decide +kernel
set_option maxRecDepth 20000 in
set_option maxHeartbeats 4000000 in
theorem fn_hcheck (h : Hd) : FnR Tryz.prog tds 57 4 (hdB h) [.agg (hdC 0 1 2 3 h)] (fun _ => True)
    (fun y hs => y = .a (.c (.int .i64 (checkM h))) ∧ hs = hdB h) := by
  refine fn_of_body tds_ok follows_ Tryz.func57 rfl (t := .a (.agg (hdC 0 1 2 3 h)) :: anys (Tryz.f57.ntmps - 1)) rfl (fun w r0 hr _ => ?_)
  obtain ⟨x0, x1, x2, x3, rfl⟩ := len4' hr
  (repeat first | refine And.intro (by omega) ?_ | refine And.intro (by decide) ?_ | refine And.intro rfl ?_ | refine And.intro (fun _ => ?_) (fun h => Bool.noConfusion h) | refine And.intro (fun h => Bool.noConfusion h) (fun _ => ?_))
  by_cases hs3 : 3#8 ≤ h.sp
  · have es3 : decide (3#8 ≤ h.sp) = true := decide_eq_true (by first | exact hs3 | exact (lt2 _).2 hs3 | omega)
    (repeat first | refine And.intro (by omega) ?_ | refine And.intro (by decide) ?_ | refine And.intro rfl ?_ | refine And.intro (fun _ => ?_) (fun h => Bool.noConfusion h) | refine And.intro (fun h => Bool.noConfusion h) (fun _ => ?_) | refine And.intro (fun _ => ?_) (fun h => absurd h (by rw [es3]; decide)) | refine And.intro (fun h => absurd h (by rw [es3]; decide)) (fun _ => ?_))
    refine ⟨.a (.c (.int .i64 5)), _, ⟨[0, 1, 2, 3], ⟨rfl, rfl, rfl⟩, ?_⟩, by unfold checkM; rw [if_pos (by first | exact hs3 | omega)], rfl⟩
    (repeat first | exact trivial | refine ent1 ?_)
    refine eqC_bts (eqC_bts (eqC_bts (eqC_bts ?_)))
    (repeat first | exact trivial | refine ent1 ?_)
  · have es3 : decide (3#8 ≤ h.sp) = false := decide_eq_false (by first | exact hs3 | exact (lt2 _).2 hs3 | omega)
    (repeat first | refine And.intro (by omega) ?_ | refine And.intro (by decide) ?_ | refine And.intro rfl ?_ | refine And.intro (fun _ => ?_) (fun h => Bool.noConfusion h) | refine And.intro (fun h => Bool.noConfusion h) (fun _ => ?_) | refine And.intro (fun _ => ?_) (fun h => absurd h (by rw [es3]; decide)) | refine And.intro (fun h => absurd h (by rw [es3]; decide)) (fun _ => ?_))
    by_cases ht : 20 < h.t.l.length
    · have et : decide ((20 : Int) < (h.t.l.length : Int)) = true := decide_eq_true (by first | exact ht | exact (lt2 _).2 ht | omega)
      (repeat first | refine And.intro (by omega) ?_ | refine And.intro (by decide) ?_ | refine And.intro rfl ?_ | refine And.intro (fun _ => ?_) (fun h => Bool.noConfusion h) | refine And.intro (fun h => Bool.noConfusion h) (fun _ => ?_) | refine And.intro (fun _ => ?_) (fun h => absurd h (by rw [et]; decide)) | refine And.intro (fun h => absurd h (by rw [et]; decide)) (fun _ => ?_))
      refine ⟨.a (.c (.int .i64 6)), _, ⟨[0, 1, 2, 3], ⟨rfl, rfl, rfl⟩, ?_⟩, by unfold checkM; rw [if_neg (by first | exact hs3 | omega), if_pos (by first | exact ht | omega)], rfl⟩
      (repeat first | exact trivial | refine ent1 ?_)
      refine eqC_bts (eqC_bts (eqC_bts (eqC_bts ?_)))
      (repeat first | exact trivial | refine ent1 ?_)
    · have et : decide ((20 : Int) < (h.t.l.length : Int)) = false := decide_eq_false (by first | exact ht | exact (lt2 _).2 ht | omega)
      (repeat first | refine And.intro (by omega) ?_ | refine And.intro (by decide) ?_ | refine And.intro rfl ?_ | refine And.intro (fun _ => ?_) (fun h => Bool.noConfusion h) | refine And.intro (fun h => Bool.noConfusion h) (fun _ => ?_) | refine And.intro (fun _ => ?_) (fun h => absurd h (by rw [et]; decide)) | refine And.intro (fun h => absurd h (by rw [et]; decide)) (fun _ => ?_))
      by_cases hf : 20 < h.f.l.length
      · have ef : decide ((20 : Int) < (h.f.l.length : Int)) = true := decide_eq_true (by first | exact hf | exact (lt2 _).2 hf | omega)
        (repeat first | refine And.intro (by omega) ?_ | refine And.intro (by decide) ?_ | refine And.intro rfl ?_ | refine And.intro (fun _ => ?_) (fun h => Bool.noConfusion h) | refine And.intro (fun h => Bool.noConfusion h) (fun _ => ?_) | refine And.intro (fun _ => ?_) (fun h => absurd h (by rw [et]; decide)) | refine And.intro (fun h => absurd h (by rw [et]; decide)) (fun _ => ?_) | refine And.intro (fun _ => ?_) (fun h => absurd h (by rw [ef]; decide)) | refine And.intro (fun h => absurd h (by rw [ef]; decide)) (fun _ => ?_))
        refine ⟨.a (.c (.int .i64 6)), _, ⟨[0, 1, 2, 3], ⟨rfl, rfl, rfl⟩, ?_⟩, by unfold checkM; rw [if_neg (by first | exact hs3 | omega), if_pos (by first | exact hf | omega)], rfl⟩
        (repeat first | exact trivial | refine ent1 ?_)
        refine eqC_bts (eqC_bts (eqC_bts (eqC_bts ?_)))
        (repeat first | exact trivial | refine ent1 ?_)
      · have ef : decide ((20 : Int) < (h.f.l.length : Int)) = false := decide_eq_false (by first | exact hf | exact (lt2 _).2 hf | omega)
        (repeat first | refine And.intro (by omega) ?_ | refine And.intro (by decide) ?_ | refine And.intro rfl ?_ | refine And.intro (fun _ => ?_) (fun h => Bool.noConfusion h) | refine And.intro (fun h => Bool.noConfusion h) (fun _ => ?_) | refine And.intro (fun _ => ?_) (fun h => absurd h (by rw [et]; decide)) | refine And.intro (fun h => absurd h (by rw [et]; decide)) (fun _ => ?_) | refine And.intro (fun _ => ?_) (fun h => absurd h (by rw [ef]; decide)) | refine And.intro (fun h => absurd h (by rw [ef]; decide)) (fun _ => ?_))
        by_cases hk : 64 < h.k.l.length
        · have ek : decide ((64 : Int) < (h.k.l.length : Int)) = true := decide_eq_true (by first | exact hk | exact (lt2 _).2 hk | omega)
          (repeat first | refine And.intro (by omega) ?_ | refine And.intro (by decide) ?_ | refine And.intro rfl ?_ | refine And.intro (fun _ => ?_) (fun h => Bool.noConfusion h) | refine And.intro (fun h => Bool.noConfusion h) (fun _ => ?_) | refine And.intro (fun _ => ?_) (fun h => absurd h (by rw [et]; decide)) | refine And.intro (fun h => absurd h (by rw [et]; decide)) (fun _ => ?_) | refine And.intro (fun _ => ?_) (fun h => absurd h (by rw [ef]; decide)) | refine And.intro (fun h => absurd h (by rw [ef]; decide)) (fun _ => ?_) | refine And.intro (fun _ => ?_) (fun h => absurd h (by rw [ek]; decide)) | refine And.intro (fun h => absurd h (by rw [ek]; decide)) (fun _ => ?_))
          refine ⟨.a (.c (.int .i64 6)), _, ⟨[0, 1, 2, 3], ⟨rfl, rfl, rfl⟩, ?_⟩, by unfold checkM; rw [if_neg (by first | exact hs3 | omega), if_pos (by first | exact hk | omega)], rfl⟩
          (repeat first | exact trivial | refine ent1 ?_)
          refine eqC_bts (eqC_bts (eqC_bts (eqC_bts ?_)))
          (repeat first | exact trivial | refine ent1 ?_)
        · have ek : decide ((64 : Int) < (h.k.l.length : Int)) = false := decide_eq_false (by first | exact hk | exact (lt2 _).2 hk | omega)
          (repeat first | refine And.intro (by omega) ?_ | refine And.intro (by decide) ?_ | refine And.intro rfl ?_ | refine And.intro (fun _ => ?_) (fun h => Bool.noConfusion h) | refine And.intro (fun h => Bool.noConfusion h) (fun _ => ?_) | refine And.intro (fun _ => ?_) (fun h => absurd h (by rw [et]; decide)) | refine And.intro (fun h => absurd h (by rw [et]; decide)) (fun _ => ?_) | refine And.intro (fun _ => ?_) (fun h => absurd h (by rw [ef]; decide)) | refine And.intro (fun h => absurd h (by rw [ef]; decide)) (fun _ => ?_) | refine And.intro (fun _ => ?_) (fun h => absurd h (by rw [ek]; decide)) | refine And.intro (fun h => absurd h (by rw [ek]; decide)) (fun _ => ?_))
          by_cases hn0 : h.n.l.length < 1
          · have en0 : decide ((h.n.l.length : Int) < 1) = true := decide_eq_true (by first | exact hn0 | exact (lt2 _).2 hn0 | omega)
            (repeat first | refine And.intro (by omega) ?_ | refine And.intro (by decide) ?_ | refine And.intro rfl ?_ | refine And.intro (fun _ => ?_) (fun h => Bool.noConfusion h) | refine And.intro (fun h => Bool.noConfusion h) (fun _ => ?_) | refine And.intro (fun _ => ?_) (fun h => absurd h (by rw [en0]; decide)) | refine And.intro (fun h => absurd h (by rw [en0]; decide)) (fun _ => ?_))
            refine ⟨.a (.c (.int .i64 6)), _, ⟨[0, 1, 2, 3], ⟨rfl, rfl, rfl⟩, ?_⟩, by unfold checkM; rw [if_neg (by first | exact hs3 | omega), if_neg (by first | exact hk | omega), if_pos (by first | exact hn0 | omega)], rfl⟩
            (repeat first | exact trivial | refine ent1 ?_)
            refine eqC_bts (eqC_bts (eqC_bts (eqC_bts ?_)))
            (repeat first | exact trivial | refine ent1 ?_)
          · have en0 : decide ((h.n.l.length : Int) < 1) = false := decide_eq_false (by first | exact hn0 | exact (lt2 _).2 hn0 | omega)
            (repeat first | refine And.intro (by omega) ?_ | refine And.intro (by decide) ?_ | refine And.intro rfl ?_ | refine And.intro (fun _ => ?_) (fun h => Bool.noConfusion h) | refine And.intro (fun h => Bool.noConfusion h) (fun _ => ?_) | refine And.intro (fun _ => ?_) (fun h => absurd h (by rw [en0]; decide)) | refine And.intro (fun h => absurd h (by rw [en0]; decide)) (fun _ => ?_))
            by_cases hn4 : 4 < h.n.l.length
            · have en4 : decide ((4 : Int) < (h.n.l.length : Int)) = true := decide_eq_true (by first | exact hn4 | exact (lt2 _).2 hn4 | omega)
              (repeat first | refine And.intro (by omega) ?_ | refine And.intro (by decide) ?_ | refine And.intro rfl ?_ | refine And.intro (fun _ => ?_) (fun h => Bool.noConfusion h) | refine And.intro (fun h => Bool.noConfusion h) (fun _ => ?_) | refine And.intro (fun _ => ?_) (fun h => absurd h (by rw [en0]; decide)) | refine And.intro (fun h => absurd h (by rw [en0]; decide)) (fun _ => ?_) | refine And.intro (fun _ => ?_) (fun h => absurd h (by rw [en4]; decide)) | refine And.intro (fun h => absurd h (by rw [en4]; decide)) (fun _ => ?_))
              refine ⟨.a (.c (.int .i64 6)), _, ⟨[0, 1, 2, 3], ⟨rfl, rfl, rfl⟩, ?_⟩, by unfold checkM; rw [if_neg (by first | exact hs3 | omega), if_neg (by first | exact hk | omega), if_pos (by first | exact hn4 | omega)], rfl⟩
              (repeat first | exact trivial | refine ent1 ?_)
              refine eqC_bts (eqC_bts (eqC_bts (eqC_bts ?_)))
              (repeat first | exact trivial | refine ent1 ?_)
            · have en4 : decide ((4 : Int) < (h.n.l.length : Int)) = false := decide_eq_false (by first | exact hn4 | exact (lt2 _).2 hn4 | omega)
              (repeat first | refine And.intro (by omega) ?_ | refine And.intro (by decide) ?_ | refine And.intro rfl ?_ | refine And.intro (fun _ => ?_) (fun h => Bool.noConfusion h) | refine And.intro (fun h => Bool.noConfusion h) (fun _ => ?_) | refine And.intro (fun _ => ?_) (fun h => absurd h (by rw [en0]; decide)) | refine And.intro (fun h => absurd h (by rw [en0]; decide)) (fun _ => ?_) | refine And.intro (fun _ => ?_) (fun h => absurd h (by rw [en4]; decide)) | refine And.intro (fun h => absurd h (by rw [en4]; decide)) (fun _ => ?_))
              by_cases hk0 : 0 < h.k.l.length
              · have ek0 : decide ((0 : Int) < (h.k.l.length : Int)) = true := decide_eq_true (by first | exact hk0 | exact (lt2 _).2 hk0 | omega)
                (repeat first | refine And.intro (by omega) ?_ | refine And.intro (by decide) ?_ | refine And.intro rfl ?_ | refine And.intro (fun _ => ?_) (fun h => Bool.noConfusion h) | refine And.intro (fun h => Bool.noConfusion h) (fun _ => ?_) | refine And.intro (fun _ => ?_) (fun h => absurd h (by rw [ek0]; decide)) | refine And.intro (fun h => absurd h (by rw [ek0]; decide)) (fun _ => ?_))
                by_cases hsn0 : h.sp ≠ 0#8
                · have esn0 : decide (h.sp ≠ 0#8) = true := decide_eq_true (by first | exact hsn0 | exact (lt2 _).2 hsn0 | omega)
                  (repeat first | refine And.intro (by omega) ?_ | refine And.intro (by decide) ?_ | refine And.intro rfl ?_ | refine And.intro (fun _ => ?_) (fun h => Bool.noConfusion h) | refine And.intro (fun h => Bool.noConfusion h) (fun _ => ?_) | refine And.intro (fun _ => ?_) (fun h => absurd h (by rw [ek0]; decide)) | refine And.intro (fun h => absurd h (by rw [ek0]; decide)) (fun _ => ?_) | refine And.intro (fun _ => ?_) (fun h => absurd h (by rw [esn0]; decide)) | refine And.intro (fun h => absurd h (by rw [esn0]; decide)) (fun _ => ?_))
                  refine ⟨.a (.c (.int .i64 4)), _, ⟨[0, 1, 2, 3], ⟨rfl, rfl, rfl⟩, ?_⟩, by unfold checkM; rw [if_neg (by first | exact hs3 | omega), if_neg (by first | exact hk | omega), if_neg (by first | exact hn4 | omega), if_pos (by first | exact ⟨hk0, hsn0⟩ | exact ⟨hsn0, hk0⟩)], rfl⟩
                  (repeat first | exact trivial | refine ent1 ?_)
                  refine eqC_bts (eqC_bts (eqC_bts (eqC_bts ?_)))
                  (repeat first | exact trivial | refine ent1 ?_)
                · have esn0 : decide (h.sp ≠ 0#8) = false := decide_eq_false (by first | exact hsn0 | exact (lt2 _).2 hsn0 | omega)
                  (repeat first | refine And.intro (by omega) ?_ | refine And.intro (by decide) ?_ | refine And.intro rfl ?_ | refine And.intro (fun _ => ?_) (fun h => Bool.noConfusion h) | refine And.intro (fun h => Bool.noConfusion h) (fun _ => ?_) | refine And.intro (fun _ => ?_) (fun h => absurd h (by rw [ek0]; decide)) | refine And.intro (fun h => absurd h (by rw [ek0]; decide)) (fun _ => ?_) | refine And.intro (fun _ => ?_) (fun h => absurd h (by rw [esn0]; decide)) | refine And.intro (fun h => absurd h (by rw [esn0]; decide)) (fun _ => ?_))
                  by_cases hf0 : 0 < h.f.l.length
                  · have ef0 : decide ((0 : Int) < (h.f.l.length : Int)) = true := decide_eq_true (by first | exact hf0 | exact (lt2 _).2 hf0 | omega)
                    (repeat first | refine And.intro (by omega) ?_ | refine And.intro (by decide) ?_ | refine And.intro rfl ?_ | refine And.intro (fun _ => ?_) (fun h => Bool.noConfusion h) | refine And.intro (fun h => Bool.noConfusion h) (fun _ => ?_) | refine And.intro (fun _ => ?_) (fun h => absurd h (by rw [ef0]; decide)) | refine And.intro (fun h => absurd h (by rw [ef0]; decide)) (fun _ => ?_))
                    by_cases hse2 : h.sp = 2#8
                    · have ese2 : decide (h.sp = 2#8) = true := decide_eq_true (by first | exact hse2 | exact (lt2 _).2 hse2 | omega)
                      (repeat first | refine And.intro (by omega) ?_ | refine And.intro (by decide) ?_ | refine And.intro rfl ?_ | refine And.intro (fun _ => ?_) (fun h => Bool.noConfusion h) | refine And.intro (fun h => Bool.noConfusion h) (fun _ => ?_) | refine And.intro (fun _ => ?_) (fun h => absurd h (by rw [ef0]; decide)) | refine And.intro (fun h => absurd h (by rw [ef0]; decide)) (fun _ => ?_) | refine And.intro (fun _ => ?_) (fun h => absurd h (by rw [ese2]; decide)) | refine And.intro (fun h => absurd h (by rw [ese2]; decide)) (fun _ => ?_))
                      refine ⟨.a (.c (.int .i64 4)), _, ⟨[0, 1, 2, 3], ⟨rfl, rfl, rfl⟩, ?_⟩, by unfold checkM; rw [if_neg (by first | exact hs3 | omega), if_neg (by first | exact hk | omega), if_neg (by first | exact hn4 | omega), if_neg (fun e => by first | exact hsn0 e.1 | exact hsn0 e.2), if_pos (by first | exact ⟨hf0, hse2⟩ | exact ⟨hse2, hf0⟩)], rfl⟩
                      (repeat first | exact trivial | refine ent1 ?_)
                      refine eqC_bts (eqC_bts (eqC_bts (eqC_bts ?_)))
                      (repeat first | exact trivial | refine ent1 ?_)
                    · have ese2 : decide (h.sp = 2#8) = false := decide_eq_false (by first | exact hse2 | exact (lt2 _).2 hse2 | omega)
                      (repeat first | refine And.intro (by omega) ?_ | refine And.intro (by decide) ?_ | refine And.intro rfl ?_ | refine And.intro (fun _ => ?_) (fun h => Bool.noConfusion h) | refine And.intro (fun h => Bool.noConfusion h) (fun _ => ?_) | refine And.intro (fun _ => ?_) (fun h => absurd h (by rw [ef0]; decide)) | refine And.intro (fun h => absurd h (by rw [ef0]; decide)) (fun _ => ?_) | refine And.intro (fun _ => ?_) (fun h => absurd h (by rw [ese2]; decide)) | refine And.intro (fun h => absurd h (by rw [ese2]; decide)) (fun _ => ?_))
                      by_cases hu : h.turn = true
                      · have eu : h.turn = true := hu
                        (repeat first | refine And.intro (by omega) ?_ | refine And.intro (by decide) ?_ | refine And.intro rfl ?_ | refine And.intro (fun _ => ?_) (fun h => Bool.noConfusion h) | refine And.intro (fun h => Bool.noConfusion h) (fun _ => ?_) | refine And.intro (fun _ => ?_) (fun h => absurd h (by rw [eu]; decide)) | refine And.intro (fun h => absurd h (by rw [eu]; decide)) (fun _ => ?_))
                        by_cases hsn2 : h.sp ≠ 2#8
                        · have esn2 : decide (h.sp ≠ 2#8) = true := decide_eq_true (by first | exact hsn2 | exact (lt2 _).2 hsn2 | omega)
                          (repeat first | refine And.intro (by omega) ?_ | refine And.intro (by decide) ?_ | refine And.intro rfl ?_ | refine And.intro (fun _ => ?_) (fun h => Bool.noConfusion h) | refine And.intro (fun h => Bool.noConfusion h) (fun _ => ?_) | refine And.intro (fun _ => ?_) (fun h => absurd h (by rw [eu]; decide)) | refine And.intro (fun h => absurd h (by rw [eu]; decide)) (fun _ => ?_) | refine And.intro (fun _ => ?_) (fun h => absurd h (by rw [esn2]; decide)) | refine And.intro (fun h => absurd h (by rw [esn2]; decide)) (fun _ => ?_))
                          refine ⟨.a (.c (.int .i64 4)), _, ⟨[0, 1, 2, 3], ⟨rfl, rfl, rfl⟩, ?_⟩, by unfold checkM; rw [if_neg (by first | exact hs3 | omega), if_neg (by first | exact hk | omega), if_neg (by first | exact hn4 | omega), if_neg (fun e => by first | exact hsn0 e.1 | exact hsn0 e.2), if_neg (fun e => by first | exact hse2 e.1 | exact hse2 e.2), if_pos (by first | exact ⟨hu, hsn2⟩ | exact ⟨hsn2, hu⟩)], rfl⟩
                          (repeat first | exact trivial | refine ent1 ?_)
                          refine eqC_bts (eqC_bts (eqC_bts (eqC_bts ?_)))
                          (repeat first | exact trivial | refine ent1 ?_)
                        · have esn2 : decide (h.sp ≠ 2#8) = false := decide_eq_false (by first | exact hsn2 | exact (lt2 _).2 hsn2 | omega)
                          (repeat first | refine And.intro (by omega) ?_ | refine And.intro (by decide) ?_ | refine And.intro rfl ?_ | refine And.intro (fun _ => ?_) (fun h => Bool.noConfusion h) | refine And.intro (fun h => Bool.noConfusion h) (fun _ => ?_) | refine And.intro (fun _ => ?_) (fun h => absurd h (by rw [eu]; decide)) | refine And.intro (fun h => absurd h (by rw [eu]; decide)) (fun _ => ?_) | refine And.intro (fun _ => ?_) (fun h => absurd h (by rw [esn2]; decide)) | refine And.intro (fun h => absurd h (by rw [esn2]; decide)) (fun _ => ?_))
                          refine ⟨.a (.c (.int .i64 0)), _, ⟨[0, 1, 2, 3], ⟨rfl, rfl, rfl⟩, ?_⟩, by unfold checkM; rw [if_neg (by first | exact hs3 | omega), if_neg (by first | exact hk | omega), if_neg (by first | exact hn4 | omega), if_neg (fun e => by first | exact hsn0 e.1 | exact hsn0 e.2), if_neg (fun e => by first | exact hse2 e.1 | exact hse2 e.2), if_neg (fun e => by first | exact hsn2 e.1 | exact hsn2 e.2)], rfl⟩
                          (repeat first | exact trivial | refine ent1 ?_)
                          refine eqC_bts (eqC_bts (eqC_bts (eqC_bts ?_)))
                          (repeat first | exact trivial | refine ent1 ?_)
                      · have eu : h.turn = false := by simpa using hu
                        (repeat first | refine And.intro (by omega) ?_ | refine And.intro (by decide) ?_ | refine And.intro rfl ?_ | refine And.intro (fun _ => ?_) (fun h => Bool.noConfusion h) | refine And.intro (fun h => Bool.noConfusion h) (fun _ => ?_) | refine And.intro (fun _ => ?_) (fun h => absurd h (by rw [eu]; decide)) | refine And.intro (fun h => absurd h (by rw [eu]; decide)) (fun _ => ?_))
                        refine ⟨.a (.c (.int .i64 0)), _, ⟨[0, 1, 2, 3], ⟨rfl, rfl, rfl⟩, ?_⟩, by unfold checkM; rw [if_neg (by first | exact hs3 | omega), if_neg (by first | exact hk | omega), if_neg (by first | exact hn4 | omega), if_neg (fun e => by first | exact hsn0 e.1 | exact hsn0 e.2), if_neg (fun e => by first | exact hse2 e.1 | exact hse2 e.2), if_neg (fun e => by first | exact hu e.1 | exact hu e.2)], rfl⟩
                        (repeat first | exact trivial | refine ent1 ?_)
                        refine eqC_bts (eqC_bts (eqC_bts (eqC_bts ?_)))
                        (repeat first | exact trivial | refine ent1 ?_)
                  · have ef0 : decide ((0 : Int) < (h.f.l.length : Int)) = false := decide_eq_false (by first | exact hf0 | exact (lt2 _).2 hf0 | omega)
                    (repeat first | refine And.intro (by omega) ?_ | refine And.intro (by decide) ?_ | refine And.intro rfl ?_ | refine And.intro (fun _ => ?_) (fun h => Bool.noConfusion h) | refine And.intro (fun h => Bool.noConfusion h) (fun _ => ?_) | refine And.intro (fun _ => ?_) (fun h => absurd h (by rw [ef0]; decide)) | refine And.intro (fun h => absurd h (by rw [ef0]; decide)) (fun _ => ?_))
                    by_cases hu : h.turn = true
                    · have eu : h.turn = true := hu
                      (repeat first | refine And.intro (by omega) ?_ | refine And.intro (by decide) ?_ | refine And.intro rfl ?_ | refine And.intro (fun _ => ?_) (fun h => Bool.noConfusion h) | refine And.intro (fun h => Bool.noConfusion h) (fun _ => ?_) | refine And.intro (fun _ => ?_) (fun h => absurd h (by rw [eu]; decide)) | refine And.intro (fun h => absurd h (by rw [eu]; decide)) (fun _ => ?_))
                      by_cases hsn2 : h.sp ≠ 2#8
                      · have esn2 : decide (h.sp ≠ 2#8) = true := decide_eq_true (by first | exact hsn2 | exact (lt2 _).2 hsn2 | omega)
                        (repeat first | refine And.intro (by omega) ?_ | refine And.intro (by decide) ?_ | refine And.intro rfl ?_ | refine And.intro (fun _ => ?_) (fun h => Bool.noConfusion h) | refine And.intro (fun h => Bool.noConfusion h) (fun _ => ?_) | refine And.intro (fun _ => ?_) (fun h => absurd h (by rw [eu]; decide)) | refine And.intro (fun h => absurd h (by rw [eu]; decide)) (fun _ => ?_) | refine And.intro (fun _ => ?_) (fun h => absurd h (by rw [esn2]; decide)) | refine And.intro (fun h => absurd h (by rw [esn2]; decide)) (fun _ => ?_))
                        refine ⟨.a (.c (.int .i64 4)), _, ⟨[0, 1, 2, 3], ⟨rfl, rfl, rfl⟩, ?_⟩, by unfold checkM; rw [if_neg (by first | exact hs3 | omega), if_neg (by first | exact hk | omega), if_neg (by first | exact hn4 | omega), if_neg (fun e => by first | exact hsn0 e.1 | exact hsn0 e.2), if_neg (fun e => by first | exact hf0 e.1 | exact hf0 e.2), if_pos (by first | exact ⟨hu, hsn2⟩ | exact ⟨hsn2, hu⟩)], rfl⟩
                        (repeat first | exact trivial | refine ent1 ?_)
                        refine eqC_bts (eqC_bts (eqC_bts (eqC_bts ?_)))
                        (repeat first | exact trivial | refine ent1 ?_)
                      · have esn2 : decide (h.sp ≠ 2#8) = false := decide_eq_false (by first | exact hsn2 | exact (lt2 _).2 hsn2 | omega)
                        (repeat first | refine And.intro (by omega) ?_ | refine And.intro (by decide) ?_ | refine And.intro rfl ?_ | refine And.intro (fun _ => ?_) (fun h => Bool.noConfusion h) | refine And.intro (fun h => Bool.noConfusion h) (fun _ => ?_) | refine And.intro (fun _ => ?_) (fun h => absurd h (by rw [eu]; decide)) | refine And.intro (fun h => absurd h (by rw [eu]; decide)) (fun _ => ?_) | refine And.intro (fun _ => ?_) (fun h => absurd h (by rw [esn2]; decide)) | refine And.intro (fun h => absurd h (by rw [esn2]; decide)) (fun _ => ?_))
                        refine ⟨.a (.c (.int .i64 0)), _, ⟨[0, 1, 2, 3], ⟨rfl, rfl, rfl⟩, ?_⟩, by unfold checkM; rw [if_neg (by first | exact hs3 | omega), if_neg (by first | exact hk | omega), if_neg (by first | exact hn4 | omega), if_neg (fun e => by first | exact hsn0 e.1 | exact hsn0 e.2), if_neg (fun e => by first | exact hf0 e.1 | exact hf0 e.2), if_neg (fun e => by first | exact hsn2 e.1 | exact hsn2 e.2)], rfl⟩
                        (repeat first | exact trivial | refine ent1 ?_)
                        refine eqC_bts (eqC_bts (eqC_bts (eqC_bts ?_)))
                        (repeat first | exact trivial | refine ent1 ?_)
                    · have eu : h.turn = false := by simpa using hu
                      (repeat first | refine And.intro (by omega) ?_ | refine And.intro (by decide) ?_ | refine And.intro rfl ?_ | refine And.intro (fun _ => ?_) (fun h => Bool.noConfusion h) | refine And.intro (fun h => Bool.noConfusion h) (fun _ => ?_) | refine And.intro (fun _ => ?_) (fun h => absurd h (by rw [eu]; decide)) | refine And.intro (fun h => absurd h (by rw [eu]; decide)) (fun _ => ?_))
                      refine ⟨.a (.c (.int .i64 0)), _, ⟨[0, 1, 2, 3], ⟨rfl, rfl, rfl⟩, ?_⟩, by unfold checkM; rw [if_neg (by first | exact hs3 | omega), if_neg (by first | exact hk | omega), if_neg (by first | exact hn4 | omega), if_neg (fun e => by first | exact hsn0 e.1 | exact hsn0 e.2), if_neg (fun e => by first | exact hf0 e.1 | exact hf0 e.2), if_neg (fun e => by first | exact hu e.1 | exact hu e.2)], rfl⟩
                      (repeat first | exact trivial | refine ent1 ?_)
                      refine eqC_bts (eqC_bts (eqC_bts (eqC_bts ?_)))
                      (repeat first | exact trivial | refine ent1 ?_)
              · have ek0 : decide ((0 : Int) < (h.k.l.length : Int)) = false := decide_eq_false (by first | exact hk0 | exact (lt2 _).2 hk0 | omega)
                (repeat first | refine And.intro (by omega) ?_ | refine And.intro (by decide) ?_ | refine And.intro rfl ?_ | refine And.intro (fun _ => ?_) (fun h => Bool.noConfusion h) | refine And.intro (fun h => Bool.noConfusion h) (fun _ => ?_) | refine And.intro (fun _ => ?_) (fun h => absurd h (by rw [ek0]; decide)) | refine And.intro (fun h => absurd h (by rw [ek0]; decide)) (fun _ => ?_))
                by_cases hf0 : 0 < h.f.l.length
                · have ef0 : decide ((0 : Int) < (h.f.l.length : Int)) = true := decide_eq_true (by first | exact hf0 | exact (lt2 _).2 hf0 | omega)
                  (repeat first | refine And.intro (by omega) ?_ | refine And.intro (by decide) ?_ | refine And.intro rfl ?_ | refine And.intro (fun _ => ?_) (fun h => Bool.noConfusion h) | refine And.intro (fun h => Bool.noConfusion h) (fun _ => ?_) | refine And.intro (fun _ => ?_) (fun h => absurd h (by rw [ef0]; decide)) | refine And.intro (fun h => absurd h (by rw [ef0]; decide)) (fun _ => ?_))
                  by_cases hse2 : h.sp = 2#8
                  · have ese2 : decide (h.sp = 2#8) = true := decide_eq_true (by first | exact hse2 | exact (lt2 _).2 hse2 | omega)
                    (repeat first | refine And.intro (by omega) ?_ | refine And.intro (by decide) ?_ | refine And.intro rfl ?_ | refine And.intro (fun _ => ?_) (fun h => Bool.noConfusion h) | refine And.intro (fun h => Bool.noConfusion h) (fun _ => ?_) | refine And.intro (fun _ => ?_) (fun h => absurd h (by rw [ef0]; decide)) | refine And.intro (fun h => absurd h (by rw [ef0]; decide)) (fun _ => ?_) | refine And.intro (fun _ => ?_) (fun h => absurd h (by rw [ese2]; decide)) | refine And.intro (fun h => absurd h (by rw [ese2]; decide)) (fun _ => ?_))
                    refine ⟨.a (.c (.int .i64 4)), _, ⟨[0, 1, 2, 3], ⟨rfl, rfl, rfl⟩, ?_⟩, by unfold checkM; rw [if_neg (by first | exact hs3 | omega), if_neg (by first | exact hk | omega), if_neg (by first | exact hn4 | omega), if_neg (fun e => by first | exact hk0 e.1 | exact hk0 e.2), if_pos (by first | exact ⟨hf0, hse2⟩ | exact ⟨hse2, hf0⟩)], rfl⟩
                    (repeat first | exact trivial | refine ent1 ?_)
                    refine eqC_bts (eqC_bts (eqC_bts (eqC_bts ?_)))
                    (repeat first | exact trivial | refine ent1 ?_)
                  · have ese2 : decide (h.sp = 2#8) = false := decide_eq_false (by first | exact hse2 | exact (lt2 _).2 hse2 | omega)
                    (repeat first | refine And.intro (by omega) ?_ | refine And.intro (by decide) ?_ | refine And.intro rfl ?_ | refine And.intro (fun _ => ?_) (fun h => Bool.noConfusion h) | refine And.intro (fun h => Bool.noConfusion h) (fun _ => ?_) | refine And.intro (fun _ => ?_) (fun h => absurd h (by rw [ef0]; decide)) | refine And.intro (fun h => absurd h (by rw [ef0]; decide)) (fun _ => ?_) | refine And.intro (fun _ => ?_) (fun h => absurd h (by rw [ese2]; decide)) | refine And.intro (fun h => absurd h (by rw [ese2]; decide)) (fun _ => ?_))
                    by_cases hu : h.turn = true
                    · have eu : h.turn = true := hu
                      (repeat first | refine And.intro (by omega) ?_ | refine And.intro (by decide) ?_ | refine And.intro rfl ?_ | refine And.intro (fun _ => ?_) (fun h => Bool.noConfusion h) | refine And.intro (fun h => Bool.noConfusion h) (fun _ => ?_) | refine And.intro (fun _ => ?_) (fun h => absurd h (by rw [eu]; decide)) | refine And.intro (fun h => absurd h (by rw [eu]; decide)) (fun _ => ?_))
                      by_cases hsn2 : h.sp ≠ 2#8
                      · have esn2 : decide (h.sp ≠ 2#8) = true := decide_eq_true (by first | exact hsn2 | exact (lt2 _).2 hsn2 | omega)
                        (repeat first | refine And.intro (by omega) ?_ | refine And.intro (by decide) ?_ | refine And.intro rfl ?_ | refine And.intro (fun _ => ?_) (fun h => Bool.noConfusion h) | refine And.intro (fun h => Bool.noConfusion h) (fun _ => ?_) | refine And.intro (fun _ => ?_) (fun h => absurd h (by rw [eu]; decide)) | refine And.intro (fun h => absurd h (by rw [eu]; decide)) (fun _ => ?_) | refine And.intro (fun _ => ?_) (fun h => absurd h (by rw [esn2]; decide)) | refine And.intro (fun h => absurd h (by rw [esn2]; decide)) (fun _ => ?_))
                        refine ⟨.a (.c (.int .i64 4)), _, ⟨[0, 1, 2, 3], ⟨rfl, rfl, rfl⟩, ?_⟩, by unfold checkM; rw [if_neg (by first | exact hs3 | omega), if_neg (by first | exact hk | omega), if_neg (by first | exact hn4 | omega), if_neg (fun e => by first | exact hk0 e.1 | exact hk0 e.2), if_neg (fun e => by first | exact hse2 e.1 | exact hse2 e.2), if_pos (by first | exact ⟨hu, hsn2⟩ | exact ⟨hsn2, hu⟩)], rfl⟩
                        (repeat first | exact trivial | refine ent1 ?_)
                        refine eqC_bts (eqC_bts (eqC_bts (eqC_bts ?_)))
                        (repeat first | exact trivial | refine ent1 ?_)
                      · have esn2 : decide (h.sp ≠ 2#8) = false := decide_eq_false (by first | exact hsn2 | exact (lt2 _).2 hsn2 | omega)
                        (repeat first | refine And.intro (by omega) ?_ | refine And.intro (by decide) ?_ | refine And.intro rfl ?_ | refine And.intro (fun _ => ?_) (fun h => Bool.noConfusion h) | refine And.intro (fun h => Bool.noConfusion h) (fun _ => ?_) | refine And.intro (fun _ => ?_) (fun h => absurd h (by rw [eu]; decide)) | refine And.intro (fun h => absurd h (by rw [eu]; decide)) (fun _ => ?_) | refine And.intro (fun _ => ?_) (fun h => absurd h (by rw [esn2]; decide)) | refine And.intro (fun h => absurd h (by rw [esn2]; decide)) (fun _ => ?_))
                        refine ⟨.a (.c (.int .i64 0)), _, ⟨[0, 1, 2, 3], ⟨rfl, rfl, rfl⟩, ?_⟩, by unfold checkM; rw [if_neg (by first | exact hs3 | omega), if_neg (by first | exact hk | omega), if_neg (by first | exact hn4 | omega), if_neg (fun e => by first | exact hk0 e.1 | exact hk0 e.2), if_neg (fun e => by first | exact hse2 e.1 | exact hse2 e.2), if_neg (fun e => by first | exact hsn2 e.1 | exact hsn2 e.2)], rfl⟩
                        (repeat first | exact trivial | refine ent1 ?_)
                        refine eqC_bts (eqC_bts (eqC_bts (eqC_bts ?_)))
                        (repeat first | exact trivial | refine ent1 ?_)
                    · have eu : h.turn = false := by simpa using hu
                      (repeat first | refine And.intro (by omega) ?_ | refine And.intro (by decide) ?_ | refine And.intro rfl ?_ | refine And.intro (fun _ => ?_) (fun h => Bool.noConfusion h) | refine And.intro (fun h => Bool.noConfusion h) (fun _ => ?_) | refine And.intro (fun _ => ?_) (fun h => absurd h (by rw [eu]; decide)) | refine And.intro (fun h => absurd h (by rw [eu]; decide)) (fun _ => ?_))
                      refine ⟨.a (.c (.int .i64 0)), _, ⟨[0, 1, 2, 3], ⟨rfl, rfl, rfl⟩, ?_⟩, by unfold checkM; rw [if_neg (by first | exact hs3 | omega), if_neg (by first | exact hk | omega), if_neg (by first | exact hn4 | omega), if_neg (fun e => by first | exact hk0 e.1 | exact hk0 e.2), if_neg (fun e => by first | exact hse2 e.1 | exact hse2 e.2), if_neg (fun e => by first | exact hu e.1 | exact hu e.2)], rfl⟩
                      (repeat first | exact trivial | refine ent1 ?_)
                      refine eqC_bts (eqC_bts (eqC_bts (eqC_bts ?_)))
                      (repeat first | exact trivial | refine ent1 ?_)
                · have ef0 : decide ((0 : Int) < (h.f.l.length : Int)) = false := decide_eq_false (by first | exact hf0 | exact (lt2 _).2 hf0 | omega)
                  (repeat first | refine And.intro (by omega) ?_ | refine And.intro (by decide) ?_ | refine And.intro rfl ?_ | refine And.intro (fun _ => ?_) (fun h => Bool.noConfusion h) | refine And.intro (fun h => Bool.noConfusion h) (fun _ => ?_) | refine And.intro (fun _ => ?_) (fun h => absurd h (by rw [ef0]; decide)) | refine And.intro (fun h => absurd h (by rw [ef0]; decide)) (fun _ => ?_))
                  by_cases hu : h.turn = true
                  · have eu : h.turn = true := hu
                    (repeat first | refine And.intro (by omega) ?_ | refine And.intro (by decide) ?_ | refine And.intro rfl ?_ | refine And.intro (fun _ => ?_) (fun h => Bool.noConfusion h) | refine And.intro (fun h => Bool.noConfusion h) (fun _ => ?_) | refine And.intro (fun _ => ?_) (fun h => absurd h (by rw [eu]; decide)) | refine And.intro (fun h => absurd h (by rw [eu]; decide)) (fun _ => ?_))
                    by_cases hsn2 : h.sp ≠ 2#8
                    · have esn2 : decide (h.sp ≠ 2#8) = true := decide_eq_true (by first | exact hsn2 | exact (lt2 _).2 hsn2 | omega)
                      (repeat first | refine And.intro (by omega) ?_ | refine And.intro (by decide) ?_ | refine And.intro rfl ?_ | refine And.intro (fun _ => ?_) (fun h => Bool.noConfusion h) | refine And.intro (fun h => Bool.noConfusion h) (fun _ => ?_) | refine And.intro (fun _ => ?_) (fun h => absurd h (by rw [eu]; decide)) | refine And.intro (fun h => absurd h (by rw [eu]; decide)) (fun _ => ?_) | refine And.intro (fun _ => ?_) (fun h => absurd h (by rw [esn2]; decide)) | refine And.intro (fun h => absurd h (by rw [esn2]; decide)) (fun _ => ?_))
                      refine ⟨.a (.c (.int .i64 4)), _, ⟨[0, 1, 2, 3], ⟨rfl, rfl, rfl⟩, ?_⟩, by unfold checkM; rw [if_neg (by first | exact hs3 | omega), if_neg (by first | exact hk | omega), if_neg (by first | exact hn4 | omega), if_neg (fun e => by first | exact hk0 e.1 | exact hk0 e.2), if_neg (fun e => by first | exact hf0 e.1 | exact hf0 e.2), if_pos (by first | exact ⟨hu, hsn2⟩ | exact ⟨hsn2, hu⟩)], rfl⟩
                      (repeat first | exact trivial | refine ent1 ?_)
                      refine eqC_bts (eqC_bts (eqC_bts (eqC_bts ?_)))
                      (repeat first | exact trivial | refine ent1 ?_)
                    · have esn2 : decide (h.sp ≠ 2#8) = false := decide_eq_false (by first | exact hsn2 | exact (lt2 _).2 hsn2 | omega)
                      (repeat first | refine And.intro (by omega) ?_ | refine And.intro (by decide) ?_ | refine And.intro rfl ?_ | refine And.intro (fun _ => ?_) (fun h => Bool.noConfusion h) | refine And.intro (fun h => Bool.noConfusion h) (fun _ => ?_) | refine And.intro (fun _ => ?_) (fun h => absurd h (by rw [eu]; decide)) | refine And.intro (fun h => absurd h (by rw [eu]; decide)) (fun _ => ?_) | refine And.intro (fun _ => ?_) (fun h => absurd h (by rw [esn2]; decide)) | refine And.intro (fun h => absurd h (by rw [esn2]; decide)) (fun _ => ?_))
                      refine ⟨.a (.c (.int .i64 0)), _, ⟨[0, 1, 2, 3], ⟨rfl, rfl, rfl⟩, ?_⟩, by unfold checkM; rw [if_neg (by first | exact hs3 | omega), if_neg (by first | exact hk | omega), if_neg (by first | exact hn4 | omega), if_neg (fun e => by first | exact hk0 e.1 | exact hk0 e.2), if_neg (fun e => by first | exact hf0 e.1 | exact hf0 e.2), if_neg (fun e => by first | exact hsn2 e.1 | exact hsn2 e.2)], rfl⟩
                      (repeat first | exact trivial | refine ent1 ?_)
                      refine eqC_bts (eqC_bts (eqC_bts (eqC_bts ?_)))
                      (repeat first | exact trivial | refine ent1 ?_)
                  · have eu : h.turn = false := by simpa using hu
                    (repeat first | refine And.intro (by omega) ?_ | refine And.intro (by decide) ?_ | refine And.intro rfl ?_ | refine And.intro (fun _ => ?_) (fun h => Bool.noConfusion h) | refine And.intro (fun h => Bool.noConfusion h) (fun _ => ?_) | refine And.intro (fun _ => ?_) (fun h => absurd h (by rw [eu]; decide)) | refine And.intro (fun h => absurd h (by rw [eu]; decide)) (fun _ => ?_))
                    refine ⟨.a (.c (.int .i64 0)), _, ⟨[0, 1, 2, 3], ⟨rfl, rfl, rfl⟩, ?_⟩, by unfold checkM; rw [if_neg (by first | exact hs3 | omega), if_neg (by first | exact hk | omega), if_neg (by first | exact hn4 | omega), if_neg (fun e => by first | exact hk0 e.1 | exact hk0 e.2), if_neg (fun e => by first | exact hf0 e.1 | exact hf0 e.2), if_neg (fun e => by first | exact hu e.1 | exact hu e.2)], rfl⟩
                    (repeat first | exact trivial | refine ent1 ?_)
                    refine eqC_bts (eqC_bts (eqC_bts (eqC_bts ?_)))
                    (repeat first | exact trivial | refine ent1 ?_)
end Sx
end Go.Proofs.YtkjdkeolkigibaaGreat
end

section
/-
  Headers: the law's Fit; long spaces. No condition.
-/
namespace Go.Proofs.YtkjdkeolkigibaaGreat
set_option linter.unusedVariables false
namespace Sx
open Sha Vi

def nilS : Sl := ⟨true, 0, 0, 0, []⟩
def cutS (s : Sl) (n : Nat) : Sl := ⟨s.z, s.N, s.o, s.c, s.l.take n⟩
/-- A header that may be, of any. -/
def fitM (h : Hd) (c : Nat) : Hd := ⟨h.sp % 3#8, cutS h.t 20, if h.sp % 3#8 = 2#8 then nilS else cutS h.f 20, if h.sp % 3#8 = 0#8 then cutS h.k 64 else nilS, if h.sp % 3#8 = 2#8 then h.turn else false, ⟨false, c, 0, c, h.n.l.take 3 ++ [7#8]⟩⟩
theorem cutS_ok {s : Sl} (h : s.Ok) (n : Nat) : (cutS s n).Ok := by
  have h1 := h.fit
  have h2 := h.cap
  have h3 := h.small
  refine ⟨?_, ?_, fun hz => ?_, ?_⟩
  · show s.o + (s.l.take n).length ≤ s.N
    rw [List.length_take]; omega
  · show (s.l.take n).length ≤ s.c
    rw [List.length_take]; omega
  · show s.l.take n = []
    rw [h.nil hz]; simp
  · show (s.l.take n).length ≤ _
    rw [List.length_take]; omega
theorem mod3 : ∀ x : BitVec 8, x % 3#8 = 0#8 ∨ x % 3#8 = 1#8 ∨ x % 3#8 = 2#8 := by decide +kernel
theorem fitM_ok {h : Hd} (ho : h.Ok) {c : Nat} (hc : (h.n.l.take 3).length + 1 ≤ c) : (fitM h c).Ok := by
  refine ⟨cutS_ok ho.t _, ?_, ?_, ?_⟩
  · show Sl.Ok (if _ then _ else _)
    split
    · exact nil_ok
    · exact cutS_ok ho.f _
  · show Sl.Ok (if _ then _ else _)
    split
    · exact cutS_ok ho.k _
    · exact nil_ok
  · exact own_ok (by simpa using hc) (by simp; omega)
theorem fitM_check (h : Hd) (c : Nat) : checkM (fitM h c) = 0 := by
  have a1 : ((cutS h.t 20).l).length ≤ 20 := by show (h.t.l.take 20).length ≤ 20; rw [List.length_take]; omega
  have a2 : ((cutS h.f 20).l).length ≤ 20 := by show (h.f.l.take 20).length ≤ 20; rw [List.length_take]; omega
  have a3 : ((cutS h.k 64).l).length ≤ 64 := by show (h.k.l.take 64).length ≤ 64; rw [List.length_take]; omega
  have a4 : (h.n.l.take 3 ++ [7#8]).length = (h.n.l.take 3).length + 1 := by simp
  have a5 : (h.n.l.take 3).length ≤ 3 := by rw [List.length_take]; omega
  unfold checkM fitM
  rcases mod3 h.sp with e | e | e
  · simp only [e, if_pos, if_neg (show ¬ (0#8 = 2#8) by decide), if_neg (show ¬ (3#8 ≤ 0#8) by decide)]
    rw [if_neg (by omega), if_neg (by omega), if_neg (by rintro ⟨_, h⟩; exact h rfl), if_neg (by rintro ⟨_, h⟩; exact absurd h (by decide)), if_neg (by rintro ⟨h, _⟩; cases h)]
  · simp only [e, if_neg (show ¬ (1#8 = 2#8) by decide), if_neg (show ¬ (1#8 = 0#8) by decide), if_neg (show ¬ (3#8 ≤ 1#8) by decide)]
    rw [if_neg (by simp [nilS]; omega), if_neg (by omega), if_neg (by rintro ⟨h, _⟩; simp [nilS] at h), if_neg (by rintro ⟨_, h⟩; exact absurd h (by decide)), if_neg (by rintro ⟨h, _⟩; cases h)]
  · simp only [e, if_pos, if_neg (show ¬ (2#8 = 0#8) by decide), if_neg (show ¬ (3#8 ≤ 2#8) by decide)]
    rw [if_neg (by simp [nilS]; omega), if_neg (by omega), if_neg (by rintro ⟨h, _⟩; simp [nilS] at h), if_neg (by rintro ⟨h, _⟩; simp [nilS] at h), if_neg (by rintro ⟨_, h⟩; exact h rfl)]
theorem cutS_sub (s : Sl) (n : Nat) : Sub s (cutS s n) := by
  refine ⟨id, fun _ => rfl, fun _ => ⟨Nat.le_refl _, ?_⟩, fun i hi => ?_⟩
  · show s.o + (s.l.take n).length ≤ _
    rw [List.length_take]; omega
  · have hi : i < (s.l.take n).length := hi
    rw [List.length_take] at hi
    show L s.l (s.o - s.o + i) = L (s.l.take n) i
    rw [Nat.sub_self, Nat.zero_add, L_take _ _ _ (by omega)]
theorem fitM_f_sub (h : Hd) (c : Nat) : Sub h.f (fitM h c).f := by
  show Sub h.f (if _ then _ else _)
  split
  · exact Sub.nil _
  · exact cutS_sub _ _
theorem fitM_k_sub (h : Hd) (c : Nat) : Sub h.k (fitM h c).k := by
  show Sub h.k (if _ then _ else _)
  split
  · exact cutS_sub _ _
  · exact Sub.nil _
theorem minN {a n : Nat} : (if (a : Int) < (n : Int) then (a : Int) else (n : Int)).toNat = min a n := by split <;> omega
set_option maxRecDepth 20000 in
set_option maxHeartbeats 4000000 in
theorem fn_hfit (h : Hd) (ho : h.Ok) : FnR Tryz.prog tds 13 4 (hdB h) [.agg (hdC 0 1 2 3 h)] (fun _ => True)
    (fun y hs => ∃ c, (h.n.l.take 3).length + 1 ≤ c ∧ y = .a (.agg (hdC 0 1 2 4 (fitM h c))) ∧ hs = hdB h ++ [svB (fitM h c).n]) := by
  refine fn_of_body tds_ok follows_ Tryz.func13 rfl (t := .a (.agg (hdC 0 1 2 3 h)) :: anys (Tryz.f13.ntmps - 1)) rfl (fun w r0 hr _ => ?_)
  obtain ⟨x0, x1, x2, x3, rfl⟩ := len4' hr
  have ct := ho.t.cap
  have cf := ho.f.cap
  have ck := ho.k.cap
  have cn := ho.n.cap
  (repeat first | refine And.intro (by omega) ?_ | refine And.intro (by decide) ?_ | (with_reducible refine frc_parts (by first | omega | decide) ?_) | (with_reducible refine frc_bytesL (by first | omega | decide) ?_) | refine And.intro rfl ?_)
  refine ⟨none, [], [(0, true), (1, true), (2, true), (3, true), (4, true), (5, true), (6, true), (7, true), (8, true), (9, true), (10, true), (11, true), (12, true), (13, true), (14, true), (15, true), (16, true), (17, true), (18, true), (19, true), (20, true), (21, true)], [22, 23, 24, 25, 26], by kernel_rfl, ?_⟩
  (repeat first | refine And.intro (by omega) ?_ | refine And.intro (by decide) ?_ | (with_reducible refine frc_parts (by first | omega | decide) ?_) | (with_reducible refine frc_bytesL (by first | omega | decide) ?_) | refine And.intro rfl ?_)
  refine frcN_of (m := 0) rfl ?_
  refine frcN_of (m := min 3 h.n.l.length) (minN (a := 3)) ?_
  refine frcN_of (m := h.n.o) (by split <;> simp) ?_
  refine frcN_of (m := min 3 h.n.l.length) rfl ?_
  refine frcN_of (m := h.n.c) rfl ?_
  refine sn_cut ho.n rfl (by omega) (fun g hg => ?_)
  refine ⟨⟨Nat.le_refl _, Nat.le_refl _, by show (0 + min 3 h.n.l.length) * 1 ≤ 140737488355328; omega⟩, fun c1 hc1 => ?_⟩
  (repeat first | refine And.intro (by omega) ?_ | refine And.intro (by decide) ?_ | (with_reducible refine frc_parts (by first | omega | decide) ?_) | (with_reducible refine frc_bytesL (by first | omega | decide) ?_) | refine And.intro rfl ?_)
  refine ⟨⟨hc1, by show 0 + c1 ≤ c1; omega, by show (0 + min 3 h.n.l.length + 1) * 1 ≤ 140737488355328; omega⟩, fun c2 hc2 => ?_⟩
  have lt3 : (h.n.l.take 3).length = min 3 h.n.l.length := List.length_take
  have row : ∀ i, i < (h.n.l.take 3 ++ [7#8]).length → appF (appF (nthC []) 0 (scale 0 (0 + 1)) (scale (min 3 h.n.l.length) (0 + 1)) g) 0 (scale (0 + min 3 h.n.l.length) (0 + 1)) (scale 1 (0 + 1)) (fun q => nthC [.w8 7#8] (q + 0)) i = .w8 (L (h.n.l.take 3 ++ [7#8]) i) := by
    intro i hi
    refine app_row (by rw [lt3, Nat.zero_add]) rfl (fun i hi => ?_) (fun i hi => one_row rfl i hi) i (by rw [List.length_append, lt3] at hi; simpa using hi)
    exact app_row (l := []) (m := h.n.l.take 3) rfl lt3 (fun i hi => absurd hi (by simp)) (fun i hi => by rw [hg i hi, L_take _ _ _ (by omega)]) i hi
  have hlen : (fitM h c2).n.l.length = 0 + min 3 h.n.l.length + 1 := by show (h.n.l.take 3 ++ [7#8]).length = _; simp [lt3]
  rcases mod3 h.sp with e | e | e
  · have e0 : decide (h.sp % 3#8 ≠ 0#8) = false := by rw [e]; decide
    have e2 : decide (h.sp % 3#8 = 2#8) = false := by rw [e]; decide
    have hfm : fitM h c2 = ⟨0#8, cutS h.t 20, cutS h.f 20, cutS h.k 64, false, ⟨false, c2, 0, c2, h.n.l.take 3 ++ [7#8]⟩⟩ := by unfold fitM; rw [e]; rfl
    (repeat first | refine And.intro (by omega) ?_ | refine And.intro (by decide) ?_ | refine And.intro rfl ?_ | refine And.intro (fun _ => ?_) (fun h => Bool.noConfusion h) | refine And.intro (fun h => Bool.noConfusion h) (fun _ => ?_) | refine And.intro (fun _ => ?_) (fun h => absurd h (by rw [e0]; decide)) | refine And.intro (fun h => absurd h (by rw [e0]; decide)) (fun _ => ?_) | refine And.intro (fun _ => ?_) (fun h => absurd h (by rw [e2]; decide)) | refine And.intro (fun h => absurd h (by rw [e2]; decide)) (fun _ => ?_))
    refine ⟨.a (.agg (hdC 0 1 2 4 ⟨0#8, cutS h.t 20, cutS h.f 20, cutS h.k 64, false, ⟨false, c2, 0, c2, h.n.l.take 3 ++ [7#8]⟩⟩)), hdB h ++ [svB ⟨false, c2, 0, c2, h.n.l.take 3 ++ [7#8]⟩], ⟨[0, 1, 2, 3, 9], ⟨rfl, rfl, rfl⟩, ?_⟩, c2, by rw [lt3]; omega, by rw [hfm], by rw [hfm]⟩
    refine ⟨rfl, e, ?_⟩
    refine ⟨rfl, by split <;> simp [cutS], (minN (a := 20)).trans List.length_take.symm, rfl, ?_⟩
    refine ⟨rfl, by split <;> simp [cutS], (minN (a := 20)).trans List.length_take.symm, rfl, ?_⟩
    refine ⟨rfl, by split <;> simp [cutS], (minN (a := 64)).trans List.length_take.symm, rfl, ?_⟩
    refine ⟨rfl, rfl, rfl, by rw [hfm] at hlen; exact hlen.symm, rfl, ?_⟩
    refine eqC_bts (eqC_bts (eqC_bts (eqC_bts ?_)))
    exact ⟨rfl, fun j hj => eqC_win0 (fun i hi => row i hi) j, trivial⟩
  · have e0 : decide (h.sp % 3#8 ≠ 0#8) = true := by rw [e]; decide
    have e2 : decide (h.sp % 3#8 = 2#8) = false := by rw [e]; decide
    have hfm : fitM h c2 = ⟨1#8, cutS h.t 20, cutS h.f 20, nilS, false, ⟨false, c2, 0, c2, h.n.l.take 3 ++ [7#8]⟩⟩ := by unfold fitM; rw [e]; rfl
    (repeat first | refine And.intro (by omega) ?_ | refine And.intro (by decide) ?_ | refine And.intro rfl ?_ | refine And.intro (fun _ => ?_) (fun h => Bool.noConfusion h) | refine And.intro (fun h => Bool.noConfusion h) (fun _ => ?_) | refine And.intro (fun _ => ?_) (fun h => absurd h (by rw [e0]; decide)) | refine And.intro (fun h => absurd h (by rw [e0]; decide)) (fun _ => ?_) | refine And.intro (fun _ => ?_) (fun h => absurd h (by rw [e2]; decide)) | refine And.intro (fun h => absurd h (by rw [e2]; decide)) (fun _ => ?_))
    refine ⟨.a (.agg (hdC 0 1 2 4 ⟨1#8, cutS h.t 20, cutS h.f 20, nilS, false, ⟨false, c2, 0, c2, h.n.l.take 3 ++ [7#8]⟩⟩)), hdB h ++ [svB ⟨false, c2, 0, c2, h.n.l.take 3 ++ [7#8]⟩], ⟨[0, 1, 2, 3, 9], ⟨rfl, rfl, rfl⟩, ?_⟩, c2, by rw [lt3]; omega, by rw [hfm], by rw [hfm]⟩
    refine ⟨rfl, e, ?_⟩
    refine ⟨rfl, by split <;> simp [cutS], (minN (a := 20)).trans List.length_take.symm, rfl, ?_⟩
    refine ⟨rfl, by split <;> simp [cutS], (minN (a := 20)).trans List.length_take.symm, rfl, ?_⟩
    refine ⟨rfl, rfl, rfl, rfl, rfl, ?_⟩
    refine ⟨rfl, rfl, rfl, by rw [hfm] at hlen; exact hlen.symm, rfl, ?_⟩
    refine eqC_bts (eqC_bts (eqC_bts (eqC_bts ?_)))
    exact ⟨rfl, fun j hj => eqC_win0 (fun i hi => row i hi) j, trivial⟩
  · have e0 : decide (h.sp % 3#8 ≠ 0#8) = true := by rw [e]; decide
    have e2 : decide (h.sp % 3#8 = 2#8) = true := by rw [e]; decide
    have hfm : fitM h c2 = ⟨2#8, cutS h.t 20, nilS, nilS, h.turn, ⟨false, c2, 0, c2, h.n.l.take 3 ++ [7#8]⟩⟩ := by unfold fitM; rw [e]; rfl
    (repeat first | refine And.intro (by omega) ?_ | refine And.intro (by decide) ?_ | refine And.intro rfl ?_ | refine And.intro (fun _ => ?_) (fun h => Bool.noConfusion h) | refine And.intro (fun h => Bool.noConfusion h) (fun _ => ?_) | refine And.intro (fun _ => ?_) (fun h => absurd h (by rw [e0]; decide)) | refine And.intro (fun h => absurd h (by rw [e0]; decide)) (fun _ => ?_) | refine And.intro (fun _ => ?_) (fun h => absurd h (by rw [e2]; decide)) | refine And.intro (fun h => absurd h (by rw [e2]; decide)) (fun _ => ?_))
    refine ⟨.a (.agg (hdC 0 1 2 4 ⟨2#8, cutS h.t 20, nilS, nilS, h.turn, ⟨false, c2, 0, c2, h.n.l.take 3 ++ [7#8]⟩⟩)), hdB h ++ [svB ⟨false, c2, 0, c2, h.n.l.take 3 ++ [7#8]⟩], ⟨[0, 1, 2, 3, 9], ⟨rfl, rfl, rfl⟩, ?_⟩, c2, by rw [lt3]; omega, by rw [hfm], by rw [hfm]⟩
    refine ⟨rfl, e, ?_⟩
    refine ⟨rfl, by split <;> simp [cutS], (minN (a := 20)).trans List.length_take.symm, rfl, ?_⟩
    refine ⟨rfl, rfl, rfl, rfl, rfl, ?_⟩
    refine ⟨rfl, rfl, rfl, rfl, rfl, ?_⟩
    refine ⟨rfl, rfl, rfl, by rw [hfm] at hlen; exact hlen.symm, rfl, ?_⟩
    refine eqC_bts (eqC_bts (eqC_bts (eqC_bts ?_)))
    exact ⟨rfl, fun j hj => eqC_win0 (fun i hi => row i hi) j, trivial⟩
end Sx
end Go.Proofs.YtkjdkeolkigibaaGreat
end

section
/-
  Headers taken: any; sharing nothing; with their numbers; which are the same. No condition.
-/
namespace Go.Proofs.YtkjdkeolkigibaaGreat
set_option linter.unusedVariables false
namespace Vi
open Sha
def idN (id : Int) : Nat := min id.toNat 20
def parseP (b : Bs) (id : Int) : PM :=
  if b.length = 0 then .no 3 else if L b 0 &&& 64#8 = 0#8 then .no 4 else if L b 0 &&& 128#8 ≠ 0#8 then longP b
  else if b.length < 1 + idN id then .no 3 else .ok 2#8 ((b.drop 1).take (idN id)) [] [] (1 + idN id) b.length
end Vi
namespace Sx
open Sha Vi

theorem len8' {α : Type} : ∀ {l : List α}, l.length = 8 → ∃ a b c d e f g h, l = [a, b, c, d, e, f, g, h]
  | [a, b, c, d, e, f, g, h], _ => ⟨a, b, c, d, e, f, g, h, rfl⟩
theorem idN_int (id : Int) : (if (20 : Int) < (if id < 0 then 0 else id) then 20 else (if id < 0 then 0 else id)) = ((idN id : Nat) : Int) := by
  unfold idN
  split <;> split <;> omega
/-- The same as h, sharing nothing. -/
structure HdEq (g h : Hd) : Prop where
  sp : g.sp = h.sp
  turn : g.turn = h.turn
  t : g.t.l = h.t.l
  f : g.f.l = h.f.l
  k : g.k.l = h.k.l
  n : g.n.l = h.n.l
set_option maxRecDepth 20000 in
set_option maxHeartbeats 4000000 in
theorem fn_hown (h : Hd) (ho : h.Ok) : FnR Tryz.prog tds 52 4 (hdB h) [.agg (hdC 0 1 2 3 h)] (fun _ => True)
    (fun y hs => ∃ g : Hd, g.Ok ∧ HdEq g h ∧ y = .a (.agg (hdC 4 5 6 7 g)) ∧ hs = hdB h ++ hdB g) := by
  refine fn_of_body tds_ok follows_ Tryz.func52 rfl (t := .a (.agg (hdC 0 1 2 3 h)) :: anys (Tryz.f52.ntmps - 1)) rfl (fun w r0 hr _ => ?_)
  obtain ⟨x0, x1, x2, x3, rfl⟩ := len4' hr
  (repeat first | refine And.intro (by omega) ?_ | refine And.intro (by decide) ?_ | (with_reducible refine frc_parts (by first | omega | decide) ?_) | (with_reducible refine frc_bytesL (by first | omega | decide) ?_) | refine And.intro rfl ?_)
  refine call_pad (fn_clone h.t ho.t) [0] rfl (by (repeat first | exact trivial | refine ent1 ?_)) (eqC_bts trivial) (fun _ _ => trivial) ?_
  rintro x hs ⟨t, ht, et, rfl, rfl⟩
  (repeat first | refine And.intro (by omega) ?_ | refine And.intro (by decide) ?_ | (with_reducible refine frc_parts (by first | omega | decide) ?_) | (with_reducible refine frc_bytesL (by first | omega | decide) ?_) | refine And.intro rfl ?_)
  refine call_pad (fn_clone h.f ho.f) [1] rfl (by (repeat first | exact trivial | refine ent1 ?_)) (eqC_bts trivial) (fun _ _ => trivial) ?_
  rintro x hs ⟨f, hf, ef, rfl, rfl⟩
  (repeat first | refine And.intro (by omega) ?_ | refine And.intro (by decide) ?_ | (with_reducible refine frc_parts (by first | omega | decide) ?_) | (with_reducible refine frc_bytesL (by first | omega | decide) ?_) | refine And.intro rfl ?_)
  refine call_pad (fn_clone h.k ho.k) [2] rfl (by (repeat first | exact trivial | refine ent1 ?_)) (eqC_bts trivial) (fun _ _ => trivial) ?_
  rintro x hs ⟨k, hk, ek, rfl, rfl⟩
  (repeat first | refine And.intro (by omega) ?_ | refine And.intro (by decide) ?_ | (with_reducible refine frc_parts (by first | omega | decide) ?_) | (with_reducible refine frc_bytesL (by first | omega | decide) ?_) | refine And.intro rfl ?_)
  refine call_pad (fn_clone h.n ho.n) [3] rfl (by (repeat first | exact trivial | refine ent1 ?_)) (eqC_bts trivial) (fun _ _ => trivial) ?_
  rintro x hs ⟨n, hn, en, rfl, rfl⟩
  (repeat first | refine And.intro (by omega) ?_ | refine And.intro (by decide) ?_ | (with_reducible refine frc_parts (by first | omega | decide) ?_) | (with_reducible refine frc_bytesL (by first | omega | decide) ?_) | refine And.intro rfl ?_)
  refine ⟨.a (.agg (hdC 4 5 6 7 ⟨h.sp, t, f, k, h.turn, n⟩)), _, ⟨[0, 1, 2, 3, 6, 7, 8, 9], ⟨rfl, rfl, rfl⟩, ?_⟩, ⟨h.sp, t, f, k, h.turn, n⟩, ⟨ht, hf, hk, hn⟩, ⟨rfl, rfl, et, ef, ek, en⟩, rfl, rfl⟩
  (repeat first | exact trivial | refine ent1 ?_)
  refine eqC_bts (eqC_bts (eqC_bts (eqC_bts ?_)))
  refine eqC_btsM (eqC_btsM (eqC_btsM (eqC_btsM ?_)))
  (repeat first | exact trivial | refine ent1 ?_)
/-- A header's number, taken out of bytes behind it. -/
def manyB (first : BitVec 8) : Nat := (first &&& 3#8).toNat + 1
def noneB (sp first : BitVec 8) : BitVec 8 := first &&& (if sp = 2#8 then 24#8 else 12#8)
abbrev hd0 : List Seg := [.one (.w8 0#8), .one (.slc none 0 0), .one (.slc none 0 0), .one (.slc none 0 0), .one (.bool false), .one (.slc none 0 0)]
set_option maxRecDepth 20000 in
set_option maxHeartbeats 8000000 in
theorem fn_numbered (sp first : BitVec 8) (T F K b : Sl) (at_ en : Nat) (hT : T.Ok) (hF : F.Ok) (hK : K.Ok) (hb : b.Ok) : FnR Tryz.prog tds 29 4 [svB T, svB F, svB K, svB b] [.agg (psC 0 1 2 sp T F K at_ en), .c (.w8 first), .c (svC 3 b)] (fun _ => True)
    (fun y hs => (b.l.length < manyB first → y = .tup [.agg hd0, .c (.int .i64 3)] ∧ hs = [svB T, svB F, svB K, svB b]) ∧
      (manyB first ≤ b.l.length → noneB sp first ≠ 0#8 → y = .tup [.agg hd0, .c (.int .i64 4)] ∧ hs = [svB T, svB F, svB K, svB b]) ∧
      (manyB first ≤ b.l.length → noneB sp first = 0#8 → ∃ g : Hd, g.Ok ∧ g.sp = sp ∧ g.t.l = T.l ∧ g.f.l = F.l ∧ g.k.l = K.l ∧ g.turn = (if sp = 2#8 then decide (first &&& 4#8 ≠ 0#8) else false) ∧ g.n.l = b.l.take (manyB first) ∧
        y = .tup [.agg (hdC 4 5 6 7 g), .c (.int .i64 0)] ∧ hs = [svB T, svB F, svB K, svB b] ++ hdB g)) := by
  refine fn_of_body tds_ok follows_ Tryz.func29 rfl (t := .a (.agg (psC 0 1 2 sp T F K at_ en)) :: .a (.c (.w8 first)) :: .a (.c (svC 3 b)) :: anys (Tryz.f29.ntmps - 3)) rfl (fun w r0 hr _ => ?_)
  obtain ⟨x0, x1, x2, x3, rfl⟩ := len4' hr
  have hbc := hb.cap
  have hm : (((first &&& 3#8).toNat : Nat) : Int) + 1 = ((manyB first : Nat) : Int) := rfl
  have hm1 : 1 ≤ manyB first := Nat.le_add_left _ _
  have h256 := (first &&& 3#8).isLt
  by_cases h1 : b.l.length < manyB first
  · have e1 : decide ((b.l.length : Int) < (((first &&& 3#8).toNat : Nat) : Int) + 1) = true := decide_eq_true (by rw [hm]; omega)
    (repeat first | refine And.intro (by omega) ?_ | refine And.intro (by decide) ?_ | refine And.intro rfl ?_ | refine And.intro (fun _ => ?_) (fun h => Bool.noConfusion h) | refine And.intro (fun h => Bool.noConfusion h) (fun _ => ?_) | refine And.intro (fun _ => ?_) (fun h => absurd h (by rw [e1]; decide)) | refine And.intro (fun h => absurd h (by rw [e1]; decide)) (fun _ => ?_))
    refine ⟨.tup [.agg hd0, .c (.int .i64 3)], _, ⟨[0, 1, 2, 3], ⟨rfl, rfl, rfl⟩, ?_⟩, fun _ => ⟨rfl, rfl⟩, fun h => absurd h1 (by omega), fun h => absurd h1 (by omega)⟩
    (repeat first | exact trivial | refine ent1 ?_)
    refine eqC_bts (eqC_bts (eqC_bts (eqC_bts ?_)))
    (repeat first | exact trivial | refine ent1 ?_)
  have e1 : decide ((b.l.length : Int) < (((first &&& 3#8).toNat : Nat) : Int) + 1) = false := decide_eq_false (by rw [hm]; omega)
  have fin : ∀ {P : Prop}, b.l.length < manyB first → P := fun h => absurd h h1
  by_cases h2 : sp = 2#8
  · have e2 : decide (sp = 2#8) = true := decide_eq_true h2
    by_cases h3 : first &&& 24#8 = 0#8
    · have e3 : decide (first &&& 24#8 ≠ 0#8) = false := decide_eq_false (fun e => e h3)
      have hno : noneB sp first = 0#8 := by unfold noneB; rw [if_pos h2]; exact h3
      (repeat first | refine And.intro (by omega) ?_ | refine And.intro (by decide) ?_ | refine And.intro rfl ?_ | refine And.intro (fun _ => ?_) (fun h => Bool.noConfusion h) | refine And.intro (fun h => Bool.noConfusion h) (fun _ => ?_) | refine And.intro (fun _ => ?_) (fun h => absurd h (by rw [e1]; decide)) | refine And.intro (fun h => absurd h (by rw [e1]; decide)) (fun _ => ?_) | refine And.intro (fun _ => ?_) (fun h => absurd h (by rw [e2]; decide)) | refine And.intro (fun h => absurd h (by rw [e2]; decide)) (fun _ => ?_) | refine And.intro (fun _ => ?_) (fun h => absurd h (by rw [e3]; decide)) | refine And.intro (fun h => absurd h (by rw [e3]; decide)) (fun _ => ?_))
      refine call_same (fn_hown ⟨sp, T, F, K, false, nilS⟩ ⟨hT, hF, hK, nil_ok⟩) [0, 1, 2, 3] rfl (by (repeat first | exact trivial | refine ent1 ?_)) ?_ (fun _ _ => trivial) ?_
      · refine eqC_bts (eqC_bts (eqC_bts ?_))
        exact eqSegs_nil trivial
      rintro x hs ⟨g, hg, hq, rfl, rfl⟩
      (repeat first | refine And.intro (by omega) ?_ | refine And.intro (by decide) ?_ | (with_reducible refine frc_parts (by first | omega | decide) ?_) | (with_reducible refine frc_bytesL (by first | omega | decide) ?_) | refine And.intro rfl ?_)
      refine And.intro (show (0 : Int) ≤ 0 ∧ (0 : Int) ≤ (((first &&& 3#8).toNat : Nat) : Int) + 1 ∧ (((first &&& 3#8).toNat : Nat) : Int) + 1 ≤ (b.c : Int) by rw [hm]; omega) ?_
      refine frcN_of (m := 0) rfl ?_
      refine frcN_of (m := manyB first) (show ((((first &&& 3#8).toNat : Nat) : Int) + 1).toNat = manyB first by rw [hm]; rfl) ?_
      refine frcN_of (m := b.o) (by split <;> simp) ?_
      refine frcN_of (m := manyB first) rfl ?_
      refine frcN_of (m := b.c) rfl ?_
      (repeat first | refine And.intro (by omega) ?_ | refine And.intro (by decide) ?_ | (with_reducible refine frc_parts (by first | omega | decide) ?_) | (with_reducible refine frc_bytesL (by first | omega | decide) ?_) | refine And.intro rfl ?_)
      have lm : (b.l.take (manyB first)).length = manyB first := by rw [List.length_take]; omega
      refine call_pad (fn_clone (cutS b (manyB first)) (cutS_ok hb _)) [3] rfl ?_ ((cutS_sub b _).ent trivial) (fun _ _ => trivial) ?_
      · exact ⟨rfl, rfl, lm.symm, rfl, trivial⟩
      rintro x hs ⟨n, hn, hnl, rfl, rfl⟩
      (repeat first | refine And.intro (by omega) ?_ | refine And.intro (by decide) ?_ | refine And.intro rfl ?_ | refine And.intro (fun _ => ?_) (fun h => Bool.noConfusion h) | refine And.intro (fun h => Bool.noConfusion h) (fun _ => ?_) | refine And.intro (fun _ => ?_) (fun h => absurd h (by rw [e2]; decide)) | refine And.intro (fun h => absurd h (by rw [e2]; decide)) (fun _ => ?_))
      refine ⟨.tup [.agg (hdC 4 5 6 7 ⟨sp, g.t, g.f, g.k, decide (first &&& 4#8 ≠ 0#8), n⟩), .c (.int .i64 0)], _, ⟨[0, 1, 2, 3, 6, 7, 8, 11], ⟨rfl, rfl, rfl⟩, ?_⟩, fin, fun _ h => absurd hno h, fun _ _ => ⟨⟨sp, g.t, g.f, g.k, decide (first &&& 4#8 ≠ 0#8), n⟩, ⟨hg.t, hg.f, hg.k, hn⟩, rfl, hq.t, hq.f, hq.k, by rw [if_pos h2], hnl, rfl, rfl⟩⟩
      (repeat first | exact trivial | refine ent1 ?_)
      refine ⟨hq.sp, ?_⟩
      (repeat first | exact trivial | refine ent1 ?_)
      refine eqC_bts (eqC_bts (eqC_bts (eqC_bts ?_)))
      refine eqC_btsM (eqC_btsM (eqC_btsM (eqC_btsM ?_)))
      (repeat first | exact trivial | refine ent1 ?_)
    · have e3 : decide (first &&& 24#8 ≠ 0#8) = true := decide_eq_true h3
      have hno : noneB sp first ≠ 0#8 := by unfold noneB; rw [if_pos h2]; exact h3
      (repeat first | refine And.intro (by omega) ?_ | refine And.intro (by decide) ?_ | refine And.intro rfl ?_ | refine And.intro (fun _ => ?_) (fun h => Bool.noConfusion h) | refine And.intro (fun h => Bool.noConfusion h) (fun _ => ?_) | refine And.intro (fun _ => ?_) (fun h => absurd h (by rw [e1]; decide)) | refine And.intro (fun h => absurd h (by rw [e1]; decide)) (fun _ => ?_) | refine And.intro (fun _ => ?_) (fun h => absurd h (by rw [e2]; decide)) | refine And.intro (fun h => absurd h (by rw [e2]; decide)) (fun _ => ?_) | refine And.intro (fun _ => ?_) (fun h => absurd h (by rw [e3]; decide)) | refine And.intro (fun h => absurd h (by rw [e3]; decide)) (fun _ => ?_))
      refine ⟨.tup [.agg hd0, .c (.int .i64 4)], _, ⟨[0, 1, 2, 3], ⟨rfl, rfl, rfl⟩, ?_⟩, fin, fun _ _ => ⟨rfl, rfl⟩, fun _ h => absurd h hno⟩
      (repeat first | exact trivial | refine ent1 ?_)
      refine eqC_bts (eqC_bts (eqC_bts (eqC_bts ?_)))
      (repeat first | exact trivial | refine ent1 ?_)
  · have e2 : decide (sp = 2#8) = false := decide_eq_false h2
    by_cases h3 : first &&& 12#8 = 0#8
    · have e3 : decide (first &&& 12#8 ≠ 0#8) = false := decide_eq_false (fun e => e h3)
      have hno : noneB sp first = 0#8 := by unfold noneB; rw [if_neg h2]; exact h3
      (repeat first | refine And.intro (by omega) ?_ | refine And.intro (by decide) ?_ | refine And.intro rfl ?_ | refine And.intro (fun _ => ?_) (fun h => Bool.noConfusion h) | refine And.intro (fun h => Bool.noConfusion h) (fun _ => ?_) | refine And.intro (fun _ => ?_) (fun h => absurd h (by rw [e1]; decide)) | refine And.intro (fun h => absurd h (by rw [e1]; decide)) (fun _ => ?_) | refine And.intro (fun _ => ?_) (fun h => absurd h (by rw [e2]; decide)) | refine And.intro (fun h => absurd h (by rw [e2]; decide)) (fun _ => ?_) | refine And.intro (fun _ => ?_) (fun h => absurd h (by rw [e3]; decide)) | refine And.intro (fun h => absurd h (by rw [e3]; decide)) (fun _ => ?_))
      refine call_same (fn_hown ⟨sp, T, F, K, false, nilS⟩ ⟨hT, hF, hK, nil_ok⟩) [0, 1, 2, 3] rfl (by (repeat first | exact trivial | refine ent1 ?_)) ?_ (fun _ _ => trivial) ?_
      · refine eqC_bts (eqC_bts (eqC_bts ?_))
        exact eqSegs_nil trivial
      rintro x hs ⟨g, hg, hq, rfl, rfl⟩
      (repeat first | refine And.intro (by omega) ?_ | refine And.intro (by decide) ?_ | (with_reducible refine frc_parts (by first | omega | decide) ?_) | (with_reducible refine frc_bytesL (by first | omega | decide) ?_) | refine And.intro rfl ?_)
      refine And.intro (show (0 : Int) ≤ 0 ∧ (0 : Int) ≤ (((first &&& 3#8).toNat : Nat) : Int) + 1 ∧ (((first &&& 3#8).toNat : Nat) : Int) + 1 ≤ (b.c : Int) by rw [hm]; omega) ?_
      refine frcN_of (m := 0) rfl ?_
      refine frcN_of (m := manyB first) (show ((((first &&& 3#8).toNat : Nat) : Int) + 1).toNat = manyB first by rw [hm]; rfl) ?_
      refine frcN_of (m := b.o) (by split <;> simp) ?_
      refine frcN_of (m := manyB first) rfl ?_
      refine frcN_of (m := b.c) rfl ?_
      (repeat first | refine And.intro (by omega) ?_ | refine And.intro (by decide) ?_ | (with_reducible refine frc_parts (by first | omega | decide) ?_) | (with_reducible refine frc_bytesL (by first | omega | decide) ?_) | refine And.intro rfl ?_)
      have lm : (b.l.take (manyB first)).length = manyB first := by rw [List.length_take]; omega
      refine call_pad (fn_clone (cutS b (manyB first)) (cutS_ok hb _)) [3] rfl ?_ ((cutS_sub b _).ent trivial) (fun _ _ => trivial) ?_
      · exact ⟨rfl, rfl, lm.symm, rfl, trivial⟩
      rintro x hs ⟨n, hn, hnl, rfl, rfl⟩
      (repeat first | refine And.intro (by omega) ?_ | refine And.intro (by decide) ?_ | refine And.intro rfl ?_ | refine And.intro (fun _ => ?_) (fun h => Bool.noConfusion h) | refine And.intro (fun h => Bool.noConfusion h) (fun _ => ?_) | refine And.intro (fun _ => ?_) (fun h => absurd h (by rw [e2]; decide)) | refine And.intro (fun h => absurd h (by rw [e2]; decide)) (fun _ => ?_))
      refine ⟨.tup [.agg (hdC 4 5 6 7 ⟨sp, g.t, g.f, g.k, false, n⟩), .c (.int .i64 0)], _, ⟨[0, 1, 2, 3, 6, 7, 8, 11], ⟨rfl, rfl, rfl⟩, ?_⟩, fin, fun _ h => absurd hno h, fun _ _ => ⟨⟨sp, g.t, g.f, g.k, false, n⟩, ⟨hg.t, hg.f, hg.k, hn⟩, rfl, hq.t, hq.f, hq.k, by rw [if_neg h2], hnl, rfl, rfl⟩⟩
      (repeat first | exact trivial | refine ent1 ?_)
      refine ⟨hq.sp, ?_⟩
      (repeat first | exact trivial | refine ent1 ?_)
      refine ⟨hq.turn, ?_⟩
      (repeat first | exact trivial | refine ent1 ?_)
      refine eqC_bts (eqC_bts (eqC_bts (eqC_bts ?_)))
      refine eqC_btsM (eqC_btsM (eqC_btsM (eqC_btsM ?_)))
      (repeat first | exact trivial | refine ent1 ?_)
    · have e3 : decide (first &&& 12#8 ≠ 0#8) = true := decide_eq_true h3
      have hno : noneB sp first ≠ 0#8 := by unfold noneB; rw [if_neg h2]; exact h3
      (repeat first | refine And.intro (by omega) ?_ | refine And.intro (by decide) ?_ | refine And.intro rfl ?_ | refine And.intro (fun _ => ?_) (fun h => Bool.noConfusion h) | refine And.intro (fun h => Bool.noConfusion h) (fun _ => ?_) | refine And.intro (fun _ => ?_) (fun h => absurd h (by rw [e1]; decide)) | refine And.intro (fun h => absurd h (by rw [e1]; decide)) (fun _ => ?_) | refine And.intro (fun _ => ?_) (fun h => absurd h (by rw [e2]; decide)) | refine And.intro (fun h => absurd h (by rw [e2]; decide)) (fun _ => ?_) | refine And.intro (fun _ => ?_) (fun h => absurd h (by rw [e3]; decide)) | refine And.intro (fun h => absurd h (by rw [e3]; decide)) (fun _ => ?_))
      refine ⟨.tup [.agg hd0, .c (.int .i64 4)], _, ⟨[0, 1, 2, 3], ⟨rfl, rfl, rfl⟩, ?_⟩, fin, fun _ _ => ⟨rfl, rfl⟩, fun _ h => absurd h hno⟩
      (repeat first | exact trivial | refine ent1 ?_)
      refine eqC_bts (eqC_bts (eqC_bts (eqC_bts ?_)))
      (repeat first | exact trivial | refine ent1 ?_)
def sameM (a b : Hd) : Bool := decide (a.sp = b.sp ∧ a.turn = b.turn ∧ a.t.l = b.t.l ∧ a.f.l = b.f.l ∧ a.k.l = b.k.l ∧ a.n.l = b.n.l)
set_option maxRecDepth 20000 in
set_option maxHeartbeats 8000000 in
theorem fn_hsame (a b : Hd) (ha : a.Ok) (hb : b.Ok) : FnR Tryz.prog tds 17 8 (hdB a ++ hdB b) [.agg (hdC 0 1 2 3 a), .agg (hdC 4 5 6 7 b)] (fun _ => True)
    (fun y hs => y = .a (.c (.bool (sameM a b))) ∧ hs = hdB a ++ hdB b) := by
  refine fn_of_body tds_ok follows_ Tryz.func17 rfl (t := .a (.agg (hdC 0 1 2 3 a)) :: .a (.agg (hdC 4 5 6 7 b)) :: anys (Tryz.f17.ntmps - 2)) rfl (fun w r0 hr _ => ?_)
  obtain ⟨x0, x1, x2, x3, x4, x5, x6, x7, rfl⟩ := len8' hr
  by_cases h1 : a.sp = b.sp
  rotate_left
  · have e1 : decide (a.sp = b.sp) = false := decide_eq_false h1
    (repeat first | refine And.intro (by omega) ?_ | refine And.intro (by decide) ?_ | refine And.intro rfl ?_ | refine And.intro (fun _ => ?_) (fun h => Bool.noConfusion h) | refine And.intro (fun h => Bool.noConfusion h) (fun _ => ?_) | refine And.intro (fun _ => ?_) (fun h => absurd h (by rw [e1]; decide)) | refine And.intro (fun h => absurd h (by rw [e1]; decide)) (fun _ => ?_))
    refine ⟨.a (.c (.bool (sameM a b))), _, ⟨[0, 1, 2, 3, 4, 5, 6, 7], ⟨rfl, rfl, rfl⟩, ?_⟩, rfl, rfl⟩
    refine ⟨show false = sameM a b by unfold sameM; simp [h1], ?_⟩
    refine eqC_bts (eqC_bts (eqC_bts (eqC_bts (eqC_bts (eqC_bts (eqC_bts (eqC_bts ?_)))))))
    (repeat first | exact trivial | refine ent1 ?_)
  have e1 : decide (a.sp = b.sp) = true := decide_eq_true h1
  by_cases h2 : a.turn = b.turn
  rotate_left
  · have e2 : (a.turn == b.turn) = false := beq_false_of_ne h2
    (repeat first | refine And.intro (by omega) ?_ | refine And.intro (by decide) ?_ | refine And.intro rfl ?_ | refine And.intro (fun _ => ?_) (fun h => Bool.noConfusion h) | refine And.intro (fun h => Bool.noConfusion h) (fun _ => ?_) | refine And.intro (fun _ => ?_) (fun h => absurd h (by rw [e1]; decide)) | refine And.intro (fun h => absurd h (by rw [e1]; decide)) (fun _ => ?_) | refine And.intro (fun _ => ?_) (fun h => absurd h (by rw [e2]; decide)) | refine And.intro (fun h => absurd h (by rw [e2]; decide)) (fun _ => ?_))
    refine ⟨.a (.c (.bool (sameM a b))), _, ⟨[0, 1, 2, 3, 4, 5, 6, 7], ⟨rfl, rfl, rfl⟩, ?_⟩, rfl, rfl⟩
    refine ⟨show false = sameM a b by unfold sameM; simp [h2], ?_⟩
    refine eqC_bts (eqC_bts (eqC_bts (eqC_bts (eqC_bts (eqC_bts (eqC_bts (eqC_bts ?_)))))))
    (repeat first | exact trivial | refine ent1 ?_)
  have e2 : (a.turn == b.turn) = true := by rw [h2]; exact beq_self_eq_true _
  (repeat first | refine And.intro (by omega) ?_ | refine And.intro (by decide) ?_ | refine And.intro rfl ?_ | refine And.intro (fun _ => ?_) (fun h => Bool.noConfusion h) | refine And.intro (fun h => Bool.noConfusion h) (fun _ => ?_) | refine And.intro (fun _ => ?_) (fun h => absurd h (by rw [e1]; decide)) | refine And.intro (fun h => absurd h (by rw [e1]; decide)) (fun _ => ?_) | refine And.intro (fun _ => ?_) (fun h => absurd h (by rw [e2]; decide)) | refine And.intro (fun h => absurd h (by rw [e2]; decide)) (fun _ => ?_))
  refine call_same (fn_equal a.t b.t ha.t hb.t) [0, 4] rfl (by (repeat first | exact trivial | refine ent1 ?_)) (eqC_bts (eqC_bts trivial)) (fun _ _ => trivial) ?_
  rintro x hs ⟨rfl, rfl⟩
  by_cases q0 : a.t.l = b.t.l
  rotate_left
  · have d0 : decide (a.t.l = b.t.l) = false := decide_eq_false q0
    (repeat first | refine And.intro (by omega) ?_ | refine And.intro (by decide) ?_ | refine And.intro rfl ?_ | refine And.intro (fun _ => ?_) (fun h => Bool.noConfusion h) | refine And.intro (fun h => Bool.noConfusion h) (fun _ => ?_) | refine And.intro (fun _ => ?_) (fun h => absurd h (by rw [e1]; decide)) | refine And.intro (fun h => absurd h (by rw [e1]; decide)) (fun _ => ?_) | refine And.intro (fun _ => ?_) (fun h => absurd h (by rw [e2]; decide)) | refine And.intro (fun h => absurd h (by rw [e2]; decide)) (fun _ => ?_) | refine And.intro (fun _ => ?_) (fun h => absurd h (by rw [d0]; decide)) | refine And.intro (fun h => absurd h (by rw [d0]; decide)) (fun _ => ?_))
    refine ⟨.a (.c (.bool (sameM a b))), _, ⟨[0, 1, 2, 3, 4, 5, 6, 7], ⟨rfl, rfl, rfl⟩, ?_⟩, rfl, rfl⟩
    refine ⟨show false = sameM a b by unfold sameM; simp [q0], ?_⟩
    refine eqC_bts (eqC_bts (eqC_bts (eqC_bts (eqC_bts (eqC_bts (eqC_bts (eqC_bts ?_)))))))
    (repeat first | exact trivial | refine ent1 ?_)
  have d0 : decide (a.t.l = b.t.l) = true := decide_eq_true q0
  (repeat first | refine And.intro (by omega) ?_ | refine And.intro (by decide) ?_ | refine And.intro rfl ?_ | refine And.intro (fun _ => ?_) (fun h => Bool.noConfusion h) | refine And.intro (fun h => Bool.noConfusion h) (fun _ => ?_) | refine And.intro (fun _ => ?_) (fun h => absurd h (by rw [e1]; decide)) | refine And.intro (fun h => absurd h (by rw [e1]; decide)) (fun _ => ?_) | refine And.intro (fun _ => ?_) (fun h => absurd h (by rw [e2]; decide)) | refine And.intro (fun h => absurd h (by rw [e2]; decide)) (fun _ => ?_) | refine And.intro (fun _ => ?_) (fun h => absurd h (by rw [d0]; decide)) | refine And.intro (fun h => absurd h (by rw [d0]; decide)) (fun _ => ?_))
  refine call_same (fn_equal a.f b.f ha.f hb.f) [1, 5] rfl (by (repeat first | exact trivial | refine ent1 ?_)) (eqC_bts (eqC_bts trivial)) (fun _ _ => trivial) ?_
  rintro x hs ⟨rfl, rfl⟩
  by_cases q1 : a.f.l = b.f.l
  rotate_left
  · have d1 : decide (a.f.l = b.f.l) = false := decide_eq_false q1
    (repeat first | refine And.intro (by omega) ?_ | refine And.intro (by decide) ?_ | refine And.intro rfl ?_ | refine And.intro (fun _ => ?_) (fun h => Bool.noConfusion h) | refine And.intro (fun h => Bool.noConfusion h) (fun _ => ?_) | refine And.intro (fun _ => ?_) (fun h => absurd h (by rw [e1]; decide)) | refine And.intro (fun h => absurd h (by rw [e1]; decide)) (fun _ => ?_) | refine And.intro (fun _ => ?_) (fun h => absurd h (by rw [e2]; decide)) | refine And.intro (fun h => absurd h (by rw [e2]; decide)) (fun _ => ?_) | refine And.intro (fun _ => ?_) (fun h => absurd h (by rw [d0]; decide)) | refine And.intro (fun h => absurd h (by rw [d0]; decide)) (fun _ => ?_) | refine And.intro (fun _ => ?_) (fun h => absurd h (by rw [d1]; decide)) | refine And.intro (fun h => absurd h (by rw [d1]; decide)) (fun _ => ?_))
    refine ⟨.a (.c (.bool (sameM a b))), _, ⟨[0, 1, 2, 3, 4, 5, 6, 7], ⟨rfl, rfl, rfl⟩, ?_⟩, rfl, rfl⟩
    refine ⟨show false = sameM a b by unfold sameM; simp [q1], ?_⟩
    refine eqC_bts (eqC_bts (eqC_bts (eqC_bts (eqC_bts (eqC_bts (eqC_bts (eqC_bts ?_)))))))
    (repeat first | exact trivial | refine ent1 ?_)
  have d1 : decide (a.f.l = b.f.l) = true := decide_eq_true q1
  (repeat first | refine And.intro (by omega) ?_ | refine And.intro (by decide) ?_ | refine And.intro rfl ?_ | refine And.intro (fun _ => ?_) (fun h => Bool.noConfusion h) | refine And.intro (fun h => Bool.noConfusion h) (fun _ => ?_) | refine And.intro (fun _ => ?_) (fun h => absurd h (by rw [e1]; decide)) | refine And.intro (fun h => absurd h (by rw [e1]; decide)) (fun _ => ?_) | refine And.intro (fun _ => ?_) (fun h => absurd h (by rw [e2]; decide)) | refine And.intro (fun h => absurd h (by rw [e2]; decide)) (fun _ => ?_) | refine And.intro (fun _ => ?_) (fun h => absurd h (by rw [d0]; decide)) | refine And.intro (fun h => absurd h (by rw [d0]; decide)) (fun _ => ?_) | refine And.intro (fun _ => ?_) (fun h => absurd h (by rw [d1]; decide)) | refine And.intro (fun h => absurd h (by rw [d1]; decide)) (fun _ => ?_))
  refine call_same (fn_equal a.k b.k ha.k hb.k) [2, 6] rfl (by (repeat first | exact trivial | refine ent1 ?_)) (eqC_bts (eqC_bts trivial)) (fun _ _ => trivial) ?_
  rintro x hs ⟨rfl, rfl⟩
  by_cases q2 : a.k.l = b.k.l
  rotate_left
  · have d2 : decide (a.k.l = b.k.l) = false := decide_eq_false q2
    (repeat first | refine And.intro (by omega) ?_ | refine And.intro (by decide) ?_ | refine And.intro rfl ?_ | refine And.intro (fun _ => ?_) (fun h => Bool.noConfusion h) | refine And.intro (fun h => Bool.noConfusion h) (fun _ => ?_) | refine And.intro (fun _ => ?_) (fun h => absurd h (by rw [e1]; decide)) | refine And.intro (fun h => absurd h (by rw [e1]; decide)) (fun _ => ?_) | refine And.intro (fun _ => ?_) (fun h => absurd h (by rw [e2]; decide)) | refine And.intro (fun h => absurd h (by rw [e2]; decide)) (fun _ => ?_) | refine And.intro (fun _ => ?_) (fun h => absurd h (by rw [d0]; decide)) | refine And.intro (fun h => absurd h (by rw [d0]; decide)) (fun _ => ?_) | refine And.intro (fun _ => ?_) (fun h => absurd h (by rw [d1]; decide)) | refine And.intro (fun h => absurd h (by rw [d1]; decide)) (fun _ => ?_) | refine And.intro (fun _ => ?_) (fun h => absurd h (by rw [d2]; decide)) | refine And.intro (fun h => absurd h (by rw [d2]; decide)) (fun _ => ?_))
    refine ⟨.a (.c (.bool (sameM a b))), _, ⟨[0, 1, 2, 3, 4, 5, 6, 7], ⟨rfl, rfl, rfl⟩, ?_⟩, rfl, rfl⟩
    refine ⟨show false = sameM a b by unfold sameM; simp [q2], ?_⟩
    refine eqC_bts (eqC_bts (eqC_bts (eqC_bts (eqC_bts (eqC_bts (eqC_bts (eqC_bts ?_)))))))
    (repeat first | exact trivial | refine ent1 ?_)
  have d2 : decide (a.k.l = b.k.l) = true := decide_eq_true q2
  (repeat first | refine And.intro (by omega) ?_ | refine And.intro (by decide) ?_ | refine And.intro rfl ?_ | refine And.intro (fun _ => ?_) (fun h => Bool.noConfusion h) | refine And.intro (fun h => Bool.noConfusion h) (fun _ => ?_) | refine And.intro (fun _ => ?_) (fun h => absurd h (by rw [e1]; decide)) | refine And.intro (fun h => absurd h (by rw [e1]; decide)) (fun _ => ?_) | refine And.intro (fun _ => ?_) (fun h => absurd h (by rw [e2]; decide)) | refine And.intro (fun h => absurd h (by rw [e2]; decide)) (fun _ => ?_) | refine And.intro (fun _ => ?_) (fun h => absurd h (by rw [d0]; decide)) | refine And.intro (fun h => absurd h (by rw [d0]; decide)) (fun _ => ?_) | refine And.intro (fun _ => ?_) (fun h => absurd h (by rw [d1]; decide)) | refine And.intro (fun h => absurd h (by rw [d1]; decide)) (fun _ => ?_) | refine And.intro (fun _ => ?_) (fun h => absurd h (by rw [d2]; decide)) | refine And.intro (fun h => absurd h (by rw [d2]; decide)) (fun _ => ?_))
  refine call_same (fn_equal a.n b.n ha.n hb.n) [3, 7] rfl (by (repeat first | exact trivial | refine ent1 ?_)) (eqC_bts (eqC_bts trivial)) (fun _ _ => trivial) ?_
  rintro x hs ⟨rfl, rfl⟩
  by_cases q3 : a.n.l = b.n.l
  rotate_left
  · have d3 : decide (a.n.l = b.n.l) = false := decide_eq_false q3
    (repeat first | refine And.intro (by omega) ?_ | refine And.intro (by decide) ?_ | refine And.intro rfl ?_ | refine And.intro (fun _ => ?_) (fun h => Bool.noConfusion h) | refine And.intro (fun h => Bool.noConfusion h) (fun _ => ?_) | refine And.intro (fun _ => ?_) (fun h => absurd h (by rw [e1]; decide)) | refine And.intro (fun h => absurd h (by rw [e1]; decide)) (fun _ => ?_) | refine And.intro (fun _ => ?_) (fun h => absurd h (by rw [e2]; decide)) | refine And.intro (fun h => absurd h (by rw [e2]; decide)) (fun _ => ?_) | refine And.intro (fun _ => ?_) (fun h => absurd h (by rw [d0]; decide)) | refine And.intro (fun h => absurd h (by rw [d0]; decide)) (fun _ => ?_) | refine And.intro (fun _ => ?_) (fun h => absurd h (by rw [d1]; decide)) | refine And.intro (fun h => absurd h (by rw [d1]; decide)) (fun _ => ?_) | refine And.intro (fun _ => ?_) (fun h => absurd h (by rw [d2]; decide)) | refine And.intro (fun h => absurd h (by rw [d2]; decide)) (fun _ => ?_) | refine And.intro (fun _ => ?_) (fun h => absurd h (by rw [d3]; decide)) | refine And.intro (fun h => absurd h (by rw [d3]; decide)) (fun _ => ?_))
    refine ⟨.a (.c (.bool (sameM a b))), _, ⟨[0, 1, 2, 3, 4, 5, 6, 7], ⟨rfl, rfl, rfl⟩, ?_⟩, rfl, rfl⟩
    refine ⟨show decide (a.n.l = b.n.l) = sameM a b by unfold sameM; simp [q3], ?_⟩
    refine eqC_bts (eqC_bts (eqC_bts (eqC_bts (eqC_bts (eqC_bts (eqC_bts (eqC_bts ?_)))))))
    (repeat first | exact trivial | refine ent1 ?_)
  have d3 : decide (a.n.l = b.n.l) = true := decide_eq_true q3
  (repeat first | refine And.intro (by omega) ?_ | refine And.intro (by decide) ?_ | refine And.intro rfl ?_ | refine And.intro (fun _ => ?_) (fun h => Bool.noConfusion h) | refine And.intro (fun h => Bool.noConfusion h) (fun _ => ?_) | refine And.intro (fun _ => ?_) (fun h => absurd h (by rw [e1]; decide)) | refine And.intro (fun h => absurd h (by rw [e1]; decide)) (fun _ => ?_) | refine And.intro (fun _ => ?_) (fun h => absurd h (by rw [e2]; decide)) | refine And.intro (fun h => absurd h (by rw [e2]; decide)) (fun _ => ?_) | refine And.intro (fun _ => ?_) (fun h => absurd h (by rw [d0]; decide)) | refine And.intro (fun h => absurd h (by rw [d0]; decide)) (fun _ => ?_) | refine And.intro (fun _ => ?_) (fun h => absurd h (by rw [d1]; decide)) | refine And.intro (fun h => absurd h (by rw [d1]; decide)) (fun _ => ?_) | refine And.intro (fun _ => ?_) (fun h => absurd h (by rw [d2]; decide)) | refine And.intro (fun h => absurd h (by rw [d2]; decide)) (fun _ => ?_) | refine And.intro (fun _ => ?_) (fun h => absurd h (by rw [d3]; decide)) | refine And.intro (fun h => absurd h (by rw [d3]; decide)) (fun _ => ?_))
  refine ⟨.a (.c (.bool (sameM a b))), _, ⟨[0, 1, 2, 3, 4, 5, 6, 7], ⟨rfl, rfl, rfl⟩, ?_⟩, rfl, rfl⟩
  refine ⟨show decide (a.n.l = b.n.l) = sameM a b by unfold sameM; simp [h1, h2, q0, q1, q2, q3], ?_⟩
  refine eqC_bts (eqC_bts (eqC_bts (eqC_bts (eqC_bts (eqC_bts (eqC_bts (eqC_bts ?_)))))))
  (repeat first | exact trivial | refine ent1 ?_)
set_option maxRecDepth 20000 in
set_option maxHeartbeats 8000000 in
theorem fn_parse (s : Sl) (hs : s.Ok) (id : Int) : FnR Tryz.prog tds 9 1 [svB s] [.c (svC 0 s), .c (.int .i64 id)] (fun _ => True)
    (fun y hs => psRes [svB s] (parseP s.l id) y hs) := by
  refine fn_of_body tds_ok follows_ Tryz.func9 rfl (t := .a (.c (svC 0 s)) :: .a (.c (.int .i64 id)) :: anys (Tryz.f9.ntmps - 2)) rfl (fun w r0 hr0 _ => ?_)
  obtain ⟨x0, rfl⟩ := List.length_eq_one_iff.1 hr0
  have hN := hs.fit
  have hcp := hs.cap
  by_cases h0 : s.l.length = 0
  · have e0 : decide ((s.l.length : Int) = 0) = true := decide_eq_true (by omega)
    have hM : parseP s.l id = .no 3 := by unfold parseP; rw [if_pos h0]
    rw [hM]
    (repeat first | refine And.intro (by omega) ?_ | refine And.intro (by decide) ?_ | refine And.intro rfl ?_ | refine And.intro (fun _ => ?_) (fun h => Bool.noConfusion h) | refine And.intro (fun h => Bool.noConfusion h) (fun _ => ?_) | refine And.intro (fun _ => ?_) (fun h => absurd h (by rw [e0]; decide)) | refine And.intro (fun h => absurd h (by rw [e0]; decide)) (fun _ => ?_))
    refine ⟨.tup [.agg ps0, .c (.int .i64 3)], _, ⟨[0], ⟨rfl, rfl, rfl⟩, ?_⟩, rfl, rfl⟩
    (repeat first | exact trivial | refine ent1 ?_)
    refine eqC_bts ?_
    (repeat first | exact trivial | refine ent1 ?_)
  have e0 : decide ((s.l.length : Int) = 0) = false := decide_eq_false (by omega)
  have hp : 0 < s.l.length := by omega
  have hz := hs.pos hp
  rw [svB_row hz]
  (repeat first | refine And.intro (by omega) ?_ | refine And.intro (by decide) ?_ | refine And.intro rfl ?_ | refine And.intro (fun _ => ?_) (fun h => Bool.noConfusion h) | refine And.intro (fun h => Bool.noConfusion h) (fun _ => ?_) | refine And.intro (fun _ => ?_) (fun h => absurd h (by rw [e0]; decide)) | refine And.intro (fun h => absurd h (by rw [e0]; decide)) (fun _ => ?_))
  with_reducible refine frc_winA 0 rfl hp ?_
  by_cases h1 : L s.l 0 &&& 64#8 = 0#8
  · have e1 : decide (L s.l 0 &&& 64#8 = 0#8) = true := decide_eq_true h1
    have hM : parseP s.l id = .no 4 := by unfold parseP; rw [if_neg h0, if_pos h1]
    rw [hM]
    (repeat first | refine And.intro (by omega) ?_ | refine And.intro (by decide) ?_ | refine And.intro rfl ?_ | refine And.intro (fun _ => ?_) (fun h => Bool.noConfusion h) | refine And.intro (fun h => Bool.noConfusion h) (fun _ => ?_) | refine And.intro (fun _ => ?_) (fun h => absurd h (by rw [e1]; decide)) | refine And.intro (fun h => absurd h (by rw [e1]; decide)) (fun _ => ?_))
    refine ⟨.tup [.agg ps0, .c (.int .i64 4)], _, ⟨[0], ⟨rfl, rfl, rfl⟩, ?_⟩, rfl, rfl⟩
    (repeat first | exact trivial | refine ent1 ?_)
  have e1 : decide (L s.l 0 &&& 64#8 = 0#8) = false := decide_eq_false h1
  by_cases h2 : L s.l 0 &&& 128#8 = 0#8
  rotate_left
  · have e2 : decide (L s.l 0 &&& 128#8 ≠ 0#8) = true := decide_eq_true h2
    have hM : parseP s.l id = longP s.l := by unfold parseP; rw [if_neg h0, if_neg h1, if_pos h2]
    rw [hM]
    (repeat first | refine And.intro (by omega) ?_ | refine And.intro (by decide) ?_ | refine And.intro rfl ?_ | refine And.intro (fun _ => ?_) (fun h => Bool.noConfusion h) | refine And.intro (fun h => Bool.noConfusion h) (fun _ => ?_) | refine And.intro (fun _ => ?_) (fun h => absurd h (by rw [e1]; decide)) | refine And.intro (fun h => absurd h (by rw [e1]; decide)) (fun _ => ?_) | refine And.intro (fun _ => ?_) (fun h => absurd h (by rw [e2]; decide)) | refine And.intro (fun h => absurd h (by rw [e2]; decide)) (fun _ => ?_))
    refine call_same (fn_parseLong s hs hp) [0] rfl (by (repeat first | exact trivial | refine ent1 ?_)) ?_ (fun _ _ => trivial) ?_
    · rw [svB_row hz]
      (repeat first | exact trivial | refine ent1 ?_)
    rintro x hs' hres
    cases hm : longP s.l with
    | no e =>
      rw [hm] at hres
      obtain ⟨rfl, rfl⟩ := hres
      (repeat first | refine And.intro (by omega) ?_ | refine And.intro (by decide) ?_ | (with_reducible refine frc_parts (by first | omega | decide) ?_) | (with_reducible refine frc_bytesL (by first | omega | decide) ?_) | refine And.intro rfl ?_)
      refine ⟨.tup [.agg ps0, .c (.int .i64 e)], _, ⟨[0], ⟨rfl, rfl, rfl⟩, ?_⟩, rfl, rfl⟩
      (repeat first | exact trivial | refine ent1 ?_)
    | ok sp t f k at_ en =>
      rw [hm] at hres
      obtain ⟨T, F, K, hT, hF, hK, eT, eF, eK, rfl, rfl⟩ := hres
      (repeat first | refine And.intro (by omega) ?_ | refine And.intro (by decide) ?_ | (with_reducible refine frc_parts (by first | omega | decide) ?_) | (with_reducible refine frc_bytesL (by first | omega | decide) ?_) | refine And.intro rfl ?_)
      refine ⟨.tup [.agg (psC 1 2 3 sp T F K at_ en), .c (.int .i64 0)], [[.row s.N (winF s.o s.l.length (L s.l))], svB T, svB F, svB K], ⟨[0, 2, 3, 4], ⟨rfl, rfl, rfl⟩, ?_⟩, T, F, K, hT, hF, hK, eT, eF, eK, rfl, rfl⟩
      (repeat first | exact trivial | refine ent1 ?_)
      refine eqC_btsM ?_
      (repeat first | exact trivial | refine ent1 ?_)
      refine eqC_btsM ?_
      (repeat first | exact trivial | refine ent1 ?_)
      refine eqC_btsM ?_
      (repeat first | exact trivial | refine ent1 ?_)
  have e2 : decide (L s.l 0 &&& 128#8 ≠ 0#8) = false := decide_eq_false (fun e => e h2)
  (repeat first | refine And.intro (by omega) ?_ | refine And.intro (by decide) ?_ | refine And.intro rfl ?_ | refine And.intro (fun _ => ?_) (fun h => Bool.noConfusion h) | refine And.intro (fun h => Bool.noConfusion h) (fun _ => ?_) | refine And.intro (fun _ => ?_) (fun h => absurd h (by rw [e1]; decide)) | refine And.intro (fun h => absurd h (by rw [e1]; decide)) (fun _ => ?_) | refine And.intro (fun _ => ?_) (fun h => absurd h (by rw [e2]; decide)) | refine And.intro (fun h => absurd h (by rw [e2]; decide)) (fun _ => ?_))
  have hi := idN_int id
  have hi20 : idN id ≤ 20 := Nat.min_le_right _ _
  by_cases h3 : s.l.length < 1 + idN id
  · have e3 : decide ((s.l.length : Int) < 1 + (if (20 : Int) < (if id < 0 then 0 else id) then 20 else (if id < 0 then 0 else id))) = true := decide_eq_true (by rw [hi]; omega)
    have hM : parseP s.l id = .no 3 := by unfold parseP; rw [if_neg h0, if_neg h1, if_neg (fun e => e h2), if_pos h3]
    rw [hM]
    (repeat first | refine And.intro (by omega) ?_ | refine And.intro (by decide) ?_ | refine And.intro rfl ?_ | refine And.intro (fun _ => ?_) (fun h => Bool.noConfusion h) | refine And.intro (fun h => Bool.noConfusion h) (fun _ => ?_) | refine And.intro (fun _ => ?_) (fun h => absurd h (by rw [e3]; decide)) | refine And.intro (fun h => absurd h (by rw [e3]; decide)) (fun _ => ?_))
    refine ⟨.tup [.agg ps0, .c (.int .i64 3)], _, ⟨[0], ⟨rfl, rfl, rfl⟩, ?_⟩, rfl, rfl⟩
    (repeat first | exact trivial | refine ent1 ?_)
  have e3 : decide ((s.l.length : Int) < 1 + (if (20 : Int) < (if id < 0 then 0 else id) then 20 else (if id < 0 then 0 else id))) = false := decide_eq_false (by rw [hi]; omega)
  have hM : parseP s.l id = .ok 2#8 ((s.l.drop 1).take (idN id)) [] [] (1 + idN id) s.l.length := by unfold parseP; rw [if_neg h0, if_neg h1, if_neg (fun e => e h2), if_neg h3]
  rw [hM]
  (repeat first | refine And.intro (by omega) ?_ | refine And.intro (by decide) ?_ | refine And.intro rfl ?_ | refine And.intro (fun _ => ?_) (fun h => Bool.noConfusion h) | refine And.intro (fun h => Bool.noConfusion h) (fun _ => ?_) | refine And.intro (fun _ => ?_) (fun h => absurd h (by rw [e3]; decide)) | refine And.intro (fun h => absurd h (by rw [e3]; decide)) (fun _ => ?_))
  obtain ⟨i, hI⟩ : ∃ i, idN id = i := ⟨_, rfl⟩
  rw [hI] at h3 hi hi20 ⊢
  have li : ((s.l.drop 1).take i).length = i := by rw [List.length_take, List.length_drop]; omega
  obtain ⟨oo, hoo⟩ : ∃ oo, (if s.c = 1 then s.o else s.o + 1) = oo := ⟨_, rfl⟩
  have ho2 : oo = s.o ∧ i = 0 ∨ oo = s.o + 1 := by
    by_cases hc1 : s.c = 1
    · rw [if_pos hc1] at hoo; left; omega
    · rw [if_neg hc1] at hoo; right; omega
  refine call_pad (fn_clone ⟨s.z, s.N, oo, s.c - 1, (s.l.drop 1).take i⟩ ⟨(by rw [li]; dsimp only; omega), (by rw [li]; dsimp only; omega), (fun h => by rw [hz] at h; cases h), (by rw [li]; omega)⟩) [0] rfl ?_ ?_ (fun _ _ => trivial) ?_
  · refine ⟨rfl, ?_, ?_, rfl, trivial⟩
    · show (if s.c = 1 then s.o else s.o + 1 * 1) = oo
      rw [Nat.mul_one]; exact hoo
    · show (1 + (if (20 : Int) < (if id < 0 then 0 else id) then 20 else (if id < 0 then 0 else id))).toNat - 1 = ((s.l.drop 1).take i).length
      rw [hi, li]; omega
  · rw [svB_row (s := ⟨s.z, s.N, oo, s.c - 1, (s.l.drop 1).take i⟩) hz]
    refine ⟨rfl, fun j hj => eqC_win (fun q hq => ?_) j, trivial⟩
    have hq : q < i := by rw [← li]; exact hq
    have := winF_at s.o s.l.length (L s.l) (i := 1 + q) (by omega)
    rw [show s.o + (1 + q) = oo + q by omega] at this
    rw [this, L_sub _ _ _ _ hq]
  rintro x hs' ⟨t, ht, et, rfl, rfl⟩
  (repeat first | refine And.intro (by omega) ?_ | refine And.intro (by decide) ?_ | (with_reducible refine frc_parts (by first | omega | decide) ?_) | (with_reducible refine frc_bytesL (by first | omega | decide) ?_) | refine And.intro rfl ?_)
  refine ⟨.tup [.agg (psC 1 2 3 2#8 t nilS nilS (1 + i) s.l.length), .c (.int .i64 0)], [[.row s.N (winF s.o s.l.length (L s.l))], svB t, [], []], ⟨[0, 2, 1, 1], ⟨rfl, rfl, rfl⟩, ?_⟩, t, nilS, nilS, ht, nil_ok, nil_ok, et, rfl, rfl, rfl, rfl⟩
  (repeat first | exact trivial | refine ent1 ?_)
  exact (eqC_btsM (k := True) trivial : eqSegs [0, 2, 1, 1] (mpL (bk 2 [0]) (svB t)) (svB t) True)
end Sx
end Go.Proofs.YtkjdkeolkigibaaGreat
end

section
/-
  Packets' numbers: how many bytes, which, made whole. No condition.
-/
namespace Go.Proofs.YtkjdkeolkigibaaGreat
set_option linter.unusedVariables false
namespace Vi
open Sha
/-- How far a number is ahead of what was acknowledged. -/
def awayM (n : BitVec 64) (acked : Int) : BitVec 64 := if acked < 0 then n + 1#64 else if BitVec.ofInt 64 acked ≤ n then n - BitVec.ofInt 64 acked else 0#64
def sizeM (n : BitVec 64) (acked : Int) : Nat := if awayM n acked < 128#64 then 1 else if awayM n acked < 32768#64 then 2 else if awayM n acked < 8388608#64 then 3 else 4
def cutM (n : BitVec 64) (k : Nat) : Bs := tab k fun i => (n >>> (8 * (k - 1 - i))).setWidth 8
theorem sizeM_le (n : BitVec 64) (a : Int) : 1 ≤ sizeM n a ∧ sizeM n a ≤ 4 := by
  unfold sizeM
  split
  · omega
  split
  · omega
  split <;> omega
end Vi
namespace Sx
open Sha Vi
set_option maxRecDepth 20000 in
set_option maxHeartbeats 4000000 in
theorem fn_psize (n : BitVec 64) (acked : Int) (ha : -9223372036854775808 ≤ acked ∧ acked ≤ 9223372036854775807) : Fn Tryz.prog tds 56 [] [.c (.w64 n), .c (.int .i64 acked)] (fun _ => True) (fun x hs => x = .a (.c (.int .i64 (sizeM n acked : Nat))) ∧ hs = []) := by
  refine fn_of_body tds_ok follows_ Tryz.func56 rfl (t := .a (.c (.w64 n)) :: .a (.c (.int .i64 acked)) :: anys (Tryz.f56.ntmps - 2)) rfl (fun w r0 hr _ => ?_)
  obtain rfl : r0 = [] := List.eq_nil_of_length_eq_zero hr
  obtain ⟨A, hA⟩ : ∃ A, awayM n acked = A := ⟨_, rfl⟩
  have hsz : sizeM n acked = if A < 128#64 then 1 else if A < 32768#64 then 2 else if A < 8388608#64 then 3 else 4 := by unfold sizeM; rw [hA]
  rw [hsz]
  clear hsz
  unfold awayM at hA
  by_cases h0 : acked < 0
  · have e0 : decide (acked < 0) = true := decide_eq_true h0
    rw [if_pos h0] at hA
    (repeat first | refine And.intro (by omega) ?_ | refine And.intro (by decide) ?_ | refine And.intro rfl ?_ | refine And.intro (fun _ => ?_) (fun h => Bool.noConfusion h) | refine And.intro (fun h => Bool.noConfusion h) (fun _ => ?_) | refine And.intro (fun _ => ?_) (fun h => absurd h (by rw [e0]; decide)) | refine And.intro (fun h => absurd h (by rw [e0]; decide)) (fun _ => ?_))
    refine .inr ⟨4, ?_⟩
    by_cases c0 : A < 128#64
    · have d0 : decide (A < 128#64) = true := decide_eq_true c0
      subst hA
      (repeat first | refine And.intro (by omega) ?_ | refine And.intro (by decide) ?_ | refine And.intro rfl ?_ | refine And.intro (fun _ => ?_) (fun h => Bool.noConfusion h) | refine And.intro (fun h => Bool.noConfusion h) (fun _ => ?_) | refine And.intro (fun _ => ?_) (fun h => absurd h (by rw [e0]; decide)) | refine And.intro (fun h => absurd h (by rw [e0]; decide)) (fun _ => ?_) | refine And.intro (fun _ => ?_) (fun h => absurd h (by rw [d0]; decide)) | refine And.intro (fun h => absurd h (by rw [d0]; decide)) (fun _ => ?_) | refine And.intro (fun _ => ?_) (fun h => Bool.noConfusion (h.symm.trans e0)) | refine And.intro (fun h => Bool.noConfusion (h.symm.trans e0)) (fun _ => ?_) | refine And.intro (fun _ => ?_) (fun h => Bool.noConfusion (h.symm.trans d0)) | refine And.intro (fun h => Bool.noConfusion (h.symm.trans d0)) (fun _ => ?_))
      refine ⟨.a (.c (.int .i64 ((1 : Nat) : Int))), [], ⟨[], ⟨rfl, rfl, rfl⟩, ?_⟩, by  rw [if_pos c0], rfl⟩
      exact ⟨rfl, trivial⟩
    have d0 : decide (A < 128#64) = false := decide_eq_false c0
    by_cases c1 : A < 32768#64
    · have d1 : decide (A < 32768#64) = true := decide_eq_true c1
      subst hA
      (repeat first | refine And.intro (by omega) ?_ | refine And.intro (by decide) ?_ | refine And.intro rfl ?_ | refine And.intro (fun _ => ?_) (fun h => Bool.noConfusion h) | refine And.intro (fun h => Bool.noConfusion h) (fun _ => ?_) | refine And.intro (fun _ => ?_) (fun h => absurd h (by rw [e0]; decide)) | refine And.intro (fun h => absurd h (by rw [e0]; decide)) (fun _ => ?_) | refine And.intro (fun _ => ?_) (fun h => absurd h (by rw [d0]; decide)) | refine And.intro (fun h => absurd h (by rw [d0]; decide)) (fun _ => ?_) | refine And.intro (fun _ => ?_) (fun h => absurd h (by rw [d1]; decide)) | refine And.intro (fun h => absurd h (by rw [d1]; decide)) (fun _ => ?_) | refine And.intro (fun _ => ?_) (fun h => Bool.noConfusion (h.symm.trans e0)) | refine And.intro (fun h => Bool.noConfusion (h.symm.trans e0)) (fun _ => ?_) | refine And.intro (fun _ => ?_) (fun h => Bool.noConfusion (h.symm.trans d0)) | refine And.intro (fun h => Bool.noConfusion (h.symm.trans d0)) (fun _ => ?_) | refine And.intro (fun _ => ?_) (fun h => Bool.noConfusion (h.symm.trans d1)) | refine And.intro (fun h => Bool.noConfusion (h.symm.trans d1)) (fun _ => ?_))
      refine ⟨.a (.c (.int .i64 ((2 : Nat) : Int))), [], ⟨[], ⟨rfl, rfl, rfl⟩, ?_⟩, by rw [if_neg c0]; rw [if_pos c1], rfl⟩
      exact ⟨rfl, trivial⟩
    have d1 : decide (A < 32768#64) = false := decide_eq_false c1
    by_cases c2 : A < 8388608#64
    · have d2 : decide (A < 8388608#64) = true := decide_eq_true c2
      subst hA
      (repeat first | refine And.intro (by omega) ?_ | refine And.intro (by decide) ?_ | refine And.intro rfl ?_ | refine And.intro (fun _ => ?_) (fun h => Bool.noConfusion h) | refine And.intro (fun h => Bool.noConfusion h) (fun _ => ?_) | refine And.intro (fun _ => ?_) (fun h => absurd h (by rw [e0]; decide)) | refine And.intro (fun h => absurd h (by rw [e0]; decide)) (fun _ => ?_) | refine And.intro (fun _ => ?_) (fun h => absurd h (by rw [d0]; decide)) | refine And.intro (fun h => absurd h (by rw [d0]; decide)) (fun _ => ?_) | refine And.intro (fun _ => ?_) (fun h => absurd h (by rw [d1]; decide)) | refine And.intro (fun h => absurd h (by rw [d1]; decide)) (fun _ => ?_) | refine And.intro (fun _ => ?_) (fun h => absurd h (by rw [d2]; decide)) | refine And.intro (fun h => absurd h (by rw [d2]; decide)) (fun _ => ?_) | refine And.intro (fun _ => ?_) (fun h => Bool.noConfusion (h.symm.trans e0)) | refine And.intro (fun h => Bool.noConfusion (h.symm.trans e0)) (fun _ => ?_) | refine And.intro (fun _ => ?_) (fun h => Bool.noConfusion (h.symm.trans d0)) | refine And.intro (fun h => Bool.noConfusion (h.symm.trans d0)) (fun _ => ?_) | refine And.intro (fun _ => ?_) (fun h => Bool.noConfusion (h.symm.trans d1)) | refine And.intro (fun h => Bool.noConfusion (h.symm.trans d1)) (fun _ => ?_) | refine And.intro (fun _ => ?_) (fun h => Bool.noConfusion (h.symm.trans d2)) | refine And.intro (fun h => Bool.noConfusion (h.symm.trans d2)) (fun _ => ?_))
      refine ⟨.a (.c (.int .i64 ((3 : Nat) : Int))), [], ⟨[], ⟨rfl, rfl, rfl⟩, ?_⟩, by rw [if_neg c0]; rw [if_neg c1]; rw [if_pos c2], rfl⟩
      exact ⟨rfl, trivial⟩
    have d2 : decide (A < 8388608#64) = false := decide_eq_false c2
    subst hA
    (repeat first | refine And.intro (by omega) ?_ | refine And.intro (by decide) ?_ | refine And.intro rfl ?_ | refine And.intro (fun _ => ?_) (fun h => Bool.noConfusion h) | refine And.intro (fun h => Bool.noConfusion h) (fun _ => ?_) | refine And.intro (fun _ => ?_) (fun h => absurd h (by rw [e0]; decide)) | refine And.intro (fun h => absurd h (by rw [e0]; decide)) (fun _ => ?_) | refine And.intro (fun _ => ?_) (fun h => absurd h (by rw [d0]; decide)) | refine And.intro (fun h => absurd h (by rw [d0]; decide)) (fun _ => ?_) | refine And.intro (fun _ => ?_) (fun h => absurd h (by rw [d1]; decide)) | refine And.intro (fun h => absurd h (by rw [d1]; decide)) (fun _ => ?_) | refine And.intro (fun _ => ?_) (fun h => absurd h (by rw [d2]; decide)) | refine And.intro (fun h => absurd h (by rw [d2]; decide)) (fun _ => ?_) | refine And.intro (fun _ => ?_) (fun h => Bool.noConfusion (h.symm.trans e0)) | refine And.intro (fun h => Bool.noConfusion (h.symm.trans e0)) (fun _ => ?_) | refine And.intro (fun _ => ?_) (fun h => Bool.noConfusion (h.symm.trans d0)) | refine And.intro (fun h => Bool.noConfusion (h.symm.trans d0)) (fun _ => ?_) | refine And.intro (fun _ => ?_) (fun h => Bool.noConfusion (h.symm.trans d1)) | refine And.intro (fun h => Bool.noConfusion (h.symm.trans d1)) (fun _ => ?_) | refine And.intro (fun _ => ?_) (fun h => Bool.noConfusion (h.symm.trans d2)) | refine And.intro (fun h => Bool.noConfusion (h.symm.trans d2)) (fun _ => ?_))
    refine ⟨.a (.c (.int .i64 ((4 : Nat) : Int))), [], ⟨[], ⟨rfl, rfl, rfl⟩, ?_⟩, by rw [if_neg c0, if_neg c1, if_neg c2], rfl⟩
    exact ⟨rfl, trivial⟩
  have e0 : decide (acked < 0) = false := decide_eq_false h0
  rw [if_neg h0] at hA
  by_cases h1 : BitVec.ofInt 64 acked ≤ n
  · have e1 : decide (BitVec.ofInt 64 acked ≤ n) = true := decide_eq_true h1
    rw [if_pos h1] at hA
    (repeat first | refine And.intro (by omega) ?_ | refine And.intro (by decide) ?_ | refine And.intro rfl ?_ | refine And.intro (fun _ => ?_) (fun h => Bool.noConfusion h) | refine And.intro (fun h => Bool.noConfusion h) (fun _ => ?_) | refine And.intro (fun _ => ?_) (fun h => absurd h (by rw [e0]; decide)) | refine And.intro (fun h => absurd h (by rw [e0]; decide)) (fun _ => ?_) | refine And.intro (fun _ => ?_) (fun h => absurd h (by rw [e1]; decide)) | refine And.intro (fun h => absurd h (by rw [e1]; decide)) (fun _ => ?_))
    refine .inr ⟨4, ?_⟩
    by_cases c0 : A < 128#64
    · have d0 : decide (A < 128#64) = true := decide_eq_true c0
      subst hA
      (repeat first | refine And.intro (by omega) ?_ | refine And.intro (by decide) ?_ | refine And.intro rfl ?_ | refine And.intro (fun _ => ?_) (fun h => Bool.noConfusion h) | refine And.intro (fun h => Bool.noConfusion h) (fun _ => ?_) | refine And.intro (fun _ => ?_) (fun h => absurd h (by rw [e0]; decide)) | refine And.intro (fun h => absurd h (by rw [e0]; decide)) (fun _ => ?_) | refine And.intro (fun _ => ?_) (fun h => absurd h (by rw [e1]; decide)) | refine And.intro (fun h => absurd h (by rw [e1]; decide)) (fun _ => ?_) | refine And.intro (fun _ => ?_) (fun h => absurd h (by rw [d0]; decide)) | refine And.intro (fun h => absurd h (by rw [d0]; decide)) (fun _ => ?_) | refine And.intro (fun _ => ?_) (fun h => Bool.noConfusion (h.symm.trans e0)) | refine And.intro (fun h => Bool.noConfusion (h.symm.trans e0)) (fun _ => ?_) | refine And.intro (fun _ => ?_) (fun h => Bool.noConfusion (h.symm.trans e1)) | refine And.intro (fun h => Bool.noConfusion (h.symm.trans e1)) (fun _ => ?_) | refine And.intro (fun _ => ?_) (fun h => Bool.noConfusion (h.symm.trans d0)) | refine And.intro (fun h => Bool.noConfusion (h.symm.trans d0)) (fun _ => ?_))
      refine ⟨.a (.c (.int .i64 ((1 : Nat) : Int))), [], ⟨[], ⟨rfl, rfl, rfl⟩, ?_⟩, by  rw [if_pos c0], rfl⟩
      exact ⟨rfl, trivial⟩
    have d0 : decide (A < 128#64) = false := decide_eq_false c0
    by_cases c1 : A < 32768#64
    · have d1 : decide (A < 32768#64) = true := decide_eq_true c1
      subst hA
      (repeat first | refine And.intro (by omega) ?_ | refine And.intro (by decide) ?_ | refine And.intro rfl ?_ | refine And.intro (fun _ => ?_) (fun h => Bool.noConfusion h) | refine And.intro (fun h => Bool.noConfusion h) (fun _ => ?_) | refine And.intro (fun _ => ?_) (fun h => absurd h (by rw [e0]; decide)) | refine And.intro (fun h => absurd h (by rw [e0]; decide)) (fun _ => ?_) | refine And.intro (fun _ => ?_) (fun h => absurd h (by rw [e1]; decide)) | refine And.intro (fun h => absurd h (by rw [e1]; decide)) (fun _ => ?_) | refine And.intro (fun _ => ?_) (fun h => absurd h (by rw [d0]; decide)) | refine And.intro (fun h => absurd h (by rw [d0]; decide)) (fun _ => ?_) | refine And.intro (fun _ => ?_) (fun h => absurd h (by rw [d1]; decide)) | refine And.intro (fun h => absurd h (by rw [d1]; decide)) (fun _ => ?_) | refine And.intro (fun _ => ?_) (fun h => Bool.noConfusion (h.symm.trans e0)) | refine And.intro (fun h => Bool.noConfusion (h.symm.trans e0)) (fun _ => ?_) | refine And.intro (fun _ => ?_) (fun h => Bool.noConfusion (h.symm.trans e1)) | refine And.intro (fun h => Bool.noConfusion (h.symm.trans e1)) (fun _ => ?_) | refine And.intro (fun _ => ?_) (fun h => Bool.noConfusion (h.symm.trans d0)) | refine And.intro (fun h => Bool.noConfusion (h.symm.trans d0)) (fun _ => ?_) | refine And.intro (fun _ => ?_) (fun h => Bool.noConfusion (h.symm.trans d1)) | refine And.intro (fun h => Bool.noConfusion (h.symm.trans d1)) (fun _ => ?_))
      refine ⟨.a (.c (.int .i64 ((2 : Nat) : Int))), [], ⟨[], ⟨rfl, rfl, rfl⟩, ?_⟩, by rw [if_neg c0]; rw [if_pos c1], rfl⟩
      exact ⟨rfl, trivial⟩
    have d1 : decide (A < 32768#64) = false := decide_eq_false c1
    by_cases c2 : A < 8388608#64
    · have d2 : decide (A < 8388608#64) = true := decide_eq_true c2
      subst hA
      (repeat first | refine And.intro (by omega) ?_ | refine And.intro (by decide) ?_ | refine And.intro rfl ?_ | refine And.intro (fun _ => ?_) (fun h => Bool.noConfusion h) | refine And.intro (fun h => Bool.noConfusion h) (fun _ => ?_) | refine And.intro (fun _ => ?_) (fun h => absurd h (by rw [e0]; decide)) | refine And.intro (fun h => absurd h (by rw [e0]; decide)) (fun _ => ?_) | refine And.intro (fun _ => ?_) (fun h => absurd h (by rw [e1]; decide)) | refine And.intro (fun h => absurd h (by rw [e1]; decide)) (fun _ => ?_) | refine And.intro (fun _ => ?_) (fun h => absurd h (by rw [d0]; decide)) | refine And.intro (fun h => absurd h (by rw [d0]; decide)) (fun _ => ?_) | refine And.intro (fun _ => ?_) (fun h => absurd h (by rw [d1]; decide)) | refine And.intro (fun h => absurd h (by rw [d1]; decide)) (fun _ => ?_) | refine And.intro (fun _ => ?_) (fun h => absurd h (by rw [d2]; decide)) | refine And.intro (fun h => absurd h (by rw [d2]; decide)) (fun _ => ?_) | refine And.intro (fun _ => ?_) (fun h => Bool.noConfusion (h.symm.trans e0)) | refine And.intro (fun h => Bool.noConfusion (h.symm.trans e0)) (fun _ => ?_) | refine And.intro (fun _ => ?_) (fun h => Bool.noConfusion (h.symm.trans e1)) | refine And.intro (fun h => Bool.noConfusion (h.symm.trans e1)) (fun _ => ?_) | refine And.intro (fun _ => ?_) (fun h => Bool.noConfusion (h.symm.trans d0)) | refine And.intro (fun h => Bool.noConfusion (h.symm.trans d0)) (fun _ => ?_) | refine And.intro (fun _ => ?_) (fun h => Bool.noConfusion (h.symm.trans d1)) | refine And.intro (fun h => Bool.noConfusion (h.symm.trans d1)) (fun _ => ?_) | refine And.intro (fun _ => ?_) (fun h => Bool.noConfusion (h.symm.trans d2)) | refine And.intro (fun h => Bool.noConfusion (h.symm.trans d2)) (fun _ => ?_))
      refine ⟨.a (.c (.int .i64 ((3 : Nat) : Int))), [], ⟨[], ⟨rfl, rfl, rfl⟩, ?_⟩, by rw [if_neg c0]; rw [if_neg c1]; rw [if_pos c2], rfl⟩
      exact ⟨rfl, trivial⟩
    have d2 : decide (A < 8388608#64) = false := decide_eq_false c2
    subst hA
    (repeat first | refine And.intro (by omega) ?_ | refine And.intro (by decide) ?_ | refine And.intro rfl ?_ | refine And.intro (fun _ => ?_) (fun h => Bool.noConfusion h) | refine And.intro (fun h => Bool.noConfusion h) (fun _ => ?_) | refine And.intro (fun _ => ?_) (fun h => absurd h (by rw [e0]; decide)) | refine And.intro (fun h => absurd h (by rw [e0]; decide)) (fun _ => ?_) | refine And.intro (fun _ => ?_) (fun h => absurd h (by rw [e1]; decide)) | refine And.intro (fun h => absurd h (by rw [e1]; decide)) (fun _ => ?_) | refine And.intro (fun _ => ?_) (fun h => absurd h (by rw [d0]; decide)) | refine And.intro (fun h => absurd h (by rw [d0]; decide)) (fun _ => ?_) | refine And.intro (fun _ => ?_) (fun h => absurd h (by rw [d1]; decide)) | refine And.intro (fun h => absurd h (by rw [d1]; decide)) (fun _ => ?_) | refine And.intro (fun _ => ?_) (fun h => absurd h (by rw [d2]; decide)) | refine And.intro (fun h => absurd h (by rw [d2]; decide)) (fun _ => ?_) | refine And.intro (fun _ => ?_) (fun h => Bool.noConfusion (h.symm.trans e0)) | refine And.intro (fun h => Bool.noConfusion (h.symm.trans e0)) (fun _ => ?_) | refine And.intro (fun _ => ?_) (fun h => Bool.noConfusion (h.symm.trans e1)) | refine And.intro (fun h => Bool.noConfusion (h.symm.trans e1)) (fun _ => ?_) | refine And.intro (fun _ => ?_) (fun h => Bool.noConfusion (h.symm.trans d0)) | refine And.intro (fun h => Bool.noConfusion (h.symm.trans d0)) (fun _ => ?_) | refine And.intro (fun _ => ?_) (fun h => Bool.noConfusion (h.symm.trans d1)) | refine And.intro (fun h => Bool.noConfusion (h.symm.trans d1)) (fun _ => ?_) | refine And.intro (fun _ => ?_) (fun h => Bool.noConfusion (h.symm.trans d2)) | refine And.intro (fun h => Bool.noConfusion (h.symm.trans d2)) (fun _ => ?_))
    refine ⟨.a (.c (.int .i64 ((4 : Nat) : Int))), [], ⟨[], ⟨rfl, rfl, rfl⟩, ?_⟩, by rw [if_neg c0, if_neg c1, if_neg c2], rfl⟩
    exact ⟨rfl, trivial⟩
  have e1 : decide (BitVec.ofInt 64 acked ≤ n) = false := decide_eq_false h1
  rw [if_neg h1] at hA
  subst hA
  have c0 : (0#64 : BitVec 64) < 128#64 := by decide
  have d0 : decide ((0#64 : BitVec 64) < 128#64) = true := decide_eq_true c0
  (repeat first | refine And.intro (by omega) ?_ | refine And.intro (by decide) ?_ | refine And.intro rfl ?_ | refine And.intro (fun _ => ?_) (fun h => Bool.noConfusion h) | refine And.intro (fun h => Bool.noConfusion h) (fun _ => ?_) | refine And.intro (fun _ => ?_) (fun h => absurd h (by rw [e0]; decide)) | refine And.intro (fun h => absurd h (by rw [e0]; decide)) (fun _ => ?_) | refine And.intro (fun _ => ?_) (fun h => absurd h (by rw [e1]; decide)) | refine And.intro (fun h => absurd h (by rw [e1]; decide)) (fun _ => ?_))
  refine .inr ⟨4, ?_⟩
  (repeat first | refine And.intro (by omega) ?_ | refine And.intro (by decide) ?_ | refine And.intro rfl ?_ | refine And.intro (fun _ => ?_) (fun h => Bool.noConfusion h) | refine And.intro (fun h => Bool.noConfusion h) (fun _ => ?_) | refine And.intro (fun _ => ?_) (fun h => absurd h (by rw [e0]; decide)) | refine And.intro (fun h => absurd h (by rw [e0]; decide)) (fun _ => ?_) | refine And.intro (fun _ => ?_) (fun h => absurd h (by rw [e1]; decide)) | refine And.intro (fun h => absurd h (by rw [e1]; decide)) (fun _ => ?_) | refine And.intro (fun _ => ?_) (fun h => absurd h (by rw [d0]; decide)) | refine And.intro (fun h => absurd h (by rw [d0]; decide)) (fun _ => ?_) | refine And.intro (fun _ => ?_) (fun h => Bool.noConfusion (h.symm.trans e0)) | refine And.intro (fun h => Bool.noConfusion (h.symm.trans e0)) (fun _ => ?_) | refine And.intro (fun _ => ?_) (fun h => Bool.noConfusion (h.symm.trans e1)) | refine And.intro (fun h => Bool.noConfusion (h.symm.trans e1)) (fun _ => ?_) | refine And.intro (fun _ => ?_) (fun h => Bool.noConfusion (h.symm.trans d0)) | refine And.intro (fun h => Bool.noConfusion (h.symm.trans d0)) (fun _ => ?_))
  refine ⟨.a (.c (.int .i64 ((1 : Nat) : Int))), [], ⟨[], ⟨rfl, rfl, rfl⟩, ?_⟩, by rw [if_pos c0], rfl⟩
  exact ⟨rfl, trivial⟩
end Sx
end Go.Proofs.YtkjdkeolkigibaaGreat
end

section
/-
  Packets' numbers: cut, made whole. No condition.
-/
namespace Go.Proofs.YtkjdkeolkigibaaGreat
set_option linter.unusedVariables false
namespace Vi
open Sha
set_option linter.unusedSimpArgs false
/-- A number made whole. -/
def nearN (e : Nat) (l : Bs) : Nat := l.foldl (fun a c => a * 256 + c.toNat) e
def wholeN (l : Bs) (e : Nat) : Nat :=
  if nearN (e / 256 ^ l.length) l + 256 ^ l.length / 2 ≤ e ∧ nearN (e / 256 ^ l.length) l < 4611686018427387904 - 256 ^ l.length then nearN (e / 256 ^ l.length) l + 256 ^ l.length
  else if e + 256 ^ l.length / 2 < nearN (e / 256 ^ l.length) l ∧ 256 ^ l.length ≤ nearN (e / 256 ^ l.length) l then nearN (e / 256 ^ l.length) l - 256 ^ l.length else nearN (e / 256 ^ l.length) l
theorem len14 {l : Bs} (h1 : 1 ≤ l.length) (h4 : l.length ≤ 4) : (∃ a, l = [a]) ∨ (∃ a b, l = [a, b]) ∨ (∃ a b c, l = [a, b, c]) ∨ ∃ a b c d, l = [a, b, c, d] := by
  match l, h1, h4 with
  | [a], _, _ => exact .inl ⟨a, rfl⟩
  | [a, b], _, _ => exact .inr (.inl ⟨a, b, rfl⟩)
  | [a, b, c], _, _ => exact .inr (.inr (.inl ⟨a, b, c, rfl⟩))
  | [a, b, c, d], _, _ => exact .inr (.inr (.inr ⟨a, b, c, d, rfl⟩))
theorem near_le {l : Bs} {e : Nat} (h1 : 1 ≤ l.length) (h4 : l.length ≤ 4) (he : e < 4611686018427387904) : nearN (e / 256 ^ l.length) l < 4611686018427387904 := by
  rcases len14 h1 h4 with ⟨a, rfl⟩ | ⟨a, b, rfl⟩ | ⟨a, b, c, rfl⟩ | ⟨a, b, c, d, rfl⟩
  · have := a.isLt
    simp only [nearN, List.foldl, List.length_cons, List.length_nil, Nat.zero_add, Nat.reduceAdd, Nat.reducePow]
    omega
  · have := a.isLt
    have := b.isLt
    simp only [nearN, List.foldl, List.length_cons, List.length_nil, Nat.zero_add, Nat.reduceAdd, Nat.reducePow]
    omega
  · have := a.isLt
    have := b.isLt
    have := c.isLt
    simp only [nearN, List.foldl, List.length_cons, List.length_nil, Nat.zero_add, Nat.reduceAdd, Nat.reducePow]
    omega
  · have := a.isLt
    have := b.isLt
    have := c.isLt
    have := d.isLt
    simp only [nearN, List.foldl, List.length_cons, List.length_nil, Nat.zero_add, Nat.reduceAdd, Nat.reducePow]
    omega
theorem cut_4 (n : BitVec 64) : cutM n 1 = [(n >>> 0).setWidth 8] ∧ cutM n 2 = [(n >>> 8).setWidth 8, (n >>> 0).setWidth 8] ∧ cutM n 3 = [(n >>> 16).setWidth 8, (n >>> 8).setWidth 8, (n >>> 0).setWidth 8] ∧ cutM n 4 = [(n >>> 24).setWidth 8, (n >>> 16).setWidth 8, (n >>> 8).setWidth 8, (n >>> 0).setWidth 8] := ⟨rfl, rfl, rfl, rfl⟩
theorem near_cut (n : BitVec 64) {k : Nat} (h1 : 1 ≤ k) (h4 : k ≤ 4) : nearN (n.toNat / 256 ^ k) (cutM n k) = n.toNat := by
  have sh : ∀ s, ((n >>> s).setWidth 8 : BitVec 8).toNat = n.toNat / 2 ^ s % 256 := fun s => by
    rw [BitVec.toNat_setWidth, BitVec.toNat_ushiftRight, Nat.shiftRight_eq_div_pow]
  obtain ⟨q1, q2, q3, q4⟩ := cut_4 n
  have : k = 1 ∨ k = 2 ∨ k = 3 ∨ k = 4 := by omega
  rcases this with rfl | rfl | rfl | rfl
  · rw [q1]
    simp only [nearN, List.foldl, sh, Nat.reducePow, Nat.pow_zero]
    omega
  · rw [q2]
    simp only [nearN, List.foldl, sh, Nat.reducePow, Nat.pow_zero]
    omega
  · rw [q3]
    simp only [nearN, List.foldl, sh, Nat.reducePow, Nat.pow_zero]
    omega
  · rw [q4]
    simp only [nearN, List.foldl, sh, Nat.reducePow, Nat.pow_zero]
    omega
theorem whole_cut (n : BitVec 64) {k : Nat} (h1 : 1 ≤ k) (h4 : k ≤ 4) : wholeN (cutM n k) n.toNat = n.toNat := by
  have hl : (cutM n k).length = k := tab_len _ _
  have hw : 0 < 256 ^ k / 2 := by
    have : k = 1 ∨ k = 2 ∨ k = 3 ∨ k = 4 := by omega
    rcases this with rfl | rfl | rfl | rfl <;> decide
  unfold wholeN
  rw [hl, near_cut n h1 h4, if_neg (by omega), if_neg (by omega)]
end Vi
namespace Sx
open Sha Vi
theorem sh8n {k i : Nat} (h : i < k) (hk : k ≤ 4) : (8#64 * BitVec.ofInt 64 ((k : Int) - 1 - (i : Int))).toNat = 8 * (k - 1 - i) := by
  rw [show (k : Int) - 1 - (i : Int) = ((k - 1 - i : Nat) : Int) by omega, BitVec.ofInt_natCast, BitVec.toNat_mul, BitVec.toNat_ofNat, BitVec.toNat_ofNat]
  omega
set_option maxRecDepth 20000 in
set_option maxHeartbeats 4000000 in
theorem fn_pcut (n : BitVec 64) (k : Nat) (hk : 1 ≤ k ∧ k ≤ 4) : Fn Tryz.prog tds 55 [] [.c (.w64 n), .c (.int .i64 (k : Nat))] (fun _ => True) (fun x hs => x = .a (.c (svC 0 ⟨false, k, 0, k, cutM n k⟩)) ∧ hs = [svB ⟨false, k, 0, k, cutM n k⟩]) := by
  refine fn_of_body tds_ok follows_ Tryz.func55 rfl (t := .a (.c (.w64 n)) :: .a (.c (.int .i64 (k : Nat))) :: anys (Tryz.f55.ntmps - 2)) rfl (fun w r0 hr _ => ?_)
  obtain rfl : r0 = [] := List.eq_nil_of_length_eq_zero hr
  have hl : (cutM n k).length = k := tab_len _ _
  have e : (if (4 : Int) < (if (k : Int) < 1 then 1 else (k : Int)) then 4 else (if (k : Int) < 1 then 1 else (k : Int))) = (k : Int) := by
    rw [if_neg (by omega), if_neg (by omega)]
  conv => whnf
  rw [e]
  refine And.intro ⟨by omega, by omega, by show (k : Int) * 1 ≤ 140737488355328; omega, by omega⟩ ?_
  refine frcN_of (m := k) (Int.toNat_natCast k) ?_
  refine frcN_of (m := k) (Int.toNat_natCast k) ?_
  refine .inl ⟨Nat, fun i => ⟨[.a (.c (.w64 (n))), .a (.c (.int .i64 (↑k))), .any, .any, .any, .a (.c (.sl 0 0 0 k k)), .any, .any, .any, .any, .any, .any, .any, .a (.c (.int .i64 (↑k))), .a (.c (.int .i64 (↑i))), .any, .any, .any, .any, .any, .any, .any, .any, .any, .any, .any, .any, .any, .any, .any, .any], [[.row k fun j => .w8 (if j < i then L (cutM n k) j else 0#8)]]⟩, fun i => i ≤ k, fun i => k - i, ⟨0, [0], ⟨⟨rfl, rfl, rfl⟩, ?_⟩, by omega⟩, fun i hi => ⟨fun h => ?_, fun h => ?_⟩⟩
  · (repeat first | exact trivial | refine ent1 ?_)
  · have hlt : i < k := by have : (i : Int) < (k : Int) := of_decide_eq_true h; omega
    (repeat first | refine And.intro (by omega) ?_ | refine And.intro (by decide) ?_ | (with_reducible refine frc_parts (by first | omega | decide) ?_) | (with_reducible refine frc_bytesL (by first | omega | decide) ?_) | refine And.intro rfl ?_)
    refine ⟨i + 1, [0], ⟨⟨rfl, rfl, rfl⟩, ?_⟩, by dsimp only; omega, by dsimp only; omega⟩
    (repeat first | exact trivial | refine ent1 ?_)
    refine ⟨fun j hj => eqC_w8 ?_, trivial⟩
    have e0 : (i : Int).toNat + 0 = i := by omega
    rw [e0, sh8n hlt hk.2]
    refine (upd_w8 (g := fun j => .w8 (if j < i + 1 then L (cutM n k) j else 0#8)) ?_ (fun q hq => ?_) j)
    · rw [if_pos (by omega)]
      exact congrArg SC.w8 (L_tab (b := fun i => (n >>> (8 * (k - 1 - i))).setWidth 8) hlt).symm
    · have : q < i ↔ q < i + 1 := by omega
      simp only [this]
  · obtain rfl : i = k := by have : ¬ (i : Int) < (k : Int) := of_decide_eq_false h; have hk : i ≤ k := hi; omega
    (repeat first | refine And.intro (by omega) ?_ | refine And.intro (by decide) ?_ | (with_reducible refine frc_parts (by first | omega | decide) ?_) | (with_reducible refine frc_bytesL (by first | omega | decide) ?_) | refine And.intro rfl ?_)
    refine ⟨.a (.c (svC 0 ⟨false, i, 0, i, cutM n i⟩)), [svB ⟨false, i, 0, i, cutM n i⟩], ⟨[0], ⟨rfl, rfl, rfl⟩, ?_⟩, rfl, rfl⟩
    refine ⟨rfl, rfl, hl.symm, rfl, ?_⟩
    refine ⟨rfl, fun j hj => eqC_win0 (n := (cutM n i).length) (f := fun j => SC.w8 (if j < i then L (cutM n i) j else 0#8)) (fun q hq => ?_) j, trivial⟩
    have hq : q < i := by rw [← hl]; exact hq
    show SC.w8 (if q < i then L (cutM n i) q else 0#8) = _
    rw [if_pos hq]
end Sx
end Go.Proofs.YtkjdkeolkigibaaGreat
end

section
/-
  sync.Once of one goroutine, its lock free: what is called, once; atomic numbers. No condition.
-/
namespace Go.Proofs.YtkjdkeolkigibaaGreat
set_option linter.unusedVariables false
open Go.RowKit

theorem run_enter {P : Program} {g : FuncId} (h : ((P.funcs[g]?).any fun fn => fn.body.isSome && fn.name != "runtime.NumGoroutine") = true) (vs : Array Value) (w : World) : (callFunc g vs).run P w = .ok (.enter g vs) w := by
  obtain ⟨fn, hfn, hb⟩ : ∃ fn, P.funcs[g]? = some fn ∧ (fn.body.isSome && fn.name != "runtime.NumGoroutine") = true := by
    cases e : P.funcs[g]? with
    | none => rw [e] at h; cases h
    | some fn => rw [e] at h; exact ⟨fn, rfl, h⟩
  simp only [Bool.and_eq_true, bne_iff_ne] at hb
  have h1 : (fn.name == "runtime.NumGoroutine") = false := by simpa using hb.2
  have h2 : fn.body.isNone = false := by
    cases e : fn.body with
    | none => rw [e] at hb; exact absurd hb.1 (by simp)
    | some b => rfl
  simp only [callFunc, Sem.run_bind, run_program, hfn, Result.andThen_ok, h1, h2, Bool.false_eq_true, if_false]
  rfl
theorem wrap64 {n : Int} (h : -9223372036854775808 ≤ n ∧ n ≤ 9223372036854775807) : IntKind.i64.wrap n = n := by
  unfold IntKind.wrap IntKind.bits IntKind.signed
  simp only [Bool.true_and, decide_eq_true_eq]
  have h2 : ((2 : Int) ^ 64) = 18446744073709551616 := by decide
  have h3 : ((2 : Int) ^ (64 - 1)) = 9223372036854775808 := by decide
  rw [h2, h3]
  split <;> omega
theorem run_add_i64 {P : Program} {n : Int} (h : -9223372036854775808 ≤ n + 1 ∧ n + 1 ≤ 9223372036854775807) (w : World) : (Op.intArith .add .i64 n 1).run P w = .ok (.int .i64 (n + 1)) w := by
  simp [Op.intArith, pure, wrap64 h]
theorem disable (w : World) : (callFunc 105 #[]).run Tryz.prog w = .ok (.value (.tuple #[])) w := run_call_mark0 Tryz.func105 (by kernel_rfl) (by kernel_rfl) (by kernel_rfl) .disable (by kernel_rfl) w
theorem enable (w : World) : (callFunc 107 #[]).run Tryz.prog w = .ok (.value (.tuple #[])) w := run_call_mark0 Tryz.func107 (by kernel_rfl) (by kernel_rfl) (by kernel_rfl) .enable (by kernel_rfl) w
theorem acquire (a : Addr) (w : World) : (callFunc 108 #[.pointer (some a)]).run Tryz.prog w = .ok (.value (.tuple #[])) w := run_call_marked Tryz.func108 (by kernel_rfl) (by kernel_rfl) (by kernel_rfl) .acquire (by kernel_rfl) a w
theorem releaseMerge (a : Addr) (w : World) : (callFunc 110 #[.pointer (some a)]).run Tryz.prog w = .ok (.value (.tuple #[])) w := run_call_marked Tryz.func110 (by kernel_rfl) (by kernel_rfl) (by kernel_rfl) .releaseMerge (by kernel_rfl) a w

theorem store_deferred (a : Addr) (x : Value) (u : FrameMode) (w : World) (hc : w.cell? a = some x) (hz : w.frozen? a = false) :
    CallsD Tryz.prog 89 #[.pointer (some a), .bool true] u w fun e u' w' => u' = u ∧ (e = .returned (.tuple #[]) ∧ w' = w.drew.setCell a (.int .u32 1)) := by
  have hc' : w.drew.cell? a = some x := by go_simp
  have hz' : w.drew.frozen? a = false := by go_simp
  have hst := run_call_store (P := Tryz.prog) Tryz.func99 (by kernel_rfl) (by kernel_rfl) (by kernel_rfl) (by kernel_rfl) (k := .u32) (y := 1) hc' hz'
  go_enter_d Tryz.func89, Tryz.ntmps89
  go_wp2
  go_region_calls
  all_goals (go_end0; exact ⟨rfl, rfl⟩)

set_option maxRecDepth 100000 in
theorem unlock_deferred (a : Addr) (u : FrameMode) (w : World) (hc : w.cell? a = some (.int .i32 1)) (hz : w.frozen? a = false) :
    CallsD Tryz.prog 88 #[.pointer (some a)] u w fun e u' w' => u' = u ∧ (e = .returned (.tuple #[]) ∧ w' = w.setCell a (.int .i32 0)) := by
  have hd := disable
  have he := enable
  have hr := releaseMerge
  have hadd := run_call_add (P := Tryz.prog) Tryz.func111 (by kernel_rfl) (by kernel_rfl) (by kernel_rfl) .i32 (by kernel_rfl) (y := -1) (s := 0) hc hz (by simp [go_sem]; rfl)
  have hcv := run_convert_to_unsafe (P := Tryz.prog) (src := 193) (dst := 197) Tryz.underlying193 Tryz.underlying197 (by kernel_rfl) hc
  go_enter_d Tryz.func88, Tryz.ntmps88
  go_wp2
  go_end0
  exact ⟨rfl, rfl⟩
set_option maxRecDepth 100000 in
theorem lock_free (a : Addr) (w : World) (hc : w.cell? a = some (.int .i32 0)) (hz : w.frozen? a = false) :
    Calls Tryz.prog 87 #[.pointer (some a)] w fun e w' => e = .returned (.tuple #[]) ∧ w' = w.setCell a (.int .i32 1) := by
  have hd := disable
  have he := enable
  have ha := acquire
  have hcas := run_call_cas_hit (P := Tryz.prog) Tryz.func106 (by kernel_rfl) (by kernel_rfl) (by kernel_rfl) .i32 (by kernel_rfl) (y := 1) hc hz
  have hc' : (w.setCell a (.int .i32 1)).cell? a = some (.int .i32 1) := World.cell?_setCell_same w a _ hc
  have hcv := run_convert_to_unsafe (P := Tryz.prog) (src := 193) (dst := 197) Tryz.underlying193 Tryz.underlying197 (by kernel_rfl) hc'
  go_enter Tryz.func87, Tryz.ntmps87
  go_wp2
  go_end0
  exact ⟨rfl, rfl⟩
theorem bool_load (a : Addr) (x : Int) (w : World) (hc : w.cell? a = some (.int .u32 x)) :
    Calls Tryz.prog 68 #[.pointer (some a)] w fun e w' => e = .returned (.bool (x != 0)) ∧ w' = w := by
  have hl := run_call_load (P := Tryz.prog) Tryz.func86 (by kernel_rfl) (by kernel_rfl) (by kernel_rfl) .u32 (by kernel_rfl) (w := w) (a := a) (x := x) hc
  go_enter Tryz.func68, Tryz.ntmps68
  go_wp2
  refine bodyPost_ret (results_tmp rfl _ _ _) rfl ?_
  exact ⟨rfl, rfl⟩
set_option maxRecDepth 100000 in
set_option maxHeartbeats 1600000 in
/-- What is handed to Do is called, the lock held; then the Once is done. -/
theorem slow_any (b off : Nat) (fv : Go.Fn) (x y : Array Value) (g : FuncId) (vs : Array Value) (R : World → Prop) (w : World) (hfv : fv = .func g) (hgb : ((Tryz.prog.funcs[g]?).any fun fn => fn.body.isSome && fn.name != "runtime.NumGoroutine") = true) (hvs : x ++ y = vs)
    (h0 : w.cell? ⟨b, off, none⟩ = some (.int .u32 0)) (h1 : w.cell? ⟨b, off + 1, none⟩ = some (.int .i32 0))
    (f0 : w.frozen? ⟨b, off, none⟩ = false) (f1 : w.frozen? ⟨b, off + 1, none⟩ = false)
    (hg : Calls Tryz.prog g vs (w.setCell ⟨b, off + 1, none⟩ (.int .i32 1)) fun e w1 => e = .returned (.tuple #[]) ∧ R w1)
    (hR : ∀ w1, R w1 → w1.cell? ⟨b, off, none⟩ = some (.int .u32 0) ∧ w1.cell? ⟨b, off + 1, none⟩ = some (.int .i32 1) ∧ w1.frozen? ⟨b, off, none⟩ = false ∧ w1.frozen? ⟨b, off + 1, none⟩ = false) :
    Calls Tryz.prog 69 #[.pointer (some ⟨b, off, none⟩), .func fv x y] w fun e w' => e = .returned (.tuple #[]) ∧
      ∃ w1, R w1 ∧ w' = (w1.drew.setCell ⟨b, off, none⟩ (.int .u32 1)).setCell ⟨b, off + 1, none⟩ (.int .i32 0) := by
  subst hfv
  subst hvs
  have hl := run_call_load (P := Tryz.prog) Tryz.func86 (by kernel_rfl) (by kernel_rfl) (by kernel_rfl) .u32 (by kernel_rfl) (w := w.setCell ⟨b, off + 1, none⟩ (.int .i32 1)) (a := ⟨b, off, none⟩) (x := 0) ((World.cell?_setCell_other _ ⟨b, off + 1, none⟩ ⟨b, off, none⟩ _ (by simp)).trans h0)
  have hnot : ∀ (x : Bool) (w : World), (Op.unary .not (.bool x)).run Tryz.prog w = .ok (.bool (!x)) w := fun _ _ => rfl
  go_enter_defers Tryz.func69, Tryz.ntmps69
  go_wp2_with (go_at_call 87; refine (lock_free ⟨b, off + 1, none⟩ _ (by go_simp) (by go_simp)).mono ?_; rintro e w' ⟨rfl, rfl⟩)
  go_at_call 68
  refine (bool_load ⟨b, off, none⟩ 0 _ ((World.cell?_setCell_other _ ⟨b, off + 1, none⟩ ⟨b, off, none⟩ _ (by simp)).trans h0)).mono ?_
  rintro e w' ⟨rfl, rfl⟩
  go_wp2
  rw [run_enter hgb, Oper.upon_enter]
  refine hg.mono ?_
  rintro e w1 ⟨rfl, hw1⟩
  obtain ⟨r0, r1, r2, r3⟩ := hR w1 hw1
  dsimp only
  go_wp2
  refine leaves_cons (f := 89) (args := #[.pointer (some ⟨b, off, none⟩), .bool true]) (by simp) (by simp [go_sem]) ?_
  refine (store_deferred ⟨b, off, none⟩ (.int .u32 0) .returning _ r0 r2).mono ?_
  rintro e u' w'' ⟨rfl, rfl, rfl⟩
  refine leaves_cons (f := 88) (args := #[.pointer (some ⟨b, off + 1, none⟩)]) (by simp [settle]) (by simp [go_sem]) ?_
  refine (unlock_deferred ⟨b, off + 1, none⟩ _ _ ?_ (by simp [r3])).mono ?_
  · refine (World.cell?_setCell_other _ ⟨b, off, none⟩ ⟨b, off + 1, none⟩ _ (by simp)).trans ?_
    rw [World.cell?_drew]
    exact r1
  rintro e u' w'' ⟨rfl, rfl, rfl⟩
  simp [Leaves, settle, results, Tryz.results69]
  exact ⟨w1, hw1, rfl⟩
end Go.Proofs.YtkjdkeolkigibaaGreat
end

section
/-
  sync.Once's Do; a counter. No condition.
-/
namespace Go.Proofs.YtkjdkeolkigibaaGreat
set_option linter.unusedVariables false
open Go.RowKit

set_option maxRecDepth 100000 in
theorem once_slow (b off : Nat) (v : Value) (w : World) (Post : Ending → World → Prop) (h0 : w.cell? ⟨b, off, none⟩ = some (.int .u32 0)) (h : Calls Tryz.prog 69 #[.pointer (some ⟨b, off, none⟩), v] w Post)
    (hp : ∀ e w', Post e w' → e = .returned (.tuple #[])) : Calls Tryz.prog 40 #[.pointer (some ⟨b, off, none⟩), v] w Post := by
  have hnot : ∀ (x : Bool) (w : World), (Op.unary .not (.bool x)).run Tryz.prog w = .ok (.bool (!x)) w := fun _ _ => rfl
  go_enter Tryz.func40, Tryz.ntmps40
  go_wp2_with fail
  refine (bool_load ⟨b, off, none⟩ 0 _ h0).mono ?_
  rintro e w' ⟨rfl, rfl⟩
  go_wp2_with fail
  refine h.mono ?_
  intro e w1 hw1
  obtain rfl := hp e w1 hw1
  dsimp only
  go_wp2_with fail
  go_end0
  exact hw1
set_option maxRecDepth 100000 in
theorem once_done (b off : Nat) (v : Value) (w : World) (h0 : w.cell? ⟨b, off, none⟩ = some (.int .u32 1)) :
    Calls Tryz.prog 40 #[.pointer (some ⟨b, off, none⟩), v] w fun e w' => e = .returned (.tuple #[]) ∧ w' = w := by
  have hnot : ∀ (x : Bool) (w : World), (Op.unary .not (.bool x)).run Tryz.prog w = .ok (.bool (!x)) w := fun _ _ => rfl
  go_enter Tryz.func40, Tryz.ntmps40
  go_wp2_with fail
  go_at_call 68
  refine (bool_load ⟨b, off, none⟩ 1 _ h0).mono ?_
  rintro e w' ⟨rfl, rfl⟩
  go_wp2_with fail
  go_end0
  exact ⟨rfl, rfl⟩
set_option maxRecDepth 100000 in
theorem i64_add (a : Addr) (n : Int) (w : World) (hc : w.cell? a = some (.int .i64 n)) (hz : w.frozen? a = false) (h : -9223372036854775808 ≤ n + 1 ∧ n + 1 ≤ 9223372036854775807) :
    Calls Tryz.prog 63 #[.pointer (some a), .int .i64 1] w fun e w' => e = .returned (.int .i64 (n + 1)) ∧ w' = w.setCell a (.int .i64 (n + 1)) := by
  have hadd := run_call_add (P := Tryz.prog) Tryz.func81 (by kernel_rfl) (by kernel_rfl) (by kernel_rfl) .i64 (by kernel_rfl) (y := 1) (s := n + 1) hc hz (run_add_i64 h w)
  go_enter Tryz.func63, Tryz.ntmps63
  go_wp2
  refine bodyPost_ret (results_tmp rfl _ _ _) rfl ?_
  exact ⟨rfl, rfl⟩
end Go.Proofs.YtkjdkeolkigibaaGreat
end
