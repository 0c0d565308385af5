/-
  Texts of this claim, part 6: HpA, HpB, HdA, HdE. No condition of its own.
-/
import Derived.Test.YtkjdkeolkigibaaG5
section
/-
  Headers taken: ids, long ones. No condition.
-/
namespace Go.Proofs.Ytkjdkeolkigibaa
set_option linter.unusedVariables false
namespace Vi
open Sha
/-- An id, its length ahead. -/
def idM (l : Bs) (e : Int) : Bs × Bs × Int := match byteM l e with
  | (many, l1, e1) => match (if 20 < many.toNat then failM l1 e1 6 else (l1, e1)) with
    | (l2, e2) => bytesM l2 e2 (many.toNat : Int)
/-- The end of a long header: how many bytes there are behind, what is left. -/
def lenM (l : Bs) (e : Int) : Nat × Bs × Int := match countM l e 1204 with
  | (n, l1, e1) => match (if l1.length < n then failM l1 e1 3 else (l1, e1)) with
    | (l2, e2) => (n, l2, e2)
/-- What is taken behind the first five bytes: to whom, from whom, the token, how many bytes there are behind, what is left. -/
def partsM (sp : BitVec 8) (l : Bs) (e : Int) : (Bs × Bs × Bs × Nat) × Bs × Int := match idM l e with
  | (t, l1, e1) => match idM l1 e1 with
    | (f, l2, e2) => match (if sp = 0#8 then longM l2 e2 64 else ([], l2, e2)) with
      | (k, l3, e3) => match lenM l3 e3 with
        | (n, l4, e4) => ((t, f, k, n), l4, e4)
end Vi
namespace Sx
open Sha Vi

set_option maxRecDepth 20000 in
theorem fn_takeId (A : Sl) (s : RS) {l : Bs} {e : Int} (hr : RdI A s l e) : FnR Try.prog tds 83 1 [svB A, rdC s] [.c (.p 1 0 0)] (fun _ => True)
    (fun y hs => ∃ t s' l' e', idM l e = (t.l, l', e') ∧ RdI A s' l' e' ∧ t.Ok ∧ y = .a (.c (svC 2 t)) ∧ hs = [svB A, rdC s', svB t]) := by
  refine fn_of_body tds_ok follows_ Try.func83 rfl (t := .a (.c (.p 1 0 0)) :: anys (Try.f83.ntmps - 1)) rfl (fun w r0 hr0 _ => ?_)
  obtain ⟨x0, x1, rfl⟩ := len2' hr0
  (repeat first | refine And.intro (by omega) ?_ | refine And.intro (by decide) ?_ | (with_reducible refine frc_parts (by first | omega | decide) ?_) | (with_reducible refine frc_bytesL (by first | omega | decide) ?_) | refine And.intro rfl ?_)
  refine call_same (fn_rbyte A s hr) [0, 1] rfl (by (repeat first | exact trivial | refine ⟨rfl, ?_⟩ | refine ⟨fun _ _ => ⟨rfl, trivial⟩, ?_⟩ | refine ⟨fun _ _ => trivial, ?_⟩ | refine ⟨by omega, ?_⟩ | refine ⟨fun _ _ => eqC_winS, ?_⟩ | refine ⟨fun _ _ => eqC_winM, ?_⟩ | refine ⟨fun _ _ => eqC_winB, ?_⟩ | refine ⟨fun _ _ => eqC_selfB, ?_⟩ | refine ⟨fun _ _ => eqC_mpB, ?_⟩)) ?_ (fun _ _ => trivial) ?_
  · refine eqC_bts ?_
    (repeat first | exact trivial | refine ⟨rfl, ?_⟩ | refine ⟨fun _ _ => ⟨rfl, trivial⟩, ?_⟩ | refine ⟨fun _ _ => trivial, ?_⟩ | refine ⟨by omega, ?_⟩ | refine ⟨fun _ _ => eqC_winS, ?_⟩ | refine ⟨fun _ _ => eqC_winM, ?_⟩ | refine ⟨fun _ _ => eqC_winB, ?_⟩ | refine ⟨fun _ _ => eqC_selfB, ?_⟩ | refine ⟨fun _ _ => eqC_mpB, ?_⟩)
  rintro x hs ⟨n, s1, l1, e1, hx, hr1, rfl, rfl⟩
  by_cases h1 : 20 < n.toNat
  · have e1' : decide ((20 : Int) < (n.toNat : Int)) = true := decide_eq_true (by omega)
    (repeat first | refine And.intro (by omega) ?_ | refine And.intro (by decide) ?_ | refine And.intro rfl ?_ | refine And.intro (fun _ => ?_) (fun h => Bool.noConfusion h) | refine And.intro (fun h => Bool.noConfusion h) (fun _ => ?_) | refine And.intro (fun _ => ?_) (fun h => absurd h (by rw [e1']; decide)) | refine And.intro (fun h => absurd h (by rw [e1']; decide)) (fun _ => ?_))
    refine call_same (fn_rfail A s1 6 hr1) [0, 1] rfl (by (repeat first | exact trivial | refine ⟨rfl, ?_⟩ | refine ⟨fun _ _ => ⟨rfl, trivial⟩, ?_⟩ | refine ⟨fun _ _ => trivial, ?_⟩ | refine ⟨by omega, ?_⟩ | refine ⟨fun _ _ => eqC_winS, ?_⟩ | refine ⟨fun _ _ => eqC_winM, ?_⟩ | refine ⟨fun _ _ => eqC_winB, ?_⟩ | refine ⟨fun _ _ => eqC_selfB, ?_⟩ | refine ⟨fun _ _ => eqC_mpB, ?_⟩)) ?_ (fun _ _ => trivial) ?_
    · refine eqC_bts ?_
      (repeat first | exact trivial | refine ⟨rfl, ?_⟩ | refine ⟨fun _ _ => ⟨rfl, trivial⟩, ?_⟩ | refine ⟨fun _ _ => trivial, ?_⟩ | refine ⟨by omega, ?_⟩ | refine ⟨fun _ _ => eqC_winS, ?_⟩ | refine ⟨fun _ _ => eqC_winM, ?_⟩ | refine ⟨fun _ _ => eqC_winB, ?_⟩ | refine ⟨fun _ _ => eqC_selfB, ?_⟩ | refine ⟨fun _ _ => eqC_mpB, ?_⟩)
    rintro x hs ⟨s2, l2, e2, hy, hr2, rfl, rfl⟩
    (repeat first | refine And.intro (by omega) ?_ | refine And.intro (by decide) ?_ | (with_reducible refine frc_parts (by first | omega | decide) ?_) | (with_reducible refine frc_bytesL (by first | omega | decide) ?_) | refine And.intro rfl ?_)
    refine call_same (fn_rbytes A s2 (n.toNat : Nat) hr2) [0, 1] rfl (by (repeat first | exact trivial | refine ⟨rfl, ?_⟩ | refine ⟨fun _ _ => ⟨rfl, trivial⟩, ?_⟩ | refine ⟨fun _ _ => trivial, ?_⟩ | refine ⟨by omega, ?_⟩ | refine ⟨fun _ _ => eqC_winS, ?_⟩ | refine ⟨fun _ _ => eqC_winM, ?_⟩ | refine ⟨fun _ _ => eqC_winB, ?_⟩ | refine ⟨fun _ _ => eqC_selfB, ?_⟩ | refine ⟨fun _ _ => eqC_mpB, ?_⟩)) ?_ (fun _ _ => trivial) ?_
    · refine eqC_bts ?_
      (repeat first | exact trivial | refine ⟨rfl, ?_⟩ | refine ⟨fun _ _ => ⟨rfl, trivial⟩, ?_⟩ | refine ⟨fun _ _ => trivial, ?_⟩ | refine ⟨by omega, ?_⟩ | refine ⟨fun _ _ => eqC_winS, ?_⟩ | refine ⟨fun _ _ => eqC_winM, ?_⟩ | refine ⟨fun _ _ => eqC_winB, ?_⟩ | refine ⟨fun _ _ => eqC_selfB, ?_⟩ | refine ⟨fun _ _ => eqC_mpB, ?_⟩)
    rintro x hs ⟨t, s3, l3, e3, hz, hr3, ht, rfl, rfl⟩
    refine ⟨.a (.c (svC 2 t)), _, ⟨[0, 1, 2], ⟨rfl, rfl, rfl⟩, ?_⟩, t, s3, l3, e3, ?_, hr3, ht, rfl, rfl⟩
    · (repeat first | exact trivial | refine ⟨rfl, ?_⟩ | refine ⟨fun _ _ => ⟨rfl, trivial⟩, ?_⟩ | refine ⟨fun _ _ => trivial, ?_⟩ | refine ⟨by omega, ?_⟩ | refine ⟨fun _ _ => eqC_winS, ?_⟩ | refine ⟨fun _ _ => eqC_winM, ?_⟩ | refine ⟨fun _ _ => eqC_winB, ?_⟩ | refine ⟨fun _ _ => eqC_selfB, ?_⟩ | refine ⟨fun _ _ => eqC_mpB, ?_⟩)
      refine eqC_bts ?_
      (repeat first | exact trivial | refine ⟨rfl, ?_⟩ | refine ⟨fun _ _ => ⟨rfl, trivial⟩, ?_⟩ | refine ⟨fun _ _ => trivial, ?_⟩ | refine ⟨by omega, ?_⟩ | refine ⟨fun _ _ => eqC_winS, ?_⟩ | refine ⟨fun _ _ => eqC_winM, ?_⟩ | refine ⟨fun _ _ => eqC_winB, ?_⟩ | refine ⟨fun _ _ => eqC_selfB, ?_⟩ | refine ⟨fun _ _ => eqC_mpB, ?_⟩)
      refine eqC_btsM ?_
      (repeat first | exact trivial | refine ⟨rfl, ?_⟩ | refine ⟨fun _ _ => ⟨rfl, trivial⟩, ?_⟩ | refine ⟨fun _ _ => trivial, ?_⟩ | refine ⟨by omega, ?_⟩ | refine ⟨fun _ _ => eqC_winS, ?_⟩ | refine ⟨fun _ _ => eqC_winM, ?_⟩ | refine ⟨fun _ _ => eqC_winB, ?_⟩ | refine ⟨fun _ _ => eqC_selfB, ?_⟩ | refine ⟨fun _ _ => eqC_mpB, ?_⟩)
    · unfold idM
      rw [hx]
      show (match (if 20 < n.toNat then failM l1 e1 6 else (l1, e1)) with | (l2, e2) => bytesM l2 e2 (n.toNat : Int)) = _
      rw [if_pos h1, hy]
      exact hz
  · have e1' : decide ((20 : Int) < (n.toNat : Int)) = false := decide_eq_false (by omega)
    (repeat first | refine And.intro (by omega) ?_ | refine And.intro (by decide) ?_ | refine And.intro rfl ?_ | refine And.intro (fun _ => ?_) (fun h => Bool.noConfusion h) | refine And.intro (fun h => Bool.noConfusion h) (fun _ => ?_) | refine And.intro (fun _ => ?_) (fun h => absurd h (by rw [e1']; decide)) | refine And.intro (fun h => absurd h (by rw [e1']; decide)) (fun _ => ?_))
    refine call_same (fn_rbytes A s1 (n.toNat : Nat) hr1) [0, 1] rfl (by (repeat first | exact trivial | refine ⟨rfl, ?_⟩ | refine ⟨fun _ _ => ⟨rfl, trivial⟩, ?_⟩ | refine ⟨fun _ _ => trivial, ?_⟩ | refine ⟨by omega, ?_⟩ | refine ⟨fun _ _ => eqC_winS, ?_⟩ | refine ⟨fun _ _ => eqC_winM, ?_⟩ | refine ⟨fun _ _ => eqC_winB, ?_⟩ | refine ⟨fun _ _ => eqC_selfB, ?_⟩ | refine ⟨fun _ _ => eqC_mpB, ?_⟩)) ?_ (fun _ _ => trivial) ?_
    · refine eqC_bts ?_
      (repeat first | exact trivial | refine ⟨rfl, ?_⟩ | refine ⟨fun _ _ => ⟨rfl, trivial⟩, ?_⟩ | refine ⟨fun _ _ => trivial, ?_⟩ | refine ⟨by omega, ?_⟩ | refine ⟨fun _ _ => eqC_winS, ?_⟩ | refine ⟨fun _ _ => eqC_winM, ?_⟩ | refine ⟨fun _ _ => eqC_winB, ?_⟩ | refine ⟨fun _ _ => eqC_selfB, ?_⟩ | refine ⟨fun _ _ => eqC_mpB, ?_⟩)
    rintro x hs ⟨t, s3, l3, e3, hz, hr3, ht, rfl, rfl⟩
    refine ⟨.a (.c (svC 2 t)), _, ⟨[0, 1, 2], ⟨rfl, rfl, rfl⟩, ?_⟩, t, s3, l3, e3, ?_, hr3, ht, rfl, rfl⟩
    · (repeat first | exact trivial | refine ⟨rfl, ?_⟩ | refine ⟨fun _ _ => ⟨rfl, trivial⟩, ?_⟩ | refine ⟨fun _ _ => trivial, ?_⟩ | refine ⟨by omega, ?_⟩ | refine ⟨fun _ _ => eqC_winS, ?_⟩ | refine ⟨fun _ _ => eqC_winM, ?_⟩ | refine ⟨fun _ _ => eqC_winB, ?_⟩ | refine ⟨fun _ _ => eqC_selfB, ?_⟩ | refine ⟨fun _ _ => eqC_mpB, ?_⟩)
      refine eqC_bts ?_
      (repeat first | exact trivial | refine ⟨rfl, ?_⟩ | refine ⟨fun _ _ => ⟨rfl, trivial⟩, ?_⟩ | refine ⟨fun _ _ => trivial, ?_⟩ | refine ⟨by omega, ?_⟩ | refine ⟨fun _ _ => eqC_winS, ?_⟩ | refine ⟨fun _ _ => eqC_winM, ?_⟩ | refine ⟨fun _ _ => eqC_winB, ?_⟩ | refine ⟨fun _ _ => eqC_selfB, ?_⟩ | refine ⟨fun _ _ => eqC_mpB, ?_⟩)
      refine eqC_btsM ?_
      (repeat first | exact trivial | refine ⟨rfl, ?_⟩ | refine ⟨fun _ _ => ⟨rfl, trivial⟩, ?_⟩ | refine ⟨fun _ _ => trivial, ?_⟩ | refine ⟨by omega, ?_⟩ | refine ⟨fun _ _ => eqC_winS, ?_⟩ | refine ⟨fun _ _ => eqC_winM, ?_⟩ | refine ⟨fun _ _ => eqC_winB, ?_⟩ | refine ⟨fun _ _ => eqC_selfB, ?_⟩ | refine ⟨fun _ _ => eqC_mpB, ?_⟩)
    · unfold idM
      rw [hx]
      show (match (if 20 < n.toNat then failM l1 e1 6 else (l1, e1)) with | (l2, e2) => bytesM l2 e2 (n.toNat : Int)) = _
      rw [if_neg h1]
      exact hz
end Sx
end Go.Proofs.Ytkjdkeolkigibaa
end

section
/-
  Headers taken: long ones. No condition.
-/
namespace Go.Proofs.Ytkjdkeolkigibaa
set_option linter.unusedVariables false
namespace Vi
open Sha
/-- What a datagram with a long header begins with: an error, or its space, ids, token; how far it goes. -/
inductive PM where
  | no (e : Int)
  | ok (sp : BitVec 8) (t f k : Bs) (at_ en : Nat)
def longP (b : Bs) : PM :=
  if L b 0 &&& 48#8 ≠ 0#8 ∧ L b 0 &&& 48#8 ≠ 32#8 then .no 5
  else if 5 ≤ b.length ∧ (b.drop 1).take 4 ≠ [0#8, 0#8, 0#8, 1#8] then .no 12
  else match bytesM b 0 5 with
    | (_, l, e) => match partsM (if L b 0 &&& 48#8 = 0#8 then 0#8 else 1#8) l e with
      | ((t, f, k, n), l', e') => if e' ≠ 0 then .no e' else .ok (if L b 0 &&& 48#8 = 0#8 then 0#8 else 1#8) t f k (b.length - l'.length) (b.length - l'.length + n)
end Vi
namespace Sx
open Sha Vi

/-- What is parsed: a space, ids, a token, no number; how far it goes. -/
abbrev psC (a b c : Nat) (sp : BitVec 8) (t f k : Sl) (at_ en : Nat) : List Seg := [.one (.w8 sp), .one (svC a t), .one (svC b f), .one (svC c k), .one (.bool false), .one (.slc none 0 0), .one (.int .i64 (at_ : Nat)), .one (.int .i64 (en : Nat))]
abbrev ps0 : List Seg := [.one (.w8 0#8), .one (.slc none 0 0), .one (.slc none 0 0), .one (.slc none 0 0), .one (.bool false), .one (.slc none 0 0), .one (.int .i64 0), .one (.int .i64 0)]
/-- What is answered: nothing, with an error; or what was parsed, in blocks of its own behind the given ones. -/
def psRes (h0 : List (List Seg)) (m : PM) (y : SV) (hs : List (List Seg)) : Prop := match m with
  | .no e => y = .tup [.agg ps0, .c (.int .i64 e)] ∧ hs = h0
  | .ok sp t f k at_ en => ∃ T F K : Sl, T.Ok ∧ F.Ok ∧ K.Ok ∧ T.l = t ∧ F.l = f ∧ K.l = k ∧ y = .tup [.agg (psC h0.length (h0.length + 1) (h0.length + 2) sp T F K at_ en), .c (.int .i64 0)] ∧ hs = h0 ++ [svB T, svB F, svB K]
theorem ver_row (i : Nat) (hi : i < 4) : nthC [.w8 0#8, .w8 0#8, .w8 0#8, .w8 1#8] i = .w8 (L [0#8, 0#8, 0#8, 1#8] i) := nthC_w8 [0#8, 0#8, 0#8, 1#8] i hi
set_option maxRecDepth 20000 in
set_option maxHeartbeats 8000000 in
theorem fn_parseLong (s : Sl) (hs : s.Ok) (h0 : 0 < s.l.length) : FnR Try.prog tds 67 1 [svB s] [.c (svC 0 s)] (fun _ => True)
    (fun y hs => psRes [svB s] (longP s.l) y hs) := by
  refine fn_of_body tds_ok follows_ Try.func67 rfl (t := .a (.c (svC 0 s)) :: anys (Try.f67.ntmps - 1)) rfl (fun w r0 hr0 _ => ?_)
  obtain ⟨x0, rfl⟩ := List.length_eq_one_iff.1 hr0
  have hz := hs.pos h0
  have hN := hs.fit
  have hcp := hs.cap
  have hsm := hs.small
  rw [svB_row hz]
  (repeat first | refine And.intro (by omega) ?_ | refine And.intro (by decide) ?_ | (with_reducible refine frc_parts (by first | omega | decide) ?_) | (with_reducible refine frc_bytesL (by first | omega | decide) ?_) | refine And.intro rfl ?_)
  with_reducible refine frc_winA 0 rfl h0 ?_
  by_cases k0 : L s.l 0 &&& 48#8 = 0#8
  · have e0 : decide (L s.l 0 &&& 48#8 = 0#8) = true := decide_eq_true k0
    (repeat first | refine And.intro (by omega) ?_ | refine And.intro (by decide) ?_ | refine And.intro rfl ?_ | refine And.intro (fun _ => ?_) (fun h => Bool.noConfusion h) | refine And.intro (fun h => Bool.noConfusion h) (fun _ => ?_) | refine And.intro (fun _ => ?_) (fun h => absurd h (by rw [e0]; decide)) | refine And.intro (fun h => absurd h (by rw [e0]; decide)) (fun _ => ?_))
    by_cases h5 : 5 ≤ s.l.length
    · have e5 : decide ((5 : Int) ≤ (s.l.length : Int)) = true := decide_eq_true (by omega)
      (repeat first | refine And.intro (by omega) ?_ | refine And.intro (by decide) ?_ | refine And.intro rfl ?_ | refine And.intro (fun _ => ?_) (fun h => Bool.noConfusion h) | refine And.intro (fun h => Bool.noConfusion h) (fun _ => ?_) | refine And.intro (fun _ => ?_) (fun h => absurd h (by rw [e0]; decide)) | refine And.intro (fun h => absurd h (by rw [e0]; decide)) (fun _ => ?_) | refine And.intro (fun _ => ?_) (fun h => absurd h (by rw [e5]; decide)) | refine And.intro (fun h => absurd h (by rw [e5]; decide)) (fun _ => ?_))
      have l4 : ((s.l.drop 1).take 4).length = 4 := by rw [List.length_take, List.length_drop]; omega
      refine call_same (fn_equal ⟨s.z, s.N, s.o + 1, s.c - 1, (s.l.drop 1).take 4⟩ ⟨false, 4, 0, 4, [0#8, 0#8, 0#8, 1#8]⟩ ⟨(by rw [l4]; dsimp only; omega), (by rw [l4]; dsimp only; omega), (fun h => by rw [hz] at h; cases h), (by rw [l4]; omega)⟩ ⟨by decide, by decide, fun h => Bool.noConfusion h, by decide⟩) [0, 3] rfl ?_ ?_ (fun _ _ => trivial) ?_
      · refine ⟨rfl, by show (if s.c = 1 then s.o else s.o + 1 * 1) = s.o + 1; rw [if_neg (by omega)], l4.symm, rfl, ?_⟩
        (repeat first | exact trivial | refine ⟨rfl, ?_⟩ | refine ⟨fun _ _ => ⟨rfl, trivial⟩, ?_⟩ | refine ⟨fun _ _ => trivial, ?_⟩ | refine ⟨by omega, ?_⟩ | refine ⟨fun _ _ => eqC_winS, ?_⟩ | refine ⟨fun _ _ => eqC_winM, ?_⟩ | refine ⟨fun _ _ => eqC_winB, ?_⟩ | refine ⟨fun _ _ => eqC_selfB, ?_⟩ | refine ⟨fun _ _ => eqC_mpB, ?_⟩)
      · rw [svB_row (s := ⟨s.z, s.N, s.o + 1, s.c - 1, (s.l.drop 1).take 4⟩) hz]
        refine ⟨rfl, fun j hj => eqC_win (fun i hi => ?_) j, ?_⟩
        · have hi : i < 4 := by rw [← l4]; exact hi
          have := winF_at s.o s.l.length (L s.l) (i := 1 + i) (by omega)
          rw [← Nat.add_assoc] at this
          rw [this, L_sub _ _ _ _ hi]
        refine ⟨rfl, fun j hj => eqC_win0 (fun i hi => ver_row i hi) j, trivial⟩
      rintro x hs' ⟨rfl, rfl⟩
      by_cases h6 : (s.l.drop 1).take 4 = [0#8, 0#8, 0#8, 1#8]
      rotate_left
      · have e6 : (!decide ((s.l.drop 1).take 4 = [0#8, 0#8, 0#8, 1#8])) = true := by rw [decide_eq_false h6]; rfl
        (repeat first | refine And.intro (by omega) ?_ | refine And.intro (by decide) ?_ | refine And.intro rfl ?_ | refine And.intro (fun _ => ?_) (fun h => Bool.noConfusion h) | refine And.intro (fun h => Bool.noConfusion h) (fun _ => ?_) | refine And.intro (fun _ => ?_) (fun h => absurd h (by rw [e5]; decide)) | refine And.intro (fun h => absurd h (by rw [e5]; decide)) (fun _ => ?_) | refine And.intro (fun _ => ?_) (fun h => absurd h (by rw [e6]; decide)) | refine And.intro (fun h => absurd h (by rw [e6]; decide)) (fun _ => ?_))
        have hM : longP s.l = .no 12 := by unfold longP; rw [if_neg (fun e => by first | exact e.1 k0 | exact e.2 k1), if_pos ⟨h5, h6⟩]
        rw [hM]
        refine ⟨.tup [.agg ps0, .c (.int .i64 12)], _, ⟨[0], ⟨rfl, rfl, rfl⟩, ?_⟩, rfl, rfl⟩
        (repeat first | exact trivial | refine ⟨rfl, ?_⟩ | refine ⟨fun _ _ => ⟨rfl, trivial⟩, ?_⟩ | refine ⟨fun _ _ => trivial, ?_⟩ | refine ⟨by omega, ?_⟩ | refine ⟨fun _ _ => eqC_winS, ?_⟩ | refine ⟨fun _ _ => eqC_winM, ?_⟩ | refine ⟨fun _ _ => eqC_winB, ?_⟩ | refine ⟨fun _ _ => eqC_selfB, ?_⟩ | refine ⟨fun _ _ => eqC_mpB, ?_⟩)
      have e6 : (!decide ((s.l.drop 1).take 4 = [0#8, 0#8, 0#8, 1#8])) = false := by rw [decide_eq_true h6]; rfl
      (repeat first | refine And.intro (by omega) ?_ | refine And.intro (by decide) ?_ | refine And.intro rfl ?_ | refine And.intro (fun _ => ?_) (fun h => Bool.noConfusion h) | refine And.intro (fun h => Bool.noConfusion h) (fun _ => ?_) | refine And.intro (fun _ => ?_) (fun h => absurd h (by rw [e5]; decide)) | refine And.intro (fun h => absurd h (by rw [e5]; decide)) (fun _ => ?_) | refine And.intro (fun _ => ?_) (fun h => absurd h (by rw [e6]; decide)) | refine And.intro (fun h => absurd h (by rw [e6]; decide)) (fun _ => ?_))
      refine call_same (fn_vread s hs) [0] rfl (by (repeat first | exact trivial | refine ⟨rfl, ?_⟩ | refine ⟨fun _ _ => ⟨rfl, trivial⟩, ?_⟩ | refine ⟨fun _ _ => trivial, ?_⟩ | refine ⟨by omega, ?_⟩ | refine ⟨fun _ _ => eqC_winS, ?_⟩ | refine ⟨fun _ _ => eqC_winM, ?_⟩ | refine ⟨fun _ _ => eqC_winB, ?_⟩ | refine ⟨fun _ _ => eqC_selfB, ?_⟩ | refine ⟨fun _ _ => eqC_mpB, ?_⟩)) ?_ (fun _ _ => trivial) ?_
      · rw [svB_row hz]
        (repeat first | exact trivial | refine ⟨rfl, ?_⟩ | refine ⟨fun _ _ => ⟨rfl, trivial⟩, ?_⟩ | refine ⟨fun _ _ => trivial, ?_⟩ | refine ⟨by omega, ?_⟩ | refine ⟨fun _ _ => eqC_winS, ?_⟩ | refine ⟨fun _ _ => eqC_winM, ?_⟩ | refine ⟨fun _ _ => eqC_winB, ?_⟩ | refine ⟨fun _ _ => eqC_selfB, ?_⟩ | refine ⟨fun _ _ => eqC_mpB, ?_⟩)
      rintro x hs' ⟨A, r, hAl, hr, rfl, rfl⟩
      (repeat first | refine And.intro (by omega) ?_ | refine And.intro (by decide) ?_ | refine And.intro rfl ?_ | refine And.intro (fun _ => ?_) (fun h => Bool.noConfusion h) | refine And.intro (fun h => Bool.noConfusion h) (fun _ => ?_))
      refine call_same (fn_rbytes A r 5 hr) [5, 4] rfl (by (repeat first | exact trivial | refine ⟨rfl, ?_⟩ | refine ⟨fun _ _ => ⟨rfl, trivial⟩, ?_⟩ | refine ⟨fun _ _ => trivial, ?_⟩ | refine ⟨by omega, ?_⟩ | refine ⟨fun _ _ => eqC_winS, ?_⟩ | refine ⟨fun _ _ => eqC_winM, ?_⟩ | refine ⟨fun _ _ => eqC_winB, ?_⟩ | refine ⟨fun _ _ => eqC_selfB, ?_⟩ | refine ⟨fun _ _ => eqC_mpB, ?_⟩)) ?_ (fun _ _ => trivial) ?_
      · refine eqC_btsM ?_
        (repeat first | exact trivial | refine ⟨rfl, ?_⟩ | refine ⟨fun _ _ => ⟨rfl, trivial⟩, ?_⟩ | refine ⟨fun _ _ => trivial, ?_⟩ | refine ⟨by omega, ?_⟩ | refine ⟨fun _ _ => eqC_winS, ?_⟩ | refine ⟨fun _ _ => eqC_winM, ?_⟩ | refine ⟨fun _ _ => eqC_winB, ?_⟩ | refine ⟨fun _ _ => eqC_selfB, ?_⟩ | refine ⟨fun _ _ => eqC_mpB, ?_⟩)
      rintro x hs' ⟨t0, r0', l0, e0', x0', hr0', ht0, rfl, rfl⟩
      (repeat first | refine And.intro (by omega) ?_ | refine And.intro (by decide) ?_ | refine And.intro rfl ?_ | refine And.intro (fun _ => ?_) (fun h => Bool.noConfusion h) | refine And.intro (fun h => Bool.noConfusion h) (fun _ => ?_))
      refine call_same (fn_takeId A r0' hr0') [5, 4] rfl (by (repeat first | exact trivial | refine ⟨rfl, ?_⟩ | refine ⟨fun _ _ => ⟨rfl, trivial⟩, ?_⟩ | refine ⟨fun _ _ => trivial, ?_⟩ | refine ⟨by omega, ?_⟩ | refine ⟨fun _ _ => eqC_winS, ?_⟩ | refine ⟨fun _ _ => eqC_winM, ?_⟩ | refine ⟨fun _ _ => eqC_winB, ?_⟩ | refine ⟨fun _ _ => eqC_selfB, ?_⟩ | refine ⟨fun _ _ => eqC_mpB, ?_⟩)) ?_ (fun _ _ => trivial) ?_
      · refine eqC_btsM ?_
        (repeat first | exact trivial | refine ⟨rfl, ?_⟩ | refine ⟨fun _ _ => ⟨rfl, trivial⟩, ?_⟩ | refine ⟨fun _ _ => trivial, ?_⟩ | refine ⟨by omega, ?_⟩ | refine ⟨fun _ _ => eqC_winS, ?_⟩ | refine ⟨fun _ _ => eqC_winM, ?_⟩ | refine ⟨fun _ _ => eqC_winB, ?_⟩ | refine ⟨fun _ _ => eqC_selfB, ?_⟩ | refine ⟨fun _ _ => eqC_mpB, ?_⟩)
      rintro x hs' ⟨t, r1, l1, e1', hx1, hr1, ht, rfl, rfl⟩
      (repeat first | refine And.intro (by omega) ?_ | refine And.intro (by decide) ?_ | refine And.intro rfl ?_ | refine And.intro (fun _ => ?_) (fun h => Bool.noConfusion h) | refine And.intro (fun h => Bool.noConfusion h) (fun _ => ?_))
      refine call_same (fn_takeId A r1 hr1) [5, 4] rfl (by (repeat first | exact trivial | refine ⟨rfl, ?_⟩ | refine ⟨fun _ _ => ⟨rfl, trivial⟩, ?_⟩ | refine ⟨fun _ _ => trivial, ?_⟩ | refine ⟨by omega, ?_⟩ | refine ⟨fun _ _ => eqC_winS, ?_⟩ | refine ⟨fun _ _ => eqC_winM, ?_⟩ | refine ⟨fun _ _ => eqC_winB, ?_⟩ | refine ⟨fun _ _ => eqC_selfB, ?_⟩ | refine ⟨fun _ _ => eqC_mpB, ?_⟩)) ?_ (fun _ _ => trivial) ?_
      · refine eqC_btsM ?_
        (repeat first | exact trivial | refine ⟨rfl, ?_⟩ | refine ⟨fun _ _ => ⟨rfl, trivial⟩, ?_⟩ | refine ⟨fun _ _ => trivial, ?_⟩ | refine ⟨by omega, ?_⟩ | refine ⟨fun _ _ => eqC_winS, ?_⟩ | refine ⟨fun _ _ => eqC_winM, ?_⟩ | refine ⟨fun _ _ => eqC_winB, ?_⟩ | refine ⟨fun _ _ => eqC_selfB, ?_⟩ | refine ⟨fun _ _ => eqC_mpB, ?_⟩)
      rintro x hs' ⟨f, r2, l2, e2', hx2, hr2, hf, rfl, rfl⟩
      (repeat first | refine And.intro (by omega) ?_ | refine And.intro (by decide) ?_ | refine And.intro rfl ?_ | refine And.intro (fun _ => ?_) (fun h => Bool.noConfusion h) | refine And.intro (fun h => Bool.noConfusion h) (fun _ => ?_))
      refine call_same (fn_rlong A r2 64 hr2 (by decide)) [5, 4] rfl (by (repeat first | exact trivial | refine ⟨rfl, ?_⟩ | refine ⟨fun _ _ => ⟨rfl, trivial⟩, ?_⟩ | refine ⟨fun _ _ => trivial, ?_⟩ | refine ⟨by omega, ?_⟩ | refine ⟨fun _ _ => eqC_winS, ?_⟩ | refine ⟨fun _ _ => eqC_winM, ?_⟩ | refine ⟨fun _ _ => eqC_winB, ?_⟩ | refine ⟨fun _ _ => eqC_selfB, ?_⟩ | refine ⟨fun _ _ => eqC_mpB, ?_⟩)) ?_ (fun _ _ => trivial) ?_
      · refine eqC_btsM ?_
        (repeat first | exact trivial | refine ⟨rfl, ?_⟩ | refine ⟨fun _ _ => ⟨rfl, trivial⟩, ?_⟩ | refine ⟨fun _ _ => trivial, ?_⟩ | refine ⟨by omega, ?_⟩ | refine ⟨fun _ _ => eqC_winS, ?_⟩ | refine ⟨fun _ _ => eqC_winM, ?_⟩ | refine ⟨fun _ _ => eqC_winB, ?_⟩ | refine ⟨fun _ _ => eqC_selfB, ?_⟩ | refine ⟨fun _ _ => eqC_mpB, ?_⟩)
      rintro x hs' ⟨k, r3, l3, e3', hx3, hr3, hk, rfl, rfl⟩
      (repeat first | refine And.intro (by omega) ?_ | refine And.intro (by decide) ?_ | refine And.intro rfl ?_ | refine And.intro (fun _ => ?_) (fun h => Bool.noConfusion h) | refine And.intro (fun h => Bool.noConfusion h) (fun _ => ?_))
      refine call_same (fn_rcount A r3 1204 hr3 (by decide)) [5, 4] rfl (by (repeat first | exact trivial | refine ⟨rfl, ?_⟩ | refine ⟨fun _ _ => ⟨rfl, trivial⟩, ?_⟩ | refine ⟨fun _ _ => trivial, ?_⟩ | refine ⟨by omega, ?_⟩ | refine ⟨fun _ _ => eqC_winS, ?_⟩ | refine ⟨fun _ _ => eqC_winM, ?_⟩ | refine ⟨fun _ _ => eqC_winB, ?_⟩ | refine ⟨fun _ _ => eqC_selfB, ?_⟩ | refine ⟨fun _ _ => eqC_mpB, ?_⟩)) ?_ (fun _ _ => trivial) ?_
      · refine eqC_btsM ?_
        (repeat first | exact trivial | refine ⟨rfl, ?_⟩ | refine ⟨fun _ _ => ⟨rfl, trivial⟩, ?_⟩ | refine ⟨fun _ _ => trivial, ?_⟩ | refine ⟨by omega, ?_⟩ | refine ⟨fun _ _ => eqC_winS, ?_⟩ | refine ⟨fun _ _ => eqC_winM, ?_⟩ | refine ⟨fun _ _ => eqC_winB, ?_⟩ | refine ⟨fun _ _ => eqC_selfB, ?_⟩ | refine ⟨fun _ _ => eqC_mpB, ?_⟩)
      rintro x hs' ⟨n, r4, l4, e4', hx4, hr4, rfl, rfl⟩
      (repeat first | refine And.intro (by omega) ?_ | refine And.intro (by decide) ?_ | refine And.intro rfl ?_ | refine And.intro (fun _ => ?_) (fun h => Bool.noConfusion h) | refine And.intro (fun h => Bool.noConfusion h) (fun _ => ?_))
      refine call_same (fn_rleft A r4 hr4) [5, 4] rfl (by (repeat first | exact trivial | refine ⟨rfl, ?_⟩ | refine ⟨fun _ _ => ⟨rfl, trivial⟩, ?_⟩ | refine ⟨fun _ _ => trivial, ?_⟩ | refine ⟨by omega, ?_⟩ | refine ⟨fun _ _ => eqC_winS, ?_⟩ | refine ⟨fun _ _ => eqC_winM, ?_⟩ | refine ⟨fun _ _ => eqC_winB, ?_⟩ | refine ⟨fun _ _ => eqC_selfB, ?_⟩ | refine ⟨fun _ _ => eqC_mpB, ?_⟩)) ?_ (fun _ _ => trivial) ?_
      · refine eqC_btsM ?_
        (repeat first | exact trivial | refine ⟨rfl, ?_⟩ | refine ⟨fun _ _ => ⟨rfl, trivial⟩, ?_⟩ | refine ⟨fun _ _ => trivial, ?_⟩ | refine ⟨by omega, ?_⟩ | refine ⟨fun _ _ => eqC_winS, ?_⟩ | refine ⟨fun _ _ => eqC_winM, ?_⟩ | refine ⟨fun _ _ => eqC_winB, ?_⟩ | refine ⟨fun _ _ => eqC_selfB, ?_⟩ | refine ⟨fun _ _ => eqC_mpB, ?_⟩)
      rintro x hs' ⟨rfl, rfl⟩
      by_cases hn : l4.length < n
      · have q4 : decide ((l4.length : Int) < (n : Int)) = true := decide_eq_true (by omega)
        (repeat first | refine And.intro (by omega) ?_ | refine And.intro (by decide) ?_ | refine And.intro rfl ?_ | refine And.intro (fun _ => ?_) (fun h => Bool.noConfusion h) | refine And.intro (fun h => Bool.noConfusion h) (fun _ => ?_) | refine And.intro (fun _ => ?_) (fun h => absurd h (by rw [q4]; decide)) | refine And.intro (fun h => absurd h (by rw [q4]; decide)) (fun _ => ?_))
        refine call_same (fn_rfail A r4 3 hr4) [5, 4] rfl (by (repeat first | exact trivial | refine ⟨rfl, ?_⟩ | refine ⟨fun _ _ => ⟨rfl, trivial⟩, ?_⟩ | refine ⟨fun _ _ => trivial, ?_⟩ | refine ⟨by omega, ?_⟩ | refine ⟨fun _ _ => eqC_winS, ?_⟩ | refine ⟨fun _ _ => eqC_winM, ?_⟩ | refine ⟨fun _ _ => eqC_winB, ?_⟩ | refine ⟨fun _ _ => eqC_selfB, ?_⟩ | refine ⟨fun _ _ => eqC_mpB, ?_⟩)) ?_ (fun _ _ => trivial) ?_
        · refine eqC_btsM ?_
          (repeat first | exact trivial | refine ⟨rfl, ?_⟩ | refine ⟨fun _ _ => ⟨rfl, trivial⟩, ?_⟩ | refine ⟨fun _ _ => trivial, ?_⟩ | refine ⟨by omega, ?_⟩ | refine ⟨fun _ _ => eqC_winS, ?_⟩ | refine ⟨fun _ _ => eqC_winM, ?_⟩ | refine ⟨fun _ _ => eqC_winB, ?_⟩ | refine ⟨fun _ _ => eqC_selfB, ?_⟩ | refine ⟨fun _ _ => eqC_mpB, ?_⟩)
        rintro x hs' ⟨r5, l5, e5', hx5, hr5, rfl, rfl⟩
        (repeat first | refine And.intro (by omega) ?_ | refine And.intro (by decide) ?_ | (with_reducible refine frc_parts (by first | omega | decide) ?_) | (with_reducible refine frc_bytesL (by first | omega | decide) ?_) | refine And.intro rfl ?_)
        refine call_same (fn_rerr A r5 hr5) [5, 4] rfl (by (repeat first | exact trivial | refine ⟨rfl, ?_⟩ | refine ⟨fun _ _ => ⟨rfl, trivial⟩, ?_⟩ | refine ⟨fun _ _ => trivial, ?_⟩ | refine ⟨by omega, ?_⟩ | refine ⟨fun _ _ => eqC_winS, ?_⟩ | refine ⟨fun _ _ => eqC_winM, ?_⟩ | refine ⟨fun _ _ => eqC_winB, ?_⟩ | refine ⟨fun _ _ => eqC_selfB, ?_⟩ | refine ⟨fun _ _ => eqC_mpB, ?_⟩)) ?_ (fun _ _ => trivial) ?_
        · refine eqC_btsM ?_
          (repeat first | exact trivial | refine ⟨rfl, ?_⟩ | refine ⟨fun _ _ => ⟨rfl, trivial⟩, ?_⟩ | refine ⟨fun _ _ => trivial, ?_⟩ | refine ⟨by omega, ?_⟩ | refine ⟨fun _ _ => eqC_winS, ?_⟩ | refine ⟨fun _ _ => eqC_winM, ?_⟩ | refine ⟨fun _ _ => eqC_winB, ?_⟩ | refine ⟨fun _ _ => eqC_selfB, ?_⟩ | refine ⟨fun _ _ => eqC_mpB, ?_⟩)
        rintro x hs' ⟨rfl, rfl⟩
        have hLen : lenM l3 e3' = (n, l5, e5') := by
          unfold lenM
          rw [hx4]
          show (match (if l4.length < n then failM l4 e4' 3 else (l4, e4')) with | (l2, e2) => (n, l2, e2)) = _
          rw [if_pos hn, hx5]
        have hPa : partsM 0#8 l0 e0' = ((t.l, f.l, (k).l, n), l5, e5') := by
          unfold partsM
          rw [hx1]
          show (match idM l1 e1' with | (f, l2, e2) => match (if 0#8 = 0#8 then longM l2 e2 64 else ([], l2, e2)) with | (k, l3, e3) => match lenM l3 e3 with | (n, l4, e4) => ((t.l, f, k, n), l4, e4)) = _
          rw [hx2]
          show (match longM l2 e2' 64 with | (k, l3, e3) => match lenM l3 e3 with | (n, l4, e4) => ((t.l, f.l, k, n), l4, e4)) = _
          rw [hx3]
          show (match lenM l3 e3' with | (n, l4, e4) => ((t.l, f.l, k.l, n), l4, e4)) = _
          rw [hLen]
        have hM : longP s.l = if e5' ≠ 0 then .no e5' else .ok 0#8 t.l f.l (k).l (s.l.length - l5.length) (s.l.length - l5.length + n) := by
          unfold longP
          rw [if_neg (fun e => by first | exact e.1 k0 | exact e.2 k1), if_neg (fun e => e.2 h6), x0', if_pos k0]
          show (match partsM 0#8 l0 e0' with | ((t, f, k, n), l', e') => if e' ≠ 0 then PM.no e' else .ok 0#8 t f k (s.l.length - l'.length) (s.l.length - l'.length + n)) = _
          rw [hPa]
        by_cases h5 : e5' = 0
        rotate_left
        · have q5 : decide (e5' ≠ 0) = true := decide_eq_true h5
          rw [hM, if_pos h5]
          (repeat first | refine And.intro (by omega) ?_ | refine And.intro (by decide) ?_ | refine And.intro rfl ?_ | refine And.intro (fun _ => ?_) (fun h => Bool.noConfusion h) | refine And.intro (fun h => Bool.noConfusion h) (fun _ => ?_) | refine And.intro (fun _ => ?_) (fun h => absurd h (by rw [q5]; decide)) | refine And.intro (fun h => absurd h (by rw [q5]; decide)) (fun _ => ?_))
          refine ⟨.tup [.agg ps0, .c (.int .i64 e5')], _, ⟨[0], ⟨rfl, rfl, rfl⟩, ?_⟩, rfl, rfl⟩
          (repeat first | exact trivial | refine ⟨rfl, ?_⟩ | refine ⟨fun _ _ => ⟨rfl, trivial⟩, ?_⟩ | refine ⟨fun _ _ => trivial, ?_⟩ | refine ⟨by omega, ?_⟩ | refine ⟨fun _ _ => eqC_winS, ?_⟩ | refine ⟨fun _ _ => eqC_winM, ?_⟩ | refine ⟨fun _ _ => eqC_winB, ?_⟩ | refine ⟨fun _ _ => eqC_selfB, ?_⟩ | refine ⟨fun _ _ => eqC_mpB, ?_⟩)
        have q5 : decide (e5' ≠ 0) = false := decide_eq_false (by omega)
        rw [hM, if_neg (show ¬ e5' ≠ 0 from fun e => e h5)]
        (repeat first | refine And.intro (by omega) ?_ | refine And.intro (by decide) ?_ | refine And.intro rfl ?_ | refine And.intro (fun _ => ?_) (fun h => Bool.noConfusion h) | refine And.intro (fun h => Bool.noConfusion h) (fun _ => ?_) | refine And.intro (fun _ => ?_) (fun h => absurd h (by rw [q5]; decide)) | refine And.intro (fun h => absurd h (by rw [q5]; decide)) (fun _ => ?_))
        refine call_same (fn_rleft A r5 hr5) [5, 4] rfl (by (repeat first | exact trivial | refine ⟨rfl, ?_⟩ | refine ⟨fun _ _ => ⟨rfl, trivial⟩, ?_⟩ | refine ⟨fun _ _ => trivial, ?_⟩ | refine ⟨by omega, ?_⟩ | refine ⟨fun _ _ => eqC_winS, ?_⟩ | refine ⟨fun _ _ => eqC_winM, ?_⟩ | refine ⟨fun _ _ => eqC_winB, ?_⟩ | refine ⟨fun _ _ => eqC_selfB, ?_⟩ | refine ⟨fun _ _ => eqC_mpB, ?_⟩)) ?_ (fun _ _ => trivial) ?_
        · refine eqC_btsM ?_
          (repeat first | exact trivial | refine ⟨rfl, ?_⟩ | refine ⟨fun _ _ => ⟨rfl, trivial⟩, ?_⟩ | refine ⟨fun _ _ => trivial, ?_⟩ | refine ⟨by omega, ?_⟩ | refine ⟨fun _ _ => eqC_winS, ?_⟩ | refine ⟨fun _ _ => eqC_winM, ?_⟩ | refine ⟨fun _ _ => eqC_winB, ?_⟩ | refine ⟨fun _ _ => eqC_selfB, ?_⟩ | refine ⟨fun _ _ => eqC_mpB, ?_⟩)
        rintro x hs' ⟨rfl, rfl⟩
        have hft := hr5.fit
        have hAs : A.l.length = s.l.length := by rw [hAl]
        have hnl := countM_le hx4
        (repeat first | refine And.intro (by omega) ?_ | refine And.intro (by decide) ?_ | (with_reducible refine frc_parts (by first | omega | decide) ?_) | (with_reducible refine frc_bytesL (by first | omega | decide) ?_) | refine And.intro rfl ?_)
        refine ⟨.tup [.agg (psC 1 2 3 0#8 t f (k) (s.l.length - l5.length) (s.l.length - l5.length + n)), .c (.int .i64 0)], [[.row s.N (winF s.o s.l.length (L s.l))], svB t, svB f, svB (k)], ⟨[0, 7, 8, 9], ⟨rfl, rfl, rfl⟩, ?_⟩, t, f, k, ht, hf, hk, rfl, rfl, rfl, rfl, rfl⟩
        (repeat first | exact trivial | refine ⟨rfl, ?_⟩ | refine ⟨fun _ _ => ⟨rfl, trivial⟩, ?_⟩ | refine ⟨fun _ _ => trivial, ?_⟩ | refine ⟨by omega, ?_⟩ | refine ⟨fun _ _ => eqC_winS, ?_⟩ | refine ⟨fun _ _ => eqC_winM, ?_⟩ | refine ⟨fun _ _ => eqC_winB, ?_⟩ | refine ⟨fun _ _ => eqC_selfB, ?_⟩ | refine ⟨fun _ _ => eqC_mpB, ?_⟩)
        refine eqC_btsM ?_
        (repeat first | exact trivial | refine ⟨rfl, ?_⟩ | refine ⟨fun _ _ => ⟨rfl, trivial⟩, ?_⟩ | refine ⟨fun _ _ => trivial, ?_⟩ | refine ⟨by omega, ?_⟩ | refine ⟨fun _ _ => eqC_winS, ?_⟩ | refine ⟨fun _ _ => eqC_winM, ?_⟩ | refine ⟨fun _ _ => eqC_winB, ?_⟩ | refine ⟨fun _ _ => eqC_selfB, ?_⟩ | refine ⟨fun _ _ => eqC_mpB, ?_⟩)
        refine eqC_btsM ?_
        (repeat first | exact trivial | refine ⟨rfl, ?_⟩ | refine ⟨fun _ _ => ⟨rfl, trivial⟩, ?_⟩ | refine ⟨fun _ _ => trivial, ?_⟩ | refine ⟨by omega, ?_⟩ | refine ⟨fun _ _ => eqC_winS, ?_⟩ | refine ⟨fun _ _ => eqC_winM, ?_⟩ | refine ⟨fun _ _ => eqC_winB, ?_⟩ | refine ⟨fun _ _ => eqC_selfB, ?_⟩ | refine ⟨fun _ _ => eqC_mpB, ?_⟩)
        refine eqC_btsM ?_
        (repeat first | exact trivial | refine ⟨rfl, ?_⟩ | refine ⟨fun _ _ => ⟨rfl, trivial⟩, ?_⟩ | refine ⟨fun _ _ => trivial, ?_⟩ | refine ⟨by omega, ?_⟩ | refine ⟨fun _ _ => eqC_winS, ?_⟩ | refine ⟨fun _ _ => eqC_winM, ?_⟩ | refine ⟨fun _ _ => eqC_winB, ?_⟩ | refine ⟨fun _ _ => eqC_selfB, ?_⟩ | refine ⟨fun _ _ => eqC_mpB, ?_⟩)
      have q4 : decide ((l4.length : Int) < (n : Int)) = false := decide_eq_false (by omega)
      (repeat first | refine And.intro (by omega) ?_ | refine And.intro (by decide) ?_ | refine And.intro rfl ?_ | refine And.intro (fun _ => ?_) (fun h => Bool.noConfusion h) | refine And.intro (fun h => Bool.noConfusion h) (fun _ => ?_) | refine And.intro (fun _ => ?_) (fun h => absurd h (by rw [q4]; decide)) | refine And.intro (fun h => absurd h (by rw [q4]; decide)) (fun _ => ?_))
      obtain ⟨r5, l5, e5', hr5, hx5⟩ : ∃ r5 l5 e5', RdI A r5 l5 e5' ∧ (r5, l5, e5') = (r4, l4, e4') := ⟨r4, l4, e4', hr4, rfl⟩
      simp only [Prod.mk.injEq] at hx5
      obtain ⟨rfl, rfl, rfl⟩ := hx5
      refine call_same (fn_rerr A r5 hr5) [5, 4] rfl (by (repeat first | exact trivial | refine ⟨rfl, ?_⟩ | refine ⟨fun _ _ => ⟨rfl, trivial⟩, ?_⟩ | refine ⟨fun _ _ => trivial, ?_⟩ | refine ⟨by omega, ?_⟩ | refine ⟨fun _ _ => eqC_winS, ?_⟩ | refine ⟨fun _ _ => eqC_winM, ?_⟩ | refine ⟨fun _ _ => eqC_winB, ?_⟩ | refine ⟨fun _ _ => eqC_selfB, ?_⟩ | refine ⟨fun _ _ => eqC_mpB, ?_⟩)) ?_ (fun _ _ => trivial) ?_
      · refine eqC_btsM ?_
        (repeat first | exact trivial | refine ⟨rfl, ?_⟩ | refine ⟨fun _ _ => ⟨rfl, trivial⟩, ?_⟩ | refine ⟨fun _ _ => trivial, ?_⟩ | refine ⟨by omega, ?_⟩ | refine ⟨fun _ _ => eqC_winS, ?_⟩ | refine ⟨fun _ _ => eqC_winM, ?_⟩ | refine ⟨fun _ _ => eqC_winB, ?_⟩ | refine ⟨fun _ _ => eqC_selfB, ?_⟩ | refine ⟨fun _ _ => eqC_mpB, ?_⟩)
      rintro x hs' ⟨rfl, rfl⟩
      have hLen : lenM l3 e3' = (n, l5, e5') := by
        unfold lenM
        rw [hx4]
        show (match (if l5.length < n then failM l5 e5' 3 else (l5, e5')) with | (l2, e2) => (n, l2, e2)) = _
        rw [if_neg hn]
      have hPa : partsM 0#8 l0 e0' = ((t.l, f.l, (k).l, n), l5, e5') := by
        unfold partsM
        rw [hx1]
        show (match idM l1 e1' with | (f, l2, e2) => match (if 0#8 = 0#8 then longM l2 e2 64 else ([], l2, e2)) with | (k, l3, e3) => match lenM l3 e3 with | (n, l4, e4) => ((t.l, f, k, n), l4, e4)) = _
        rw [hx2]
        show (match longM l2 e2' 64 with | (k, l3, e3) => match lenM l3 e3 with | (n, l4, e4) => ((t.l, f.l, k, n), l4, e4)) = _
        rw [hx3]
        show (match lenM l3 e3' with | (n, l4, e4) => ((t.l, f.l, k.l, n), l4, e4)) = _
        rw [hLen]
      have hM : longP s.l = if e5' ≠ 0 then .no e5' else .ok 0#8 t.l f.l (k).l (s.l.length - l5.length) (s.l.length - l5.length + n) := by
        unfold longP
        rw [if_neg (fun e => by first | exact e.1 k0 | exact e.2 k1), if_neg (fun e => e.2 h6), x0', if_pos k0]
        show (match partsM 0#8 l0 e0' with | ((t, f, k, n), l', e') => if e' ≠ 0 then PM.no e' else .ok 0#8 t f k (s.l.length - l'.length) (s.l.length - l'.length + n)) = _
        rw [hPa]
      by_cases h5 : e5' = 0
      rotate_left
      · have q5 : decide (e5' ≠ 0) = true := decide_eq_true h5
        rw [hM, if_pos h5]
        (repeat first | refine And.intro (by omega) ?_ | refine And.intro (by decide) ?_ | refine And.intro rfl ?_ | refine And.intro (fun _ => ?_) (fun h => Bool.noConfusion h) | refine And.intro (fun h => Bool.noConfusion h) (fun _ => ?_) | refine And.intro (fun _ => ?_) (fun h => absurd h (by rw [q5]; decide)) | refine And.intro (fun h => absurd h (by rw [q5]; decide)) (fun _ => ?_))
        refine ⟨.tup [.agg ps0, .c (.int .i64 e5')], _, ⟨[0], ⟨rfl, rfl, rfl⟩, ?_⟩, rfl, rfl⟩
        (repeat first | exact trivial | refine ⟨rfl, ?_⟩ | refine ⟨fun _ _ => ⟨rfl, trivial⟩, ?_⟩ | refine ⟨fun _ _ => trivial, ?_⟩ | refine ⟨by omega, ?_⟩ | refine ⟨fun _ _ => eqC_winS, ?_⟩ | refine ⟨fun _ _ => eqC_winM, ?_⟩ | refine ⟨fun _ _ => eqC_winB, ?_⟩ | refine ⟨fun _ _ => eqC_selfB, ?_⟩ | refine ⟨fun _ _ => eqC_mpB, ?_⟩)
      have q5 : decide (e5' ≠ 0) = false := decide_eq_false (by omega)
      rw [hM, if_neg (show ¬ e5' ≠ 0 from fun e => e h5)]
      (repeat first | refine And.intro (by omega) ?_ | refine And.intro (by decide) ?_ | refine And.intro rfl ?_ | refine And.intro (fun _ => ?_) (fun h => Bool.noConfusion h) | refine And.intro (fun h => Bool.noConfusion h) (fun _ => ?_) | refine And.intro (fun _ => ?_) (fun h => absurd h (by rw [q5]; decide)) | refine And.intro (fun h => absurd h (by rw [q5]; decide)) (fun _ => ?_))
      refine call_same (fn_rleft A r5 hr5) [5, 4] rfl (by (repeat first | exact trivial | refine ⟨rfl, ?_⟩ | refine ⟨fun _ _ => ⟨rfl, trivial⟩, ?_⟩ | refine ⟨fun _ _ => trivial, ?_⟩ | refine ⟨by omega, ?_⟩ | refine ⟨fun _ _ => eqC_winS, ?_⟩ | refine ⟨fun _ _ => eqC_winM, ?_⟩ | refine ⟨fun _ _ => eqC_winB, ?_⟩ | refine ⟨fun _ _ => eqC_selfB, ?_⟩ | refine ⟨fun _ _ => eqC_mpB, ?_⟩)) ?_ (fun _ _ => trivial) ?_
      · refine eqC_btsM ?_
        (repeat first | exact trivial | refine ⟨rfl, ?_⟩ | refine ⟨fun _ _ => ⟨rfl, trivial⟩, ?_⟩ | refine ⟨fun _ _ => trivial, ?_⟩ | refine ⟨by omega, ?_⟩ | refine ⟨fun _ _ => eqC_winS, ?_⟩ | refine ⟨fun _ _ => eqC_winM, ?_⟩ | refine ⟨fun _ _ => eqC_winB, ?_⟩ | refine ⟨fun _ _ => eqC_selfB, ?_⟩ | refine ⟨fun _ _ => eqC_mpB, ?_⟩)
      rintro x hs' ⟨rfl, rfl⟩
      have hft := hr5.fit
      have hAs : A.l.length = s.l.length := by rw [hAl]
      have hnl := countM_le hx4
      (repeat first | refine And.intro (by omega) ?_ | refine And.intro (by decide) ?_ | (with_reducible refine frc_parts (by first | omega | decide) ?_) | (with_reducible refine frc_bytesL (by first | omega | decide) ?_) | refine And.intro rfl ?_)
      refine ⟨.tup [.agg (psC 1 2 3 0#8 t f (k) (s.l.length - l5.length) (s.l.length - l5.length + n)), .c (.int .i64 0)], [[.row s.N (winF s.o s.l.length (L s.l))], svB t, svB f, svB (k)], ⟨[0, 7, 8, 9], ⟨rfl, rfl, rfl⟩, ?_⟩, t, f, k, ht, hf, hk, rfl, rfl, rfl, rfl, rfl⟩
      (repeat first | exact trivial | refine ⟨rfl, ?_⟩ | refine ⟨fun _ _ => ⟨rfl, trivial⟩, ?_⟩ | refine ⟨fun _ _ => trivial, ?_⟩ | refine ⟨by omega, ?_⟩ | refine ⟨fun _ _ => eqC_winS, ?_⟩ | refine ⟨fun _ _ => eqC_winM, ?_⟩ | refine ⟨fun _ _ => eqC_winB, ?_⟩ | refine ⟨fun _ _ => eqC_selfB, ?_⟩ | refine ⟨fun _ _ => eqC_mpB, ?_⟩)
      refine eqC_btsM ?_
      (repeat first | exact trivial | refine ⟨rfl, ?_⟩ | refine ⟨fun _ _ => ⟨rfl, trivial⟩, ?_⟩ | refine ⟨fun _ _ => trivial, ?_⟩ | refine ⟨by omega, ?_⟩ | refine ⟨fun _ _ => eqC_winS, ?_⟩ | refine ⟨fun _ _ => eqC_winM, ?_⟩ | refine ⟨fun _ _ => eqC_winB, ?_⟩ | refine ⟨fun _ _ => eqC_selfB, ?_⟩ | refine ⟨fun _ _ => eqC_mpB, ?_⟩)
      refine eqC_btsM ?_
      (repeat first | exact trivial | refine ⟨rfl, ?_⟩ | refine ⟨fun _ _ => ⟨rfl, trivial⟩, ?_⟩ | refine ⟨fun _ _ => trivial, ?_⟩ | refine ⟨by omega, ?_⟩ | refine ⟨fun _ _ => eqC_winS, ?_⟩ | refine ⟨fun _ _ => eqC_winM, ?_⟩ | refine ⟨fun _ _ => eqC_winB, ?_⟩ | refine ⟨fun _ _ => eqC_selfB, ?_⟩ | refine ⟨fun _ _ => eqC_mpB, ?_⟩)
      refine eqC_btsM ?_
      (repeat first | exact trivial | refine ⟨rfl, ?_⟩ | refine ⟨fun _ _ => ⟨rfl, trivial⟩, ?_⟩ | refine ⟨fun _ _ => trivial, ?_⟩ | refine ⟨by omega, ?_⟩ | refine ⟨fun _ _ => eqC_winS, ?_⟩ | refine ⟨fun _ _ => eqC_winM, ?_⟩ | refine ⟨fun _ _ => eqC_winB, ?_⟩ | refine ⟨fun _ _ => eqC_selfB, ?_⟩ | refine ⟨fun _ _ => eqC_mpB, ?_⟩)
    have e5 : decide ((5 : Int) ≤ (s.l.length : Int)) = false := decide_eq_false (by omega)
    (repeat first | refine And.intro (by omega) ?_ | refine And.intro (by decide) ?_ | refine And.intro rfl ?_ | refine And.intro (fun _ => ?_) (fun h => Bool.noConfusion h) | refine And.intro (fun h => Bool.noConfusion h) (fun _ => ?_) | refine And.intro (fun _ => ?_) (fun h => absurd h (by rw [e0]; decide)) | refine And.intro (fun h => absurd h (by rw [e0]; decide)) (fun _ => ?_) | refine And.intro (fun _ => ?_) (fun h => absurd h (by rw [e5]; decide)) | refine And.intro (fun h => absurd h (by rw [e5]; decide)) (fun _ => ?_))
    refine call_same (fn_vread s hs) [0] rfl (by (repeat first | exact trivial | refine ⟨rfl, ?_⟩ | refine ⟨fun _ _ => ⟨rfl, trivial⟩, ?_⟩ | refine ⟨fun _ _ => trivial, ?_⟩ | refine ⟨by omega, ?_⟩ | refine ⟨fun _ _ => eqC_winS, ?_⟩ | refine ⟨fun _ _ => eqC_winM, ?_⟩ | refine ⟨fun _ _ => eqC_winB, ?_⟩ | refine ⟨fun _ _ => eqC_selfB, ?_⟩ | refine ⟨fun _ _ => eqC_mpB, ?_⟩)) ?_ (fun _ _ => trivial) ?_
    · rw [svB_row hz]
      (repeat first | exact trivial | refine ⟨rfl, ?_⟩ | refine ⟨fun _ _ => ⟨rfl, trivial⟩, ?_⟩ | refine ⟨fun _ _ => trivial, ?_⟩ | refine ⟨by omega, ?_⟩ | refine ⟨fun _ _ => eqC_winS, ?_⟩ | refine ⟨fun _ _ => eqC_winM, ?_⟩ | refine ⟨fun _ _ => eqC_winB, ?_⟩ | refine ⟨fun _ _ => eqC_selfB, ?_⟩ | refine ⟨fun _ _ => eqC_mpB, ?_⟩)
    rintro x hs' ⟨A, r, hAl, hr, rfl, rfl⟩
    (repeat first | refine And.intro (by omega) ?_ | refine And.intro (by decide) ?_ | refine And.intro rfl ?_ | refine And.intro (fun _ => ?_) (fun h => Bool.noConfusion h) | refine And.intro (fun h => Bool.noConfusion h) (fun _ => ?_))
    refine call_same (fn_rbytes A r 5 hr) [4, 3] rfl (by (repeat first | exact trivial | refine ⟨rfl, ?_⟩ | refine ⟨fun _ _ => ⟨rfl, trivial⟩, ?_⟩ | refine ⟨fun _ _ => trivial, ?_⟩ | refine ⟨by omega, ?_⟩ | refine ⟨fun _ _ => eqC_winS, ?_⟩ | refine ⟨fun _ _ => eqC_winM, ?_⟩ | refine ⟨fun _ _ => eqC_winB, ?_⟩ | refine ⟨fun _ _ => eqC_selfB, ?_⟩ | refine ⟨fun _ _ => eqC_mpB, ?_⟩)) ?_ (fun _ _ => trivial) ?_
    · refine eqC_btsM ?_
      (repeat first | exact trivial | refine ⟨rfl, ?_⟩ | refine ⟨fun _ _ => ⟨rfl, trivial⟩, ?_⟩ | refine ⟨fun _ _ => trivial, ?_⟩ | refine ⟨by omega, ?_⟩ | refine ⟨fun _ _ => eqC_winS, ?_⟩ | refine ⟨fun _ _ => eqC_winM, ?_⟩ | refine ⟨fun _ _ => eqC_winB, ?_⟩ | refine ⟨fun _ _ => eqC_selfB, ?_⟩ | refine ⟨fun _ _ => eqC_mpB, ?_⟩)
    rintro x hs' ⟨t0, r0', l0, e0', x0', hr0', ht0, rfl, rfl⟩
    (repeat first | refine And.intro (by omega) ?_ | refine And.intro (by decide) ?_ | refine And.intro rfl ?_ | refine And.intro (fun _ => ?_) (fun h => Bool.noConfusion h) | refine And.intro (fun h => Bool.noConfusion h) (fun _ => ?_))
    refine call_same (fn_takeId A r0' hr0') [4, 3] rfl (by (repeat first | exact trivial | refine ⟨rfl, ?_⟩ | refine ⟨fun _ _ => ⟨rfl, trivial⟩, ?_⟩ | refine ⟨fun _ _ => trivial, ?_⟩ | refine ⟨by omega, ?_⟩ | refine ⟨fun _ _ => eqC_winS, ?_⟩ | refine ⟨fun _ _ => eqC_winM, ?_⟩ | refine ⟨fun _ _ => eqC_winB, ?_⟩ | refine ⟨fun _ _ => eqC_selfB, ?_⟩ | refine ⟨fun _ _ => eqC_mpB, ?_⟩)) ?_ (fun _ _ => trivial) ?_
    · refine eqC_btsM ?_
      (repeat first | exact trivial | refine ⟨rfl, ?_⟩ | refine ⟨fun _ _ => ⟨rfl, trivial⟩, ?_⟩ | refine ⟨fun _ _ => trivial, ?_⟩ | refine ⟨by omega, ?_⟩ | refine ⟨fun _ _ => eqC_winS, ?_⟩ | refine ⟨fun _ _ => eqC_winM, ?_⟩ | refine ⟨fun _ _ => eqC_winB, ?_⟩ | refine ⟨fun _ _ => eqC_selfB, ?_⟩ | refine ⟨fun _ _ => eqC_mpB, ?_⟩)
    rintro x hs' ⟨t, r1, l1, e1', hx1, hr1, ht, rfl, rfl⟩
    (repeat first | refine And.intro (by omega) ?_ | refine And.intro (by decide) ?_ | refine And.intro rfl ?_ | refine And.intro (fun _ => ?_) (fun h => Bool.noConfusion h) | refine And.intro (fun h => Bool.noConfusion h) (fun _ => ?_))
    refine call_same (fn_takeId A r1 hr1) [4, 3] rfl (by (repeat first | exact trivial | refine ⟨rfl, ?_⟩ | refine ⟨fun _ _ => ⟨rfl, trivial⟩, ?_⟩ | refine ⟨fun _ _ => trivial, ?_⟩ | refine ⟨by omega, ?_⟩ | refine ⟨fun _ _ => eqC_winS, ?_⟩ | refine ⟨fun _ _ => eqC_winM, ?_⟩ | refine ⟨fun _ _ => eqC_winB, ?_⟩ | refine ⟨fun _ _ => eqC_selfB, ?_⟩ | refine ⟨fun _ _ => eqC_mpB, ?_⟩)) ?_ (fun _ _ => trivial) ?_
    · refine eqC_btsM ?_
      (repeat first | exact trivial | refine ⟨rfl, ?_⟩ | refine ⟨fun _ _ => ⟨rfl, trivial⟩, ?_⟩ | refine ⟨fun _ _ => trivial, ?_⟩ | refine ⟨by omega, ?_⟩ | refine ⟨fun _ _ => eqC_winS, ?_⟩ | refine ⟨fun _ _ => eqC_winM, ?_⟩ | refine ⟨fun _ _ => eqC_winB, ?_⟩ | refine ⟨fun _ _ => eqC_selfB, ?_⟩ | refine ⟨fun _ _ => eqC_mpB, ?_⟩)
    rintro x hs' ⟨f, r2, l2, e2', hx2, hr2, hf, rfl, rfl⟩
    (repeat first | refine And.intro (by omega) ?_ | refine And.intro (by decide) ?_ | refine And.intro rfl ?_ | refine And.intro (fun _ => ?_) (fun h => Bool.noConfusion h) | refine And.intro (fun h => Bool.noConfusion h) (fun _ => ?_))
    refine call_same (fn_rlong A r2 64 hr2 (by decide)) [4, 3] rfl (by (repeat first | exact trivial | refine ⟨rfl, ?_⟩ | refine ⟨fun _ _ => ⟨rfl, trivial⟩, ?_⟩ | refine ⟨fun _ _ => trivial, ?_⟩ | refine ⟨by omega, ?_⟩ | refine ⟨fun _ _ => eqC_winS, ?_⟩ | refine ⟨fun _ _ => eqC_winM, ?_⟩ | refine ⟨fun _ _ => eqC_winB, ?_⟩ | refine ⟨fun _ _ => eqC_selfB, ?_⟩ | refine ⟨fun _ _ => eqC_mpB, ?_⟩)) ?_ (fun _ _ => trivial) ?_
    · refine eqC_btsM ?_
      (repeat first | exact trivial | refine ⟨rfl, ?_⟩ | refine ⟨fun _ _ => ⟨rfl, trivial⟩, ?_⟩ | refine ⟨fun _ _ => trivial, ?_⟩ | refine ⟨by omega, ?_⟩ | refine ⟨fun _ _ => eqC_winS, ?_⟩ | refine ⟨fun _ _ => eqC_winM, ?_⟩ | refine ⟨fun _ _ => eqC_winB, ?_⟩ | refine ⟨fun _ _ => eqC_selfB, ?_⟩ | refine ⟨fun _ _ => eqC_mpB, ?_⟩)
    rintro x hs' ⟨k, r3, l3, e3', hx3, hr3, hk, rfl, rfl⟩
    (repeat first | refine And.intro (by omega) ?_ | refine And.intro (by decide) ?_ | refine And.intro rfl ?_ | refine And.intro (fun _ => ?_) (fun h => Bool.noConfusion h) | refine And.intro (fun h => Bool.noConfusion h) (fun _ => ?_))
    refine call_same (fn_rcount A r3 1204 hr3 (by decide)) [4, 3] rfl (by (repeat first | exact trivial | refine ⟨rfl, ?_⟩ | refine ⟨fun _ _ => ⟨rfl, trivial⟩, ?_⟩ | refine ⟨fun _ _ => trivial, ?_⟩ | refine ⟨by omega, ?_⟩ | refine ⟨fun _ _ => eqC_winS, ?_⟩ | refine ⟨fun _ _ => eqC_winM, ?_⟩ | refine ⟨fun _ _ => eqC_winB, ?_⟩ | refine ⟨fun _ _ => eqC_selfB, ?_⟩ | refine ⟨fun _ _ => eqC_mpB, ?_⟩)) ?_ (fun _ _ => trivial) ?_
    · refine eqC_btsM ?_
      (repeat first | exact trivial | refine ⟨rfl, ?_⟩ | refine ⟨fun _ _ => ⟨rfl, trivial⟩, ?_⟩ | refine ⟨fun _ _ => trivial, ?_⟩ | refine ⟨by omega, ?_⟩ | refine ⟨fun _ _ => eqC_winS, ?_⟩ | refine ⟨fun _ _ => eqC_winM, ?_⟩ | refine ⟨fun _ _ => eqC_winB, ?_⟩ | refine ⟨fun _ _ => eqC_selfB, ?_⟩ | refine ⟨fun _ _ => eqC_mpB, ?_⟩)
    rintro x hs' ⟨n, r4, l4, e4', hx4, hr4, rfl, rfl⟩
    (repeat first | refine And.intro (by omega) ?_ | refine And.intro (by decide) ?_ | refine And.intro rfl ?_ | refine And.intro (fun _ => ?_) (fun h => Bool.noConfusion h) | refine And.intro (fun h => Bool.noConfusion h) (fun _ => ?_))
    refine call_same (fn_rleft A r4 hr4) [4, 3] rfl (by (repeat first | exact trivial | refine ⟨rfl, ?_⟩ | refine ⟨fun _ _ => ⟨rfl, trivial⟩, ?_⟩ | refine ⟨fun _ _ => trivial, ?_⟩ | refine ⟨by omega, ?_⟩ | refine ⟨fun _ _ => eqC_winS, ?_⟩ | refine ⟨fun _ _ => eqC_winM, ?_⟩ | refine ⟨fun _ _ => eqC_winB, ?_⟩ | refine ⟨fun _ _ => eqC_selfB, ?_⟩ | refine ⟨fun _ _ => eqC_mpB, ?_⟩)) ?_ (fun _ _ => trivial) ?_
    · refine eqC_btsM ?_
      (repeat first | exact trivial | refine ⟨rfl, ?_⟩ | refine ⟨fun _ _ => ⟨rfl, trivial⟩, ?_⟩ | refine ⟨fun _ _ => trivial, ?_⟩ | refine ⟨by omega, ?_⟩ | refine ⟨fun _ _ => eqC_winS, ?_⟩ | refine ⟨fun _ _ => eqC_winM, ?_⟩ | refine ⟨fun _ _ => eqC_winB, ?_⟩ | refine ⟨fun _ _ => eqC_selfB, ?_⟩ | refine ⟨fun _ _ => eqC_mpB, ?_⟩)
    rintro x hs' ⟨rfl, rfl⟩
    by_cases hn : l4.length < n
    · have q4 : decide ((l4.length : Int) < (n : Int)) = true := decide_eq_true (by omega)
      (repeat first | refine And.intro (by omega) ?_ | refine And.intro (by decide) ?_ | refine And.intro rfl ?_ | refine And.intro (fun _ => ?_) (fun h => Bool.noConfusion h) | refine And.intro (fun h => Bool.noConfusion h) (fun _ => ?_) | refine And.intro (fun _ => ?_) (fun h => absurd h (by rw [q4]; decide)) | refine And.intro (fun h => absurd h (by rw [q4]; decide)) (fun _ => ?_))
      refine call_same (fn_rfail A r4 3 hr4) [4, 3] rfl (by (repeat first | exact trivial | refine ⟨rfl, ?_⟩ | refine ⟨fun _ _ => ⟨rfl, trivial⟩, ?_⟩ | refine ⟨fun _ _ => trivial, ?_⟩ | refine ⟨by omega, ?_⟩ | refine ⟨fun _ _ => eqC_winS, ?_⟩ | refine ⟨fun _ _ => eqC_winM, ?_⟩ | refine ⟨fun _ _ => eqC_winB, ?_⟩ | refine ⟨fun _ _ => eqC_selfB, ?_⟩ | refine ⟨fun _ _ => eqC_mpB, ?_⟩)) ?_ (fun _ _ => trivial) ?_
      · refine eqC_btsM ?_
        (repeat first | exact trivial | refine ⟨rfl, ?_⟩ | refine ⟨fun _ _ => ⟨rfl, trivial⟩, ?_⟩ | refine ⟨fun _ _ => trivial, ?_⟩ | refine ⟨by omega, ?_⟩ | refine ⟨fun _ _ => eqC_winS, ?_⟩ | refine ⟨fun _ _ => eqC_winM, ?_⟩ | refine ⟨fun _ _ => eqC_winB, ?_⟩ | refine ⟨fun _ _ => eqC_selfB, ?_⟩ | refine ⟨fun _ _ => eqC_mpB, ?_⟩)
      rintro x hs' ⟨r5, l5, e5', hx5, hr5, rfl, rfl⟩
      (repeat first | refine And.intro (by omega) ?_ | refine And.intro (by decide) ?_ | (with_reducible refine frc_parts (by first | omega | decide) ?_) | (with_reducible refine frc_bytesL (by first | omega | decide) ?_) | refine And.intro rfl ?_)
      refine call_same (fn_rerr A r5 hr5) [4, 3] rfl (by (repeat first | exact trivial | refine ⟨rfl, ?_⟩ | refine ⟨fun _ _ => ⟨rfl, trivial⟩, ?_⟩ | refine ⟨fun _ _ => trivial, ?_⟩ | refine ⟨by omega, ?_⟩ | refine ⟨fun _ _ => eqC_winS, ?_⟩ | refine ⟨fun _ _ => eqC_winM, ?_⟩ | refine ⟨fun _ _ => eqC_winB, ?_⟩ | refine ⟨fun _ _ => eqC_selfB, ?_⟩ | refine ⟨fun _ _ => eqC_mpB, ?_⟩)) ?_ (fun _ _ => trivial) ?_
      · refine eqC_btsM ?_
        (repeat first | exact trivial | refine ⟨rfl, ?_⟩ | refine ⟨fun _ _ => ⟨rfl, trivial⟩, ?_⟩ | refine ⟨fun _ _ => trivial, ?_⟩ | refine ⟨by omega, ?_⟩ | refine ⟨fun _ _ => eqC_winS, ?_⟩ | refine ⟨fun _ _ => eqC_winM, ?_⟩ | refine ⟨fun _ _ => eqC_winB, ?_⟩ | refine ⟨fun _ _ => eqC_selfB, ?_⟩ | refine ⟨fun _ _ => eqC_mpB, ?_⟩)
      rintro x hs' ⟨rfl, rfl⟩
      have hLen : lenM l3 e3' = (n, l5, e5') := by
        unfold lenM
        rw [hx4]
        show (match (if l4.length < n then failM l4 e4' 3 else (l4, e4')) with | (l2, e2) => (n, l2, e2)) = _
        rw [if_pos hn, hx5]
      have hPa : partsM 0#8 l0 e0' = ((t.l, f.l, (k).l, n), l5, e5') := by
        unfold partsM
        rw [hx1]
        show (match idM l1 e1' with | (f, l2, e2) => match (if 0#8 = 0#8 then longM l2 e2 64 else ([], l2, e2)) with | (k, l3, e3) => match lenM l3 e3 with | (n, l4, e4) => ((t.l, f, k, n), l4, e4)) = _
        rw [hx2]
        show (match longM l2 e2' 64 with | (k, l3, e3) => match lenM l3 e3 with | (n, l4, e4) => ((t.l, f.l, k, n), l4, e4)) = _
        rw [hx3]
        show (match lenM l3 e3' with | (n, l4, e4) => ((t.l, f.l, k.l, n), l4, e4)) = _
        rw [hLen]
      have hM : longP s.l = if e5' ≠ 0 then .no e5' else .ok 0#8 t.l f.l (k).l (s.l.length - l5.length) (s.l.length - l5.length + n) := by
        unfold longP
        rw [if_neg (fun e => by first | exact e.1 k0 | exact e.2 k1), if_neg (fun e => h5 e.1), x0', if_pos k0]
        show (match partsM 0#8 l0 e0' with | ((t, f, k, n), l', e') => if e' ≠ 0 then PM.no e' else .ok 0#8 t f k (s.l.length - l'.length) (s.l.length - l'.length + n)) = _
        rw [hPa]
      by_cases h5 : e5' = 0
      rotate_left
      · have q5 : decide (e5' ≠ 0) = true := decide_eq_true h5
        rw [hM, if_pos h5]
        (repeat first | refine And.intro (by omega) ?_ | refine And.intro (by decide) ?_ | refine And.intro rfl ?_ | refine And.intro (fun _ => ?_) (fun h => Bool.noConfusion h) | refine And.intro (fun h => Bool.noConfusion h) (fun _ => ?_) | refine And.intro (fun _ => ?_) (fun h => absurd h (by rw [q5]; decide)) | refine And.intro (fun h => absurd h (by rw [q5]; decide)) (fun _ => ?_))
        refine ⟨.tup [.agg ps0, .c (.int .i64 e5')], _, ⟨[0], ⟨rfl, rfl, rfl⟩, ?_⟩, rfl, rfl⟩
        (repeat first | exact trivial | refine ⟨rfl, ?_⟩ | refine ⟨fun _ _ => ⟨rfl, trivial⟩, ?_⟩ | refine ⟨fun _ _ => trivial, ?_⟩ | refine ⟨by omega, ?_⟩ | refine ⟨fun _ _ => eqC_winS, ?_⟩ | refine ⟨fun _ _ => eqC_winM, ?_⟩ | refine ⟨fun _ _ => eqC_winB, ?_⟩ | refine ⟨fun _ _ => eqC_selfB, ?_⟩ | refine ⟨fun _ _ => eqC_mpB, ?_⟩)
      have q5 : decide (e5' ≠ 0) = false := decide_eq_false (by omega)
      rw [hM, if_neg (show ¬ e5' ≠ 0 from fun e => e h5)]
      (repeat first | refine And.intro (by omega) ?_ | refine And.intro (by decide) ?_ | refine And.intro rfl ?_ | refine And.intro (fun _ => ?_) (fun h => Bool.noConfusion h) | refine And.intro (fun h => Bool.noConfusion h) (fun _ => ?_) | refine And.intro (fun _ => ?_) (fun h => absurd h (by rw [q5]; decide)) | refine And.intro (fun h => absurd h (by rw [q5]; decide)) (fun _ => ?_))
      refine call_same (fn_rleft A r5 hr5) [4, 3] rfl (by (repeat first | exact trivial | refine ⟨rfl, ?_⟩ | refine ⟨fun _ _ => ⟨rfl, trivial⟩, ?_⟩ | refine ⟨fun _ _ => trivial, ?_⟩ | refine ⟨by omega, ?_⟩ | refine ⟨fun _ _ => eqC_winS, ?_⟩ | refine ⟨fun _ _ => eqC_winM, ?_⟩ | refine ⟨fun _ _ => eqC_winB, ?_⟩ | refine ⟨fun _ _ => eqC_selfB, ?_⟩ | refine ⟨fun _ _ => eqC_mpB, ?_⟩)) ?_ (fun _ _ => trivial) ?_
      · refine eqC_btsM ?_
        (repeat first | exact trivial | refine ⟨rfl, ?_⟩ | refine ⟨fun _ _ => ⟨rfl, trivial⟩, ?_⟩ | refine ⟨fun _ _ => trivial, ?_⟩ | refine ⟨by omega, ?_⟩ | refine ⟨fun _ _ => eqC_winS, ?_⟩ | refine ⟨fun _ _ => eqC_winM, ?_⟩ | refine ⟨fun _ _ => eqC_winB, ?_⟩ | refine ⟨fun _ _ => eqC_selfB, ?_⟩ | refine ⟨fun _ _ => eqC_mpB, ?_⟩)
      rintro x hs' ⟨rfl, rfl⟩
      have hft := hr5.fit
      have hAs : A.l.length = s.l.length := by rw [hAl]
      have hnl := countM_le hx4
      (repeat first | refine And.intro (by omega) ?_ | refine And.intro (by decide) ?_ | (with_reducible refine frc_parts (by first | omega | decide) ?_) | (with_reducible refine frc_bytesL (by first | omega | decide) ?_) | refine And.intro rfl ?_)
      refine ⟨.tup [.agg (psC 1 2 3 0#8 t f (k) (s.l.length - l5.length) (s.l.length - l5.length + n)), .c (.int .i64 0)], [[.row s.N (winF s.o s.l.length (L s.l))], svB t, svB f, svB (k)], ⟨[0, 6, 7, 8], ⟨rfl, rfl, rfl⟩, ?_⟩, t, f, k, ht, hf, hk, rfl, rfl, rfl, rfl, rfl⟩
      (repeat first | exact trivial | refine ⟨rfl, ?_⟩ | refine ⟨fun _ _ => ⟨rfl, trivial⟩, ?_⟩ | refine ⟨fun _ _ => trivial, ?_⟩ | refine ⟨by omega, ?_⟩ | refine ⟨fun _ _ => eqC_winS, ?_⟩ | refine ⟨fun _ _ => eqC_winM, ?_⟩ | refine ⟨fun _ _ => eqC_winB, ?_⟩ | refine ⟨fun _ _ => eqC_selfB, ?_⟩ | refine ⟨fun _ _ => eqC_mpB, ?_⟩)
      refine eqC_btsM ?_
      (repeat first | exact trivial | refine ⟨rfl, ?_⟩ | refine ⟨fun _ _ => ⟨rfl, trivial⟩, ?_⟩ | refine ⟨fun _ _ => trivial, ?_⟩ | refine ⟨by omega, ?_⟩ | refine ⟨fun _ _ => eqC_winS, ?_⟩ | refine ⟨fun _ _ => eqC_winM, ?_⟩ | refine ⟨fun _ _ => eqC_winB, ?_⟩ | refine ⟨fun _ _ => eqC_selfB, ?_⟩ | refine ⟨fun _ _ => eqC_mpB, ?_⟩)
      refine eqC_btsM ?_
      (repeat first | exact trivial | refine ⟨rfl, ?_⟩ | refine ⟨fun _ _ => ⟨rfl, trivial⟩, ?_⟩ | refine ⟨fun _ _ => trivial, ?_⟩ | refine ⟨by omega, ?_⟩ | refine ⟨fun _ _ => eqC_winS, ?_⟩ | refine ⟨fun _ _ => eqC_winM, ?_⟩ | refine ⟨fun _ _ => eqC_winB, ?_⟩ | refine ⟨fun _ _ => eqC_selfB, ?_⟩ | refine ⟨fun _ _ => eqC_mpB, ?_⟩)
      refine eqC_btsM ?_
      (repeat first | exact trivial | refine ⟨rfl, ?_⟩ | refine ⟨fun _ _ => ⟨rfl, trivial⟩, ?_⟩ | refine ⟨fun _ _ => trivial, ?_⟩ | refine ⟨by omega, ?_⟩ | refine ⟨fun _ _ => eqC_winS, ?_⟩ | refine ⟨fun _ _ => eqC_winM, ?_⟩ | refine ⟨fun _ _ => eqC_winB, ?_⟩ | refine ⟨fun _ _ => eqC_selfB, ?_⟩ | refine ⟨fun _ _ => eqC_mpB, ?_⟩)
    have q4 : decide ((l4.length : Int) < (n : Int)) = false := decide_eq_false (by omega)
    (repeat first | refine And.intro (by omega) ?_ | refine And.intro (by decide) ?_ | refine And.intro rfl ?_ | refine And.intro (fun _ => ?_) (fun h => Bool.noConfusion h) | refine And.intro (fun h => Bool.noConfusion h) (fun _ => ?_) | refine And.intro (fun _ => ?_) (fun h => absurd h (by rw [q4]; decide)) | refine And.intro (fun h => absurd h (by rw [q4]; decide)) (fun _ => ?_))
    obtain ⟨r5, l5, e5', hr5, hx5⟩ : ∃ r5 l5 e5', RdI A r5 l5 e5' ∧ (r5, l5, e5') = (r4, l4, e4') := ⟨r4, l4, e4', hr4, rfl⟩
    simp only [Prod.mk.injEq] at hx5
    obtain ⟨rfl, rfl, rfl⟩ := hx5
    refine call_same (fn_rerr A r5 hr5) [4, 3] rfl (by (repeat first | exact trivial | refine ⟨rfl, ?_⟩ | refine ⟨fun _ _ => ⟨rfl, trivial⟩, ?_⟩ | refine ⟨fun _ _ => trivial, ?_⟩ | refine ⟨by omega, ?_⟩ | refine ⟨fun _ _ => eqC_winS, ?_⟩ | refine ⟨fun _ _ => eqC_winM, ?_⟩ | refine ⟨fun _ _ => eqC_winB, ?_⟩ | refine ⟨fun _ _ => eqC_selfB, ?_⟩ | refine ⟨fun _ _ => eqC_mpB, ?_⟩)) ?_ (fun _ _ => trivial) ?_
    · refine eqC_btsM ?_
      (repeat first | exact trivial | refine ⟨rfl, ?_⟩ | refine ⟨fun _ _ => ⟨rfl, trivial⟩, ?_⟩ | refine ⟨fun _ _ => trivial, ?_⟩ | refine ⟨by omega, ?_⟩ | refine ⟨fun _ _ => eqC_winS, ?_⟩ | refine ⟨fun _ _ => eqC_winM, ?_⟩ | refine ⟨fun _ _ => eqC_winB, ?_⟩ | refine ⟨fun _ _ => eqC_selfB, ?_⟩ | refine ⟨fun _ _ => eqC_mpB, ?_⟩)
    rintro x hs' ⟨rfl, rfl⟩
    have hLen : lenM l3 e3' = (n, l5, e5') := by
      unfold lenM
      rw [hx4]
      show (match (if l5.length < n then failM l5 e5' 3 else (l5, e5')) with | (l2, e2) => (n, l2, e2)) = _
      rw [if_neg hn]
    have hPa : partsM 0#8 l0 e0' = ((t.l, f.l, (k).l, n), l5, e5') := by
      unfold partsM
      rw [hx1]
      show (match idM l1 e1' with | (f, l2, e2) => match (if 0#8 = 0#8 then longM l2 e2 64 else ([], l2, e2)) with | (k, l3, e3) => match lenM l3 e3 with | (n, l4, e4) => ((t.l, f, k, n), l4, e4)) = _
      rw [hx2]
      show (match longM l2 e2' 64 with | (k, l3, e3) => match lenM l3 e3 with | (n, l4, e4) => ((t.l, f.l, k, n), l4, e4)) = _
      rw [hx3]
      show (match lenM l3 e3' with | (n, l4, e4) => ((t.l, f.l, k.l, n), l4, e4)) = _
      rw [hLen]
    have hM : longP s.l = if e5' ≠ 0 then .no e5' else .ok 0#8 t.l f.l (k).l (s.l.length - l5.length) (s.l.length - l5.length + n) := by
      unfold longP
      rw [if_neg (fun e => by first | exact e.1 k0 | exact e.2 k1), if_neg (fun e => h5 e.1), x0', if_pos k0]
      show (match partsM 0#8 l0 e0' with | ((t, f, k, n), l', e') => if e' ≠ 0 then PM.no e' else .ok 0#8 t f k (s.l.length - l'.length) (s.l.length - l'.length + n)) = _
      rw [hPa]
    by_cases h5 : e5' = 0
    rotate_left
    · have q5 : decide (e5' ≠ 0) = true := decide_eq_true h5
      rw [hM, if_pos h5]
      (repeat first | refine And.intro (by omega) ?_ | refine And.intro (by decide) ?_ | refine And.intro rfl ?_ | refine And.intro (fun _ => ?_) (fun h => Bool.noConfusion h) | refine And.intro (fun h => Bool.noConfusion h) (fun _ => ?_) | refine And.intro (fun _ => ?_) (fun h => absurd h (by rw [q5]; decide)) | refine And.intro (fun h => absurd h (by rw [q5]; decide)) (fun _ => ?_))
      refine ⟨.tup [.agg ps0, .c (.int .i64 e5')], _, ⟨[0], ⟨rfl, rfl, rfl⟩, ?_⟩, rfl, rfl⟩
      (repeat first | exact trivial | refine ⟨rfl, ?_⟩ | refine ⟨fun _ _ => ⟨rfl, trivial⟩, ?_⟩ | refine ⟨fun _ _ => trivial, ?_⟩ | refine ⟨by omega, ?_⟩ | refine ⟨fun _ _ => eqC_winS, ?_⟩ | refine ⟨fun _ _ => eqC_winM, ?_⟩ | refine ⟨fun _ _ => eqC_winB, ?_⟩ | refine ⟨fun _ _ => eqC_selfB, ?_⟩ | refine ⟨fun _ _ => eqC_mpB, ?_⟩)
    have q5 : decide (e5' ≠ 0) = false := decide_eq_false (by omega)
    rw [hM, if_neg (show ¬ e5' ≠ 0 from fun e => e h5)]
    (repeat first | refine And.intro (by omega) ?_ | refine And.intro (by decide) ?_ | refine And.intro rfl ?_ | refine And.intro (fun _ => ?_) (fun h => Bool.noConfusion h) | refine And.intro (fun h => Bool.noConfusion h) (fun _ => ?_) | refine And.intro (fun _ => ?_) (fun h => absurd h (by rw [q5]; decide)) | refine And.intro (fun h => absurd h (by rw [q5]; decide)) (fun _ => ?_))
    refine call_same (fn_rleft A r5 hr5) [4, 3] rfl (by (repeat first | exact trivial | refine ⟨rfl, ?_⟩ | refine ⟨fun _ _ => ⟨rfl, trivial⟩, ?_⟩ | refine ⟨fun _ _ => trivial, ?_⟩ | refine ⟨by omega, ?_⟩ | refine ⟨fun _ _ => eqC_winS, ?_⟩ | refine ⟨fun _ _ => eqC_winM, ?_⟩ | refine ⟨fun _ _ => eqC_winB, ?_⟩ | refine ⟨fun _ _ => eqC_selfB, ?_⟩ | refine ⟨fun _ _ => eqC_mpB, ?_⟩)) ?_ (fun _ _ => trivial) ?_
    · refine eqC_btsM ?_
      (repeat first | exact trivial | refine ⟨rfl, ?_⟩ | refine ⟨fun _ _ => ⟨rfl, trivial⟩, ?_⟩ | refine ⟨fun _ _ => trivial, ?_⟩ | refine ⟨by omega, ?_⟩ | refine ⟨fun _ _ => eqC_winS, ?_⟩ | refine ⟨fun _ _ => eqC_winM, ?_⟩ | refine ⟨fun _ _ => eqC_winB, ?_⟩ | refine ⟨fun _ _ => eqC_selfB, ?_⟩ | refine ⟨fun _ _ => eqC_mpB, ?_⟩)
    rintro x hs' ⟨rfl, rfl⟩
    have hft := hr5.fit
    have hAs : A.l.length = s.l.length := by rw [hAl]
    have hnl := countM_le hx4
    (repeat first | refine And.intro (by omega) ?_ | refine And.intro (by decide) ?_ | (with_reducible refine frc_parts (by first | omega | decide) ?_) | (with_reducible refine frc_bytesL (by first | omega | decide) ?_) | refine And.intro rfl ?_)
    refine ⟨.tup [.agg (psC 1 2 3 0#8 t f (k) (s.l.length - l5.length) (s.l.length - l5.length + n)), .c (.int .i64 0)], [[.row s.N (winF s.o s.l.length (L s.l))], svB t, svB f, svB (k)], ⟨[0, 6, 7, 8], ⟨rfl, rfl, rfl⟩, ?_⟩, t, f, k, ht, hf, hk, rfl, rfl, rfl, rfl, rfl⟩
    (repeat first | exact trivial | refine ⟨rfl, ?_⟩ | refine ⟨fun _ _ => ⟨rfl, trivial⟩, ?_⟩ | refine ⟨fun _ _ => trivial, ?_⟩ | refine ⟨by omega, ?_⟩ | refine ⟨fun _ _ => eqC_winS, ?_⟩ | refine ⟨fun _ _ => eqC_winM, ?_⟩ | refine ⟨fun _ _ => eqC_winB, ?_⟩ | refine ⟨fun _ _ => eqC_selfB, ?_⟩ | refine ⟨fun _ _ => eqC_mpB, ?_⟩)
    refine eqC_btsM ?_
    (repeat first | exact trivial | refine ⟨rfl, ?_⟩ | refine ⟨fun _ _ => ⟨rfl, trivial⟩, ?_⟩ | refine ⟨fun _ _ => trivial, ?_⟩ | refine ⟨by omega, ?_⟩ | refine ⟨fun _ _ => eqC_winS, ?_⟩ | refine ⟨fun _ _ => eqC_winM, ?_⟩ | refine ⟨fun _ _ => eqC_winB, ?_⟩ | refine ⟨fun _ _ => eqC_selfB, ?_⟩ | refine ⟨fun _ _ => eqC_mpB, ?_⟩)
    refine eqC_btsM ?_
    (repeat first | exact trivial | refine ⟨rfl, ?_⟩ | refine ⟨fun _ _ => ⟨rfl, trivial⟩, ?_⟩ | refine ⟨fun _ _ => trivial, ?_⟩ | refine ⟨by omega, ?_⟩ | refine ⟨fun _ _ => eqC_winS, ?_⟩ | refine ⟨fun _ _ => eqC_winM, ?_⟩ | refine ⟨fun _ _ => eqC_winB, ?_⟩ | refine ⟨fun _ _ => eqC_selfB, ?_⟩ | refine ⟨fun _ _ => eqC_mpB, ?_⟩)
    refine eqC_btsM ?_
    (repeat first | exact trivial | refine ⟨rfl, ?_⟩ | refine ⟨fun _ _ => ⟨rfl, trivial⟩, ?_⟩ | refine ⟨fun _ _ => trivial, ?_⟩ | refine ⟨by omega, ?_⟩ | refine ⟨fun _ _ => eqC_winS, ?_⟩ | refine ⟨fun _ _ => eqC_winM, ?_⟩ | refine ⟨fun _ _ => eqC_winB, ?_⟩ | refine ⟨fun _ _ => eqC_selfB, ?_⟩ | refine ⟨fun _ _ => eqC_mpB, ?_⟩)
  have e0 : decide (L s.l 0 &&& 48#8 = 0#8) = false := decide_eq_false k0
  by_cases k1 : L s.l 0 &&& 48#8 = 32#8
  · have e1 : decide (L s.l 0 &&& 48#8 = 32#8) = true := decide_eq_true k1
    (repeat first | refine And.intro (by omega) ?_ | refine And.intro (by decide) ?_ | refine And.intro rfl ?_ | refine And.intro (fun _ => ?_) (fun h => Bool.noConfusion h) | refine And.intro (fun h => Bool.noConfusion h) (fun _ => ?_) | refine And.intro (fun _ => ?_) (fun h => absurd h (by rw [e0]; decide)) | refine And.intro (fun h => absurd h (by rw [e0]; decide)) (fun _ => ?_) | refine And.intro (fun _ => ?_) (fun h => absurd h (by rw [e1]; decide)) | refine And.intro (fun h => absurd h (by rw [e1]; decide)) (fun _ => ?_))
    by_cases h5 : 5 ≤ s.l.length
    · have e5 : decide ((5 : Int) ≤ (s.l.length : Int)) = true := decide_eq_true (by omega)
      (repeat first | refine And.intro (by omega) ?_ | refine And.intro (by decide) ?_ | refine And.intro rfl ?_ | refine And.intro (fun _ => ?_) (fun h => Bool.noConfusion h) | refine And.intro (fun h => Bool.noConfusion h) (fun _ => ?_) | refine And.intro (fun _ => ?_) (fun h => absurd h (by rw [e0]; decide)) | refine And.intro (fun h => absurd h (by rw [e0]; decide)) (fun _ => ?_) | refine And.intro (fun _ => ?_) (fun h => absurd h (by rw [e1]; decide)) | refine And.intro (fun h => absurd h (by rw [e1]; decide)) (fun _ => ?_) | refine And.intro (fun _ => ?_) (fun h => absurd h (by rw [e5]; decide)) | refine And.intro (fun h => absurd h (by rw [e5]; decide)) (fun _ => ?_))
      have l4 : ((s.l.drop 1).take 4).length = 4 := by rw [List.length_take, List.length_drop]; omega
      refine call_same (fn_equal ⟨s.z, s.N, s.o + 1, s.c - 1, (s.l.drop 1).take 4⟩ ⟨false, 4, 0, 4, [0#8, 0#8, 0#8, 1#8]⟩ ⟨(by rw [l4]; dsimp only; omega), (by rw [l4]; dsimp only; omega), (fun h => by rw [hz] at h; cases h), (by rw [l4]; omega)⟩ ⟨by decide, by decide, fun h => Bool.noConfusion h, by decide⟩) [0, 3] rfl ?_ ?_ (fun _ _ => trivial) ?_
      · refine ⟨rfl, by show (if s.c = 1 then s.o else s.o + 1 * 1) = s.o + 1; rw [if_neg (by omega)], l4.symm, rfl, ?_⟩
        (repeat first | exact trivial | refine ⟨rfl, ?_⟩ | refine ⟨fun _ _ => ⟨rfl, trivial⟩, ?_⟩ | refine ⟨fun _ _ => trivial, ?_⟩ | refine ⟨by omega, ?_⟩ | refine ⟨fun _ _ => eqC_winS, ?_⟩ | refine ⟨fun _ _ => eqC_winM, ?_⟩ | refine ⟨fun _ _ => eqC_winB, ?_⟩ | refine ⟨fun _ _ => eqC_selfB, ?_⟩ | refine ⟨fun _ _ => eqC_mpB, ?_⟩)
      · rw [svB_row (s := ⟨s.z, s.N, s.o + 1, s.c - 1, (s.l.drop 1).take 4⟩) hz]
        refine ⟨rfl, fun j hj => eqC_win (fun i hi => ?_) j, ?_⟩
        · have hi : i < 4 := by rw [← l4]; exact hi
          have := winF_at s.o s.l.length (L s.l) (i := 1 + i) (by omega)
          rw [← Nat.add_assoc] at this
          rw [this, L_sub _ _ _ _ hi]
        refine ⟨rfl, fun j hj => eqC_win0 (fun i hi => ver_row i hi) j, trivial⟩
      rintro x hs' ⟨rfl, rfl⟩
      by_cases h6 : (s.l.drop 1).take 4 = [0#8, 0#8, 0#8, 1#8]
      rotate_left
      · have e6 : (!decide ((s.l.drop 1).take 4 = [0#8, 0#8, 0#8, 1#8])) = true := by rw [decide_eq_false h6]; rfl
        (repeat first | refine And.intro (by omega) ?_ | refine And.intro (by decide) ?_ | refine And.intro rfl ?_ | refine And.intro (fun _ => ?_) (fun h => Bool.noConfusion h) | refine And.intro (fun h => Bool.noConfusion h) (fun _ => ?_) | refine And.intro (fun _ => ?_) (fun h => absurd h (by rw [e5]; decide)) | refine And.intro (fun h => absurd h (by rw [e5]; decide)) (fun _ => ?_) | refine And.intro (fun _ => ?_) (fun h => absurd h (by rw [e6]; decide)) | refine And.intro (fun h => absurd h (by rw [e6]; decide)) (fun _ => ?_))
        have hM : longP s.l = .no 12 := by unfold longP; rw [if_neg (fun e => by first | exact e.1 k0 | exact e.2 k1), if_pos ⟨h5, h6⟩]
        rw [hM]
        refine ⟨.tup [.agg ps0, .c (.int .i64 12)], _, ⟨[0], ⟨rfl, rfl, rfl⟩, ?_⟩, rfl, rfl⟩
        (repeat first | exact trivial | refine ⟨rfl, ?_⟩ | refine ⟨fun _ _ => ⟨rfl, trivial⟩, ?_⟩ | refine ⟨fun _ _ => trivial, ?_⟩ | refine ⟨by omega, ?_⟩ | refine ⟨fun _ _ => eqC_winS, ?_⟩ | refine ⟨fun _ _ => eqC_winM, ?_⟩ | refine ⟨fun _ _ => eqC_winB, ?_⟩ | refine ⟨fun _ _ => eqC_selfB, ?_⟩ | refine ⟨fun _ _ => eqC_mpB, ?_⟩)
      have e6 : (!decide ((s.l.drop 1).take 4 = [0#8, 0#8, 0#8, 1#8])) = false := by rw [decide_eq_true h6]; rfl
      (repeat first | refine And.intro (by omega) ?_ | refine And.intro (by decide) ?_ | refine And.intro rfl ?_ | refine And.intro (fun _ => ?_) (fun h => Bool.noConfusion h) | refine And.intro (fun h => Bool.noConfusion h) (fun _ => ?_) | refine And.intro (fun _ => ?_) (fun h => absurd h (by rw [e5]; decide)) | refine And.intro (fun h => absurd h (by rw [e5]; decide)) (fun _ => ?_) | refine And.intro (fun _ => ?_) (fun h => absurd h (by rw [e6]; decide)) | refine And.intro (fun h => absurd h (by rw [e6]; decide)) (fun _ => ?_))
      refine call_same (fn_vread s hs) [0] rfl (by (repeat first | exact trivial | refine ⟨rfl, ?_⟩ | refine ⟨fun _ _ => ⟨rfl, trivial⟩, ?_⟩ | refine ⟨fun _ _ => trivial, ?_⟩ | refine ⟨by omega, ?_⟩ | refine ⟨fun _ _ => eqC_winS, ?_⟩ | refine ⟨fun _ _ => eqC_winM, ?_⟩ | refine ⟨fun _ _ => eqC_winB, ?_⟩ | refine ⟨fun _ _ => eqC_selfB, ?_⟩ | refine ⟨fun _ _ => eqC_mpB, ?_⟩)) ?_ (fun _ _ => trivial) ?_
      · rw [svB_row hz]
        (repeat first | exact trivial | refine ⟨rfl, ?_⟩ | refine ⟨fun _ _ => ⟨rfl, trivial⟩, ?_⟩ | refine ⟨fun _ _ => trivial, ?_⟩ | refine ⟨by omega, ?_⟩ | refine ⟨fun _ _ => eqC_winS, ?_⟩ | refine ⟨fun _ _ => eqC_winM, ?_⟩ | refine ⟨fun _ _ => eqC_winB, ?_⟩ | refine ⟨fun _ _ => eqC_selfB, ?_⟩ | refine ⟨fun _ _ => eqC_mpB, ?_⟩)
      rintro x hs' ⟨A, r, hAl, hr, rfl, rfl⟩
      (repeat first | refine And.intro (by omega) ?_ | refine And.intro (by decide) ?_ | refine And.intro rfl ?_ | refine And.intro (fun _ => ?_) (fun h => Bool.noConfusion h) | refine And.intro (fun h => Bool.noConfusion h) (fun _ => ?_))
      refine call_same (fn_rbytes A r 5 hr) [5, 4] rfl (by (repeat first | exact trivial | refine ⟨rfl, ?_⟩ | refine ⟨fun _ _ => ⟨rfl, trivial⟩, ?_⟩ | refine ⟨fun _ _ => trivial, ?_⟩ | refine ⟨by omega, ?_⟩ | refine ⟨fun _ _ => eqC_winS, ?_⟩ | refine ⟨fun _ _ => eqC_winM, ?_⟩ | refine ⟨fun _ _ => eqC_winB, ?_⟩ | refine ⟨fun _ _ => eqC_selfB, ?_⟩ | refine ⟨fun _ _ => eqC_mpB, ?_⟩)) ?_ (fun _ _ => trivial) ?_
      · refine eqC_btsM ?_
        (repeat first | exact trivial | refine ⟨rfl, ?_⟩ | refine ⟨fun _ _ => ⟨rfl, trivial⟩, ?_⟩ | refine ⟨fun _ _ => trivial, ?_⟩ | refine ⟨by omega, ?_⟩ | refine ⟨fun _ _ => eqC_winS, ?_⟩ | refine ⟨fun _ _ => eqC_winM, ?_⟩ | refine ⟨fun _ _ => eqC_winB, ?_⟩ | refine ⟨fun _ _ => eqC_selfB, ?_⟩ | refine ⟨fun _ _ => eqC_mpB, ?_⟩)
      rintro x hs' ⟨t0, r0', l0, e0', x0', hr0', ht0, rfl, rfl⟩
      (repeat first | refine And.intro (by omega) ?_ | refine And.intro (by decide) ?_ | refine And.intro rfl ?_ | refine And.intro (fun _ => ?_) (fun h => Bool.noConfusion h) | refine And.intro (fun h => Bool.noConfusion h) (fun _ => ?_))
      refine call_same (fn_takeId A r0' hr0') [5, 4] rfl (by (repeat first | exact trivial | refine ⟨rfl, ?_⟩ | refine ⟨fun _ _ => ⟨rfl, trivial⟩, ?_⟩ | refine ⟨fun _ _ => trivial, ?_⟩ | refine ⟨by omega, ?_⟩ | refine ⟨fun _ _ => eqC_winS, ?_⟩ | refine ⟨fun _ _ => eqC_winM, ?_⟩ | refine ⟨fun _ _ => eqC_winB, ?_⟩ | refine ⟨fun _ _ => eqC_selfB, ?_⟩ | refine ⟨fun _ _ => eqC_mpB, ?_⟩)) ?_ (fun _ _ => trivial) ?_
      · refine eqC_btsM ?_
        (repeat first | exact trivial | refine ⟨rfl, ?_⟩ | refine ⟨fun _ _ => ⟨rfl, trivial⟩, ?_⟩ | refine ⟨fun _ _ => trivial, ?_⟩ | refine ⟨by omega, ?_⟩ | refine ⟨fun _ _ => eqC_winS, ?_⟩ | refine ⟨fun _ _ => eqC_winM, ?_⟩ | refine ⟨fun _ _ => eqC_winB, ?_⟩ | refine ⟨fun _ _ => eqC_selfB, ?_⟩ | refine ⟨fun _ _ => eqC_mpB, ?_⟩)
      rintro x hs' ⟨t, r1, l1, e1', hx1, hr1, ht, rfl, rfl⟩
      (repeat first | refine And.intro (by omega) ?_ | refine And.intro (by decide) ?_ | refine And.intro rfl ?_ | refine And.intro (fun _ => ?_) (fun h => Bool.noConfusion h) | refine And.intro (fun h => Bool.noConfusion h) (fun _ => ?_))
      refine call_same (fn_takeId A r1 hr1) [5, 4] rfl (by (repeat first | exact trivial | refine ⟨rfl, ?_⟩ | refine ⟨fun _ _ => ⟨rfl, trivial⟩, ?_⟩ | refine ⟨fun _ _ => trivial, ?_⟩ | refine ⟨by omega, ?_⟩ | refine ⟨fun _ _ => eqC_winS, ?_⟩ | refine ⟨fun _ _ => eqC_winM, ?_⟩ | refine ⟨fun _ _ => eqC_winB, ?_⟩ | refine ⟨fun _ _ => eqC_selfB, ?_⟩ | refine ⟨fun _ _ => eqC_mpB, ?_⟩)) ?_ (fun _ _ => trivial) ?_
      · refine eqC_btsM ?_
        (repeat first | exact trivial | refine ⟨rfl, ?_⟩ | refine ⟨fun _ _ => ⟨rfl, trivial⟩, ?_⟩ | refine ⟨fun _ _ => trivial, ?_⟩ | refine ⟨by omega, ?_⟩ | refine ⟨fun _ _ => eqC_winS, ?_⟩ | refine ⟨fun _ _ => eqC_winM, ?_⟩ | refine ⟨fun _ _ => eqC_winB, ?_⟩ | refine ⟨fun _ _ => eqC_selfB, ?_⟩ | refine ⟨fun _ _ => eqC_mpB, ?_⟩)
      rintro x hs' ⟨f, r2, l2, e2', hx2, hr2, hf, rfl, rfl⟩
      obtain ⟨r3, l3, e3', hr3, hx3⟩ : ∃ r3 l3 e3', RdI A r3 l3 e3' ∧ (r3, l3, e3') = (r2, l2, e2') := ⟨r2, l2, e2', hr2, rfl⟩
      simp only [Prod.mk.injEq] at hx3
      obtain ⟨rfl, rfl, rfl⟩ := hx3
      (repeat first | refine And.intro (by omega) ?_ | refine And.intro (by decide) ?_ | refine And.intro rfl ?_ | refine And.intro (fun _ => ?_) (fun h => Bool.noConfusion h) | refine And.intro (fun h => Bool.noConfusion h) (fun _ => ?_))
      (repeat first | refine And.intro (by omega) ?_ | refine And.intro (by decide) ?_ | refine And.intro rfl ?_ | refine And.intro (fun _ => ?_) (fun h => Bool.noConfusion h) | refine And.intro (fun h => Bool.noConfusion h) (fun _ => ?_))
      refine call_same (fn_rcount A r3 1204 hr3 (by decide)) [5, 4] rfl (by (repeat first | exact trivial | refine ⟨rfl, ?_⟩ | refine ⟨fun _ _ => ⟨rfl, trivial⟩, ?_⟩ | refine ⟨fun _ _ => trivial, ?_⟩ | refine ⟨by omega, ?_⟩ | refine ⟨fun _ _ => eqC_winS, ?_⟩ | refine ⟨fun _ _ => eqC_winM, ?_⟩ | refine ⟨fun _ _ => eqC_winB, ?_⟩ | refine ⟨fun _ _ => eqC_selfB, ?_⟩ | refine ⟨fun _ _ => eqC_mpB, ?_⟩)) ?_ (fun _ _ => trivial) ?_
      · refine eqC_btsM ?_
        (repeat first | exact trivial | refine ⟨rfl, ?_⟩ | refine ⟨fun _ _ => ⟨rfl, trivial⟩, ?_⟩ | refine ⟨fun _ _ => trivial, ?_⟩ | refine ⟨by omega, ?_⟩ | refine ⟨fun _ _ => eqC_winS, ?_⟩ | refine ⟨fun _ _ => eqC_winM, ?_⟩ | refine ⟨fun _ _ => eqC_winB, ?_⟩ | refine ⟨fun _ _ => eqC_selfB, ?_⟩ | refine ⟨fun _ _ => eqC_mpB, ?_⟩)
      rintro x hs' ⟨n, r4, l4, e4', hx4, hr4, rfl, rfl⟩
      (repeat first | refine And.intro (by omega) ?_ | refine And.intro (by decide) ?_ | refine And.intro rfl ?_ | refine And.intro (fun _ => ?_) (fun h => Bool.noConfusion h) | refine And.intro (fun h => Bool.noConfusion h) (fun _ => ?_))
      refine call_same (fn_rleft A r4 hr4) [5, 4] rfl (by (repeat first | exact trivial | refine ⟨rfl, ?_⟩ | refine ⟨fun _ _ => ⟨rfl, trivial⟩, ?_⟩ | refine ⟨fun _ _ => trivial, ?_⟩ | refine ⟨by omega, ?_⟩ | refine ⟨fun _ _ => eqC_winS, ?_⟩ | refine ⟨fun _ _ => eqC_winM, ?_⟩ | refine ⟨fun _ _ => eqC_winB, ?_⟩ | refine ⟨fun _ _ => eqC_selfB, ?_⟩ | refine ⟨fun _ _ => eqC_mpB, ?_⟩)) ?_ (fun _ _ => trivial) ?_
      · refine eqC_btsM ?_
        (repeat first | exact trivial | refine ⟨rfl, ?_⟩ | refine ⟨fun _ _ => ⟨rfl, trivial⟩, ?_⟩ | refine ⟨fun _ _ => trivial, ?_⟩ | refine ⟨by omega, ?_⟩ | refine ⟨fun _ _ => eqC_winS, ?_⟩ | refine ⟨fun _ _ => eqC_winM, ?_⟩ | refine ⟨fun _ _ => eqC_winB, ?_⟩ | refine ⟨fun _ _ => eqC_selfB, ?_⟩ | refine ⟨fun _ _ => eqC_mpB, ?_⟩)
      rintro x hs' ⟨rfl, rfl⟩
      by_cases hn : l4.length < n
      · have q4 : decide ((l4.length : Int) < (n : Int)) = true := decide_eq_true (by omega)
        (repeat first | refine And.intro (by omega) ?_ | refine And.intro (by decide) ?_ | refine And.intro rfl ?_ | refine And.intro (fun _ => ?_) (fun h => Bool.noConfusion h) | refine And.intro (fun h => Bool.noConfusion h) (fun _ => ?_) | refine And.intro (fun _ => ?_) (fun h => absurd h (by rw [q4]; decide)) | refine And.intro (fun h => absurd h (by rw [q4]; decide)) (fun _ => ?_))
        refine call_same (fn_rfail A r4 3 hr4) [5, 4] rfl (by (repeat first | exact trivial | refine ⟨rfl, ?_⟩ | refine ⟨fun _ _ => ⟨rfl, trivial⟩, ?_⟩ | refine ⟨fun _ _ => trivial, ?_⟩ | refine ⟨by omega, ?_⟩ | refine ⟨fun _ _ => eqC_winS, ?_⟩ | refine ⟨fun _ _ => eqC_winM, ?_⟩ | refine ⟨fun _ _ => eqC_winB, ?_⟩ | refine ⟨fun _ _ => eqC_selfB, ?_⟩ | refine ⟨fun _ _ => eqC_mpB, ?_⟩)) ?_ (fun _ _ => trivial) ?_
        · refine eqC_btsM ?_
          (repeat first | exact trivial | refine ⟨rfl, ?_⟩ | refine ⟨fun _ _ => ⟨rfl, trivial⟩, ?_⟩ | refine ⟨fun _ _ => trivial, ?_⟩ | refine ⟨by omega, ?_⟩ | refine ⟨fun _ _ => eqC_winS, ?_⟩ | refine ⟨fun _ _ => eqC_winM, ?_⟩ | refine ⟨fun _ _ => eqC_winB, ?_⟩ | refine ⟨fun _ _ => eqC_selfB, ?_⟩ | refine ⟨fun _ _ => eqC_mpB, ?_⟩)
        rintro x hs' ⟨r5, l5, e5', hx5, hr5, rfl, rfl⟩
        (repeat first | refine And.intro (by omega) ?_ | refine And.intro (by decide) ?_ | (with_reducible refine frc_parts (by first | omega | decide) ?_) | (with_reducible refine frc_bytesL (by first | omega | decide) ?_) | refine And.intro rfl ?_)
        refine call_same (fn_rerr A r5 hr5) [5, 4] rfl (by (repeat first | exact trivial | refine ⟨rfl, ?_⟩ | refine ⟨fun _ _ => ⟨rfl, trivial⟩, ?_⟩ | refine ⟨fun _ _ => trivial, ?_⟩ | refine ⟨by omega, ?_⟩ | refine ⟨fun _ _ => eqC_winS, ?_⟩ | refine ⟨fun _ _ => eqC_winM, ?_⟩ | refine ⟨fun _ _ => eqC_winB, ?_⟩ | refine ⟨fun _ _ => eqC_selfB, ?_⟩ | refine ⟨fun _ _ => eqC_mpB, ?_⟩)) ?_ (fun _ _ => trivial) ?_
        · refine eqC_btsM ?_
          (repeat first | exact trivial | refine ⟨rfl, ?_⟩ | refine ⟨fun _ _ => ⟨rfl, trivial⟩, ?_⟩ | refine ⟨fun _ _ => trivial, ?_⟩ | refine ⟨by omega, ?_⟩ | refine ⟨fun _ _ => eqC_winS, ?_⟩ | refine ⟨fun _ _ => eqC_winM, ?_⟩ | refine ⟨fun _ _ => eqC_winB, ?_⟩ | refine ⟨fun _ _ => eqC_selfB, ?_⟩ | refine ⟨fun _ _ => eqC_mpB, ?_⟩)
        rintro x hs' ⟨rfl, rfl⟩
        have hLen : lenM l3 e3' = (n, l5, e5') := by
          unfold lenM
          rw [hx4]
          show (match (if l4.length < n then failM l4 e4' 3 else (l4, e4')) with | (l2, e2) => (n, l2, e2)) = _
          rw [if_pos hn, hx5]
        have hPa : partsM 1#8 l0 e0' = ((t.l, f.l, ((⟨true, 0, 0, 0, []⟩ : Sl)).l, n), l5, e5') := by
          unfold partsM
          rw [hx1]
          show (match idM l1 e1' with | (f, l2, e2) => match (if 1#8 = 0#8 then longM l2 e2 64 else ([], l2, e2)) with | (k, l3, e3) => match lenM l3 e3 with | (n, l4, e4) => ((t.l, f, k, n), l4, e4)) = _
          rw [hx2]
          show (match lenM l3 e3' with | (n, l4, e4) => ((t.l, f.l, [], n), l4, e4)) = _
          rw [hLen]
        have hM : longP s.l = if e5' ≠ 0 then .no e5' else .ok 1#8 t.l f.l ((⟨true, 0, 0, 0, []⟩ : Sl)).l (s.l.length - l5.length) (s.l.length - l5.length + n) := by
          unfold longP
          rw [if_neg (fun e => by first | exact e.1 k0 | exact e.2 k1), if_neg (fun e => e.2 h6), x0', if_neg k0]
          show (match partsM 1#8 l0 e0' with | ((t, f, k, n), l', e') => if e' ≠ 0 then PM.no e' else .ok 1#8 t f k (s.l.length - l'.length) (s.l.length - l'.length + n)) = _
          rw [hPa]
        by_cases h5 : e5' = 0
        rotate_left
        · have q5 : decide (e5' ≠ 0) = true := decide_eq_true h5
          rw [hM, if_pos h5]
          (repeat first | refine And.intro (by omega) ?_ | refine And.intro (by decide) ?_ | refine And.intro rfl ?_ | refine And.intro (fun _ => ?_) (fun h => Bool.noConfusion h) | refine And.intro (fun h => Bool.noConfusion h) (fun _ => ?_) | refine And.intro (fun _ => ?_) (fun h => absurd h (by rw [q5]; decide)) | refine And.intro (fun h => absurd h (by rw [q5]; decide)) (fun _ => ?_))
          refine ⟨.tup [.agg ps0, .c (.int .i64 e5')], _, ⟨[0], ⟨rfl, rfl, rfl⟩, ?_⟩, rfl, rfl⟩
          (repeat first | exact trivial | refine ⟨rfl, ?_⟩ | refine ⟨fun _ _ => ⟨rfl, trivial⟩, ?_⟩ | refine ⟨fun _ _ => trivial, ?_⟩ | refine ⟨by omega, ?_⟩ | refine ⟨fun _ _ => eqC_winS, ?_⟩ | refine ⟨fun _ _ => eqC_winM, ?_⟩ | refine ⟨fun _ _ => eqC_winB, ?_⟩ | refine ⟨fun _ _ => eqC_selfB, ?_⟩ | refine ⟨fun _ _ => eqC_mpB, ?_⟩)
        have q5 : decide (e5' ≠ 0) = false := decide_eq_false (by omega)
        rw [hM, if_neg (show ¬ e5' ≠ 0 from fun e => e h5)]
        (repeat first | refine And.intro (by omega) ?_ | refine And.intro (by decide) ?_ | refine And.intro rfl ?_ | refine And.intro (fun _ => ?_) (fun h => Bool.noConfusion h) | refine And.intro (fun h => Bool.noConfusion h) (fun _ => ?_) | refine And.intro (fun _ => ?_) (fun h => absurd h (by rw [q5]; decide)) | refine And.intro (fun h => absurd h (by rw [q5]; decide)) (fun _ => ?_))
        refine call_same (fn_rleft A r5 hr5) [5, 4] rfl (by (repeat first | exact trivial | refine ⟨rfl, ?_⟩ | refine ⟨fun _ _ => ⟨rfl, trivial⟩, ?_⟩ | refine ⟨fun _ _ => trivial, ?_⟩ | refine ⟨by omega, ?_⟩ | refine ⟨fun _ _ => eqC_winS, ?_⟩ | refine ⟨fun _ _ => eqC_winM, ?_⟩ | refine ⟨fun _ _ => eqC_winB, ?_⟩ | refine ⟨fun _ _ => eqC_selfB, ?_⟩ | refine ⟨fun _ _ => eqC_mpB, ?_⟩)) ?_ (fun _ _ => trivial) ?_
        · refine eqC_btsM ?_
          (repeat first | exact trivial | refine ⟨rfl, ?_⟩ | refine ⟨fun _ _ => ⟨rfl, trivial⟩, ?_⟩ | refine ⟨fun _ _ => trivial, ?_⟩ | refine ⟨by omega, ?_⟩ | refine ⟨fun _ _ => eqC_winS, ?_⟩ | refine ⟨fun _ _ => eqC_winM, ?_⟩ | refine ⟨fun _ _ => eqC_winB, ?_⟩ | refine ⟨fun _ _ => eqC_selfB, ?_⟩ | refine ⟨fun _ _ => eqC_mpB, ?_⟩)
        rintro x hs' ⟨rfl, rfl⟩
        have hft := hr5.fit
        have hAs : A.l.length = s.l.length := by rw [hAl]
        have hnl := countM_le hx4
        (repeat first | refine And.intro (by omega) ?_ | refine And.intro (by decide) ?_ | (with_reducible refine frc_parts (by first | omega | decide) ?_) | (with_reducible refine frc_bytesL (by first | omega | decide) ?_) | refine And.intro rfl ?_)
        refine ⟨.tup [.agg (psC 1 2 3 1#8 t f ((⟨true, 0, 0, 0, []⟩ : Sl)) (s.l.length - l5.length) (s.l.length - l5.length + n)), .c (.int .i64 0)], [[.row s.N (winF s.o s.l.length (L s.l))], svB t, svB f, svB ((⟨true, 0, 0, 0, []⟩ : Sl))], ⟨[0, 7, 8, 4], ⟨rfl, rfl, rfl⟩, ?_⟩, t, f, (⟨true, 0, 0, 0, []⟩ : Sl), ht, hf, nil_ok, rfl, rfl, rfl, rfl, rfl⟩
        (repeat first | exact trivial | refine ⟨rfl, ?_⟩ | refine ⟨fun _ _ => ⟨rfl, trivial⟩, ?_⟩ | refine ⟨fun _ _ => trivial, ?_⟩ | refine ⟨by omega, ?_⟩ | refine ⟨fun _ _ => eqC_winS, ?_⟩ | refine ⟨fun _ _ => eqC_winM, ?_⟩ | refine ⟨fun _ _ => eqC_winB, ?_⟩ | refine ⟨fun _ _ => eqC_selfB, ?_⟩ | refine ⟨fun _ _ => eqC_mpB, ?_⟩)
        refine eqC_btsM ?_
        (repeat first | exact trivial | refine ⟨rfl, ?_⟩ | refine ⟨fun _ _ => ⟨rfl, trivial⟩, ?_⟩ | refine ⟨fun _ _ => trivial, ?_⟩ | refine ⟨by omega, ?_⟩ | refine ⟨fun _ _ => eqC_winS, ?_⟩ | refine ⟨fun _ _ => eqC_winM, ?_⟩ | refine ⟨fun _ _ => eqC_winB, ?_⟩ | refine ⟨fun _ _ => eqC_selfB, ?_⟩ | refine ⟨fun _ _ => eqC_mpB, ?_⟩)
        refine eqC_btsM ?_
        (repeat first | exact trivial | refine ⟨rfl, ?_⟩ | refine ⟨fun _ _ => ⟨rfl, trivial⟩, ?_⟩ | refine ⟨fun _ _ => trivial, ?_⟩ | refine ⟨by omega, ?_⟩ | refine ⟨fun _ _ => eqC_winS, ?_⟩ | refine ⟨fun _ _ => eqC_winM, ?_⟩ | refine ⟨fun _ _ => eqC_winB, ?_⟩ | refine ⟨fun _ _ => eqC_selfB, ?_⟩ | refine ⟨fun _ _ => eqC_mpB, ?_⟩)
      have q4 : decide ((l4.length : Int) < (n : Int)) = false := decide_eq_false (by omega)
      (repeat first | refine And.intro (by omega) ?_ | refine And.intro (by decide) ?_ | refine And.intro rfl ?_ | refine And.intro (fun _ => ?_) (fun h => Bool.noConfusion h) | refine And.intro (fun h => Bool.noConfusion h) (fun _ => ?_) | refine And.intro (fun _ => ?_) (fun h => absurd h (by rw [q4]; decide)) | refine And.intro (fun h => absurd h (by rw [q4]; decide)) (fun _ => ?_))
      obtain ⟨r5, l5, e5', hr5, hx5⟩ : ∃ r5 l5 e5', RdI A r5 l5 e5' ∧ (r5, l5, e5') = (r4, l4, e4') := ⟨r4, l4, e4', hr4, rfl⟩
      simp only [Prod.mk.injEq] at hx5
      obtain ⟨rfl, rfl, rfl⟩ := hx5
      refine call_same (fn_rerr A r5 hr5) [5, 4] rfl (by (repeat first | exact trivial | refine ⟨rfl, ?_⟩ | refine ⟨fun _ _ => ⟨rfl, trivial⟩, ?_⟩ | refine ⟨fun _ _ => trivial, ?_⟩ | refine ⟨by omega, ?_⟩ | refine ⟨fun _ _ => eqC_winS, ?_⟩ | refine ⟨fun _ _ => eqC_winM, ?_⟩ | refine ⟨fun _ _ => eqC_winB, ?_⟩ | refine ⟨fun _ _ => eqC_selfB, ?_⟩ | refine ⟨fun _ _ => eqC_mpB, ?_⟩)) ?_ (fun _ _ => trivial) ?_
      · refine eqC_btsM ?_
        (repeat first | exact trivial | refine ⟨rfl, ?_⟩ | refine ⟨fun _ _ => ⟨rfl, trivial⟩, ?_⟩ | refine ⟨fun _ _ => trivial, ?_⟩ | refine ⟨by omega, ?_⟩ | refine ⟨fun _ _ => eqC_winS, ?_⟩ | refine ⟨fun _ _ => eqC_winM, ?_⟩ | refine ⟨fun _ _ => eqC_winB, ?_⟩ | refine ⟨fun _ _ => eqC_selfB, ?_⟩ | refine ⟨fun _ _ => eqC_mpB, ?_⟩)
      rintro x hs' ⟨rfl, rfl⟩
      have hLen : lenM l3 e3' = (n, l5, e5') := by
        unfold lenM
        rw [hx4]
        show (match (if l5.length < n then failM l5 e5' 3 else (l5, e5')) with | (l2, e2) => (n, l2, e2)) = _
        rw [if_neg hn]
      have hPa : partsM 1#8 l0 e0' = ((t.l, f.l, ((⟨true, 0, 0, 0, []⟩ : Sl)).l, n), l5, e5') := by
        unfold partsM
        rw [hx1]
        show (match idM l1 e1' with | (f, l2, e2) => match (if 1#8 = 0#8 then longM l2 e2 64 else ([], l2, e2)) with | (k, l3, e3) => match lenM l3 e3 with | (n, l4, e4) => ((t.l, f, k, n), l4, e4)) = _
        rw [hx2]
        show (match lenM l3 e3' with | (n, l4, e4) => ((t.l, f.l, [], n), l4, e4)) = _
        rw [hLen]
      have hM : longP s.l = if e5' ≠ 0 then .no e5' else .ok 1#8 t.l f.l ((⟨true, 0, 0, 0, []⟩ : Sl)).l (s.l.length - l5.length) (s.l.length - l5.length + n) := by
        unfold longP
        rw [if_neg (fun e => by first | exact e.1 k0 | exact e.2 k1), if_neg (fun e => e.2 h6), x0', if_neg k0]
        show (match partsM 1#8 l0 e0' with | ((t, f, k, n), l', e') => if e' ≠ 0 then PM.no e' else .ok 1#8 t f k (s.l.length - l'.length) (s.l.length - l'.length + n)) = _
        rw [hPa]
      by_cases h5 : e5' = 0
      rotate_left
      · have q5 : decide (e5' ≠ 0) = true := decide_eq_true h5
        rw [hM, if_pos h5]
        (repeat first | refine And.intro (by omega) ?_ | refine And.intro (by decide) ?_ | refine And.intro rfl ?_ | refine And.intro (fun _ => ?_) (fun h => Bool.noConfusion h) | refine And.intro (fun h => Bool.noConfusion h) (fun _ => ?_) | refine And.intro (fun _ => ?_) (fun h => absurd h (by rw [q5]; decide)) | refine And.intro (fun h => absurd h (by rw [q5]; decide)) (fun _ => ?_))
        refine ⟨.tup [.agg ps0, .c (.int .i64 e5')], _, ⟨[0], ⟨rfl, rfl, rfl⟩, ?_⟩, rfl, rfl⟩
        (repeat first | exact trivial | refine ⟨rfl, ?_⟩ | refine ⟨fun _ _ => ⟨rfl, trivial⟩, ?_⟩ | refine ⟨fun _ _ => trivial, ?_⟩ | refine ⟨by omega, ?_⟩ | refine ⟨fun _ _ => eqC_winS, ?_⟩ | refine ⟨fun _ _ => eqC_winM, ?_⟩ | refine ⟨fun _ _ => eqC_winB, ?_⟩ | refine ⟨fun _ _ => eqC_selfB, ?_⟩ | refine ⟨fun _ _ => eqC_mpB, ?_⟩)
      have q5 : decide (e5' ≠ 0) = false := decide_eq_false (by omega)
      rw [hM, if_neg (show ¬ e5' ≠ 0 from fun e => e h5)]
      (repeat first | refine And.intro (by omega) ?_ | refine And.intro (by decide) ?_ | refine And.intro rfl ?_ | refine And.intro (fun _ => ?_) (fun h => Bool.noConfusion h) | refine And.intro (fun h => Bool.noConfusion h) (fun _ => ?_) | refine And.intro (fun _ => ?_) (fun h => absurd h (by rw [q5]; decide)) | refine And.intro (fun h => absurd h (by rw [q5]; decide)) (fun _ => ?_))
      refine call_same (fn_rleft A r5 hr5) [5, 4] rfl (by (repeat first | exact trivial | refine ⟨rfl, ?_⟩ | refine ⟨fun _ _ => ⟨rfl, trivial⟩, ?_⟩ | refine ⟨fun _ _ => trivial, ?_⟩ | refine ⟨by omega, ?_⟩ | refine ⟨fun _ _ => eqC_winS, ?_⟩ | refine ⟨fun _ _ => eqC_winM, ?_⟩ | refine ⟨fun _ _ => eqC_winB, ?_⟩ | refine ⟨fun _ _ => eqC_selfB, ?_⟩ | refine ⟨fun _ _ => eqC_mpB, ?_⟩)) ?_ (fun _ _ => trivial) ?_
      · refine eqC_btsM ?_
        (repeat first | exact trivial | refine ⟨rfl, ?_⟩ | refine ⟨fun _ _ => ⟨rfl, trivial⟩, ?_⟩ | refine ⟨fun _ _ => trivial, ?_⟩ | refine ⟨by omega, ?_⟩ | refine ⟨fun _ _ => eqC_winS, ?_⟩ | refine ⟨fun _ _ => eqC_winM, ?_⟩ | refine ⟨fun _ _ => eqC_winB, ?_⟩ | refine ⟨fun _ _ => eqC_selfB, ?_⟩ | refine ⟨fun _ _ => eqC_mpB, ?_⟩)
      rintro x hs' ⟨rfl, rfl⟩
      have hft := hr5.fit
      have hAs : A.l.length = s.l.length := by rw [hAl]
      have hnl := countM_le hx4
      (repeat first | refine And.intro (by omega) ?_ | refine And.intro (by decide) ?_ | (with_reducible refine frc_parts (by first | omega | decide) ?_) | (with_reducible refine frc_bytesL (by first | omega | decide) ?_) | refine And.intro rfl ?_)
      refine ⟨.tup [.agg (psC 1 2 3 1#8 t f ((⟨true, 0, 0, 0, []⟩ : Sl)) (s.l.length - l5.length) (s.l.length - l5.length + n)), .c (.int .i64 0)], [[.row s.N (winF s.o s.l.length (L s.l))], svB t, svB f, svB ((⟨true, 0, 0, 0, []⟩ : Sl))], ⟨[0, 7, 8, 4], ⟨rfl, rfl, rfl⟩, ?_⟩, t, f, (⟨true, 0, 0, 0, []⟩ : Sl), ht, hf, nil_ok, rfl, rfl, rfl, rfl, rfl⟩
      (repeat first | exact trivial | refine ⟨rfl, ?_⟩ | refine ⟨fun _ _ => ⟨rfl, trivial⟩, ?_⟩ | refine ⟨fun _ _ => trivial, ?_⟩ | refine ⟨by omega, ?_⟩ | refine ⟨fun _ _ => eqC_winS, ?_⟩ | refine ⟨fun _ _ => eqC_winM, ?_⟩ | refine ⟨fun _ _ => eqC_winB, ?_⟩ | refine ⟨fun _ _ => eqC_selfB, ?_⟩ | refine ⟨fun _ _ => eqC_mpB, ?_⟩)
      refine eqC_btsM ?_
      (repeat first | exact trivial | refine ⟨rfl, ?_⟩ | refine ⟨fun _ _ => ⟨rfl, trivial⟩, ?_⟩ | refine ⟨fun _ _ => trivial, ?_⟩ | refine ⟨by omega, ?_⟩ | refine ⟨fun _ _ => eqC_winS, ?_⟩ | refine ⟨fun _ _ => eqC_winM, ?_⟩ | refine ⟨fun _ _ => eqC_winB, ?_⟩ | refine ⟨fun _ _ => eqC_selfB, ?_⟩ | refine ⟨fun _ _ => eqC_mpB, ?_⟩)
      refine eqC_btsM ?_
      (repeat first | exact trivial | refine ⟨rfl, ?_⟩ | refine ⟨fun _ _ => ⟨rfl, trivial⟩, ?_⟩ | refine ⟨fun _ _ => trivial, ?_⟩ | refine ⟨by omega, ?_⟩ | refine ⟨fun _ _ => eqC_winS, ?_⟩ | refine ⟨fun _ _ => eqC_winM, ?_⟩ | refine ⟨fun _ _ => eqC_winB, ?_⟩ | refine ⟨fun _ _ => eqC_selfB, ?_⟩ | refine ⟨fun _ _ => eqC_mpB, ?_⟩)
    have e5 : decide ((5 : Int) ≤ (s.l.length : Int)) = false := decide_eq_false (by omega)
    (repeat first | refine And.intro (by omega) ?_ | refine And.intro (by decide) ?_ | refine And.intro rfl ?_ | refine And.intro (fun _ => ?_) (fun h => Bool.noConfusion h) | refine And.intro (fun h => Bool.noConfusion h) (fun _ => ?_) | refine And.intro (fun _ => ?_) (fun h => absurd h (by rw [e0]; decide)) | refine And.intro (fun h => absurd h (by rw [e0]; decide)) (fun _ => ?_) | refine And.intro (fun _ => ?_) (fun h => absurd h (by rw [e1]; decide)) | refine And.intro (fun h => absurd h (by rw [e1]; decide)) (fun _ => ?_) | refine And.intro (fun _ => ?_) (fun h => absurd h (by rw [e5]; decide)) | refine And.intro (fun h => absurd h (by rw [e5]; decide)) (fun _ => ?_))
    refine call_same (fn_vread s hs) [0] rfl (by (repeat first | exact trivial | refine ⟨rfl, ?_⟩ | refine ⟨fun _ _ => ⟨rfl, trivial⟩, ?_⟩ | refine ⟨fun _ _ => trivial, ?_⟩ | refine ⟨by omega, ?_⟩ | refine ⟨fun _ _ => eqC_winS, ?_⟩ | refine ⟨fun _ _ => eqC_winM, ?_⟩ | refine ⟨fun _ _ => eqC_winB, ?_⟩ | refine ⟨fun _ _ => eqC_selfB, ?_⟩ | refine ⟨fun _ _ => eqC_mpB, ?_⟩)) ?_ (fun _ _ => trivial) ?_
    · rw [svB_row hz]
      (repeat first | exact trivial | refine ⟨rfl, ?_⟩ | refine ⟨fun _ _ => ⟨rfl, trivial⟩, ?_⟩ | refine ⟨fun _ _ => trivial, ?_⟩ | refine ⟨by omega, ?_⟩ | refine ⟨fun _ _ => eqC_winS, ?_⟩ | refine ⟨fun _ _ => eqC_winM, ?_⟩ | refine ⟨fun _ _ => eqC_winB, ?_⟩ | refine ⟨fun _ _ => eqC_selfB, ?_⟩ | refine ⟨fun _ _ => eqC_mpB, ?_⟩)
    rintro x hs' ⟨A, r, hAl, hr, rfl, rfl⟩
    (repeat first | refine And.intro (by omega) ?_ | refine And.intro (by decide) ?_ | refine And.intro rfl ?_ | refine And.intro (fun _ => ?_) (fun h => Bool.noConfusion h) | refine And.intro (fun h => Bool.noConfusion h) (fun _ => ?_))
    refine call_same (fn_rbytes A r 5 hr) [4, 3] rfl (by (repeat first | exact trivial | refine ⟨rfl, ?_⟩ | refine ⟨fun _ _ => ⟨rfl, trivial⟩, ?_⟩ | refine ⟨fun _ _ => trivial, ?_⟩ | refine ⟨by omega, ?_⟩ | refine ⟨fun _ _ => eqC_winS, ?_⟩ | refine ⟨fun _ _ => eqC_winM, ?_⟩ | refine ⟨fun _ _ => eqC_winB, ?_⟩ | refine ⟨fun _ _ => eqC_selfB, ?_⟩ | refine ⟨fun _ _ => eqC_mpB, ?_⟩)) ?_ (fun _ _ => trivial) ?_
    · refine eqC_btsM ?_
      (repeat first | exact trivial | refine ⟨rfl, ?_⟩ | refine ⟨fun _ _ => ⟨rfl, trivial⟩, ?_⟩ | refine ⟨fun _ _ => trivial, ?_⟩ | refine ⟨by omega, ?_⟩ | refine ⟨fun _ _ => eqC_winS, ?_⟩ | refine ⟨fun _ _ => eqC_winM, ?_⟩ | refine ⟨fun _ _ => eqC_winB, ?_⟩ | refine ⟨fun _ _ => eqC_selfB, ?_⟩ | refine ⟨fun _ _ => eqC_mpB, ?_⟩)
    rintro x hs' ⟨t0, r0', l0, e0', x0', hr0', ht0, rfl, rfl⟩
    (repeat first | refine And.intro (by omega) ?_ | refine And.intro (by decide) ?_ | refine And.intro rfl ?_ | refine And.intro (fun _ => ?_) (fun h => Bool.noConfusion h) | refine And.intro (fun h => Bool.noConfusion h) (fun _ => ?_))
    refine call_same (fn_takeId A r0' hr0') [4, 3] rfl (by (repeat first | exact trivial | refine ⟨rfl, ?_⟩ | refine ⟨fun _ _ => ⟨rfl, trivial⟩, ?_⟩ | refine ⟨fun _ _ => trivial, ?_⟩ | refine ⟨by omega, ?_⟩ | refine ⟨fun _ _ => eqC_winS, ?_⟩ | refine ⟨fun _ _ => eqC_winM, ?_⟩ | refine ⟨fun _ _ => eqC_winB, ?_⟩ | refine ⟨fun _ _ => eqC_selfB, ?_⟩ | refine ⟨fun _ _ => eqC_mpB, ?_⟩)) ?_ (fun _ _ => trivial) ?_
    · refine eqC_btsM ?_
      (repeat first | exact trivial | refine ⟨rfl, ?_⟩ | refine ⟨fun _ _ => ⟨rfl, trivial⟩, ?_⟩ | refine ⟨fun _ _ => trivial, ?_⟩ | refine ⟨by omega, ?_⟩ | refine ⟨fun _ _ => eqC_winS, ?_⟩ | refine ⟨fun _ _ => eqC_winM, ?_⟩ | refine ⟨fun _ _ => eqC_winB, ?_⟩ | refine ⟨fun _ _ => eqC_selfB, ?_⟩ | refine ⟨fun _ _ => eqC_mpB, ?_⟩)
    rintro x hs' ⟨t, r1, l1, e1', hx1, hr1, ht, rfl, rfl⟩
    (repeat first | refine And.intro (by omega) ?_ | refine And.intro (by decide) ?_ | refine And.intro rfl ?_ | refine And.intro (fun _ => ?_) (fun h => Bool.noConfusion h) | refine And.intro (fun h => Bool.noConfusion h) (fun _ => ?_))
    refine call_same (fn_takeId A r1 hr1) [4, 3] rfl (by (repeat first | exact trivial | refine ⟨rfl, ?_⟩ | refine ⟨fun _ _ => ⟨rfl, trivial⟩, ?_⟩ | refine ⟨fun _ _ => trivial, ?_⟩ | refine ⟨by omega, ?_⟩ | refine ⟨fun _ _ => eqC_winS, ?_⟩ | refine ⟨fun _ _ => eqC_winM, ?_⟩ | refine ⟨fun _ _ => eqC_winB, ?_⟩ | refine ⟨fun _ _ => eqC_selfB, ?_⟩ | refine ⟨fun _ _ => eqC_mpB, ?_⟩)) ?_ (fun _ _ => trivial) ?_
    · refine eqC_btsM ?_
      (repeat first | exact trivial | refine ⟨rfl, ?_⟩ | refine ⟨fun _ _ => ⟨rfl, trivial⟩, ?_⟩ | refine ⟨fun _ _ => trivial, ?_⟩ | refine ⟨by omega, ?_⟩ | refine ⟨fun _ _ => eqC_winS, ?_⟩ | refine ⟨fun _ _ => eqC_winM, ?_⟩ | refine ⟨fun _ _ => eqC_winB, ?_⟩ | refine ⟨fun _ _ => eqC_selfB, ?_⟩ | refine ⟨fun _ _ => eqC_mpB, ?_⟩)
    rintro x hs' ⟨f, r2, l2, e2', hx2, hr2, hf, rfl, rfl⟩
    obtain ⟨r3, l3, e3', hr3, hx3⟩ : ∃ r3 l3 e3', RdI A r3 l3 e3' ∧ (r3, l3, e3') = (r2, l2, e2') := ⟨r2, l2, e2', hr2, rfl⟩
    simp only [Prod.mk.injEq] at hx3
    obtain ⟨rfl, rfl, rfl⟩ := hx3
    (repeat first | refine And.intro (by omega) ?_ | refine And.intro (by decide) ?_ | refine And.intro rfl ?_ | refine And.intro (fun _ => ?_) (fun h => Bool.noConfusion h) | refine And.intro (fun h => Bool.noConfusion h) (fun _ => ?_))
    (repeat first | refine And.intro (by omega) ?_ | refine And.intro (by decide) ?_ | refine And.intro rfl ?_ | refine And.intro (fun _ => ?_) (fun h => Bool.noConfusion h) | refine And.intro (fun h => Bool.noConfusion h) (fun _ => ?_))
    refine call_same (fn_rcount A r3 1204 hr3 (by decide)) [4, 3] rfl (by (repeat first | exact trivial | refine ⟨rfl, ?_⟩ | refine ⟨fun _ _ => ⟨rfl, trivial⟩, ?_⟩ | refine ⟨fun _ _ => trivial, ?_⟩ | refine ⟨by omega, ?_⟩ | refine ⟨fun _ _ => eqC_winS, ?_⟩ | refine ⟨fun _ _ => eqC_winM, ?_⟩ | refine ⟨fun _ _ => eqC_winB, ?_⟩ | refine ⟨fun _ _ => eqC_selfB, ?_⟩ | refine ⟨fun _ _ => eqC_mpB, ?_⟩)) ?_ (fun _ _ => trivial) ?_
    · refine eqC_btsM ?_
      (repeat first | exact trivial | refine ⟨rfl, ?_⟩ | refine ⟨fun _ _ => ⟨rfl, trivial⟩, ?_⟩ | refine ⟨fun _ _ => trivial, ?_⟩ | refine ⟨by omega, ?_⟩ | refine ⟨fun _ _ => eqC_winS, ?_⟩ | refine ⟨fun _ _ => eqC_winM, ?_⟩ | refine ⟨fun _ _ => eqC_winB, ?_⟩ | refine ⟨fun _ _ => eqC_selfB, ?_⟩ | refine ⟨fun _ _ => eqC_mpB, ?_⟩)
    rintro x hs' ⟨n, r4, l4, e4', hx4, hr4, rfl, rfl⟩
    (repeat first | refine And.intro (by omega) ?_ | refine And.intro (by decide) ?_ | refine And.intro rfl ?_ | refine And.intro (fun _ => ?_) (fun h => Bool.noConfusion h) | refine And.intro (fun h => Bool.noConfusion h) (fun _ => ?_))
    refine call_same (fn_rleft A r4 hr4) [4, 3] rfl (by (repeat first | exact trivial | refine ⟨rfl, ?_⟩ | refine ⟨fun _ _ => ⟨rfl, trivial⟩, ?_⟩ | refine ⟨fun _ _ => trivial, ?_⟩ | refine ⟨by omega, ?_⟩ | refine ⟨fun _ _ => eqC_winS, ?_⟩ | refine ⟨fun _ _ => eqC_winM, ?_⟩ | refine ⟨fun _ _ => eqC_winB, ?_⟩ | refine ⟨fun _ _ => eqC_selfB, ?_⟩ | refine ⟨fun _ _ => eqC_mpB, ?_⟩)) ?_ (fun _ _ => trivial) ?_
    · refine eqC_btsM ?_
      (repeat first | exact trivial | refine ⟨rfl, ?_⟩ | refine ⟨fun _ _ => ⟨rfl, trivial⟩, ?_⟩ | refine ⟨fun _ _ => trivial, ?_⟩ | refine ⟨by omega, ?_⟩ | refine ⟨fun _ _ => eqC_winS, ?_⟩ | refine ⟨fun _ _ => eqC_winM, ?_⟩ | refine ⟨fun _ _ => eqC_winB, ?_⟩ | refine ⟨fun _ _ => eqC_selfB, ?_⟩ | refine ⟨fun _ _ => eqC_mpB, ?_⟩)
    rintro x hs' ⟨rfl, rfl⟩
    by_cases hn : l4.length < n
    · have q4 : decide ((l4.length : Int) < (n : Int)) = true := decide_eq_true (by omega)
      (repeat first | refine And.intro (by omega) ?_ | refine And.intro (by decide) ?_ | refine And.intro rfl ?_ | refine And.intro (fun _ => ?_) (fun h => Bool.noConfusion h) | refine And.intro (fun h => Bool.noConfusion h) (fun _ => ?_) | refine And.intro (fun _ => ?_) (fun h => absurd h (by rw [q4]; decide)) | refine And.intro (fun h => absurd h (by rw [q4]; decide)) (fun _ => ?_))
      refine call_same (fn_rfail A r4 3 hr4) [4, 3] rfl (by (repeat first | exact trivial | refine ⟨rfl, ?_⟩ | refine ⟨fun _ _ => ⟨rfl, trivial⟩, ?_⟩ | refine ⟨fun _ _ => trivial, ?_⟩ | refine ⟨by omega, ?_⟩ | refine ⟨fun _ _ => eqC_winS, ?_⟩ | refine ⟨fun _ _ => eqC_winM, ?_⟩ | refine ⟨fun _ _ => eqC_winB, ?_⟩ | refine ⟨fun _ _ => eqC_selfB, ?_⟩ | refine ⟨fun _ _ => eqC_mpB, ?_⟩)) ?_ (fun _ _ => trivial) ?_
      · refine eqC_btsM ?_
        (repeat first | exact trivial | refine ⟨rfl, ?_⟩ | refine ⟨fun _ _ => ⟨rfl, trivial⟩, ?_⟩ | refine ⟨fun _ _ => trivial, ?_⟩ | refine ⟨by omega, ?_⟩ | refine ⟨fun _ _ => eqC_winS, ?_⟩ | refine ⟨fun _ _ => eqC_winM, ?_⟩ | refine ⟨fun _ _ => eqC_winB, ?_⟩ | refine ⟨fun _ _ => eqC_selfB, ?_⟩ | refine ⟨fun _ _ => eqC_mpB, ?_⟩)
      rintro x hs' ⟨r5, l5, e5', hx5, hr5, rfl, rfl⟩
      (repeat first | refine And.intro (by omega) ?_ | refine And.intro (by decide) ?_ | (with_reducible refine frc_parts (by first | omega | decide) ?_) | (with_reducible refine frc_bytesL (by first | omega | decide) ?_) | refine And.intro rfl ?_)
      refine call_same (fn_rerr A r5 hr5) [4, 3] rfl (by (repeat first | exact trivial | refine ⟨rfl, ?_⟩ | refine ⟨fun _ _ => ⟨rfl, trivial⟩, ?_⟩ | refine ⟨fun _ _ => trivial, ?_⟩ | refine ⟨by omega, ?_⟩ | refine ⟨fun _ _ => eqC_winS, ?_⟩ | refine ⟨fun _ _ => eqC_winM, ?_⟩ | refine ⟨fun _ _ => eqC_winB, ?_⟩ | refine ⟨fun _ _ => eqC_selfB, ?_⟩ | refine ⟨fun _ _ => eqC_mpB, ?_⟩)) ?_ (fun _ _ => trivial) ?_
      · refine eqC_btsM ?_
        (repeat first | exact trivial | refine ⟨rfl, ?_⟩ | refine ⟨fun _ _ => ⟨rfl, trivial⟩, ?_⟩ | refine ⟨fun _ _ => trivial, ?_⟩ | refine ⟨by omega, ?_⟩ | refine ⟨fun _ _ => eqC_winS, ?_⟩ | refine ⟨fun _ _ => eqC_winM, ?_⟩ | refine ⟨fun _ _ => eqC_winB, ?_⟩ | refine ⟨fun _ _ => eqC_selfB, ?_⟩ | refine ⟨fun _ _ => eqC_mpB, ?_⟩)
      rintro x hs' ⟨rfl, rfl⟩
      have hLen : lenM l3 e3' = (n, l5, e5') := by
        unfold lenM
        rw [hx4]
        show (match (if l4.length < n then failM l4 e4' 3 else (l4, e4')) with | (l2, e2) => (n, l2, e2)) = _
        rw [if_pos hn, hx5]
      have hPa : partsM 1#8 l0 e0' = ((t.l, f.l, ((⟨true, 0, 0, 0, []⟩ : Sl)).l, n), l5, e5') := by
        unfold partsM
        rw [hx1]
        show (match idM l1 e1' with | (f, l2, e2) => match (if 1#8 = 0#8 then longM l2 e2 64 else ([], l2, e2)) with | (k, l3, e3) => match lenM l3 e3 with | (n, l4, e4) => ((t.l, f, k, n), l4, e4)) = _
        rw [hx2]
        show (match lenM l3 e3' with | (n, l4, e4) => ((t.l, f.l, [], n), l4, e4)) = _
        rw [hLen]
      have hM : longP s.l = if e5' ≠ 0 then .no e5' else .ok 1#8 t.l f.l ((⟨true, 0, 0, 0, []⟩ : Sl)).l (s.l.length - l5.length) (s.l.length - l5.length + n) := by
        unfold longP
        rw [if_neg (fun e => by first | exact e.1 k0 | exact e.2 k1), if_neg (fun e => h5 e.1), x0', if_neg k0]
        show (match partsM 1#8 l0 e0' with | ((t, f, k, n), l', e') => if e' ≠ 0 then PM.no e' else .ok 1#8 t f k (s.l.length - l'.length) (s.l.length - l'.length + n)) = _
        rw [hPa]
      by_cases h5 : e5' = 0
      rotate_left
      · have q5 : decide (e5' ≠ 0) = true := decide_eq_true h5
        rw [hM, if_pos h5]
        (repeat first | refine And.intro (by omega) ?_ | refine And.intro (by decide) ?_ | refine And.intro rfl ?_ | refine And.intro (fun _ => ?_) (fun h => Bool.noConfusion h) | refine And.intro (fun h => Bool.noConfusion h) (fun _ => ?_) | refine And.intro (fun _ => ?_) (fun h => absurd h (by rw [q5]; decide)) | refine And.intro (fun h => absurd h (by rw [q5]; decide)) (fun _ => ?_))
        refine ⟨.tup [.agg ps0, .c (.int .i64 e5')], _, ⟨[0], ⟨rfl, rfl, rfl⟩, ?_⟩, rfl, rfl⟩
        (repeat first | exact trivial | refine ⟨rfl, ?_⟩ | refine ⟨fun _ _ => ⟨rfl, trivial⟩, ?_⟩ | refine ⟨fun _ _ => trivial, ?_⟩ | refine ⟨by omega, ?_⟩ | refine ⟨fun _ _ => eqC_winS, ?_⟩ | refine ⟨fun _ _ => eqC_winM, ?_⟩ | refine ⟨fun _ _ => eqC_winB, ?_⟩ | refine ⟨fun _ _ => eqC_selfB, ?_⟩ | refine ⟨fun _ _ => eqC_mpB, ?_⟩)
      have q5 : decide (e5' ≠ 0) = false := decide_eq_false (by omega)
      rw [hM, if_neg (show ¬ e5' ≠ 0 from fun e => e h5)]
      (repeat first | refine And.intro (by omega) ?_ | refine And.intro (by decide) ?_ | refine And.intro rfl ?_ | refine And.intro (fun _ => ?_) (fun h => Bool.noConfusion h) | refine And.intro (fun h => Bool.noConfusion h) (fun _ => ?_) | refine And.intro (fun _ => ?_) (fun h => absurd h (by rw [q5]; decide)) | refine And.intro (fun h => absurd h (by rw [q5]; decide)) (fun _ => ?_))
      refine call_same (fn_rleft A r5 hr5) [4, 3] rfl (by (repeat first | exact trivial | refine ⟨rfl, ?_⟩ | refine ⟨fun _ _ => ⟨rfl, trivial⟩, ?_⟩ | refine ⟨fun _ _ => trivial, ?_⟩ | refine ⟨by omega, ?_⟩ | refine ⟨fun _ _ => eqC_winS, ?_⟩ | refine ⟨fun _ _ => eqC_winM, ?_⟩ | refine ⟨fun _ _ => eqC_winB, ?_⟩ | refine ⟨fun _ _ => eqC_selfB, ?_⟩ | refine ⟨fun _ _ => eqC_mpB, ?_⟩)) ?_ (fun _ _ => trivial) ?_
      · refine eqC_btsM ?_
        (repeat first | exact trivial | refine ⟨rfl, ?_⟩ | refine ⟨fun _ _ => ⟨rfl, trivial⟩, ?_⟩ | refine ⟨fun _ _ => trivial, ?_⟩ | refine ⟨by omega, ?_⟩ | refine ⟨fun _ _ => eqC_winS, ?_⟩ | refine ⟨fun _ _ => eqC_winM, ?_⟩ | refine ⟨fun _ _ => eqC_winB, ?_⟩ | refine ⟨fun _ _ => eqC_selfB, ?_⟩ | refine ⟨fun _ _ => eqC_mpB, ?_⟩)
      rintro x hs' ⟨rfl, rfl⟩
      have hft := hr5.fit
      have hAs : A.l.length = s.l.length := by rw [hAl]
      have hnl := countM_le hx4
      (repeat first | refine And.intro (by omega) ?_ | refine And.intro (by decide) ?_ | (with_reducible refine frc_parts (by first | omega | decide) ?_) | (with_reducible refine frc_bytesL (by first | omega | decide) ?_) | refine And.intro rfl ?_)
      refine ⟨.tup [.agg (psC 1 2 3 1#8 t f ((⟨true, 0, 0, 0, []⟩ : Sl)) (s.l.length - l5.length) (s.l.length - l5.length + n)), .c (.int .i64 0)], [[.row s.N (winF s.o s.l.length (L s.l))], svB t, svB f, svB ((⟨true, 0, 0, 0, []⟩ : Sl))], ⟨[0, 6, 7, 3], ⟨rfl, rfl, rfl⟩, ?_⟩, t, f, (⟨true, 0, 0, 0, []⟩ : Sl), ht, hf, nil_ok, rfl, rfl, rfl, rfl, rfl⟩
      (repeat first | exact trivial | refine ⟨rfl, ?_⟩ | refine ⟨fun _ _ => ⟨rfl, trivial⟩, ?_⟩ | refine ⟨fun _ _ => trivial, ?_⟩ | refine ⟨by omega, ?_⟩ | refine ⟨fun _ _ => eqC_winS, ?_⟩ | refine ⟨fun _ _ => eqC_winM, ?_⟩ | refine ⟨fun _ _ => eqC_winB, ?_⟩ | refine ⟨fun _ _ => eqC_selfB, ?_⟩ | refine ⟨fun _ _ => eqC_mpB, ?_⟩)
      refine eqC_btsM ?_
      (repeat first | exact trivial | refine ⟨rfl, ?_⟩ | refine ⟨fun _ _ => ⟨rfl, trivial⟩, ?_⟩ | refine ⟨fun _ _ => trivial, ?_⟩ | refine ⟨by omega, ?_⟩ | refine ⟨fun _ _ => eqC_winS, ?_⟩ | refine ⟨fun _ _ => eqC_winM, ?_⟩ | refine ⟨fun _ _ => eqC_winB, ?_⟩ | refine ⟨fun _ _ => eqC_selfB, ?_⟩ | refine ⟨fun _ _ => eqC_mpB, ?_⟩)
      refine eqC_btsM ?_
      (repeat first | exact trivial | refine ⟨rfl, ?_⟩ | refine ⟨fun _ _ => ⟨rfl, trivial⟩, ?_⟩ | refine ⟨fun _ _ => trivial, ?_⟩ | refine ⟨by omega, ?_⟩ | refine ⟨fun _ _ => eqC_winS, ?_⟩ | refine ⟨fun _ _ => eqC_winM, ?_⟩ | refine ⟨fun _ _ => eqC_winB, ?_⟩ | refine ⟨fun _ _ => eqC_selfB, ?_⟩ | refine ⟨fun _ _ => eqC_mpB, ?_⟩)
    have q4 : decide ((l4.length : Int) < (n : Int)) = false := decide_eq_false (by omega)
    (repeat first | refine And.intro (by omega) ?_ | refine And.intro (by decide) ?_ | refine And.intro rfl ?_ | refine And.intro (fun _ => ?_) (fun h => Bool.noConfusion h) | refine And.intro (fun h => Bool.noConfusion h) (fun _ => ?_) | refine And.intro (fun _ => ?_) (fun h => absurd h (by rw [q4]; decide)) | refine And.intro (fun h => absurd h (by rw [q4]; decide)) (fun _ => ?_))
    obtain ⟨r5, l5, e5', hr5, hx5⟩ : ∃ r5 l5 e5', RdI A r5 l5 e5' ∧ (r5, l5, e5') = (r4, l4, e4') := ⟨r4, l4, e4', hr4, rfl⟩
    simp only [Prod.mk.injEq] at hx5
    obtain ⟨rfl, rfl, rfl⟩ := hx5
    refine call_same (fn_rerr A r5 hr5) [4, 3] rfl (by (repeat first | exact trivial | refine ⟨rfl, ?_⟩ | refine ⟨fun _ _ => ⟨rfl, trivial⟩, ?_⟩ | refine ⟨fun _ _ => trivial, ?_⟩ | refine ⟨by omega, ?_⟩ | refine ⟨fun _ _ => eqC_winS, ?_⟩ | refine ⟨fun _ _ => eqC_winM, ?_⟩ | refine ⟨fun _ _ => eqC_winB, ?_⟩ | refine ⟨fun _ _ => eqC_selfB, ?_⟩ | refine ⟨fun _ _ => eqC_mpB, ?_⟩)) ?_ (fun _ _ => trivial) ?_
    · refine eqC_btsM ?_
      (repeat first | exact trivial | refine ⟨rfl, ?_⟩ | refine ⟨fun _ _ => ⟨rfl, trivial⟩, ?_⟩ | refine ⟨fun _ _ => trivial, ?_⟩ | refine ⟨by omega, ?_⟩ | refine ⟨fun _ _ => eqC_winS, ?_⟩ | refine ⟨fun _ _ => eqC_winM, ?_⟩ | refine ⟨fun _ _ => eqC_winB, ?_⟩ | refine ⟨fun _ _ => eqC_selfB, ?_⟩ | refine ⟨fun _ _ => eqC_mpB, ?_⟩)
    rintro x hs' ⟨rfl, rfl⟩
    have hLen : lenM l3 e3' = (n, l5, e5') := by
      unfold lenM
      rw [hx4]
      show (match (if l5.length < n then failM l5 e5' 3 else (l5, e5')) with | (l2, e2) => (n, l2, e2)) = _
      rw [if_neg hn]
    have hPa : partsM 1#8 l0 e0' = ((t.l, f.l, ((⟨true, 0, 0, 0, []⟩ : Sl)).l, n), l5, e5') := by
      unfold partsM
      rw [hx1]
      show (match idM l1 e1' with | (f, l2, e2) => match (if 1#8 = 0#8 then longM l2 e2 64 else ([], l2, e2)) with | (k, l3, e3) => match lenM l3 e3 with | (n, l4, e4) => ((t.l, f, k, n), l4, e4)) = _
      rw [hx2]
      show (match lenM l3 e3' with | (n, l4, e4) => ((t.l, f.l, [], n), l4, e4)) = _
      rw [hLen]
    have hM : longP s.l = if e5' ≠ 0 then .no e5' else .ok 1#8 t.l f.l ((⟨true, 0, 0, 0, []⟩ : Sl)).l (s.l.length - l5.length) (s.l.length - l5.length + n) := by
      unfold longP
      rw [if_neg (fun e => by first | exact e.1 k0 | exact e.2 k1), if_neg (fun e => h5 e.1), x0', if_neg k0]
      show (match partsM 1#8 l0 e0' with | ((t, f, k, n), l', e') => if e' ≠ 0 then PM.no e' else .ok 1#8 t f k (s.l.length - l'.length) (s.l.length - l'.length + n)) = _
      rw [hPa]
    by_cases h5 : e5' = 0
    rotate_left
    · have q5 : decide (e5' ≠ 0) = true := decide_eq_true h5
      rw [hM, if_pos h5]
      (repeat first | refine And.intro (by omega) ?_ | refine And.intro (by decide) ?_ | refine And.intro rfl ?_ | refine And.intro (fun _ => ?_) (fun h => Bool.noConfusion h) | refine And.intro (fun h => Bool.noConfusion h) (fun _ => ?_) | refine And.intro (fun _ => ?_) (fun h => absurd h (by rw [q5]; decide)) | refine And.intro (fun h => absurd h (by rw [q5]; decide)) (fun _ => ?_))
      refine ⟨.tup [.agg ps0, .c (.int .i64 e5')], _, ⟨[0], ⟨rfl, rfl, rfl⟩, ?_⟩, rfl, rfl⟩
      (repeat first | exact trivial | refine ⟨rfl, ?_⟩ | refine ⟨fun _ _ => ⟨rfl, trivial⟩, ?_⟩ | refine ⟨fun _ _ => trivial, ?_⟩ | refine ⟨by omega, ?_⟩ | refine ⟨fun _ _ => eqC_winS, ?_⟩ | refine ⟨fun _ _ => eqC_winM, ?_⟩ | refine ⟨fun _ _ => eqC_winB, ?_⟩ | refine ⟨fun _ _ => eqC_selfB, ?_⟩ | refine ⟨fun _ _ => eqC_mpB, ?_⟩)
    have q5 : decide (e5' ≠ 0) = false := decide_eq_false (by omega)
    rw [hM, if_neg (show ¬ e5' ≠ 0 from fun e => e h5)]
    (repeat first | refine And.intro (by omega) ?_ | refine And.intro (by decide) ?_ | refine And.intro rfl ?_ | refine And.intro (fun _ => ?_) (fun h => Bool.noConfusion h) | refine And.intro (fun h => Bool.noConfusion h) (fun _ => ?_) | refine And.intro (fun _ => ?_) (fun h => absurd h (by rw [q5]; decide)) | refine And.intro (fun h => absurd h (by rw [q5]; decide)) (fun _ => ?_))
    refine call_same (fn_rleft A r5 hr5) [4, 3] rfl (by (repeat first | exact trivial | refine ⟨rfl, ?_⟩ | refine ⟨fun _ _ => ⟨rfl, trivial⟩, ?_⟩ | refine ⟨fun _ _ => trivial, ?_⟩ | refine ⟨by omega, ?_⟩ | refine ⟨fun _ _ => eqC_winS, ?_⟩ | refine ⟨fun _ _ => eqC_winM, ?_⟩ | refine ⟨fun _ _ => eqC_winB, ?_⟩ | refine ⟨fun _ _ => eqC_selfB, ?_⟩ | refine ⟨fun _ _ => eqC_mpB, ?_⟩)) ?_ (fun _ _ => trivial) ?_
    · refine eqC_btsM ?_
      (repeat first | exact trivial | refine ⟨rfl, ?_⟩ | refine ⟨fun _ _ => ⟨rfl, trivial⟩, ?_⟩ | refine ⟨fun _ _ => trivial, ?_⟩ | refine ⟨by omega, ?_⟩ | refine ⟨fun _ _ => eqC_winS, ?_⟩ | refine ⟨fun _ _ => eqC_winM, ?_⟩ | refine ⟨fun _ _ => eqC_winB, ?_⟩ | refine ⟨fun _ _ => eqC_selfB, ?_⟩ | refine ⟨fun _ _ => eqC_mpB, ?_⟩)
    rintro x hs' ⟨rfl, rfl⟩
    have hft := hr5.fit
    have hAs : A.l.length = s.l.length := by rw [hAl]
    have hnl := countM_le hx4
    (repeat first | refine And.intro (by omega) ?_ | refine And.intro (by decide) ?_ | (with_reducible refine frc_parts (by first | omega | decide) ?_) | (with_reducible refine frc_bytesL (by first | omega | decide) ?_) | refine And.intro rfl ?_)
    refine ⟨.tup [.agg (psC 1 2 3 1#8 t f ((⟨true, 0, 0, 0, []⟩ : Sl)) (s.l.length - l5.length) (s.l.length - l5.length + n)), .c (.int .i64 0)], [[.row s.N (winF s.o s.l.length (L s.l))], svB t, svB f, svB ((⟨true, 0, 0, 0, []⟩ : Sl))], ⟨[0, 6, 7, 3], ⟨rfl, rfl, rfl⟩, ?_⟩, t, f, (⟨true, 0, 0, 0, []⟩ : Sl), ht, hf, nil_ok, rfl, rfl, rfl, rfl, rfl⟩
    (repeat first | exact trivial | refine ⟨rfl, ?_⟩ | refine ⟨fun _ _ => ⟨rfl, trivial⟩, ?_⟩ | refine ⟨fun _ _ => trivial, ?_⟩ | refine ⟨by omega, ?_⟩ | refine ⟨fun _ _ => eqC_winS, ?_⟩ | refine ⟨fun _ _ => eqC_winM, ?_⟩ | refine ⟨fun _ _ => eqC_winB, ?_⟩ | refine ⟨fun _ _ => eqC_selfB, ?_⟩ | refine ⟨fun _ _ => eqC_mpB, ?_⟩)
    refine eqC_btsM ?_
    (repeat first | exact trivial | refine ⟨rfl, ?_⟩ | refine ⟨fun _ _ => ⟨rfl, trivial⟩, ?_⟩ | refine ⟨fun _ _ => trivial, ?_⟩ | refine ⟨by omega, ?_⟩ | refine ⟨fun _ _ => eqC_winS, ?_⟩ | refine ⟨fun _ _ => eqC_winM, ?_⟩ | refine ⟨fun _ _ => eqC_winB, ?_⟩ | refine ⟨fun _ _ => eqC_selfB, ?_⟩ | refine ⟨fun _ _ => eqC_mpB, ?_⟩)
    refine eqC_btsM ?_
    (repeat first | exact trivial | refine ⟨rfl, ?_⟩ | refine ⟨fun _ _ => ⟨rfl, trivial⟩, ?_⟩ | refine ⟨fun _ _ => trivial, ?_⟩ | refine ⟨by omega, ?_⟩ | refine ⟨fun _ _ => eqC_winS, ?_⟩ | refine ⟨fun _ _ => eqC_winM, ?_⟩ | refine ⟨fun _ _ => eqC_winB, ?_⟩ | refine ⟨fun _ _ => eqC_selfB, ?_⟩ | refine ⟨fun _ _ => eqC_mpB, ?_⟩)
  have e1 : decide (L s.l 0 &&& 48#8 = 32#8) = false := decide_eq_false k1
  have hM : longP s.l = .no 5 := by unfold longP; rw [if_pos ⟨k0, k1⟩]
  rw [hM]
  (repeat first | refine And.intro (by omega) ?_ | refine And.intro (by decide) ?_ | refine And.intro rfl ?_ | refine And.intro (fun _ => ?_) (fun h => Bool.noConfusion h) | refine And.intro (fun h => Bool.noConfusion h) (fun _ => ?_) | refine And.intro (fun _ => ?_) (fun h => absurd h (by rw [e0]; decide)) | refine And.intro (fun h => absurd h (by rw [e0]; decide)) (fun _ => ?_) | refine And.intro (fun _ => ?_) (fun h => absurd h (by rw [e1]; decide)) | refine And.intro (fun h => absurd h (by rw [e1]; decide)) (fun _ => ?_))
  refine ⟨.tup [.agg ps0, .c (.int .i64 5)], _, ⟨[0], ⟨rfl, rfl, rfl⟩, ?_⟩, rfl, rfl⟩
  (repeat first | exact trivial | refine ⟨rfl, ?_⟩ | refine ⟨fun _ _ => ⟨rfl, trivial⟩, ?_⟩ | refine ⟨fun _ _ => trivial, ?_⟩ | refine ⟨by omega, ?_⟩ | refine ⟨fun _ _ => eqC_winS, ?_⟩ | refine ⟨fun _ _ => eqC_winM, ?_⟩ | refine ⟨fun _ _ => eqC_winB, ?_⟩ | refine ⟨fun _ _ => eqC_selfB, ?_⟩ | refine ⟨fun _ _ => eqC_mpB, ?_⟩)
end Sx
end Go.Proofs.Ytkjdkeolkigibaa
end

section
/-
  Headers: what they can't be. No condition.
-/
namespace Go.Proofs.Ytkjdkeolkigibaa
set_option linter.unusedVariables false
namespace Sx
open Sha Vi

/-- A header: its space, its slices. -/
structure Hd where
  sp : BitVec 8
  t : Sl
  f : Sl
  k : Sl
  turn : Bool
  n : Sl
structure Hd.Ok (h : Hd) : Prop where
  t : h.t.Ok
  f : h.f.Ok
  k : h.k.Ok
  n : h.n.Ok
abbrev hdC (a b c d : Nat) (h : Hd) : List Seg := [.one (.w8 h.sp), .one (svC a h.t), .one (svC b h.f), .one (svC c h.k), .one (.bool h.turn), .one (svC d h.n)]
abbrev hdB (h : Hd) : List (List Seg) := [svB h.t, svB h.f, svB h.k, svB h.n]
/-- What a header can't be. -/
def checkM (h : Hd) : Int :=
  if 3#8 ≤ h.sp then 5 else if 20 < h.t.l.length ∨ 20 < h.f.l.length ∨ 64 < h.k.l.length then 6 else if h.n.l.length < 1 ∨ 4 < h.n.l.length then 6 else
  if 0 < h.k.l.length ∧ h.sp ≠ 0#8 then 4 else if 0 < h.f.l.length ∧ h.sp = 2#8 then 4 else if h.turn = true ∧ h.sp ≠ 2#8 then 4 else 0
theorem lt2 : ∀ x : BitVec 8, 2#8 < x ↔ 3#8 ≤ x := by decide +kernel
set_option maxRecDepth 20000 in
set_option maxHeartbeats 4000000 in
theorem fn_hcheck (h : Hd) : FnR Try.prog tds 17 4 (hdB h) [.agg (hdC 0 1 2 3 h)] (fun _ => True)
    (fun y hs => y = .a (.c (.int .i64 (checkM h))) ∧ hs = hdB h) := by
  refine fn_of_body tds_ok follows_ Try.func17 rfl (t := .a (.agg (hdC 0 1 2 3 h)) :: anys (Try.f17.ntmps - 1)) rfl (fun w r0 hr _ => ?_)
  obtain ⟨x0, x1, x2, x3, rfl⟩ := len4' hr
  (repeat first | refine And.intro (by omega) ?_ | refine And.intro (by decide) ?_ | refine And.intro rfl ?_ | refine And.intro (fun _ => ?_) (fun h => Bool.noConfusion h) | refine And.intro (fun h => Bool.noConfusion h) (fun _ => ?_))
  by_cases hs3 : 3#8 ≤ h.sp
  · have es3 : decide (3#8 ≤ h.sp) = true := decide_eq_true (by first | exact hs3 | exact (lt2 _).2 hs3 | omega)
    (repeat first | refine And.intro (by omega) ?_ | refine And.intro (by decide) ?_ | refine And.intro rfl ?_ | refine And.intro (fun _ => ?_) (fun h => Bool.noConfusion h) | refine And.intro (fun h => Bool.noConfusion h) (fun _ => ?_) | refine And.intro (fun _ => ?_) (fun h => absurd h (by rw [es3]; decide)) | refine And.intro (fun h => absurd h (by rw [es3]; decide)) (fun _ => ?_))
    refine ⟨.a (.c (.int .i64 5)), _, ⟨[0, 1, 2, 3], ⟨rfl, rfl, rfl⟩, ?_⟩, by unfold checkM; rw [if_pos (by first | exact hs3 | omega)], rfl⟩
    (repeat first | exact trivial | refine ⟨rfl, ?_⟩ | refine ⟨fun _ _ => ⟨rfl, trivial⟩, ?_⟩ | refine ⟨fun _ _ => trivial, ?_⟩ | refine ⟨by omega, ?_⟩ | refine ⟨fun _ _ => eqC_winS, ?_⟩ | refine ⟨fun _ _ => eqC_winM, ?_⟩ | refine ⟨fun _ _ => eqC_winB, ?_⟩ | refine ⟨fun _ _ => eqC_selfB, ?_⟩ | refine ⟨fun _ _ => eqC_mpB, ?_⟩)
    refine eqC_bts (eqC_bts (eqC_bts (eqC_bts ?_)))
    (repeat first | exact trivial | refine ⟨rfl, ?_⟩ | refine ⟨fun _ _ => ⟨rfl, trivial⟩, ?_⟩ | refine ⟨fun _ _ => trivial, ?_⟩ | refine ⟨by omega, ?_⟩ | refine ⟨fun _ _ => eqC_winS, ?_⟩ | refine ⟨fun _ _ => eqC_winM, ?_⟩ | refine ⟨fun _ _ => eqC_winB, ?_⟩ | refine ⟨fun _ _ => eqC_selfB, ?_⟩ | refine ⟨fun _ _ => eqC_mpB, ?_⟩)
  · have es3 : decide (3#8 ≤ h.sp) = false := decide_eq_false (by first | exact hs3 | exact (lt2 _).2 hs3 | omega)
    (repeat first | refine And.intro (by omega) ?_ | refine And.intro (by decide) ?_ | refine And.intro rfl ?_ | refine And.intro (fun _ => ?_) (fun h => Bool.noConfusion h) | refine And.intro (fun h => Bool.noConfusion h) (fun _ => ?_) | refine And.intro (fun _ => ?_) (fun h => absurd h (by rw [es3]; decide)) | refine And.intro (fun h => absurd h (by rw [es3]; decide)) (fun _ => ?_))
    by_cases ht : 20 < h.t.l.length
    · have et : decide ((20 : Int) < (h.t.l.length : Int)) = true := decide_eq_true (by first | exact ht | exact (lt2 _).2 ht | omega)
      (repeat first | refine And.intro (by omega) ?_ | refine And.intro (by decide) ?_ | refine And.intro rfl ?_ | refine And.intro (fun _ => ?_) (fun h => Bool.noConfusion h) | refine And.intro (fun h => Bool.noConfusion h) (fun _ => ?_) | refine And.intro (fun _ => ?_) (fun h => absurd h (by rw [et]; decide)) | refine And.intro (fun h => absurd h (by rw [et]; decide)) (fun _ => ?_))
      refine ⟨.a (.c (.int .i64 6)), _, ⟨[0, 1, 2, 3], ⟨rfl, rfl, rfl⟩, ?_⟩, by unfold checkM; rw [if_neg (by first | exact hs3 | omega), if_pos (by first | exact ht | omega)], rfl⟩
      (repeat first | exact trivial | refine ⟨rfl, ?_⟩ | refine ⟨fun _ _ => ⟨rfl, trivial⟩, ?_⟩ | refine ⟨fun _ _ => trivial, ?_⟩ | refine ⟨by omega, ?_⟩ | refine ⟨fun _ _ => eqC_winS, ?_⟩ | refine ⟨fun _ _ => eqC_winM, ?_⟩ | refine ⟨fun _ _ => eqC_winB, ?_⟩ | refine ⟨fun _ _ => eqC_selfB, ?_⟩ | refine ⟨fun _ _ => eqC_mpB, ?_⟩)
      refine eqC_bts (eqC_bts (eqC_bts (eqC_bts ?_)))
      (repeat first | exact trivial | refine ⟨rfl, ?_⟩ | refine ⟨fun _ _ => ⟨rfl, trivial⟩, ?_⟩ | refine ⟨fun _ _ => trivial, ?_⟩ | refine ⟨by omega, ?_⟩ | refine ⟨fun _ _ => eqC_winS, ?_⟩ | refine ⟨fun _ _ => eqC_winM, ?_⟩ | refine ⟨fun _ _ => eqC_winB, ?_⟩ | refine ⟨fun _ _ => eqC_selfB, ?_⟩ | refine ⟨fun _ _ => eqC_mpB, ?_⟩)
    · have et : decide ((20 : Int) < (h.t.l.length : Int)) = false := decide_eq_false (by first | exact ht | exact (lt2 _).2 ht | omega)
      (repeat first | refine And.intro (by omega) ?_ | refine And.intro (by decide) ?_ | refine And.intro rfl ?_ | refine And.intro (fun _ => ?_) (fun h => Bool.noConfusion h) | refine And.intro (fun h => Bool.noConfusion h) (fun _ => ?_) | refine And.intro (fun _ => ?_) (fun h => absurd h (by rw [et]; decide)) | refine And.intro (fun h => absurd h (by rw [et]; decide)) (fun _ => ?_))
      by_cases hf : 20 < h.f.l.length
      · have ef : decide ((20 : Int) < (h.f.l.length : Int)) = true := decide_eq_true (by first | exact hf | exact (lt2 _).2 hf | omega)
        (repeat first | refine And.intro (by omega) ?_ | refine And.intro (by decide) ?_ | refine And.intro rfl ?_ | refine And.intro (fun _ => ?_) (fun h => Bool.noConfusion h) | refine And.intro (fun h => Bool.noConfusion h) (fun _ => ?_) | refine And.intro (fun _ => ?_) (fun h => absurd h (by rw [et]; decide)) | refine And.intro (fun h => absurd h (by rw [et]; decide)) (fun _ => ?_) | refine And.intro (fun _ => ?_) (fun h => absurd h (by rw [ef]; decide)) | refine And.intro (fun h => absurd h (by rw [ef]; decide)) (fun _ => ?_))
        refine ⟨.a (.c (.int .i64 6)), _, ⟨[0, 1, 2, 3], ⟨rfl, rfl, rfl⟩, ?_⟩, by unfold checkM; rw [if_neg (by first | exact hs3 | omega), if_pos (by first | exact hf | omega)], rfl⟩
        (repeat first | exact trivial | refine ⟨rfl, ?_⟩ | refine ⟨fun _ _ => ⟨rfl, trivial⟩, ?_⟩ | refine ⟨fun _ _ => trivial, ?_⟩ | refine ⟨by omega, ?_⟩ | refine ⟨fun _ _ => eqC_winS, ?_⟩ | refine ⟨fun _ _ => eqC_winM, ?_⟩ | refine ⟨fun _ _ => eqC_winB, ?_⟩ | refine ⟨fun _ _ => eqC_selfB, ?_⟩ | refine ⟨fun _ _ => eqC_mpB, ?_⟩)
        refine eqC_bts (eqC_bts (eqC_bts (eqC_bts ?_)))
        (repeat first | exact trivial | refine ⟨rfl, ?_⟩ | refine ⟨fun _ _ => ⟨rfl, trivial⟩, ?_⟩ | refine ⟨fun _ _ => trivial, ?_⟩ | refine ⟨by omega, ?_⟩ | refine ⟨fun _ _ => eqC_winS, ?_⟩ | refine ⟨fun _ _ => eqC_winM, ?_⟩ | refine ⟨fun _ _ => eqC_winB, ?_⟩ | refine ⟨fun _ _ => eqC_selfB, ?_⟩ | refine ⟨fun _ _ => eqC_mpB, ?_⟩)
      · have ef : decide ((20 : Int) < (h.f.l.length : Int)) = false := decide_eq_false (by first | exact hf | exact (lt2 _).2 hf | omega)
        (repeat first | refine And.intro (by omega) ?_ | refine And.intro (by decide) ?_ | refine And.intro rfl ?_ | refine And.intro (fun _ => ?_) (fun h => Bool.noConfusion h) | refine And.intro (fun h => Bool.noConfusion h) (fun _ => ?_) | refine And.intro (fun _ => ?_) (fun h => absurd h (by rw [et]; decide)) | refine And.intro (fun h => absurd h (by rw [et]; decide)) (fun _ => ?_) | refine And.intro (fun _ => ?_) (fun h => absurd h (by rw [ef]; decide)) | refine And.intro (fun h => absurd h (by rw [ef]; decide)) (fun _ => ?_))
        by_cases hk : 64 < h.k.l.length
        · have ek : decide ((64 : Int) < (h.k.l.length : Int)) = true := decide_eq_true (by first | exact hk | exact (lt2 _).2 hk | omega)
          (repeat first | refine And.intro (by omega) ?_ | refine And.intro (by decide) ?_ | refine And.intro rfl ?_ | refine And.intro (fun _ => ?_) (fun h => Bool.noConfusion h) | refine And.intro (fun h => Bool.noConfusion h) (fun _ => ?_) | refine And.intro (fun _ => ?_) (fun h => absurd h (by rw [et]; decide)) | refine And.intro (fun h => absurd h (by rw [et]; decide)) (fun _ => ?_) | refine And.intro (fun _ => ?_) (fun h => absurd h (by rw [ef]; decide)) | refine And.intro (fun h => absurd h (by rw [ef]; decide)) (fun _ => ?_) | refine And.intro (fun _ => ?_) (fun h => absurd h (by rw [ek]; decide)) | refine And.intro (fun h => absurd h (by rw [ek]; decide)) (fun _ => ?_))
          refine ⟨.a (.c (.int .i64 6)), _, ⟨[0, 1, 2, 3], ⟨rfl, rfl, rfl⟩, ?_⟩, by unfold checkM; rw [if_neg (by first | exact hs3 | omega), if_pos (by first | exact hk | omega)], rfl⟩
          (repeat first | exact trivial | refine ⟨rfl, ?_⟩ | refine ⟨fun _ _ => ⟨rfl, trivial⟩, ?_⟩ | refine ⟨fun _ _ => trivial, ?_⟩ | refine ⟨by omega, ?_⟩ | refine ⟨fun _ _ => eqC_winS, ?_⟩ | refine ⟨fun _ _ => eqC_winM, ?_⟩ | refine ⟨fun _ _ => eqC_winB, ?_⟩ | refine ⟨fun _ _ => eqC_selfB, ?_⟩ | refine ⟨fun _ _ => eqC_mpB, ?_⟩)
          refine eqC_bts (eqC_bts (eqC_bts (eqC_bts ?_)))
          (repeat first | exact trivial | refine ⟨rfl, ?_⟩ | refine ⟨fun _ _ => ⟨rfl, trivial⟩, ?_⟩ | refine ⟨fun _ _ => trivial, ?_⟩ | refine ⟨by omega, ?_⟩ | refine ⟨fun _ _ => eqC_winS, ?_⟩ | refine ⟨fun _ _ => eqC_winM, ?_⟩ | refine ⟨fun _ _ => eqC_winB, ?_⟩ | refine ⟨fun _ _ => eqC_selfB, ?_⟩ | refine ⟨fun _ _ => eqC_mpB, ?_⟩)
        · have ek : decide ((64 : Int) < (h.k.l.length : Int)) = false := decide_eq_false (by first | exact hk | exact (lt2 _).2 hk | omega)
          (repeat first | refine And.intro (by omega) ?_ | refine And.intro (by decide) ?_ | refine And.intro rfl ?_ | refine And.intro (fun _ => ?_) (fun h => Bool.noConfusion h) | refine And.intro (fun h => Bool.noConfusion h) (fun _ => ?_) | refine And.intro (fun _ => ?_) (fun h => absurd h (by rw [et]; decide)) | refine And.intro (fun h => absurd h (by rw [et]; decide)) (fun _ => ?_) | refine And.intro (fun _ => ?_) (fun h => absurd h (by rw [ef]; decide)) | refine And.intro (fun h => absurd h (by rw [ef]; decide)) (fun _ => ?_) | refine And.intro (fun _ => ?_) (fun h => absurd h (by rw [ek]; decide)) | refine And.intro (fun h => absurd h (by rw [ek]; decide)) (fun _ => ?_))
          by_cases hn0 : h.n.l.length < 1
          · have en0 : decide ((h.n.l.length : Int) < 1) = true := decide_eq_true (by first | exact hn0 | exact (lt2 _).2 hn0 | omega)
            (repeat first | refine And.intro (by omega) ?_ | refine And.intro (by decide) ?_ | refine And.intro rfl ?_ | refine And.intro (fun _ => ?_) (fun h => Bool.noConfusion h) | refine And.intro (fun h => Bool.noConfusion h) (fun _ => ?_) | refine And.intro (fun _ => ?_) (fun h => absurd h (by rw [en0]; decide)) | refine And.intro (fun h => absurd h (by rw [en0]; decide)) (fun _ => ?_))
            refine ⟨.a (.c (.int .i64 6)), _, ⟨[0, 1, 2, 3], ⟨rfl, rfl, rfl⟩, ?_⟩, by unfold checkM; rw [if_neg (by first | exact hs3 | omega), if_neg (by first | exact hk | omega), if_pos (by first | exact hn0 | omega)], rfl⟩
            (repeat first | exact trivial | refine ⟨rfl, ?_⟩ | refine ⟨fun _ _ => ⟨rfl, trivial⟩, ?_⟩ | refine ⟨fun _ _ => trivial, ?_⟩ | refine ⟨by omega, ?_⟩ | refine ⟨fun _ _ => eqC_winS, ?_⟩ | refine ⟨fun _ _ => eqC_winM, ?_⟩ | refine ⟨fun _ _ => eqC_winB, ?_⟩ | refine ⟨fun _ _ => eqC_selfB, ?_⟩ | refine ⟨fun _ _ => eqC_mpB, ?_⟩)
            refine eqC_bts (eqC_bts (eqC_bts (eqC_bts ?_)))
            (repeat first | exact trivial | refine ⟨rfl, ?_⟩ | refine ⟨fun _ _ => ⟨rfl, trivial⟩, ?_⟩ | refine ⟨fun _ _ => trivial, ?_⟩ | refine ⟨by omega, ?_⟩ | refine ⟨fun _ _ => eqC_winS, ?_⟩ | refine ⟨fun _ _ => eqC_winM, ?_⟩ | refine ⟨fun _ _ => eqC_winB, ?_⟩ | refine ⟨fun _ _ => eqC_selfB, ?_⟩ | refine ⟨fun _ _ => eqC_mpB, ?_⟩)
          · have en0 : decide ((h.n.l.length : Int) < 1) = false := decide_eq_false (by first | exact hn0 | exact (lt2 _).2 hn0 | omega)
            (repeat first | refine And.intro (by omega) ?_ | refine And.intro (by decide) ?_ | refine And.intro rfl ?_ | refine And.intro (fun _ => ?_) (fun h => Bool.noConfusion h) | refine And.intro (fun h => Bool.noConfusion h) (fun _ => ?_) | refine And.intro (fun _ => ?_) (fun h => absurd h (by rw [en0]; decide)) | refine And.intro (fun h => absurd h (by rw [en0]; decide)) (fun _ => ?_))
            by_cases hn4 : 4 < h.n.l.length
            · have en4 : decide ((4 : Int) < (h.n.l.length : Int)) = true := decide_eq_true (by first | exact hn4 | exact (lt2 _).2 hn4 | omega)
              (repeat first | refine And.intro (by omega) ?_ | refine And.intro (by decide) ?_ | refine And.intro rfl ?_ | refine And.intro (fun _ => ?_) (fun h => Bool.noConfusion h) | refine And.intro (fun h => Bool.noConfusion h) (fun _ => ?_) | refine And.intro (fun _ => ?_) (fun h => absurd h (by rw [en0]; decide)) | refine And.intro (fun h => absurd h (by rw [en0]; decide)) (fun _ => ?_) | refine And.intro (fun _ => ?_) (fun h => absurd h (by rw [en4]; decide)) | refine And.intro (fun h => absurd h (by rw [en4]; decide)) (fun _ => ?_))
              refine ⟨.a (.c (.int .i64 6)), _, ⟨[0, 1, 2, 3], ⟨rfl, rfl, rfl⟩, ?_⟩, by unfold checkM; rw [if_neg (by first | exact hs3 | omega), if_neg (by first | exact hk | omega), if_pos (by first | exact hn4 | omega)], rfl⟩
              (repeat first | exact trivial | refine ⟨rfl, ?_⟩ | refine ⟨fun _ _ => ⟨rfl, trivial⟩, ?_⟩ | refine ⟨fun _ _ => trivial, ?_⟩ | refine ⟨by omega, ?_⟩ | refine ⟨fun _ _ => eqC_winS, ?_⟩ | refine ⟨fun _ _ => eqC_winM, ?_⟩ | refine ⟨fun _ _ => eqC_winB, ?_⟩ | refine ⟨fun _ _ => eqC_selfB, ?_⟩ | refine ⟨fun _ _ => eqC_mpB, ?_⟩)
              refine eqC_bts (eqC_bts (eqC_bts (eqC_bts ?_)))
              (repeat first | exact trivial | refine ⟨rfl, ?_⟩ | refine ⟨fun _ _ => ⟨rfl, trivial⟩, ?_⟩ | refine ⟨fun _ _ => trivial, ?_⟩ | refine ⟨by omega, ?_⟩ | refine ⟨fun _ _ => eqC_winS, ?_⟩ | refine ⟨fun _ _ => eqC_winM, ?_⟩ | refine ⟨fun _ _ => eqC_winB, ?_⟩ | refine ⟨fun _ _ => eqC_selfB, ?_⟩ | refine ⟨fun _ _ => eqC_mpB, ?_⟩)
            · have en4 : decide ((4 : Int) < (h.n.l.length : Int)) = false := decide_eq_false (by first | exact hn4 | exact (lt2 _).2 hn4 | omega)
              (repeat first | refine And.intro (by omega) ?_ | refine And.intro (by decide) ?_ | refine And.intro rfl ?_ | refine And.intro (fun _ => ?_) (fun h => Bool.noConfusion h) | refine And.intro (fun h => Bool.noConfusion h) (fun _ => ?_) | refine And.intro (fun _ => ?_) (fun h => absurd h (by rw [en0]; decide)) | refine And.intro (fun h => absurd h (by rw [en0]; decide)) (fun _ => ?_) | refine And.intro (fun _ => ?_) (fun h => absurd h (by rw [en4]; decide)) | refine And.intro (fun h => absurd h (by rw [en4]; decide)) (fun _ => ?_))
              by_cases hk0 : 0 < h.k.l.length
              · have ek0 : decide ((0 : Int) < (h.k.l.length : Int)) = true := decide_eq_true (by first | exact hk0 | exact (lt2 _).2 hk0 | omega)
                (repeat first | refine And.intro (by omega) ?_ | refine And.intro (by decide) ?_ | refine And.intro rfl ?_ | refine And.intro (fun _ => ?_) (fun h => Bool.noConfusion h) | refine And.intro (fun h => Bool.noConfusion h) (fun _ => ?_) | refine And.intro (fun _ => ?_) (fun h => absurd h (by rw [ek0]; decide)) | refine And.intro (fun h => absurd h (by rw [ek0]; decide)) (fun _ => ?_))
                by_cases hsn0 : h.sp ≠ 0#8
                · have esn0 : decide (h.sp ≠ 0#8) = true := decide_eq_true (by first | exact hsn0 | exact (lt2 _).2 hsn0 | omega)
                  (repeat first | refine And.intro (by omega) ?_ | refine And.intro (by decide) ?_ | refine And.intro rfl ?_ | refine And.intro (fun _ => ?_) (fun h => Bool.noConfusion h) | refine And.intro (fun h => Bool.noConfusion h) (fun _ => ?_) | refine And.intro (fun _ => ?_) (fun h => absurd h (by rw [ek0]; decide)) | refine And.intro (fun h => absurd h (by rw [ek0]; decide)) (fun _ => ?_) | refine And.intro (fun _ => ?_) (fun h => absurd h (by rw [esn0]; decide)) | refine And.intro (fun h => absurd h (by rw [esn0]; decide)) (fun _ => ?_))
                  refine ⟨.a (.c (.int .i64 4)), _, ⟨[0, 1, 2, 3], ⟨rfl, rfl, rfl⟩, ?_⟩, by unfold checkM; rw [if_neg (by first | exact hs3 | omega), if_neg (by first | exact hk | omega), if_neg (by first | exact hn4 | omega), if_pos (by first | exact ⟨hk0, hsn0⟩ | exact ⟨hsn0, hk0⟩)], rfl⟩
                  (repeat first | exact trivial | refine ⟨rfl, ?_⟩ | refine ⟨fun _ _ => ⟨rfl, trivial⟩, ?_⟩ | refine ⟨fun _ _ => trivial, ?_⟩ | refine ⟨by omega, ?_⟩ | refine ⟨fun _ _ => eqC_winS, ?_⟩ | refine ⟨fun _ _ => eqC_winM, ?_⟩ | refine ⟨fun _ _ => eqC_winB, ?_⟩ | refine ⟨fun _ _ => eqC_selfB, ?_⟩ | refine ⟨fun _ _ => eqC_mpB, ?_⟩)
                  refine eqC_bts (eqC_bts (eqC_bts (eqC_bts ?_)))
                  (repeat first | exact trivial | refine ⟨rfl, ?_⟩ | refine ⟨fun _ _ => ⟨rfl, trivial⟩, ?_⟩ | refine ⟨fun _ _ => trivial, ?_⟩ | refine ⟨by omega, ?_⟩ | refine ⟨fun _ _ => eqC_winS, ?_⟩ | refine ⟨fun _ _ => eqC_winM, ?_⟩ | refine ⟨fun _ _ => eqC_winB, ?_⟩ | refine ⟨fun _ _ => eqC_selfB, ?_⟩ | refine ⟨fun _ _ => eqC_mpB, ?_⟩)
                · have esn0 : decide (h.sp ≠ 0#8) = false := decide_eq_false (by first | exact hsn0 | exact (lt2 _).2 hsn0 | omega)
                  (repeat first | refine And.intro (by omega) ?_ | refine And.intro (by decide) ?_ | refine And.intro rfl ?_ | refine And.intro (fun _ => ?_) (fun h => Bool.noConfusion h) | refine And.intro (fun h => Bool.noConfusion h) (fun _ => ?_) | refine And.intro (fun _ => ?_) (fun h => absurd h (by rw [ek0]; decide)) | refine And.intro (fun h => absurd h (by rw [ek0]; decide)) (fun _ => ?_) | refine And.intro (fun _ => ?_) (fun h => absurd h (by rw [esn0]; decide)) | refine And.intro (fun h => absurd h (by rw [esn0]; decide)) (fun _ => ?_))
                  by_cases hf0 : 0 < h.f.l.length
                  · have ef0 : decide ((0 : Int) < (h.f.l.length : Int)) = true := decide_eq_true (by first | exact hf0 | exact (lt2 _).2 hf0 | omega)
                    (repeat first | refine And.intro (by omega) ?_ | refine And.intro (by decide) ?_ | refine And.intro rfl ?_ | refine And.intro (fun _ => ?_) (fun h => Bool.noConfusion h) | refine And.intro (fun h => Bool.noConfusion h) (fun _ => ?_) | refine And.intro (fun _ => ?_) (fun h => absurd h (by rw [ef0]; decide)) | refine And.intro (fun h => absurd h (by rw [ef0]; decide)) (fun _ => ?_))
                    by_cases hse2 : h.sp = 2#8
                    · have ese2 : decide (h.sp = 2#8) = true := decide_eq_true (by first | exact hse2 | exact (lt2 _).2 hse2 | omega)
                      (repeat first | refine And.intro (by omega) ?_ | refine And.intro (by decide) ?_ | refine And.intro rfl ?_ | refine And.intro (fun _ => ?_) (fun h => Bool.noConfusion h) | refine And.intro (fun h => Bool.noConfusion h) (fun _ => ?_) | refine And.intro (fun _ => ?_) (fun h => absurd h (by rw [ef0]; decide)) | refine And.intro (fun h => absurd h (by rw [ef0]; decide)) (fun _ => ?_) | refine And.intro (fun _ => ?_) (fun h => absurd h (by rw [ese2]; decide)) | refine And.intro (fun h => absurd h (by rw [ese2]; decide)) (fun _ => ?_))
                      refine ⟨.a (.c (.int .i64 4)), _, ⟨[0, 1, 2, 3], ⟨rfl, rfl, rfl⟩, ?_⟩, by unfold checkM; rw [if_neg (by first | exact hs3 | omega), if_neg (by first | exact hk | omega), if_neg (by first | exact hn4 | omega), if_neg (fun e => by first | exact hsn0 e.1 | exact hsn0 e.2), if_pos (by first | exact ⟨hf0, hse2⟩ | exact ⟨hse2, hf0⟩)], rfl⟩
                      (repeat first | exact trivial | refine ⟨rfl, ?_⟩ | refine ⟨fun _ _ => ⟨rfl, trivial⟩, ?_⟩ | refine ⟨fun _ _ => trivial, ?_⟩ | refine ⟨by omega, ?_⟩ | refine ⟨fun _ _ => eqC_winS, ?_⟩ | refine ⟨fun _ _ => eqC_winM, ?_⟩ | refine ⟨fun _ _ => eqC_winB, ?_⟩ | refine ⟨fun _ _ => eqC_selfB, ?_⟩ | refine ⟨fun _ _ => eqC_mpB, ?_⟩)
                      refine eqC_bts (eqC_bts (eqC_bts (eqC_bts ?_)))
                      (repeat first | exact trivial | refine ⟨rfl, ?_⟩ | refine ⟨fun _ _ => ⟨rfl, trivial⟩, ?_⟩ | refine ⟨fun _ _ => trivial, ?_⟩ | refine ⟨by omega, ?_⟩ | refine ⟨fun _ _ => eqC_winS, ?_⟩ | refine ⟨fun _ _ => eqC_winM, ?_⟩ | refine ⟨fun _ _ => eqC_winB, ?_⟩ | refine ⟨fun _ _ => eqC_selfB, ?_⟩ | refine ⟨fun _ _ => eqC_mpB, ?_⟩)
                    · have ese2 : decide (h.sp = 2#8) = false := decide_eq_false (by first | exact hse2 | exact (lt2 _).2 hse2 | omega)
                      (repeat first | refine And.intro (by omega) ?_ | refine And.intro (by decide) ?_ | refine And.intro rfl ?_ | refine And.intro (fun _ => ?_) (fun h => Bool.noConfusion h) | refine And.intro (fun h => Bool.noConfusion h) (fun _ => ?_) | refine And.intro (fun _ => ?_) (fun h => absurd h (by rw [ef0]; decide)) | refine And.intro (fun h => absurd h (by rw [ef0]; decide)) (fun _ => ?_) | refine And.intro (fun _ => ?_) (fun h => absurd h (by rw [ese2]; decide)) | refine And.intro (fun h => absurd h (by rw [ese2]; decide)) (fun _ => ?_))
                      by_cases hu : h.turn = true
                      · have eu : h.turn = true := hu
                        (repeat first | refine And.intro (by omega) ?_ | refine And.intro (by decide) ?_ | refine And.intro rfl ?_ | refine And.intro (fun _ => ?_) (fun h => Bool.noConfusion h) | refine And.intro (fun h => Bool.noConfusion h) (fun _ => ?_) | refine And.intro (fun _ => ?_) (fun h => absurd h (by rw [eu]; decide)) | refine And.intro (fun h => absurd h (by rw [eu]; decide)) (fun _ => ?_))
                        by_cases hsn2 : h.sp ≠ 2#8
                        · have esn2 : decide (h.sp ≠ 2#8) = true := decide_eq_true (by first | exact hsn2 | exact (lt2 _).2 hsn2 | omega)
                          (repeat first | refine And.intro (by omega) ?_ | refine And.intro (by decide) ?_ | refine And.intro rfl ?_ | refine And.intro (fun _ => ?_) (fun h => Bool.noConfusion h) | refine And.intro (fun h => Bool.noConfusion h) (fun _ => ?_) | refine And.intro (fun _ => ?_) (fun h => absurd h (by rw [eu]; decide)) | refine And.intro (fun h => absurd h (by rw [eu]; decide)) (fun _ => ?_) | refine And.intro (fun _ => ?_) (fun h => absurd h (by rw [esn2]; decide)) | refine And.intro (fun h => absurd h (by rw [esn2]; decide)) (fun _ => ?_))
                          refine ⟨.a (.c (.int .i64 4)), _, ⟨[0, 1, 2, 3], ⟨rfl, rfl, rfl⟩, ?_⟩, by unfold checkM; rw [if_neg (by first | exact hs3 | omega), if_neg (by first | exact hk | omega), if_neg (by first | exact hn4 | omega), if_neg (fun e => by first | exact hsn0 e.1 | exact hsn0 e.2), if_neg (fun e => by first | exact hse2 e.1 | exact hse2 e.2), if_pos (by first | exact ⟨hu, hsn2⟩ | exact ⟨hsn2, hu⟩)], rfl⟩
                          (repeat first | exact trivial | refine ⟨rfl, ?_⟩ | refine ⟨fun _ _ => ⟨rfl, trivial⟩, ?_⟩ | refine ⟨fun _ _ => trivial, ?_⟩ | refine ⟨by omega, ?_⟩ | refine ⟨fun _ _ => eqC_winS, ?_⟩ | refine ⟨fun _ _ => eqC_winM, ?_⟩ | refine ⟨fun _ _ => eqC_winB, ?_⟩ | refine ⟨fun _ _ => eqC_selfB, ?_⟩ | refine ⟨fun _ _ => eqC_mpB, ?_⟩)
                          refine eqC_bts (eqC_bts (eqC_bts (eqC_bts ?_)))
                          (repeat first | exact trivial | refine ⟨rfl, ?_⟩ | refine ⟨fun _ _ => ⟨rfl, trivial⟩, ?_⟩ | refine ⟨fun _ _ => trivial, ?_⟩ | refine ⟨by omega, ?_⟩ | refine ⟨fun _ _ => eqC_winS, ?_⟩ | refine ⟨fun _ _ => eqC_winM, ?_⟩ | refine ⟨fun _ _ => eqC_winB, ?_⟩ | refine ⟨fun _ _ => eqC_selfB, ?_⟩ | refine ⟨fun _ _ => eqC_mpB, ?_⟩)
                        · have esn2 : decide (h.sp ≠ 2#8) = false := decide_eq_false (by first | exact hsn2 | exact (lt2 _).2 hsn2 | omega)
                          (repeat first | refine And.intro (by omega) ?_ | refine And.intro (by decide) ?_ | refine And.intro rfl ?_ | refine And.intro (fun _ => ?_) (fun h => Bool.noConfusion h) | refine And.intro (fun h => Bool.noConfusion h) (fun _ => ?_) | refine And.intro (fun _ => ?_) (fun h => absurd h (by rw [eu]; decide)) | refine And.intro (fun h => absurd h (by rw [eu]; decide)) (fun _ => ?_) | refine And.intro (fun _ => ?_) (fun h => absurd h (by rw [esn2]; decide)) | refine And.intro (fun h => absurd h (by rw [esn2]; decide)) (fun _ => ?_))
                          refine ⟨.a (.c (.int .i64 0)), _, ⟨[0, 1, 2, 3], ⟨rfl, rfl, rfl⟩, ?_⟩, by unfold checkM; rw [if_neg (by first | exact hs3 | omega), if_neg (by first | exact hk | omega), if_neg (by first | exact hn4 | omega), if_neg (fun e => by first | exact hsn0 e.1 | exact hsn0 e.2), if_neg (fun e => by first | exact hse2 e.1 | exact hse2 e.2), if_neg (fun e => by first | exact hsn2 e.1 | exact hsn2 e.2)], rfl⟩
                          (repeat first | exact trivial | refine ⟨rfl, ?_⟩ | refine ⟨fun _ _ => ⟨rfl, trivial⟩, ?_⟩ | refine ⟨fun _ _ => trivial, ?_⟩ | refine ⟨by omega, ?_⟩ | refine ⟨fun _ _ => eqC_winS, ?_⟩ | refine ⟨fun _ _ => eqC_winM, ?_⟩ | refine ⟨fun _ _ => eqC_winB, ?_⟩ | refine ⟨fun _ _ => eqC_selfB, ?_⟩ | refine ⟨fun _ _ => eqC_mpB, ?_⟩)
                          refine eqC_bts (eqC_bts (eqC_bts (eqC_bts ?_)))
                          (repeat first | exact trivial | refine ⟨rfl, ?_⟩ | refine ⟨fun _ _ => ⟨rfl, trivial⟩, ?_⟩ | refine ⟨fun _ _ => trivial, ?_⟩ | refine ⟨by omega, ?_⟩ | refine ⟨fun _ _ => eqC_winS, ?_⟩ | refine ⟨fun _ _ => eqC_winM, ?_⟩ | refine ⟨fun _ _ => eqC_winB, ?_⟩ | refine ⟨fun _ _ => eqC_selfB, ?_⟩ | refine ⟨fun _ _ => eqC_mpB, ?_⟩)
                      · have eu : h.turn = false := by simpa using hu
                        (repeat first | refine And.intro (by omega) ?_ | refine And.intro (by decide) ?_ | refine And.intro rfl ?_ | refine And.intro (fun _ => ?_) (fun h => Bool.noConfusion h) | refine And.intro (fun h => Bool.noConfusion h) (fun _ => ?_) | refine And.intro (fun _ => ?_) (fun h => absurd h (by rw [eu]; decide)) | refine And.intro (fun h => absurd h (by rw [eu]; decide)) (fun _ => ?_))
                        refine ⟨.a (.c (.int .i64 0)), _, ⟨[0, 1, 2, 3], ⟨rfl, rfl, rfl⟩, ?_⟩, by unfold checkM; rw [if_neg (by first | exact hs3 | omega), if_neg (by first | exact hk | omega), if_neg (by first | exact hn4 | omega), if_neg (fun e => by first | exact hsn0 e.1 | exact hsn0 e.2), if_neg (fun e => by first | exact hse2 e.1 | exact hse2 e.2), if_neg (fun e => by first | exact hu e.1 | exact hu e.2)], rfl⟩
                        (repeat first | exact trivial | refine ⟨rfl, ?_⟩ | refine ⟨fun _ _ => ⟨rfl, trivial⟩, ?_⟩ | refine ⟨fun _ _ => trivial, ?_⟩ | refine ⟨by omega, ?_⟩ | refine ⟨fun _ _ => eqC_winS, ?_⟩ | refine ⟨fun _ _ => eqC_winM, ?_⟩ | refine ⟨fun _ _ => eqC_winB, ?_⟩ | refine ⟨fun _ _ => eqC_selfB, ?_⟩ | refine ⟨fun _ _ => eqC_mpB, ?_⟩)
                        refine eqC_bts (eqC_bts (eqC_bts (eqC_bts ?_)))
                        (repeat first | exact trivial | refine ⟨rfl, ?_⟩ | refine ⟨fun _ _ => ⟨rfl, trivial⟩, ?_⟩ | refine ⟨fun _ _ => trivial, ?_⟩ | refine ⟨by omega, ?_⟩ | refine ⟨fun _ _ => eqC_winS, ?_⟩ | refine ⟨fun _ _ => eqC_winM, ?_⟩ | refine ⟨fun _ _ => eqC_winB, ?_⟩ | refine ⟨fun _ _ => eqC_selfB, ?_⟩ | refine ⟨fun _ _ => eqC_mpB, ?_⟩)
                  · have ef0 : decide ((0 : Int) < (h.f.l.length : Int)) = false := decide_eq_false (by first | exact hf0 | exact (lt2 _).2 hf0 | omega)
                    (repeat first | refine And.intro (by omega) ?_ | refine And.intro (by decide) ?_ | refine And.intro rfl ?_ | refine And.intro (fun _ => ?_) (fun h => Bool.noConfusion h) | refine And.intro (fun h => Bool.noConfusion h) (fun _ => ?_) | refine And.intro (fun _ => ?_) (fun h => absurd h (by rw [ef0]; decide)) | refine And.intro (fun h => absurd h (by rw [ef0]; decide)) (fun _ => ?_))
                    by_cases hu : h.turn = true
                    · have eu : h.turn = true := hu
                      (repeat first | refine And.intro (by omega) ?_ | refine And.intro (by decide) ?_ | refine And.intro rfl ?_ | refine And.intro (fun _ => ?_) (fun h => Bool.noConfusion h) | refine And.intro (fun h => Bool.noConfusion h) (fun _ => ?_) | refine And.intro (fun _ => ?_) (fun h => absurd h (by rw [eu]; decide)) | refine And.intro (fun h => absurd h (by rw [eu]; decide)) (fun _ => ?_))
                      by_cases hsn2 : h.sp ≠ 2#8
                      · have esn2 : decide (h.sp ≠ 2#8) = true := decide_eq_true (by first | exact hsn2 | exact (lt2 _).2 hsn2 | omega)
                        (repeat first | refine And.intro (by omega) ?_ | refine And.intro (by decide) ?_ | refine And.intro rfl ?_ | refine And.intro (fun _ => ?_) (fun h => Bool.noConfusion h) | refine And.intro (fun h => Bool.noConfusion h) (fun _ => ?_) | refine And.intro (fun _ => ?_) (fun h => absurd h (by rw [eu]; decide)) | refine And.intro (fun h => absurd h (by rw [eu]; decide)) (fun _ => ?_) | refine And.intro (fun _ => ?_) (fun h => absurd h (by rw [esn2]; decide)) | refine And.intro (fun h => absurd h (by rw [esn2]; decide)) (fun _ => ?_))
                        refine ⟨.a (.c (.int .i64 4)), _, ⟨[0, 1, 2, 3], ⟨rfl, rfl, rfl⟩, ?_⟩, by unfold checkM; rw [if_neg (by first | exact hs3 | omega), if_neg (by first | exact hk | omega), if_neg (by first | exact hn4 | omega), if_neg (fun e => by first | exact hsn0 e.1 | exact hsn0 e.2), if_neg (fun e => by first | exact hf0 e.1 | exact hf0 e.2), if_pos (by first | exact ⟨hu, hsn2⟩ | exact ⟨hsn2, hu⟩)], rfl⟩
                        (repeat first | exact trivial | refine ⟨rfl, ?_⟩ | refine ⟨fun _ _ => ⟨rfl, trivial⟩, ?_⟩ | refine ⟨fun _ _ => trivial, ?_⟩ | refine ⟨by omega, ?_⟩ | refine ⟨fun _ _ => eqC_winS, ?_⟩ | refine ⟨fun _ _ => eqC_winM, ?_⟩ | refine ⟨fun _ _ => eqC_winB, ?_⟩ | refine ⟨fun _ _ => eqC_selfB, ?_⟩ | refine ⟨fun _ _ => eqC_mpB, ?_⟩)
                        refine eqC_bts (eqC_bts (eqC_bts (eqC_bts ?_)))
                        (repeat first | exact trivial | refine ⟨rfl, ?_⟩ | refine ⟨fun _ _ => ⟨rfl, trivial⟩, ?_⟩ | refine ⟨fun _ _ => trivial, ?_⟩ | refine ⟨by omega, ?_⟩ | refine ⟨fun _ _ => eqC_winS, ?_⟩ | refine ⟨fun _ _ => eqC_winM, ?_⟩ | refine ⟨fun _ _ => eqC_winB, ?_⟩ | refine ⟨fun _ _ => eqC_selfB, ?_⟩ | refine ⟨fun _ _ => eqC_mpB, ?_⟩)
                      · have esn2 : decide (h.sp ≠ 2#8) = false := decide_eq_false (by first | exact hsn2 | exact (lt2 _).2 hsn2 | omega)
                        (repeat first | refine And.intro (by omega) ?_ | refine And.intro (by decide) ?_ | refine And.intro rfl ?_ | refine And.intro (fun _ => ?_) (fun h => Bool.noConfusion h) | refine And.intro (fun h => Bool.noConfusion h) (fun _ => ?_) | refine And.intro (fun _ => ?_) (fun h => absurd h (by rw [eu]; decide)) | refine And.intro (fun h => absurd h (by rw [eu]; decide)) (fun _ => ?_) | refine And.intro (fun _ => ?_) (fun h => absurd h (by rw [esn2]; decide)) | refine And.intro (fun h => absurd h (by rw [esn2]; decide)) (fun _ => ?_))
                        refine ⟨.a (.c (.int .i64 0)), _, ⟨[0, 1, 2, 3], ⟨rfl, rfl, rfl⟩, ?_⟩, by unfold checkM; rw [if_neg (by first | exact hs3 | omega), if_neg (by first | exact hk | omega), if_neg (by first | exact hn4 | omega), if_neg (fun e => by first | exact hsn0 e.1 | exact hsn0 e.2), if_neg (fun e => by first | exact hf0 e.1 | exact hf0 e.2), if_neg (fun e => by first | exact hsn2 e.1 | exact hsn2 e.2)], rfl⟩
                        (repeat first | exact trivial | refine ⟨rfl, ?_⟩ | refine ⟨fun _ _ => ⟨rfl, trivial⟩, ?_⟩ | refine ⟨fun _ _ => trivial, ?_⟩ | refine ⟨by omega, ?_⟩ | refine ⟨fun _ _ => eqC_winS, ?_⟩ | refine ⟨fun _ _ => eqC_winM, ?_⟩ | refine ⟨fun _ _ => eqC_winB, ?_⟩ | refine ⟨fun _ _ => eqC_selfB, ?_⟩ | refine ⟨fun _ _ => eqC_mpB, ?_⟩)
                        refine eqC_bts (eqC_bts (eqC_bts (eqC_bts ?_)))
                        (repeat first | exact trivial | refine ⟨rfl, ?_⟩ | refine ⟨fun _ _ => ⟨rfl, trivial⟩, ?_⟩ | refine ⟨fun _ _ => trivial, ?_⟩ | refine ⟨by omega, ?_⟩ | refine ⟨fun _ _ => eqC_winS, ?_⟩ | refine ⟨fun _ _ => eqC_winM, ?_⟩ | refine ⟨fun _ _ => eqC_winB, ?_⟩ | refine ⟨fun _ _ => eqC_selfB, ?_⟩ | refine ⟨fun _ _ => eqC_mpB, ?_⟩)
                    · have eu : h.turn = false := by simpa using hu
                      (repeat first | refine And.intro (by omega) ?_ | refine And.intro (by decide) ?_ | refine And.intro rfl ?_ | refine And.intro (fun _ => ?_) (fun h => Bool.noConfusion h) | refine And.intro (fun h => Bool.noConfusion h) (fun _ => ?_) | refine And.intro (fun _ => ?_) (fun h => absurd h (by rw [eu]; decide)) | refine And.intro (fun h => absurd h (by rw [eu]; decide)) (fun _ => ?_))
                      refine ⟨.a (.c (.int .i64 0)), _, ⟨[0, 1, 2, 3], ⟨rfl, rfl, rfl⟩, ?_⟩, by unfold checkM; rw [if_neg (by first | exact hs3 | omega), if_neg (by first | exact hk | omega), if_neg (by first | exact hn4 | omega), if_neg (fun e => by first | exact hsn0 e.1 | exact hsn0 e.2), if_neg (fun e => by first | exact hf0 e.1 | exact hf0 e.2), if_neg (fun e => by first | exact hu e.1 | exact hu e.2)], rfl⟩
                      (repeat first | exact trivial | refine ⟨rfl, ?_⟩ | refine ⟨fun _ _ => ⟨rfl, trivial⟩, ?_⟩ | refine ⟨fun _ _ => trivial, ?_⟩ | refine ⟨by omega, ?_⟩ | refine ⟨fun _ _ => eqC_winS, ?_⟩ | refine ⟨fun _ _ => eqC_winM, ?_⟩ | refine ⟨fun _ _ => eqC_winB, ?_⟩ | refine ⟨fun _ _ => eqC_selfB, ?_⟩ | refine ⟨fun _ _ => eqC_mpB, ?_⟩)
                      refine eqC_bts (eqC_bts (eqC_bts (eqC_bts ?_)))
                      (repeat first | exact trivial | refine ⟨rfl, ?_⟩ | refine ⟨fun _ _ => ⟨rfl, trivial⟩, ?_⟩ | refine ⟨fun _ _ => trivial, ?_⟩ | refine ⟨by omega, ?_⟩ | refine ⟨fun _ _ => eqC_winS, ?_⟩ | refine ⟨fun _ _ => eqC_winM, ?_⟩ | refine ⟨fun _ _ => eqC_winB, ?_⟩ | refine ⟨fun _ _ => eqC_selfB, ?_⟩ | refine ⟨fun _ _ => eqC_mpB, ?_⟩)
              · have ek0 : decide ((0 : Int) < (h.k.l.length : Int)) = false := decide_eq_false (by first | exact hk0 | exact (lt2 _).2 hk0 | omega)
                (repeat first | refine And.intro (by omega) ?_ | refine And.intro (by decide) ?_ | refine And.intro rfl ?_ | refine And.intro (fun _ => ?_) (fun h => Bool.noConfusion h) | refine And.intro (fun h => Bool.noConfusion h) (fun _ => ?_) | refine And.intro (fun _ => ?_) (fun h => absurd h (by rw [ek0]; decide)) | refine And.intro (fun h => absurd h (by rw [ek0]; decide)) (fun _ => ?_))
                by_cases hf0 : 0 < h.f.l.length
                · have ef0 : decide ((0 : Int) < (h.f.l.length : Int)) = true := decide_eq_true (by first | exact hf0 | exact (lt2 _).2 hf0 | omega)
                  (repeat first | refine And.intro (by omega) ?_ | refine And.intro (by decide) ?_ | refine And.intro rfl ?_ | refine And.intro (fun _ => ?_) (fun h => Bool.noConfusion h) | refine And.intro (fun h => Bool.noConfusion h) (fun _ => ?_) | refine And.intro (fun _ => ?_) (fun h => absurd h (by rw [ef0]; decide)) | refine And.intro (fun h => absurd h (by rw [ef0]; decide)) (fun _ => ?_))
                  by_cases hse2 : h.sp = 2#8
                  · have ese2 : decide (h.sp = 2#8) = true := decide_eq_true (by first | exact hse2 | exact (lt2 _).2 hse2 | omega)
                    (repeat first | refine And.intro (by omega) ?_ | refine And.intro (by decide) ?_ | refine And.intro rfl ?_ | refine And.intro (fun _ => ?_) (fun h => Bool.noConfusion h) | refine And.intro (fun h => Bool.noConfusion h) (fun _ => ?_) | refine And.intro (fun _ => ?_) (fun h => absurd h (by rw [ef0]; decide)) | refine And.intro (fun h => absurd h (by rw [ef0]; decide)) (fun _ => ?_) | refine And.intro (fun _ => ?_) (fun h => absurd h (by rw [ese2]; decide)) | refine And.intro (fun h => absurd h (by rw [ese2]; decide)) (fun _ => ?_))
                    refine ⟨.a (.c (.int .i64 4)), _, ⟨[0, 1, 2, 3], ⟨rfl, rfl, rfl⟩, ?_⟩, by unfold checkM; rw [if_neg (by first | exact hs3 | omega), if_neg (by first | exact hk | omega), if_neg (by first | exact hn4 | omega), if_neg (fun e => by first | exact hk0 e.1 | exact hk0 e.2), if_pos (by first | exact ⟨hf0, hse2⟩ | exact ⟨hse2, hf0⟩)], rfl⟩
                    (repeat first | exact trivial | refine ⟨rfl, ?_⟩ | refine ⟨fun _ _ => ⟨rfl, trivial⟩, ?_⟩ | refine ⟨fun _ _ => trivial, ?_⟩ | refine ⟨by omega, ?_⟩ | refine ⟨fun _ _ => eqC_winS, ?_⟩ | refine ⟨fun _ _ => eqC_winM, ?_⟩ | refine ⟨fun _ _ => eqC_winB, ?_⟩ | refine ⟨fun _ _ => eqC_selfB, ?_⟩ | refine ⟨fun _ _ => eqC_mpB, ?_⟩)
                    refine eqC_bts (eqC_bts (eqC_bts (eqC_bts ?_)))
                    (repeat first | exact trivial | refine ⟨rfl, ?_⟩ | refine ⟨fun _ _ => ⟨rfl, trivial⟩, ?_⟩ | refine ⟨fun _ _ => trivial, ?_⟩ | refine ⟨by omega, ?_⟩ | refine ⟨fun _ _ => eqC_winS, ?_⟩ | refine ⟨fun _ _ => eqC_winM, ?_⟩ | refine ⟨fun _ _ => eqC_winB, ?_⟩ | refine ⟨fun _ _ => eqC_selfB, ?_⟩ | refine ⟨fun _ _ => eqC_mpB, ?_⟩)
                  · have ese2 : decide (h.sp = 2#8) = false := decide_eq_false (by first | exact hse2 | exact (lt2 _).2 hse2 | omega)
                    (repeat first | refine And.intro (by omega) ?_ | refine And.intro (by decide) ?_ | refine And.intro rfl ?_ | refine And.intro (fun _ => ?_) (fun h => Bool.noConfusion h) | refine And.intro (fun h => Bool.noConfusion h) (fun _ => ?_) | refine And.intro (fun _ => ?_) (fun h => absurd h (by rw [ef0]; decide)) | refine And.intro (fun h => absurd h (by rw [ef0]; decide)) (fun _ => ?_) | refine And.intro (fun _ => ?_) (fun h => absurd h (by rw [ese2]; decide)) | refine And.intro (fun h => absurd h (by rw [ese2]; decide)) (fun _ => ?_))
                    by_cases hu : h.turn = true
                    · have eu : h.turn = true := hu
                      (repeat first | refine And.intro (by omega) ?_ | refine And.intro (by decide) ?_ | refine And.intro rfl ?_ | refine And.intro (fun _ => ?_) (fun h => Bool.noConfusion h) | refine And.intro (fun h => Bool.noConfusion h) (fun _ => ?_) | refine And.intro (fun _ => ?_) (fun h => absurd h (by rw [eu]; decide)) | refine And.intro (fun h => absurd h (by rw [eu]; decide)) (fun _ => ?_))
                      by_cases hsn2 : h.sp ≠ 2#8
                      · have esn2 : decide (h.sp ≠ 2#8) = true := decide_eq_true (by first | exact hsn2 | exact (lt2 _).2 hsn2 | omega)
                        (repeat first | refine And.intro (by omega) ?_ | refine And.intro (by decide) ?_ | refine And.intro rfl ?_ | refine And.intro (fun _ => ?_) (fun h => Bool.noConfusion h) | refine And.intro (fun h => Bool.noConfusion h) (fun _ => ?_) | refine And.intro (fun _ => ?_) (fun h => absurd h (by rw [eu]; decide)) | refine And.intro (fun h => absurd h (by rw [eu]; decide)) (fun _ => ?_) | refine And.intro (fun _ => ?_) (fun h => absurd h (by rw [esn2]; decide)) | refine And.intro (fun h => absurd h (by rw [esn2]; decide)) (fun _ => ?_))
                        refine ⟨.a (.c (.int .i64 4)), _, ⟨[0, 1, 2, 3], ⟨rfl, rfl, rfl⟩, ?_⟩, by unfold checkM; rw [if_neg (by first | exact hs3 | omega), if_neg (by first | exact hk | omega), if_neg (by first | exact hn4 | omega), if_neg (fun e => by first | exact hk0 e.1 | exact hk0 e.2), if_neg (fun e => by first | exact hse2 e.1 | exact hse2 e.2), if_pos (by first | exact ⟨hu, hsn2⟩ | exact ⟨hsn2, hu⟩)], rfl⟩
                        (repeat first | exact trivial | refine ⟨rfl, ?_⟩ | refine ⟨fun _ _ => ⟨rfl, trivial⟩, ?_⟩ | refine ⟨fun _ _ => trivial, ?_⟩ | refine ⟨by omega, ?_⟩ | refine ⟨fun _ _ => eqC_winS, ?_⟩ | refine ⟨fun _ _ => eqC_winM, ?_⟩ | refine ⟨fun _ _ => eqC_winB, ?_⟩ | refine ⟨fun _ _ => eqC_selfB, ?_⟩ | refine ⟨fun _ _ => eqC_mpB, ?_⟩)
                        refine eqC_bts (eqC_bts (eqC_bts (eqC_bts ?_)))
                        (repeat first | exact trivial | refine ⟨rfl, ?_⟩ | refine ⟨fun _ _ => ⟨rfl, trivial⟩, ?_⟩ | refine ⟨fun _ _ => trivial, ?_⟩ | refine ⟨by omega, ?_⟩ | refine ⟨fun _ _ => eqC_winS, ?_⟩ | refine ⟨fun _ _ => eqC_winM, ?_⟩ | refine ⟨fun _ _ => eqC_winB, ?_⟩ | refine ⟨fun _ _ => eqC_selfB, ?_⟩ | refine ⟨fun _ _ => eqC_mpB, ?_⟩)
                      · have esn2 : decide (h.sp ≠ 2#8) = false := decide_eq_false (by first | exact hsn2 | exact (lt2 _).2 hsn2 | omega)
                        (repeat first | refine And.intro (by omega) ?_ | refine And.intro (by decide) ?_ | refine And.intro rfl ?_ | refine And.intro (fun _ => ?_) (fun h => Bool.noConfusion h) | refine And.intro (fun h => Bool.noConfusion h) (fun _ => ?_) | refine And.intro (fun _ => ?_) (fun h => absurd h (by rw [eu]; decide)) | refine And.intro (fun h => absurd h (by rw [eu]; decide)) (fun _ => ?_) | refine And.intro (fun _ => ?_) (fun h => absurd h (by rw [esn2]; decide)) | refine And.intro (fun h => absurd h (by rw [esn2]; decide)) (fun _ => ?_))
                        refine ⟨.a (.c (.int .i64 0)), _, ⟨[0, 1, 2, 3], ⟨rfl, rfl, rfl⟩, ?_⟩, by unfold checkM; rw [if_neg (by first | exact hs3 | omega), if_neg (by first | exact hk | omega), if_neg (by first | exact hn4 | omega), if_neg (fun e => by first | exact hk0 e.1 | exact hk0 e.2), if_neg (fun e => by first | exact hse2 e.1 | exact hse2 e.2), if_neg (fun e => by first | exact hsn2 e.1 | exact hsn2 e.2)], rfl⟩
                        (repeat first | exact trivial | refine ⟨rfl, ?_⟩ | refine ⟨fun _ _ => ⟨rfl, trivial⟩, ?_⟩ | refine ⟨fun _ _ => trivial, ?_⟩ | refine ⟨by omega, ?_⟩ | refine ⟨fun _ _ => eqC_winS, ?_⟩ | refine ⟨fun _ _ => eqC_winM, ?_⟩ | refine ⟨fun _ _ => eqC_winB, ?_⟩ | refine ⟨fun _ _ => eqC_selfB, ?_⟩ | refine ⟨fun _ _ => eqC_mpB, ?_⟩)
                        refine eqC_bts (eqC_bts (eqC_bts (eqC_bts ?_)))
                        (repeat first | exact trivial | refine ⟨rfl, ?_⟩ | refine ⟨fun _ _ => ⟨rfl, trivial⟩, ?_⟩ | refine ⟨fun _ _ => trivial, ?_⟩ | refine ⟨by omega, ?_⟩ | refine ⟨fun _ _ => eqC_winS, ?_⟩ | refine ⟨fun _ _ => eqC_winM, ?_⟩ | refine ⟨fun _ _ => eqC_winB, ?_⟩ | refine ⟨fun _ _ => eqC_selfB, ?_⟩ | refine ⟨fun _ _ => eqC_mpB, ?_⟩)
                    · have eu : h.turn = false := by simpa using hu
                      (repeat first | refine And.intro (by omega) ?_ | refine And.intro (by decide) ?_ | refine And.intro rfl ?_ | refine And.intro (fun _ => ?_) (fun h => Bool.noConfusion h) | refine And.intro (fun h => Bool.noConfusion h) (fun _ => ?_) | refine And.intro (fun _ => ?_) (fun h => absurd h (by rw [eu]; decide)) | refine And.intro (fun h => absurd h (by rw [eu]; decide)) (fun _ => ?_))
                      refine ⟨.a (.c (.int .i64 0)), _, ⟨[0, 1, 2, 3], ⟨rfl, rfl, rfl⟩, ?_⟩, by unfold checkM; rw [if_neg (by first | exact hs3 | omega), if_neg (by first | exact hk | omega), if_neg (by first | exact hn4 | omega), if_neg (fun e => by first | exact hk0 e.1 | exact hk0 e.2), if_neg (fun e => by first | exact hse2 e.1 | exact hse2 e.2), if_neg (fun e => by first | exact hu e.1 | exact hu e.2)], rfl⟩
                      (repeat first | exact trivial | refine ⟨rfl, ?_⟩ | refine ⟨fun _ _ => ⟨rfl, trivial⟩, ?_⟩ | refine ⟨fun _ _ => trivial, ?_⟩ | refine ⟨by omega, ?_⟩ | refine ⟨fun _ _ => eqC_winS, ?_⟩ | refine ⟨fun _ _ => eqC_winM, ?_⟩ | refine ⟨fun _ _ => eqC_winB, ?_⟩ | refine ⟨fun _ _ => eqC_selfB, ?_⟩ | refine ⟨fun _ _ => eqC_mpB, ?_⟩)
                      refine eqC_bts (eqC_bts (eqC_bts (eqC_bts ?_)))
                      (repeat first | exact trivial | refine ⟨rfl, ?_⟩ | refine ⟨fun _ _ => ⟨rfl, trivial⟩, ?_⟩ | refine ⟨fun _ _ => trivial, ?_⟩ | refine ⟨by omega, ?_⟩ | refine ⟨fun _ _ => eqC_winS, ?_⟩ | refine ⟨fun _ _ => eqC_winM, ?_⟩ | refine ⟨fun _ _ => eqC_winB, ?_⟩ | refine ⟨fun _ _ => eqC_selfB, ?_⟩ | refine ⟨fun _ _ => eqC_mpB, ?_⟩)
                · have ef0 : decide ((0 : Int) < (h.f.l.length : Int)) = false := decide_eq_false (by first | exact hf0 | exact (lt2 _).2 hf0 | omega)
                  (repeat first | refine And.intro (by omega) ?_ | refine And.intro (by decide) ?_ | refine And.intro rfl ?_ | refine And.intro (fun _ => ?_) (fun h => Bool.noConfusion h) | refine And.intro (fun h => Bool.noConfusion h) (fun _ => ?_) | refine And.intro (fun _ => ?_) (fun h => absurd h (by rw [ef0]; decide)) | refine And.intro (fun h => absurd h (by rw [ef0]; decide)) (fun _ => ?_))
                  by_cases hu : h.turn = true
                  · have eu : h.turn = true := hu
                    (repeat first | refine And.intro (by omega) ?_ | refine And.intro (by decide) ?_ | refine And.intro rfl ?_ | refine And.intro (fun _ => ?_) (fun h => Bool.noConfusion h) | refine And.intro (fun h => Bool.noConfusion h) (fun _ => ?_) | refine And.intro (fun _ => ?_) (fun h => absurd h (by rw [eu]; decide)) | refine And.intro (fun h => absurd h (by rw [eu]; decide)) (fun _ => ?_))
                    by_cases hsn2 : h.sp ≠ 2#8
                    · have esn2 : decide (h.sp ≠ 2#8) = true := decide_eq_true (by first | exact hsn2 | exact (lt2 _).2 hsn2 | omega)
                      (repeat first | refine And.intro (by omega) ?_ | refine And.intro (by decide) ?_ | refine And.intro rfl ?_ | refine And.intro (fun _ => ?_) (fun h => Bool.noConfusion h) | refine And.intro (fun h => Bool.noConfusion h) (fun _ => ?_) | refine And.intro (fun _ => ?_) (fun h => absurd h (by rw [eu]; decide)) | refine And.intro (fun h => absurd h (by rw [eu]; decide)) (fun _ => ?_) | refine And.intro (fun _ => ?_) (fun h => absurd h (by rw [esn2]; decide)) | refine And.intro (fun h => absurd h (by rw [esn2]; decide)) (fun _ => ?_))
                      refine ⟨.a (.c (.int .i64 4)), _, ⟨[0, 1, 2, 3], ⟨rfl, rfl, rfl⟩, ?_⟩, by unfold checkM; rw [if_neg (by first | exact hs3 | omega), if_neg (by first | exact hk | omega), if_neg (by first | exact hn4 | omega), if_neg (fun e => by first | exact hk0 e.1 | exact hk0 e.2), if_neg (fun e => by first | exact hf0 e.1 | exact hf0 e.2), if_pos (by first | exact ⟨hu, hsn2⟩ | exact ⟨hsn2, hu⟩)], rfl⟩
                      (repeat first | exact trivial | refine ⟨rfl, ?_⟩ | refine ⟨fun _ _ => ⟨rfl, trivial⟩, ?_⟩ | refine ⟨fun _ _ => trivial, ?_⟩ | refine ⟨by omega, ?_⟩ | refine ⟨fun _ _ => eqC_winS, ?_⟩ | refine ⟨fun _ _ => eqC_winM, ?_⟩ | refine ⟨fun _ _ => eqC_winB, ?_⟩ | refine ⟨fun _ _ => eqC_selfB, ?_⟩ | refine ⟨fun _ _ => eqC_mpB, ?_⟩)
                      refine eqC_bts (eqC_bts (eqC_bts (eqC_bts ?_)))
                      (repeat first | exact trivial | refine ⟨rfl, ?_⟩ | refine ⟨fun _ _ => ⟨rfl, trivial⟩, ?_⟩ | refine ⟨fun _ _ => trivial, ?_⟩ | refine ⟨by omega, ?_⟩ | refine ⟨fun _ _ => eqC_winS, ?_⟩ | refine ⟨fun _ _ => eqC_winM, ?_⟩ | refine ⟨fun _ _ => eqC_winB, ?_⟩ | refine ⟨fun _ _ => eqC_selfB, ?_⟩ | refine ⟨fun _ _ => eqC_mpB, ?_⟩)
                    · have esn2 : decide (h.sp ≠ 2#8) = false := decide_eq_false (by first | exact hsn2 | exact (lt2 _).2 hsn2 | omega)
                      (repeat first | refine And.intro (by omega) ?_ | refine And.intro (by decide) ?_ | refine And.intro rfl ?_ | refine And.intro (fun _ => ?_) (fun h => Bool.noConfusion h) | refine And.intro (fun h => Bool.noConfusion h) (fun _ => ?_) | refine And.intro (fun _ => ?_) (fun h => absurd h (by rw [eu]; decide)) | refine And.intro (fun h => absurd h (by rw [eu]; decide)) (fun _ => ?_) | refine And.intro (fun _ => ?_) (fun h => absurd h (by rw [esn2]; decide)) | refine And.intro (fun h => absurd h (by rw [esn2]; decide)) (fun _ => ?_))
                      refine ⟨.a (.c (.int .i64 0)), _, ⟨[0, 1, 2, 3], ⟨rfl, rfl, rfl⟩, ?_⟩, by unfold checkM; rw [if_neg (by first | exact hs3 | omega), if_neg (by first | exact hk | omega), if_neg (by first | exact hn4 | omega), if_neg (fun e => by first | exact hk0 e.1 | exact hk0 e.2), if_neg (fun e => by first | exact hf0 e.1 | exact hf0 e.2), if_neg (fun e => by first | exact hsn2 e.1 | exact hsn2 e.2)], rfl⟩
                      (repeat first | exact trivial | refine ⟨rfl, ?_⟩ | refine ⟨fun _ _ => ⟨rfl, trivial⟩, ?_⟩ | refine ⟨fun _ _ => trivial, ?_⟩ | refine ⟨by omega, ?_⟩ | refine ⟨fun _ _ => eqC_winS, ?_⟩ | refine ⟨fun _ _ => eqC_winM, ?_⟩ | refine ⟨fun _ _ => eqC_winB, ?_⟩ | refine ⟨fun _ _ => eqC_selfB, ?_⟩ | refine ⟨fun _ _ => eqC_mpB, ?_⟩)
                      refine eqC_bts (eqC_bts (eqC_bts (eqC_bts ?_)))
                      (repeat first | exact trivial | refine ⟨rfl, ?_⟩ | refine ⟨fun _ _ => ⟨rfl, trivial⟩, ?_⟩ | refine ⟨fun _ _ => trivial, ?_⟩ | refine ⟨by omega, ?_⟩ | refine ⟨fun _ _ => eqC_winS, ?_⟩ | refine ⟨fun _ _ => eqC_winM, ?_⟩ | refine ⟨fun _ _ => eqC_winB, ?_⟩ | refine ⟨fun _ _ => eqC_selfB, ?_⟩ | refine ⟨fun _ _ => eqC_mpB, ?_⟩)
                  · have eu : h.turn = false := by simpa using hu
                    (repeat first | refine And.intro (by omega) ?_ | refine And.intro (by decide) ?_ | refine And.intro rfl ?_ | refine And.intro (fun _ => ?_) (fun h => Bool.noConfusion h) | refine And.intro (fun h => Bool.noConfusion h) (fun _ => ?_) | refine And.intro (fun _ => ?_) (fun h => absurd h (by rw [eu]; decide)) | refine And.intro (fun h => absurd h (by rw [eu]; decide)) (fun _ => ?_))
                    refine ⟨.a (.c (.int .i64 0)), _, ⟨[0, 1, 2, 3], ⟨rfl, rfl, rfl⟩, ?_⟩, by unfold checkM; rw [if_neg (by first | exact hs3 | omega), if_neg (by first | exact hk | omega), if_neg (by first | exact hn4 | omega), if_neg (fun e => by first | exact hk0 e.1 | exact hk0 e.2), if_neg (fun e => by first | exact hf0 e.1 | exact hf0 e.2), if_neg (fun e => by first | exact hu e.1 | exact hu e.2)], rfl⟩
                    (repeat first | exact trivial | refine ⟨rfl, ?_⟩ | refine ⟨fun _ _ => ⟨rfl, trivial⟩, ?_⟩ | refine ⟨fun _ _ => trivial, ?_⟩ | refine ⟨by omega, ?_⟩ | refine ⟨fun _ _ => eqC_winS, ?_⟩ | refine ⟨fun _ _ => eqC_winM, ?_⟩ | refine ⟨fun _ _ => eqC_winB, ?_⟩ | refine ⟨fun _ _ => eqC_selfB, ?_⟩ | refine ⟨fun _ _ => eqC_mpB, ?_⟩)
                    refine eqC_bts (eqC_bts (eqC_bts (eqC_bts ?_)))
                    (repeat first | exact trivial | refine ⟨rfl, ?_⟩ | refine ⟨fun _ _ => ⟨rfl, trivial⟩, ?_⟩ | refine ⟨fun _ _ => trivial, ?_⟩ | refine ⟨by omega, ?_⟩ | refine ⟨fun _ _ => eqC_winS, ?_⟩ | refine ⟨fun _ _ => eqC_winM, ?_⟩ | refine ⟨fun _ _ => eqC_winB, ?_⟩ | refine ⟨fun _ _ => eqC_selfB, ?_⟩ | refine ⟨fun _ _ => eqC_mpB, ?_⟩)
end Sx
end Go.Proofs.Ytkjdkeolkigibaa
end

section
/-
  Headers: the law's Fit; long spaces. No condition.
-/
namespace Go.Proofs.Ytkjdkeolkigibaa
set_option linter.unusedVariables false
namespace Sx
open Sha Vi

def nilS : Sl := ⟨true, 0, 0, 0, []⟩
def cutS (s : Sl) (n : Nat) : Sl := ⟨s.z, s.N, s.o, s.c, s.l.take n⟩
/-- A header that may be, of any. -/
def fitM (h : Hd) (c : Nat) : Hd := ⟨h.sp % 3#8, cutS h.t 20, if h.sp % 3#8 = 2#8 then nilS else cutS h.f 20, if h.sp % 3#8 = 0#8 then cutS h.k 64 else nilS, if h.sp % 3#8 = 2#8 then h.turn else false, ⟨false, c, 0, c, h.n.l.take 3 ++ [7#8]⟩⟩
theorem cutS_ok {s : Sl} (h : s.Ok) (n : Nat) : (cutS s n).Ok := by
  have h1 := h.fit
  have h2 := h.cap
  have h3 := h.small
  refine ⟨?_, ?_, fun hz => ?_, ?_⟩
  · show s.o + (s.l.take n).length ≤ s.N
    rw [List.length_take]; omega
  · show (s.l.take n).length ≤ s.c
    rw [List.length_take]; omega
  · show s.l.take n = []
    rw [h.nil hz]; simp
  · show (s.l.take n).length ≤ _
    rw [List.length_take]; omega
theorem mod3 : ∀ x : BitVec 8, x % 3#8 = 0#8 ∨ x % 3#8 = 1#8 ∨ x % 3#8 = 2#8 := by decide +kernel
theorem fitM_ok {h : Hd} (ho : h.Ok) {c : Nat} (hc : (h.n.l.take 3).length + 1 ≤ c) : (fitM h c).Ok := by
  refine ⟨cutS_ok ho.t _, ?_, ?_, ?_⟩
  · show Sl.Ok (if _ then _ else _)
    split
    · exact nil_ok
    · exact cutS_ok ho.f _
  · show Sl.Ok (if _ then _ else _)
    split
    · exact cutS_ok ho.k _
    · exact nil_ok
  · exact own_ok (by simpa using hc) (by simp; omega)
theorem fitM_check (h : Hd) (c : Nat) : checkM (fitM h c) = 0 := by
  have a1 : ((cutS h.t 20).l).length ≤ 20 := by show (h.t.l.take 20).length ≤ 20; rw [List.length_take]; omega
  have a2 : ((cutS h.f 20).l).length ≤ 20 := by show (h.f.l.take 20).length ≤ 20; rw [List.length_take]; omega
  have a3 : ((cutS h.k 64).l).length ≤ 64 := by show (h.k.l.take 64).length ≤ 64; rw [List.length_take]; omega
  have a4 : (h.n.l.take 3 ++ [7#8]).length = (h.n.l.take 3).length + 1 := by simp
  have a5 : (h.n.l.take 3).length ≤ 3 := by rw [List.length_take]; omega
  unfold checkM fitM
  rcases mod3 h.sp with e | e | e
  · simp only [e, if_pos, if_neg (show ¬ (0#8 = 2#8) by decide), if_neg (show ¬ (3#8 ≤ 0#8) by decide)]
    rw [if_neg (by omega), if_neg (by omega), if_neg (by rintro ⟨_, h⟩; exact h rfl), if_neg (by rintro ⟨_, h⟩; exact absurd h (by decide)), if_neg (by rintro ⟨h, _⟩; cases h)]
  · simp only [e, if_neg (show ¬ (1#8 = 2#8) by decide), if_neg (show ¬ (1#8 = 0#8) by decide), if_neg (show ¬ (3#8 ≤ 1#8) by decide)]
    rw [if_neg (by simp [nilS]; omega), if_neg (by omega), if_neg (by rintro ⟨h, _⟩; simp [nilS] at h), if_neg (by rintro ⟨_, h⟩; exact absurd h (by decide)), if_neg (by rintro ⟨h, _⟩; cases h)]
  · simp only [e, if_pos, if_neg (show ¬ (2#8 = 0#8) by decide), if_neg (show ¬ (3#8 ≤ 2#8) by decide)]
    rw [if_neg (by simp [nilS]; omega), if_neg (by omega), if_neg (by rintro ⟨h, _⟩; simp [nilS] at h), if_neg (by rintro ⟨h, _⟩; simp [nilS] at h), if_neg (by rintro ⟨_, h⟩; exact h rfl)]
theorem cutS_sub (s : Sl) (n : Nat) : Sub s (cutS s n) := by
  refine ⟨id, fun _ => rfl, fun _ => ⟨Nat.le_refl _, ?_⟩, fun i hi => ?_⟩
  · show s.o + (s.l.take n).length ≤ _
    rw [List.length_take]; omega
  · have hi : i < (s.l.take n).length := hi
    rw [List.length_take] at hi
    show L s.l (s.o - s.o + i) = L (s.l.take n) i
    rw [Nat.sub_self, Nat.zero_add, L_take _ _ _ (by omega)]
theorem fitM_f_sub (h : Hd) (c : Nat) : Sub h.f (fitM h c).f := by
  show Sub h.f (if _ then _ else _)
  split
  · exact Sub.nil _
  · exact cutS_sub _ _
theorem fitM_k_sub (h : Hd) (c : Nat) : Sub h.k (fitM h c).k := by
  show Sub h.k (if _ then _ else _)
  split
  · exact cutS_sub _ _
  · exact Sub.nil _
theorem minB {a n c : Nat} (h : n ≤ c) : (0 : Int) ≤ 0 ∧ (0 : Int) ≤ (if (a : Int) < (n : Int) then (a : Int) else (n : Int)) ∧ (if (a : Int) < (n : Int) then (a : Int) else (n : Int)) ≤ (c : Int) := by split <;> omega
theorem minN {a n : Nat} : (if (a : Int) < (n : Int) then (a : Int) else (n : Int)).toNat = min a n := by split <;> omega
theorem fn_hlong (x : BitVec 8) : Fn Try.prog tds 19 [] [.c (.w8 x)] (fun _ => True) (fun y hs => y = .a (.c (.bool (decide (x = 0#8 ∨ x = 1#8)))) ∧ hs = []) := by
  refine fn_of_body tds_ok follows_ Try.func19 rfl (t := .a (.c (.w8 x)) :: anys (Try.f19.ntmps - 1)) rfl (fun w r0 hr _ => ?_)
  obtain rfl : r0 = [] := List.eq_nil_of_length_eq_zero hr
  by_cases h0 : x = 0#8
  · have e0 : decide (x = 0#8) = true := decide_eq_true h0
    (repeat first | refine And.intro (by omega) ?_ | refine And.intro (by decide) ?_ | refine And.intro rfl ?_ | refine And.intro (fun _ => ?_) (fun h => Bool.noConfusion h) | refine And.intro (fun h => Bool.noConfusion h) (fun _ => ?_) | refine And.intro (fun _ => ?_) (fun h => absurd h (by rw [e0]; decide)) | refine And.intro (fun h => absurd h (by rw [e0]; decide)) (fun _ => ?_))
    refine ⟨.a (.c (.bool (decide (x = 0#8 ∨ x = 1#8)))), [], ⟨[], ⟨rfl, rfl, rfl⟩, ?_⟩, rfl, rfl⟩
    exact ⟨(decide_eq_true (.inl h0)).symm, trivial⟩
  · have e0 : decide (x = 0#8) = false := decide_eq_false h0
    (repeat first | refine And.intro (by omega) ?_ | refine And.intro (by decide) ?_ | refine And.intro rfl ?_ | refine And.intro (fun _ => ?_) (fun h => Bool.noConfusion h) | refine And.intro (fun h => Bool.noConfusion h) (fun _ => ?_) | refine And.intro (fun _ => ?_) (fun h => absurd h (by rw [e0]; decide)) | refine And.intro (fun h => absurd h (by rw [e0]; decide)) (fun _ => ?_))
    refine ⟨.a (.c (.bool (decide (x = 0#8 ∨ x = 1#8)))), [], ⟨[], ⟨rfl, rfl, rfl⟩, ?_⟩, rfl, rfl⟩
    exact ⟨decide_eq_decide.2 ⟨.inr, fun h => h.resolve_left h0⟩, trivial⟩
set_option maxRecDepth 20000 in
set_option maxHeartbeats 4000000 in
theorem fn_hfit (h : Hd) (ho : h.Ok) : FnR Try.prog tds 14 4 (hdB h) [.agg (hdC 0 1 2 3 h)] (fun _ => True)
    (fun y hs => ∃ c, (h.n.l.take 3).length + 1 ≤ c ∧ y = .a (.agg (hdC 0 1 2 4 (fitM h c))) ∧ hs = hdB h ++ [svB (fitM h c).n]) := by
  refine fn_of_body tds_ok follows_ Try.func14 rfl (t := .a (.agg (hdC 0 1 2 3 h)) :: anys (Try.f14.ntmps - 1)) rfl (fun w r0 hr _ => ?_)
  obtain ⟨x0, x1, x2, x3, rfl⟩ := len4' hr
  have ct := ho.t.cap
  have cf := ho.f.cap
  have ck := ho.k.cap
  have cn := ho.n.cap
  (repeat first | refine And.intro (by omega) ?_ | refine And.intro (by decide) ?_ | (with_reducible refine frc_parts (by first | omega | decide) ?_) | (with_reducible refine frc_bytesL (by first | omega | decide) ?_) | refine And.intro rfl ?_)
  refine ⟨none, [], [(0, true), (1, true), (2, true), (3, true), (4, true), (5, true), (6, true), (7, true), (8, true), (9, true), (10, true), (11, true), (12, true), (13, true), (14, true), (15, true), (16, true), (17, true), (18, true), (19, true), (20, true), (21, true)], [22, 23, 24, 25, 26], by kernel_rfl, ?_⟩
  (repeat first | refine And.intro (by omega) ?_ | refine And.intro (by decide) ?_ | (with_reducible refine frc_parts (by first | omega | decide) ?_) | (with_reducible refine frc_bytesL (by first | omega | decide) ?_) | refine And.intro rfl ?_)
  refine frcN_of (m := 0) rfl ?_
  refine frcN_of (m := min 3 h.n.l.length) (minN (a := 3)) ?_
  refine frcN_of (m := h.n.o) (by split <;> simp) ?_
  refine frcN_of (m := min 3 h.n.l.length) rfl ?_
  refine frcN_of (m := h.n.c) rfl ?_
  refine sn_cut ho.n rfl (by omega) (fun g hg => ?_)
  refine ⟨⟨Nat.le_refl _, Nat.le_refl _, by show (0 + min 3 h.n.l.length) * 1 ≤ 140737488355328; omega⟩, fun c1 hc1 => ?_⟩
  (repeat first | refine And.intro (by omega) ?_ | refine And.intro (by decide) ?_ | (with_reducible refine frc_parts (by first | omega | decide) ?_) | (with_reducible refine frc_bytesL (by first | omega | decide) ?_) | refine And.intro rfl ?_)
  refine ⟨⟨hc1, by show 0 + c1 ≤ c1; omega, by show (0 + min 3 h.n.l.length + 1) * 1 ≤ 140737488355328; omega⟩, fun c2 hc2 => ?_⟩
  have lt3 : (h.n.l.take 3).length = min 3 h.n.l.length := List.length_take
  have row : ∀ i, i < (h.n.l.take 3 ++ [7#8]).length → appF (appF (nthC []) 0 (scale 0 (0 + 1)) (scale (min 3 h.n.l.length) (0 + 1)) g) 0 (scale (0 + min 3 h.n.l.length) (0 + 1)) (scale 1 (0 + 1)) (fun q => nthC [.w8 7#8] (q + 0)) i = .w8 (L (h.n.l.take 3 ++ [7#8]) i) := by
    intro i hi
    refine app_row (by rw [lt3, Nat.zero_add]) rfl (fun i hi => ?_) (fun i hi => one_row rfl i hi) i (by rw [List.length_append, lt3] at hi; simpa using hi)
    exact app_row (l := []) (m := h.n.l.take 3) rfl lt3 (fun i hi => absurd hi (by simp)) (fun i hi => by rw [hg i hi, L_take _ _ _ (by omega)]) i hi
  have hlen : (fitM h c2).n.l.length = 0 + min 3 h.n.l.length + 1 := by show (h.n.l.take 3 ++ [7#8]).length = _; simp [lt3]
  rcases mod3 h.sp with e | e | e
  · have e0 : decide (h.sp % 3#8 ≠ 0#8) = false := by rw [e]; decide
    have e2 : decide (h.sp % 3#8 = 2#8) = false := by rw [e]; decide
    have hfm : fitM h c2 = ⟨0#8, cutS h.t 20, cutS h.f 20, cutS h.k 64, false, ⟨false, c2, 0, c2, h.n.l.take 3 ++ [7#8]⟩⟩ := by unfold fitM; rw [e]; rfl
    (repeat first | refine And.intro (by omega) ?_ | refine And.intro (by decide) ?_ | refine And.intro rfl ?_ | refine And.intro (fun _ => ?_) (fun h => Bool.noConfusion h) | refine And.intro (fun h => Bool.noConfusion h) (fun _ => ?_) | refine And.intro (fun _ => ?_) (fun h => absurd h (by rw [e0]; decide)) | refine And.intro (fun h => absurd h (by rw [e0]; decide)) (fun _ => ?_) | refine And.intro (fun _ => ?_) (fun h => absurd h (by rw [e2]; decide)) | refine And.intro (fun h => absurd h (by rw [e2]; decide)) (fun _ => ?_))
    refine ⟨.a (.agg (hdC 0 1 2 4 ⟨0#8, cutS h.t 20, cutS h.f 20, cutS h.k 64, false, ⟨false, c2, 0, c2, h.n.l.take 3 ++ [7#8]⟩⟩)), hdB h ++ [svB ⟨false, c2, 0, c2, h.n.l.take 3 ++ [7#8]⟩], ⟨[0, 1, 2, 3, 9], ⟨rfl, rfl, rfl⟩, ?_⟩, c2, by rw [lt3]; omega, by rw [hfm], by rw [hfm]⟩
    refine ⟨rfl, e, ?_⟩
    refine ⟨rfl, by split <;> simp [cutS], (minN (a := 20)).trans List.length_take.symm, rfl, ?_⟩
    refine ⟨rfl, by split <;> simp [cutS], (minN (a := 20)).trans List.length_take.symm, rfl, ?_⟩
    refine ⟨rfl, by split <;> simp [cutS], (minN (a := 64)).trans List.length_take.symm, rfl, ?_⟩
    refine ⟨rfl, rfl, rfl, by rw [hfm] at hlen; exact hlen.symm, rfl, ?_⟩
    refine eqC_bts (eqC_bts (eqC_bts (eqC_bts ?_)))
    exact ⟨rfl, fun j hj => eqC_win0 (fun i hi => row i hi) j, trivial⟩
  · have e0 : decide (h.sp % 3#8 ≠ 0#8) = true := by rw [e]; decide
    have e2 : decide (h.sp % 3#8 = 2#8) = false := by rw [e]; decide
    have hfm : fitM h c2 = ⟨1#8, cutS h.t 20, cutS h.f 20, nilS, false, ⟨false, c2, 0, c2, h.n.l.take 3 ++ [7#8]⟩⟩ := by unfold fitM; rw [e]; rfl
    (repeat first | refine And.intro (by omega) ?_ | refine And.intro (by decide) ?_ | refine And.intro rfl ?_ | refine And.intro (fun _ => ?_) (fun h => Bool.noConfusion h) | refine And.intro (fun h => Bool.noConfusion h) (fun _ => ?_) | refine And.intro (fun _ => ?_) (fun h => absurd h (by rw [e0]; decide)) | refine And.intro (fun h => absurd h (by rw [e0]; decide)) (fun _ => ?_) | refine And.intro (fun _ => ?_) (fun h => absurd h (by rw [e2]; decide)) | refine And.intro (fun h => absurd h (by rw [e2]; decide)) (fun _ => ?_))
    refine ⟨.a (.agg (hdC 0 1 2 4 ⟨1#8, cutS h.t 20, cutS h.f 20, nilS, false, ⟨false, c2, 0, c2, h.n.l.take 3 ++ [7#8]⟩⟩)), hdB h ++ [svB ⟨false, c2, 0, c2, h.n.l.take 3 ++ [7#8]⟩], ⟨[0, 1, 2, 3, 9], ⟨rfl, rfl, rfl⟩, ?_⟩, c2, by rw [lt3]; omega, by rw [hfm], by rw [hfm]⟩
    refine ⟨rfl, e, ?_⟩
    refine ⟨rfl, by split <;> simp [cutS], (minN (a := 20)).trans List.length_take.symm, rfl, ?_⟩
    refine ⟨rfl, by split <;> simp [cutS], (minN (a := 20)).trans List.length_take.symm, rfl, ?_⟩
    refine ⟨rfl, rfl, rfl, rfl, rfl, ?_⟩
    refine ⟨rfl, rfl, rfl, by rw [hfm] at hlen; exact hlen.symm, rfl, ?_⟩
    refine eqC_bts (eqC_bts (eqC_bts (eqC_bts ?_)))
    exact ⟨rfl, fun j hj => eqC_win0 (fun i hi => row i hi) j, trivial⟩
  · have e0 : decide (h.sp % 3#8 ≠ 0#8) = true := by rw [e]; decide
    have e2 : decide (h.sp % 3#8 = 2#8) = true := by rw [e]; decide
    have hfm : fitM h c2 = ⟨2#8, cutS h.t 20, nilS, nilS, h.turn, ⟨false, c2, 0, c2, h.n.l.take 3 ++ [7#8]⟩⟩ := by unfold fitM; rw [e]; rfl
    (repeat first | refine And.intro (by omega) ?_ | refine And.intro (by decide) ?_ | refine And.intro rfl ?_ | refine And.intro (fun _ => ?_) (fun h => Bool.noConfusion h) | refine And.intro (fun h => Bool.noConfusion h) (fun _ => ?_) | refine And.intro (fun _ => ?_) (fun h => absurd h (by rw [e0]; decide)) | refine And.intro (fun h => absurd h (by rw [e0]; decide)) (fun _ => ?_) | refine And.intro (fun _ => ?_) (fun h => absurd h (by rw [e2]; decide)) | refine And.intro (fun h => absurd h (by rw [e2]; decide)) (fun _ => ?_))
    refine ⟨.a (.agg (hdC 0 1 2 4 ⟨2#8, cutS h.t 20, nilS, nilS, h.turn, ⟨false, c2, 0, c2, h.n.l.take 3 ++ [7#8]⟩⟩)), hdB h ++ [svB ⟨false, c2, 0, c2, h.n.l.take 3 ++ [7#8]⟩], ⟨[0, 1, 2, 3, 9], ⟨rfl, rfl, rfl⟩, ?_⟩, c2, by rw [lt3]; omega, by rw [hfm], by rw [hfm]⟩
    refine ⟨rfl, e, ?_⟩
    refine ⟨rfl, by split <;> simp [cutS], (minN (a := 20)).trans List.length_take.symm, rfl, ?_⟩
    refine ⟨rfl, rfl, rfl, rfl, rfl, ?_⟩
    refine ⟨rfl, rfl, rfl, rfl, rfl, ?_⟩
    refine ⟨rfl, rfl, rfl, by rw [hfm] at hlen; exact hlen.symm, rfl, ?_⟩
    refine eqC_bts (eqC_bts (eqC_bts (eqC_bts ?_)))
    exact ⟨rfl, fun j hj => eqC_win0 (fun i hi => row i hi) j, trivial⟩
end Sx
end Go.Proofs.Ytkjdkeolkigibaa
end
