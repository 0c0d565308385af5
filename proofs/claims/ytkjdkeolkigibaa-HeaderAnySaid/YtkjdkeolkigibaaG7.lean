/-
  Texts of this claim, part 7: HpC, VwA, VwB, VwC, HdB, HbA, HaA. No condition of its own.
-/
import Derived.Test.YtkjdkeolkigibaaG6
section
/-
  Headers taken: any; sharing nothing; with their numbers; which are the same. No condition.
-/
namespace Go.Proofs.Ytkjdkeolkigibaa
set_option linter.unusedVariables false
namespace Vi
open Sha
def idN (id : Int) : Nat := min id.toNat 20
def parseP (b : Bs) (id : Int) : PM :=
  if b.length = 0 then .no 3 else if L b 0 &&& 64#8 = 0#8 then .no 4 else if L b 0 &&& 128#8 ≠ 0#8 then longP b
  else if b.length < 1 + idN id then .no 3 else .ok 2#8 ((b.drop 1).take (idN id)) [] [] (1 + idN id) b.length
end Vi
namespace Sx
open Sha Vi

theorem len8' {α : Type} : ∀ {l : List α}, l.length = 8 → ∃ a b c d e f g h, l = [a, b, c, d, e, f, g, h]
  | [a, b, c, d, e, f, g, h], _ => ⟨a, b, c, d, e, f, g, h, rfl⟩
theorem idN_int (id : Int) : (if (20 : Int) < (if id < 0 then 0 else id) then 20 else (if id < 0 then 0 else id)) = ((idN id : Nat) : Int) := by
  unfold idN
  split <;> split <;> omega
/-- The same as h, sharing nothing. -/
structure HdEq (g h : Hd) : Prop where
  sp : g.sp = h.sp
  turn : g.turn = h.turn
  t : g.t.l = h.t.l
  f : g.f.l = h.f.l
  k : g.k.l = h.k.l
  n : g.n.l = h.n.l
set_option maxRecDepth 20000 in
set_option maxHeartbeats 4000000 in
theorem fn_hown (h : Hd) (ho : h.Ok) : FnR Try.prog tds 69 4 (hdB h) [.agg (hdC 0 1 2 3 h)] (fun _ => True)
    (fun y hs => ∃ g : Hd, g.Ok ∧ HdEq g h ∧ y = .a (.agg (hdC 4 5 6 7 g)) ∧ hs = hdB h ++ hdB g) := by
  refine fn_of_body tds_ok follows_ Try.func69 rfl (t := .a (.agg (hdC 0 1 2 3 h)) :: anys (Try.f69.ntmps - 1)) rfl (fun w r0 hr _ => ?_)
  obtain ⟨x0, x1, x2, x3, rfl⟩ := len4' hr
  (repeat first | refine And.intro (by omega) ?_ | refine And.intro (by decide) ?_ | (with_reducible refine frc_parts (by first | omega | decide) ?_) | (with_reducible refine frc_bytesL (by first | omega | decide) ?_) | refine And.intro rfl ?_)
  refine call_pad (fn_clone h.t ho.t) [0] rfl (by (repeat first | exact trivial | refine ⟨rfl, ?_⟩ | refine ⟨fun _ _ => ⟨rfl, trivial⟩, ?_⟩ | refine ⟨fun _ _ => trivial, ?_⟩ | refine ⟨by omega, ?_⟩ | refine ⟨fun _ _ => eqC_winS, ?_⟩ | refine ⟨fun _ _ => eqC_winM, ?_⟩ | refine ⟨fun _ _ => eqC_winB, ?_⟩ | refine ⟨fun _ _ => eqC_selfB, ?_⟩ | refine ⟨fun _ _ => eqC_mpB, ?_⟩)) (eqC_bts trivial) (fun _ _ => trivial) ?_
  rintro x hs ⟨t, ht, et, rfl, rfl⟩
  (repeat first | refine And.intro (by omega) ?_ | refine And.intro (by decide) ?_ | (with_reducible refine frc_parts (by first | omega | decide) ?_) | (with_reducible refine frc_bytesL (by first | omega | decide) ?_) | refine And.intro rfl ?_)
  refine call_pad (fn_clone h.f ho.f) [1] rfl (by (repeat first | exact trivial | refine ⟨rfl, ?_⟩ | refine ⟨fun _ _ => ⟨rfl, trivial⟩, ?_⟩ | refine ⟨fun _ _ => trivial, ?_⟩ | refine ⟨by omega, ?_⟩ | refine ⟨fun _ _ => eqC_winS, ?_⟩ | refine ⟨fun _ _ => eqC_winM, ?_⟩ | refine ⟨fun _ _ => eqC_winB, ?_⟩ | refine ⟨fun _ _ => eqC_selfB, ?_⟩ | refine ⟨fun _ _ => eqC_mpB, ?_⟩)) (eqC_bts trivial) (fun _ _ => trivial) ?_
  rintro x hs ⟨f, hf, ef, rfl, rfl⟩
  (repeat first | refine And.intro (by omega) ?_ | refine And.intro (by decide) ?_ | (with_reducible refine frc_parts (by first | omega | decide) ?_) | (with_reducible refine frc_bytesL (by first | omega | decide) ?_) | refine And.intro rfl ?_)
  refine call_pad (fn_clone h.k ho.k) [2] rfl (by (repeat first | exact trivial | refine ⟨rfl, ?_⟩ | refine ⟨fun _ _ => ⟨rfl, trivial⟩, ?_⟩ | refine ⟨fun _ _ => trivial, ?_⟩ | refine ⟨by omega, ?_⟩ | refine ⟨fun _ _ => eqC_winS, ?_⟩ | refine ⟨fun _ _ => eqC_winM, ?_⟩ | refine ⟨fun _ _ => eqC_winB, ?_⟩ | refine ⟨fun _ _ => eqC_selfB, ?_⟩ | refine ⟨fun _ _ => eqC_mpB, ?_⟩)) (eqC_bts trivial) (fun _ _ => trivial) ?_
  rintro x hs ⟨k, hk, ek, rfl, rfl⟩
  (repeat first | refine And.intro (by omega) ?_ | refine And.intro (by decide) ?_ | (with_reducible refine frc_parts (by first | omega | decide) ?_) | (with_reducible refine frc_bytesL (by first | omega | decide) ?_) | refine And.intro rfl ?_)
  refine call_pad (fn_clone h.n ho.n) [3] rfl (by (repeat first | exact trivial | refine ⟨rfl, ?_⟩ | refine ⟨fun _ _ => ⟨rfl, trivial⟩, ?_⟩ | refine ⟨fun _ _ => trivial, ?_⟩ | refine ⟨by omega, ?_⟩ | refine ⟨fun _ _ => eqC_winS, ?_⟩ | refine ⟨fun _ _ => eqC_winM, ?_⟩ | refine ⟨fun _ _ => eqC_winB, ?_⟩ | refine ⟨fun _ _ => eqC_selfB, ?_⟩ | refine ⟨fun _ _ => eqC_mpB, ?_⟩)) (eqC_bts trivial) (fun _ _ => trivial) ?_
  rintro x hs ⟨n, hn, en, rfl, rfl⟩
  (repeat first | refine And.intro (by omega) ?_ | refine And.intro (by decide) ?_ | (with_reducible refine frc_parts (by first | omega | decide) ?_) | (with_reducible refine frc_bytesL (by first | omega | decide) ?_) | refine And.intro rfl ?_)
  refine ⟨.a (.agg (hdC 4 5 6 7 ⟨h.sp, t, f, k, h.turn, n⟩)), _, ⟨[0, 1, 2, 3, 6, 7, 8, 9], ⟨rfl, rfl, rfl⟩, ?_⟩, ⟨h.sp, t, f, k, h.turn, n⟩, ⟨ht, hf, hk, hn⟩, ⟨rfl, rfl, et, ef, ek, en⟩, rfl, rfl⟩
  (repeat first | exact trivial | refine ⟨rfl, ?_⟩ | refine ⟨fun _ _ => ⟨rfl, trivial⟩, ?_⟩ | refine ⟨fun _ _ => trivial, ?_⟩ | refine ⟨by omega, ?_⟩ | refine ⟨fun _ _ => eqC_winS, ?_⟩ | refine ⟨fun _ _ => eqC_winM, ?_⟩ | refine ⟨fun _ _ => eqC_winB, ?_⟩ | refine ⟨fun _ _ => eqC_selfB, ?_⟩ | refine ⟨fun _ _ => eqC_mpB, ?_⟩)
  refine eqC_bts (eqC_bts (eqC_bts (eqC_bts ?_)))
  refine eqC_btsM (eqC_btsM (eqC_btsM (eqC_btsM ?_)))
  (repeat first | exact trivial | refine ⟨rfl, ?_⟩ | refine ⟨fun _ _ => ⟨rfl, trivial⟩, ?_⟩ | refine ⟨fun _ _ => trivial, ?_⟩ | refine ⟨by omega, ?_⟩ | refine ⟨fun _ _ => eqC_winS, ?_⟩ | refine ⟨fun _ _ => eqC_winM, ?_⟩ | refine ⟨fun _ _ => eqC_winB, ?_⟩ | refine ⟨fun _ _ => eqC_selfB, ?_⟩ | refine ⟨fun _ _ => eqC_mpB, ?_⟩)
/-- A header's number, taken out of bytes behind it. -/
def manyB (first : BitVec 8) : Nat := (first &&& 3#8).toNat + 1
def noneB (sp first : BitVec 8) : BitVec 8 := first &&& (if sp = 2#8 then 24#8 else 12#8)
abbrev hd0 : List Seg := [.one (.w8 0#8), .one (.slc none 0 0), .one (.slc none 0 0), .one (.slc none 0 0), .one (.bool false), .one (.slc none 0 0)]
set_option maxRecDepth 20000 in
set_option maxHeartbeats 8000000 in
theorem fn_numbered (sp first : BitVec 8) (T F K b : Sl) (at_ en : Nat) (hT : T.Ok) (hF : F.Ok) (hK : K.Ok) (hb : b.Ok) : FnR Try.prog tds 32 4 [svB T, svB F, svB K, svB b] [.agg (psC 0 1 2 sp T F K at_ en), .c (.w8 first), .c (svC 3 b)] (fun _ => True)
    (fun y hs => (b.l.length < manyB first → y = .tup [.agg hd0, .c (.int .i64 3)] ∧ hs = [svB T, svB F, svB K, svB b]) ∧
      (manyB first ≤ b.l.length → noneB sp first ≠ 0#8 → y = .tup [.agg hd0, .c (.int .i64 4)] ∧ hs = [svB T, svB F, svB K, svB b]) ∧
      (manyB first ≤ b.l.length → noneB sp first = 0#8 → ∃ g : Hd, g.Ok ∧ g.sp = sp ∧ g.t.l = T.l ∧ g.f.l = F.l ∧ g.k.l = K.l ∧ g.turn = (if sp = 2#8 then decide (first &&& 4#8 ≠ 0#8) else false) ∧ g.n.l = b.l.take (manyB first) ∧
        y = .tup [.agg (hdC 4 5 6 7 g), .c (.int .i64 0)] ∧ hs = [svB T, svB F, svB K, svB b] ++ hdB g)) := by
  refine fn_of_body tds_ok follows_ Try.func32 rfl (t := .a (.agg (psC 0 1 2 sp T F K at_ en)) :: .a (.c (.w8 first)) :: .a (.c (svC 3 b)) :: anys (Try.f32.ntmps - 3)) rfl (fun w r0 hr _ => ?_)
  obtain ⟨x0, x1, x2, x3, rfl⟩ := len4' hr
  have hbc := hb.cap
  have hm : (((first &&& 3#8).toNat : Nat) : Int) + 1 = ((manyB first : Nat) : Int) := rfl
  have hm1 : 1 ≤ manyB first := Nat.le_add_left _ _
  have h256 := (first &&& 3#8).isLt
  by_cases h1 : b.l.length < manyB first
  · have e1 : decide ((b.l.length : Int) < (((first &&& 3#8).toNat : Nat) : Int) + 1) = true := decide_eq_true (by rw [hm]; omega)
    (repeat first | refine And.intro (by omega) ?_ | refine And.intro (by decide) ?_ | refine And.intro rfl ?_ | refine And.intro (fun _ => ?_) (fun h => Bool.noConfusion h) | refine And.intro (fun h => Bool.noConfusion h) (fun _ => ?_) | refine And.intro (fun _ => ?_) (fun h => absurd h (by rw [e1]; decide)) | refine And.intro (fun h => absurd h (by rw [e1]; decide)) (fun _ => ?_))
    refine ⟨.tup [.agg hd0, .c (.int .i64 3)], _, ⟨[0, 1, 2, 3], ⟨rfl, rfl, rfl⟩, ?_⟩, fun _ => ⟨rfl, rfl⟩, fun h => absurd h1 (by omega), fun h => absurd h1 (by omega)⟩
    (repeat first | exact trivial | refine ⟨rfl, ?_⟩ | refine ⟨fun _ _ => ⟨rfl, trivial⟩, ?_⟩ | refine ⟨fun _ _ => trivial, ?_⟩ | refine ⟨by omega, ?_⟩ | refine ⟨fun _ _ => eqC_winS, ?_⟩ | refine ⟨fun _ _ => eqC_winM, ?_⟩ | refine ⟨fun _ _ => eqC_winB, ?_⟩ | refine ⟨fun _ _ => eqC_selfB, ?_⟩ | refine ⟨fun _ _ => eqC_mpB, ?_⟩)
    refine eqC_bts (eqC_bts (eqC_bts (eqC_bts ?_)))
    (repeat first | exact trivial | refine ⟨rfl, ?_⟩ | refine ⟨fun _ _ => ⟨rfl, trivial⟩, ?_⟩ | refine ⟨fun _ _ => trivial, ?_⟩ | refine ⟨by omega, ?_⟩ | refine ⟨fun _ _ => eqC_winS, ?_⟩ | refine ⟨fun _ _ => eqC_winM, ?_⟩ | refine ⟨fun _ _ => eqC_winB, ?_⟩ | refine ⟨fun _ _ => eqC_selfB, ?_⟩ | refine ⟨fun _ _ => eqC_mpB, ?_⟩)
  have e1 : decide ((b.l.length : Int) < (((first &&& 3#8).toNat : Nat) : Int) + 1) = false := decide_eq_false (by rw [hm]; omega)
  have fin : ∀ {P : Prop}, b.l.length < manyB first → P := fun h => absurd h h1
  by_cases h2 : sp = 2#8
  · have e2 : decide (sp = 2#8) = true := decide_eq_true h2
    by_cases h3 : first &&& 24#8 = 0#8
    · have e3 : decide (first &&& 24#8 ≠ 0#8) = false := decide_eq_false (fun e => e h3)
      have hno : noneB sp first = 0#8 := by unfold noneB; rw [if_pos h2]; exact h3
      (repeat first | refine And.intro (by omega) ?_ | refine And.intro (by decide) ?_ | refine And.intro rfl ?_ | refine And.intro (fun _ => ?_) (fun h => Bool.noConfusion h) | refine And.intro (fun h => Bool.noConfusion h) (fun _ => ?_) | refine And.intro (fun _ => ?_) (fun h => absurd h (by rw [e1]; decide)) | refine And.intro (fun h => absurd h (by rw [e1]; decide)) (fun _ => ?_) | refine And.intro (fun _ => ?_) (fun h => absurd h (by rw [e2]; decide)) | refine And.intro (fun h => absurd h (by rw [e2]; decide)) (fun _ => ?_) | refine And.intro (fun _ => ?_) (fun h => absurd h (by rw [e3]; decide)) | refine And.intro (fun h => absurd h (by rw [e3]; decide)) (fun _ => ?_))
      refine call_same (fn_hown ⟨sp, T, F, K, false, nilS⟩ ⟨hT, hF, hK, nil_ok⟩) [0, 1, 2, 3] rfl (by (repeat first | exact trivial | refine ⟨rfl, ?_⟩ | refine ⟨fun _ _ => ⟨rfl, trivial⟩, ?_⟩ | refine ⟨fun _ _ => trivial, ?_⟩ | refine ⟨by omega, ?_⟩ | refine ⟨fun _ _ => eqC_winS, ?_⟩ | refine ⟨fun _ _ => eqC_winM, ?_⟩ | refine ⟨fun _ _ => eqC_winB, ?_⟩ | refine ⟨fun _ _ => eqC_selfB, ?_⟩ | refine ⟨fun _ _ => eqC_mpB, ?_⟩)) ?_ (fun _ _ => trivial) ?_
      · refine eqC_bts (eqC_bts (eqC_bts ?_))
        exact eqSegs_nil trivial
      rintro x hs ⟨g, hg, hq, rfl, rfl⟩
      (repeat first | refine And.intro (by omega) ?_ | refine And.intro (by decide) ?_ | (with_reducible refine frc_parts (by first | omega | decide) ?_) | (with_reducible refine frc_bytesL (by first | omega | decide) ?_) | refine And.intro rfl ?_)
      refine And.intro (show (0 : Int) ≤ 0 ∧ (0 : Int) ≤ (((first &&& 3#8).toNat : Nat) : Int) + 1 ∧ (((first &&& 3#8).toNat : Nat) : Int) + 1 ≤ (b.c : Int) by rw [hm]; omega) ?_
      refine frcN_of (m := 0) rfl ?_
      refine frcN_of (m := manyB first) (show ((((first &&& 3#8).toNat : Nat) : Int) + 1).toNat = manyB first by rw [hm]; rfl) ?_
      refine frcN_of (m := b.o) (by split <;> simp) ?_
      refine frcN_of (m := manyB first) rfl ?_
      refine frcN_of (m := b.c) rfl ?_
      (repeat first | refine And.intro (by omega) ?_ | refine And.intro (by decide) ?_ | (with_reducible refine frc_parts (by first | omega | decide) ?_) | (with_reducible refine frc_bytesL (by first | omega | decide) ?_) | refine And.intro rfl ?_)
      have lm : (b.l.take (manyB first)).length = manyB first := by rw [List.length_take]; omega
      refine call_pad (fn_clone (cutS b (manyB first)) (cutS_ok hb _)) [3] rfl ?_ ((cutS_sub b _).ent trivial) (fun _ _ => trivial) ?_
      · exact ⟨rfl, rfl, lm.symm, rfl, trivial⟩
      rintro x hs ⟨n, hn, hnl, rfl, rfl⟩
      (repeat first | refine And.intro (by omega) ?_ | refine And.intro (by decide) ?_ | refine And.intro rfl ?_ | refine And.intro (fun _ => ?_) (fun h => Bool.noConfusion h) | refine And.intro (fun h => Bool.noConfusion h) (fun _ => ?_) | refine And.intro (fun _ => ?_) (fun h => absurd h (by rw [e2]; decide)) | refine And.intro (fun h => absurd h (by rw [e2]; decide)) (fun _ => ?_))
      refine ⟨.tup [.agg (hdC 4 5 6 7 ⟨sp, g.t, g.f, g.k, decide (first &&& 4#8 ≠ 0#8), n⟩), .c (.int .i64 0)], _, ⟨[0, 1, 2, 3, 6, 7, 8, 11], ⟨rfl, rfl, rfl⟩, ?_⟩, fin, fun _ h => absurd hno h, fun _ _ => ⟨⟨sp, g.t, g.f, g.k, decide (first &&& 4#8 ≠ 0#8), n⟩, ⟨hg.t, hg.f, hg.k, hn⟩, rfl, hq.t, hq.f, hq.k, by rw [if_pos h2], hnl, rfl, rfl⟩⟩
      (repeat first | exact trivial | refine ⟨rfl, ?_⟩ | refine ⟨fun _ _ => ⟨rfl, trivial⟩, ?_⟩ | refine ⟨fun _ _ => trivial, ?_⟩ | refine ⟨by omega, ?_⟩ | refine ⟨fun _ _ => eqC_winS, ?_⟩ | refine ⟨fun _ _ => eqC_winM, ?_⟩ | refine ⟨fun _ _ => eqC_winB, ?_⟩ | refine ⟨fun _ _ => eqC_selfB, ?_⟩ | refine ⟨fun _ _ => eqC_mpB, ?_⟩)
      refine ⟨hq.sp, ?_⟩
      (repeat first | exact trivial | refine ⟨rfl, ?_⟩ | refine ⟨fun _ _ => ⟨rfl, trivial⟩, ?_⟩ | refine ⟨fun _ _ => trivial, ?_⟩ | refine ⟨by omega, ?_⟩ | refine ⟨fun _ _ => eqC_winS, ?_⟩ | refine ⟨fun _ _ => eqC_winM, ?_⟩ | refine ⟨fun _ _ => eqC_winB, ?_⟩ | refine ⟨fun _ _ => eqC_selfB, ?_⟩ | refine ⟨fun _ _ => eqC_mpB, ?_⟩)
      refine eqC_bts (eqC_bts (eqC_bts (eqC_bts ?_)))
      refine eqC_btsM (eqC_btsM (eqC_btsM (eqC_btsM ?_)))
      (repeat first | exact trivial | refine ⟨rfl, ?_⟩ | refine ⟨fun _ _ => ⟨rfl, trivial⟩, ?_⟩ | refine ⟨fun _ _ => trivial, ?_⟩ | refine ⟨by omega, ?_⟩ | refine ⟨fun _ _ => eqC_winS, ?_⟩ | refine ⟨fun _ _ => eqC_winM, ?_⟩ | refine ⟨fun _ _ => eqC_winB, ?_⟩ | refine ⟨fun _ _ => eqC_selfB, ?_⟩ | refine ⟨fun _ _ => eqC_mpB, ?_⟩)
    · have e3 : decide (first &&& 24#8 ≠ 0#8) = true := decide_eq_true h3
      have hno : noneB sp first ≠ 0#8 := by unfold noneB; rw [if_pos h2]; exact h3
      (repeat first | refine And.intro (by omega) ?_ | refine And.intro (by decide) ?_ | refine And.intro rfl ?_ | refine And.intro (fun _ => ?_) (fun h => Bool.noConfusion h) | refine And.intro (fun h => Bool.noConfusion h) (fun _ => ?_) | refine And.intro (fun _ => ?_) (fun h => absurd h (by rw [e1]; decide)) | refine And.intro (fun h => absurd h (by rw [e1]; decide)) (fun _ => ?_) | refine And.intro (fun _ => ?_) (fun h => absurd h (by rw [e2]; decide)) | refine And.intro (fun h => absurd h (by rw [e2]; decide)) (fun _ => ?_) | refine And.intro (fun _ => ?_) (fun h => absurd h (by rw [e3]; decide)) | refine And.intro (fun h => absurd h (by rw [e3]; decide)) (fun _ => ?_))
      refine ⟨.tup [.agg hd0, .c (.int .i64 4)], _, ⟨[0, 1, 2, 3], ⟨rfl, rfl, rfl⟩, ?_⟩, fin, fun _ _ => ⟨rfl, rfl⟩, fun _ h => absurd h hno⟩
      (repeat first | exact trivial | refine ⟨rfl, ?_⟩ | refine ⟨fun _ _ => ⟨rfl, trivial⟩, ?_⟩ | refine ⟨fun _ _ => trivial, ?_⟩ | refine ⟨by omega, ?_⟩ | refine ⟨fun _ _ => eqC_winS, ?_⟩ | refine ⟨fun _ _ => eqC_winM, ?_⟩ | refine ⟨fun _ _ => eqC_winB, ?_⟩ | refine ⟨fun _ _ => eqC_selfB, ?_⟩ | refine ⟨fun _ _ => eqC_mpB, ?_⟩)
      refine eqC_bts (eqC_bts (eqC_bts (eqC_bts ?_)))
      (repeat first | exact trivial | refine ⟨rfl, ?_⟩ | refine ⟨fun _ _ => ⟨rfl, trivial⟩, ?_⟩ | refine ⟨fun _ _ => trivial, ?_⟩ | refine ⟨by omega, ?_⟩ | refine ⟨fun _ _ => eqC_winS, ?_⟩ | refine ⟨fun _ _ => eqC_winM, ?_⟩ | refine ⟨fun _ _ => eqC_winB, ?_⟩ | refine ⟨fun _ _ => eqC_selfB, ?_⟩ | refine ⟨fun _ _ => eqC_mpB, ?_⟩)
  · have e2 : decide (sp = 2#8) = false := decide_eq_false h2
    by_cases h3 : first &&& 12#8 = 0#8
    · have e3 : decide (first &&& 12#8 ≠ 0#8) = false := decide_eq_false (fun e => e h3)
      have hno : noneB sp first = 0#8 := by unfold noneB; rw [if_neg h2]; exact h3
      (repeat first | refine And.intro (by omega) ?_ | refine And.intro (by decide) ?_ | refine And.intro rfl ?_ | refine And.intro (fun _ => ?_) (fun h => Bool.noConfusion h) | refine And.intro (fun h => Bool.noConfusion h) (fun _ => ?_) | refine And.intro (fun _ => ?_) (fun h => absurd h (by rw [e1]; decide)) | refine And.intro (fun h => absurd h (by rw [e1]; decide)) (fun _ => ?_) | refine And.intro (fun _ => ?_) (fun h => absurd h (by rw [e2]; decide)) | refine And.intro (fun h => absurd h (by rw [e2]; decide)) (fun _ => ?_) | refine And.intro (fun _ => ?_) (fun h => absurd h (by rw [e3]; decide)) | refine And.intro (fun h => absurd h (by rw [e3]; decide)) (fun _ => ?_))
      refine call_same (fn_hown ⟨sp, T, F, K, false, nilS⟩ ⟨hT, hF, hK, nil_ok⟩) [0, 1, 2, 3] rfl (by (repeat first | exact trivial | refine ⟨rfl, ?_⟩ | refine ⟨fun _ _ => ⟨rfl, trivial⟩, ?_⟩ | refine ⟨fun _ _ => trivial, ?_⟩ | refine ⟨by omega, ?_⟩ | refine ⟨fun _ _ => eqC_winS, ?_⟩ | refine ⟨fun _ _ => eqC_winM, ?_⟩ | refine ⟨fun _ _ => eqC_winB, ?_⟩ | refine ⟨fun _ _ => eqC_selfB, ?_⟩ | refine ⟨fun _ _ => eqC_mpB, ?_⟩)) ?_ (fun _ _ => trivial) ?_
      · refine eqC_bts (eqC_bts (eqC_bts ?_))
        exact eqSegs_nil trivial
      rintro x hs ⟨g, hg, hq, rfl, rfl⟩
      (repeat first | refine And.intro (by omega) ?_ | refine And.intro (by decide) ?_ | (with_reducible refine frc_parts (by first | omega | decide) ?_) | (with_reducible refine frc_bytesL (by first | omega | decide) ?_) | refine And.intro rfl ?_)
      refine And.intro (show (0 : Int) ≤ 0 ∧ (0 : Int) ≤ (((first &&& 3#8).toNat : Nat) : Int) + 1 ∧ (((first &&& 3#8).toNat : Nat) : Int) + 1 ≤ (b.c : Int) by rw [hm]; omega) ?_
      refine frcN_of (m := 0) rfl ?_
      refine frcN_of (m := manyB first) (show ((((first &&& 3#8).toNat : Nat) : Int) + 1).toNat = manyB first by rw [hm]; rfl) ?_
      refine frcN_of (m := b.o) (by split <;> simp) ?_
      refine frcN_of (m := manyB first) rfl ?_
      refine frcN_of (m := b.c) rfl ?_
      (repeat first | refine And.intro (by omega) ?_ | refine And.intro (by decide) ?_ | (with_reducible refine frc_parts (by first | omega | decide) ?_) | (with_reducible refine frc_bytesL (by first | omega | decide) ?_) | refine And.intro rfl ?_)
      have lm : (b.l.take (manyB first)).length = manyB first := by rw [List.length_take]; omega
      refine call_pad (fn_clone (cutS b (manyB first)) (cutS_ok hb _)) [3] rfl ?_ ((cutS_sub b _).ent trivial) (fun _ _ => trivial) ?_
      · exact ⟨rfl, rfl, lm.symm, rfl, trivial⟩
      rintro x hs ⟨n, hn, hnl, rfl, rfl⟩
      (repeat first | refine And.intro (by omega) ?_ | refine And.intro (by decide) ?_ | refine And.intro rfl ?_ | refine And.intro (fun _ => ?_) (fun h => Bool.noConfusion h) | refine And.intro (fun h => Bool.noConfusion h) (fun _ => ?_) | refine And.intro (fun _ => ?_) (fun h => absurd h (by rw [e2]; decide)) | refine And.intro (fun h => absurd h (by rw [e2]; decide)) (fun _ => ?_))
      refine ⟨.tup [.agg (hdC 4 5 6 7 ⟨sp, g.t, g.f, g.k, false, n⟩), .c (.int .i64 0)], _, ⟨[0, 1, 2, 3, 6, 7, 8, 11], ⟨rfl, rfl, rfl⟩, ?_⟩, fin, fun _ h => absurd hno h, fun _ _ => ⟨⟨sp, g.t, g.f, g.k, false, n⟩, ⟨hg.t, hg.f, hg.k, hn⟩, rfl, hq.t, hq.f, hq.k, by rw [if_neg h2], hnl, rfl, rfl⟩⟩
      (repeat first | exact trivial | refine ⟨rfl, ?_⟩ | refine ⟨fun _ _ => ⟨rfl, trivial⟩, ?_⟩ | refine ⟨fun _ _ => trivial, ?_⟩ | refine ⟨by omega, ?_⟩ | refine ⟨fun _ _ => eqC_winS, ?_⟩ | refine ⟨fun _ _ => eqC_winM, ?_⟩ | refine ⟨fun _ _ => eqC_winB, ?_⟩ | refine ⟨fun _ _ => eqC_selfB, ?_⟩ | refine ⟨fun _ _ => eqC_mpB, ?_⟩)
      refine ⟨hq.sp, ?_⟩
      (repeat first | exact trivial | refine ⟨rfl, ?_⟩ | refine ⟨fun _ _ => ⟨rfl, trivial⟩, ?_⟩ | refine ⟨fun _ _ => trivial, ?_⟩ | refine ⟨by omega, ?_⟩ | refine ⟨fun _ _ => eqC_winS, ?_⟩ | refine ⟨fun _ _ => eqC_winM, ?_⟩ | refine ⟨fun _ _ => eqC_winB, ?_⟩ | refine ⟨fun _ _ => eqC_selfB, ?_⟩ | refine ⟨fun _ _ => eqC_mpB, ?_⟩)
      refine ⟨hq.turn, ?_⟩
      (repeat first | exact trivial | refine ⟨rfl, ?_⟩ | refine ⟨fun _ _ => ⟨rfl, trivial⟩, ?_⟩ | refine ⟨fun _ _ => trivial, ?_⟩ | refine ⟨by omega, ?_⟩ | refine ⟨fun _ _ => eqC_winS, ?_⟩ | refine ⟨fun _ _ => eqC_winM, ?_⟩ | refine ⟨fun _ _ => eqC_winB, ?_⟩ | refine ⟨fun _ _ => eqC_selfB, ?_⟩ | refine ⟨fun _ _ => eqC_mpB, ?_⟩)
      refine eqC_bts (eqC_bts (eqC_bts (eqC_bts ?_)))
      refine eqC_btsM (eqC_btsM (eqC_btsM (eqC_btsM ?_)))
      (repeat first | exact trivial | refine ⟨rfl, ?_⟩ | refine ⟨fun _ _ => ⟨rfl, trivial⟩, ?_⟩ | refine ⟨fun _ _ => trivial, ?_⟩ | refine ⟨by omega, ?_⟩ | refine ⟨fun _ _ => eqC_winS, ?_⟩ | refine ⟨fun _ _ => eqC_winM, ?_⟩ | refine ⟨fun _ _ => eqC_winB, ?_⟩ | refine ⟨fun _ _ => eqC_selfB, ?_⟩ | refine ⟨fun _ _ => eqC_mpB, ?_⟩)
    · have e3 : decide (first &&& 12#8 ≠ 0#8) = true := decide_eq_true h3
      have hno : noneB sp first ≠ 0#8 := by unfold noneB; rw [if_neg h2]; exact h3
      (repeat first | refine And.intro (by omega) ?_ | refine And.intro (by decide) ?_ | refine And.intro rfl ?_ | refine And.intro (fun _ => ?_) (fun h => Bool.noConfusion h) | refine And.intro (fun h => Bool.noConfusion h) (fun _ => ?_) | refine And.intro (fun _ => ?_) (fun h => absurd h (by rw [e1]; decide)) | refine And.intro (fun h => absurd h (by rw [e1]; decide)) (fun _ => ?_) | refine And.intro (fun _ => ?_) (fun h => absurd h (by rw [e2]; decide)) | refine And.intro (fun h => absurd h (by rw [e2]; decide)) (fun _ => ?_) | refine And.intro (fun _ => ?_) (fun h => absurd h (by rw [e3]; decide)) | refine And.intro (fun h => absurd h (by rw [e3]; decide)) (fun _ => ?_))
      refine ⟨.tup [.agg hd0, .c (.int .i64 4)], _, ⟨[0, 1, 2, 3], ⟨rfl, rfl, rfl⟩, ?_⟩, fin, fun _ _ => ⟨rfl, rfl⟩, fun _ h => absurd h hno⟩
      (repeat first | exact trivial | refine ⟨rfl, ?_⟩ | refine ⟨fun _ _ => ⟨rfl, trivial⟩, ?_⟩ | refine ⟨fun _ _ => trivial, ?_⟩ | refine ⟨by omega, ?_⟩ | refine ⟨fun _ _ => eqC_winS, ?_⟩ | refine ⟨fun _ _ => eqC_winM, ?_⟩ | refine ⟨fun _ _ => eqC_winB, ?_⟩ | refine ⟨fun _ _ => eqC_selfB, ?_⟩ | refine ⟨fun _ _ => eqC_mpB, ?_⟩)
      refine eqC_bts (eqC_bts (eqC_bts (eqC_bts ?_)))
      (repeat first | exact trivial | refine ⟨rfl, ?_⟩ | refine ⟨fun _ _ => ⟨rfl, trivial⟩, ?_⟩ | refine ⟨fun _ _ => trivial, ?_⟩ | refine ⟨by omega, ?_⟩ | refine ⟨fun _ _ => eqC_winS, ?_⟩ | refine ⟨fun _ _ => eqC_winM, ?_⟩ | refine ⟨fun _ _ => eqC_winB, ?_⟩ | refine ⟨fun _ _ => eqC_selfB, ?_⟩ | refine ⟨fun _ _ => eqC_mpB, ?_⟩)
def sameM (a b : Hd) : Bool := decide (a.sp = b.sp ∧ a.turn = b.turn ∧ a.t.l = b.t.l ∧ a.f.l = b.f.l ∧ a.k.l = b.k.l ∧ a.n.l = b.n.l)
set_option maxRecDepth 20000 in
set_option maxHeartbeats 8000000 in
theorem fn_hsame (a b : Hd) (ha : a.Ok) (hb : b.Ok) : FnR Try.prog tds 33 8 (hdB a ++ hdB b) [.agg (hdC 0 1 2 3 a), .agg (hdC 4 5 6 7 b)] (fun _ => True)
    (fun y hs => y = .a (.c (.bool (sameM a b))) ∧ hs = hdB a ++ hdB b) := by
  refine fn_of_body tds_ok follows_ Try.func33 rfl (t := .a (.agg (hdC 0 1 2 3 a)) :: .a (.agg (hdC 4 5 6 7 b)) :: anys (Try.f33.ntmps - 2)) rfl (fun w r0 hr _ => ?_)
  obtain ⟨x0, x1, x2, x3, x4, x5, x6, x7, rfl⟩ := len8' hr
  by_cases h1 : a.sp = b.sp
  rotate_left
  · have e1 : decide (a.sp = b.sp) = false := decide_eq_false h1
    (repeat first | refine And.intro (by omega) ?_ | refine And.intro (by decide) ?_ | refine And.intro rfl ?_ | refine And.intro (fun _ => ?_) (fun h => Bool.noConfusion h) | refine And.intro (fun h => Bool.noConfusion h) (fun _ => ?_) | refine And.intro (fun _ => ?_) (fun h => absurd h (by rw [e1]; decide)) | refine And.intro (fun h => absurd h (by rw [e1]; decide)) (fun _ => ?_))
    refine ⟨.a (.c (.bool (sameM a b))), _, ⟨[0, 1, 2, 3, 4, 5, 6, 7], ⟨rfl, rfl, rfl⟩, ?_⟩, rfl, rfl⟩
    refine ⟨show false = sameM a b by unfold sameM; simp [h1], ?_⟩
    refine eqC_bts (eqC_bts (eqC_bts (eqC_bts (eqC_bts (eqC_bts (eqC_bts (eqC_bts ?_)))))))
    (repeat first | exact trivial | refine ⟨rfl, ?_⟩ | refine ⟨fun _ _ => ⟨rfl, trivial⟩, ?_⟩ | refine ⟨fun _ _ => trivial, ?_⟩ | refine ⟨by omega, ?_⟩ | refine ⟨fun _ _ => eqC_winS, ?_⟩ | refine ⟨fun _ _ => eqC_winM, ?_⟩ | refine ⟨fun _ _ => eqC_winB, ?_⟩ | refine ⟨fun _ _ => eqC_selfB, ?_⟩ | refine ⟨fun _ _ => eqC_mpB, ?_⟩)
  have e1 : decide (a.sp = b.sp) = true := decide_eq_true h1
  by_cases h2 : a.turn = b.turn
  rotate_left
  · have e2 : (a.turn == b.turn) = false := beq_false_of_ne h2
    (repeat first | refine And.intro (by omega) ?_ | refine And.intro (by decide) ?_ | refine And.intro rfl ?_ | refine And.intro (fun _ => ?_) (fun h => Bool.noConfusion h) | refine And.intro (fun h => Bool.noConfusion h) (fun _ => ?_) | refine And.intro (fun _ => ?_) (fun h => absurd h (by rw [e1]; decide)) | refine And.intro (fun h => absurd h (by rw [e1]; decide)) (fun _ => ?_) | refine And.intro (fun _ => ?_) (fun h => absurd h (by rw [e2]; decide)) | refine And.intro (fun h => absurd h (by rw [e2]; decide)) (fun _ => ?_))
    refine ⟨.a (.c (.bool (sameM a b))), _, ⟨[0, 1, 2, 3, 4, 5, 6, 7], ⟨rfl, rfl, rfl⟩, ?_⟩, rfl, rfl⟩
    refine ⟨show false = sameM a b by unfold sameM; simp [h2], ?_⟩
    refine eqC_bts (eqC_bts (eqC_bts (eqC_bts (eqC_bts (eqC_bts (eqC_bts (eqC_bts ?_)))))))
    (repeat first | exact trivial | refine ⟨rfl, ?_⟩ | refine ⟨fun _ _ => ⟨rfl, trivial⟩, ?_⟩ | refine ⟨fun _ _ => trivial, ?_⟩ | refine ⟨by omega, ?_⟩ | refine ⟨fun _ _ => eqC_winS, ?_⟩ | refine ⟨fun _ _ => eqC_winM, ?_⟩ | refine ⟨fun _ _ => eqC_winB, ?_⟩ | refine ⟨fun _ _ => eqC_selfB, ?_⟩ | refine ⟨fun _ _ => eqC_mpB, ?_⟩)
  have e2 : (a.turn == b.turn) = true := by rw [h2]; exact beq_self_eq_true _
  (repeat first | refine And.intro (by omega) ?_ | refine And.intro (by decide) ?_ | refine And.intro rfl ?_ | refine And.intro (fun _ => ?_) (fun h => Bool.noConfusion h) | refine And.intro (fun h => Bool.noConfusion h) (fun _ => ?_) | refine And.intro (fun _ => ?_) (fun h => absurd h (by rw [e1]; decide)) | refine And.intro (fun h => absurd h (by rw [e1]; decide)) (fun _ => ?_) | refine And.intro (fun _ => ?_) (fun h => absurd h (by rw [e2]; decide)) | refine And.intro (fun h => absurd h (by rw [e2]; decide)) (fun _ => ?_))
  refine call_same (fn_equal a.t b.t ha.t hb.t) [0, 4] rfl (by (repeat first | exact trivial | refine ⟨rfl, ?_⟩ | refine ⟨fun _ _ => ⟨rfl, trivial⟩, ?_⟩ | refine ⟨fun _ _ => trivial, ?_⟩ | refine ⟨by omega, ?_⟩ | refine ⟨fun _ _ => eqC_winS, ?_⟩ | refine ⟨fun _ _ => eqC_winM, ?_⟩ | refine ⟨fun _ _ => eqC_winB, ?_⟩ | refine ⟨fun _ _ => eqC_selfB, ?_⟩ | refine ⟨fun _ _ => eqC_mpB, ?_⟩)) (eqC_bts (eqC_bts trivial)) (fun _ _ => trivial) ?_
  rintro x hs ⟨rfl, rfl⟩
  by_cases q0 : a.t.l = b.t.l
  rotate_left
  · have d0 : decide (a.t.l = b.t.l) = false := decide_eq_false q0
    (repeat first | refine And.intro (by omega) ?_ | refine And.intro (by decide) ?_ | refine And.intro rfl ?_ | refine And.intro (fun _ => ?_) (fun h => Bool.noConfusion h) | refine And.intro (fun h => Bool.noConfusion h) (fun _ => ?_) | refine And.intro (fun _ => ?_) (fun h => absurd h (by rw [e1]; decide)) | refine And.intro (fun h => absurd h (by rw [e1]; decide)) (fun _ => ?_) | refine And.intro (fun _ => ?_) (fun h => absurd h (by rw [e2]; decide)) | refine And.intro (fun h => absurd h (by rw [e2]; decide)) (fun _ => ?_) | refine And.intro (fun _ => ?_) (fun h => absurd h (by rw [d0]; decide)) | refine And.intro (fun h => absurd h (by rw [d0]; decide)) (fun _ => ?_))
    refine ⟨.a (.c (.bool (sameM a b))), _, ⟨[0, 1, 2, 3, 4, 5, 6, 7], ⟨rfl, rfl, rfl⟩, ?_⟩, rfl, rfl⟩
    refine ⟨show false = sameM a b by unfold sameM; simp [q0], ?_⟩
    refine eqC_bts (eqC_bts (eqC_bts (eqC_bts (eqC_bts (eqC_bts (eqC_bts (eqC_bts ?_)))))))
    (repeat first | exact trivial | refine ⟨rfl, ?_⟩ | refine ⟨fun _ _ => ⟨rfl, trivial⟩, ?_⟩ | refine ⟨fun _ _ => trivial, ?_⟩ | refine ⟨by omega, ?_⟩ | refine ⟨fun _ _ => eqC_winS, ?_⟩ | refine ⟨fun _ _ => eqC_winM, ?_⟩ | refine ⟨fun _ _ => eqC_winB, ?_⟩ | refine ⟨fun _ _ => eqC_selfB, ?_⟩ | refine ⟨fun _ _ => eqC_mpB, ?_⟩)
  have d0 : decide (a.t.l = b.t.l) = true := decide_eq_true q0
  (repeat first | refine And.intro (by omega) ?_ | refine And.intro (by decide) ?_ | refine And.intro rfl ?_ | refine And.intro (fun _ => ?_) (fun h => Bool.noConfusion h) | refine And.intro (fun h => Bool.noConfusion h) (fun _ => ?_) | refine And.intro (fun _ => ?_) (fun h => absurd h (by rw [e1]; decide)) | refine And.intro (fun h => absurd h (by rw [e1]; decide)) (fun _ => ?_) | refine And.intro (fun _ => ?_) (fun h => absurd h (by rw [e2]; decide)) | refine And.intro (fun h => absurd h (by rw [e2]; decide)) (fun _ => ?_) | refine And.intro (fun _ => ?_) (fun h => absurd h (by rw [d0]; decide)) | refine And.intro (fun h => absurd h (by rw [d0]; decide)) (fun _ => ?_))
  refine call_same (fn_equal a.f b.f ha.f hb.f) [1, 5] rfl (by (repeat first | exact trivial | refine ⟨rfl, ?_⟩ | refine ⟨fun _ _ => ⟨rfl, trivial⟩, ?_⟩ | refine ⟨fun _ _ => trivial, ?_⟩ | refine ⟨by omega, ?_⟩ | refine ⟨fun _ _ => eqC_winS, ?_⟩ | refine ⟨fun _ _ => eqC_winM, ?_⟩ | refine ⟨fun _ _ => eqC_winB, ?_⟩ | refine ⟨fun _ _ => eqC_selfB, ?_⟩ | refine ⟨fun _ _ => eqC_mpB, ?_⟩)) (eqC_bts (eqC_bts trivial)) (fun _ _ => trivial) ?_
  rintro x hs ⟨rfl, rfl⟩
  by_cases q1 : a.f.l = b.f.l
  rotate_left
  · have d1 : decide (a.f.l = b.f.l) = false := decide_eq_false q1
    (repeat first | refine And.intro (by omega) ?_ | refine And.intro (by decide) ?_ | refine And.intro rfl ?_ | refine And.intro (fun _ => ?_) (fun h => Bool.noConfusion h) | refine And.intro (fun h => Bool.noConfusion h) (fun _ => ?_) | refine And.intro (fun _ => ?_) (fun h => absurd h (by rw [e1]; decide)) | refine And.intro (fun h => absurd h (by rw [e1]; decide)) (fun _ => ?_) | refine And.intro (fun _ => ?_) (fun h => absurd h (by rw [e2]; decide)) | refine And.intro (fun h => absurd h (by rw [e2]; decide)) (fun _ => ?_) | refine And.intro (fun _ => ?_) (fun h => absurd h (by rw [d0]; decide)) | refine And.intro (fun h => absurd h (by rw [d0]; decide)) (fun _ => ?_) | refine And.intro (fun _ => ?_) (fun h => absurd h (by rw [d1]; decide)) | refine And.intro (fun h => absurd h (by rw [d1]; decide)) (fun _ => ?_))
    refine ⟨.a (.c (.bool (sameM a b))), _, ⟨[0, 1, 2, 3, 4, 5, 6, 7], ⟨rfl, rfl, rfl⟩, ?_⟩, rfl, rfl⟩
    refine ⟨show false = sameM a b by unfold sameM; simp [q1], ?_⟩
    refine eqC_bts (eqC_bts (eqC_bts (eqC_bts (eqC_bts (eqC_bts (eqC_bts (eqC_bts ?_)))))))
    (repeat first | exact trivial | refine ⟨rfl, ?_⟩ | refine ⟨fun _ _ => ⟨rfl, trivial⟩, ?_⟩ | refine ⟨fun _ _ => trivial, ?_⟩ | refine ⟨by omega, ?_⟩ | refine ⟨fun _ _ => eqC_winS, ?_⟩ | refine ⟨fun _ _ => eqC_winM, ?_⟩ | refine ⟨fun _ _ => eqC_winB, ?_⟩ | refine ⟨fun _ _ => eqC_selfB, ?_⟩ | refine ⟨fun _ _ => eqC_mpB, ?_⟩)
  have d1 : decide (a.f.l = b.f.l) = true := decide_eq_true q1
  (repeat first | refine And.intro (by omega) ?_ | refine And.intro (by decide) ?_ | refine And.intro rfl ?_ | refine And.intro (fun _ => ?_) (fun h => Bool.noConfusion h) | refine And.intro (fun h => Bool.noConfusion h) (fun _ => ?_) | refine And.intro (fun _ => ?_) (fun h => absurd h (by rw [e1]; decide)) | refine And.intro (fun h => absurd h (by rw [e1]; decide)) (fun _ => ?_) | refine And.intro (fun _ => ?_) (fun h => absurd h (by rw [e2]; decide)) | refine And.intro (fun h => absurd h (by rw [e2]; decide)) (fun _ => ?_) | refine And.intro (fun _ => ?_) (fun h => absurd h (by rw [d0]; decide)) | refine And.intro (fun h => absurd h (by rw [d0]; decide)) (fun _ => ?_) | refine And.intro (fun _ => ?_) (fun h => absurd h (by rw [d1]; decide)) | refine And.intro (fun h => absurd h (by rw [d1]; decide)) (fun _ => ?_))
  refine call_same (fn_equal a.k b.k ha.k hb.k) [2, 6] rfl (by (repeat first | exact trivial | refine ⟨rfl, ?_⟩ | refine ⟨fun _ _ => ⟨rfl, trivial⟩, ?_⟩ | refine ⟨fun _ _ => trivial, ?_⟩ | refine ⟨by omega, ?_⟩ | refine ⟨fun _ _ => eqC_winS, ?_⟩ | refine ⟨fun _ _ => eqC_winM, ?_⟩ | refine ⟨fun _ _ => eqC_winB, ?_⟩ | refine ⟨fun _ _ => eqC_selfB, ?_⟩ | refine ⟨fun _ _ => eqC_mpB, ?_⟩)) (eqC_bts (eqC_bts trivial)) (fun _ _ => trivial) ?_
  rintro x hs ⟨rfl, rfl⟩
  by_cases q2 : a.k.l = b.k.l
  rotate_left
  · have d2 : decide (a.k.l = b.k.l) = false := decide_eq_false q2
    (repeat first | refine And.intro (by omega) ?_ | refine And.intro (by decide) ?_ | refine And.intro rfl ?_ | refine And.intro (fun _ => ?_) (fun h => Bool.noConfusion h) | refine And.intro (fun h => Bool.noConfusion h) (fun _ => ?_) | refine And.intro (fun _ => ?_) (fun h => absurd h (by rw [e1]; decide)) | refine And.intro (fun h => absurd h (by rw [e1]; decide)) (fun _ => ?_) | refine And.intro (fun _ => ?_) (fun h => absurd h (by rw [e2]; decide)) | refine And.intro (fun h => absurd h (by rw [e2]; decide)) (fun _ => ?_) | refine And.intro (fun _ => ?_) (fun h => absurd h (by rw [d0]; decide)) | refine And.intro (fun h => absurd h (by rw [d0]; decide)) (fun _ => ?_) | refine And.intro (fun _ => ?_) (fun h => absurd h (by rw [d1]; decide)) | refine And.intro (fun h => absurd h (by rw [d1]; decide)) (fun _ => ?_) | refine And.intro (fun _ => ?_) (fun h => absurd h (by rw [d2]; decide)) | refine And.intro (fun h => absurd h (by rw [d2]; decide)) (fun _ => ?_))
    refine ⟨.a (.c (.bool (sameM a b))), _, ⟨[0, 1, 2, 3, 4, 5, 6, 7], ⟨rfl, rfl, rfl⟩, ?_⟩, rfl, rfl⟩
    refine ⟨show false = sameM a b by unfold sameM; simp [q2], ?_⟩
    refine eqC_bts (eqC_bts (eqC_bts (eqC_bts (eqC_bts (eqC_bts (eqC_bts (eqC_bts ?_)))))))
    (repeat first | exact trivial | refine ⟨rfl, ?_⟩ | refine ⟨fun _ _ => ⟨rfl, trivial⟩, ?_⟩ | refine ⟨fun _ _ => trivial, ?_⟩ | refine ⟨by omega, ?_⟩ | refine ⟨fun _ _ => eqC_winS, ?_⟩ | refine ⟨fun _ _ => eqC_winM, ?_⟩ | refine ⟨fun _ _ => eqC_winB, ?_⟩ | refine ⟨fun _ _ => eqC_selfB, ?_⟩ | refine ⟨fun _ _ => eqC_mpB, ?_⟩)
  have d2 : decide (a.k.l = b.k.l) = true := decide_eq_true q2
  (repeat first | refine And.intro (by omega) ?_ | refine And.intro (by decide) ?_ | refine And.intro rfl ?_ | refine And.intro (fun _ => ?_) (fun h => Bool.noConfusion h) | refine And.intro (fun h => Bool.noConfusion h) (fun _ => ?_) | refine And.intro (fun _ => ?_) (fun h => absurd h (by rw [e1]; decide)) | refine And.intro (fun h => absurd h (by rw [e1]; decide)) (fun _ => ?_) | refine And.intro (fun _ => ?_) (fun h => absurd h (by rw [e2]; decide)) | refine And.intro (fun h => absurd h (by rw [e2]; decide)) (fun _ => ?_) | refine And.intro (fun _ => ?_) (fun h => absurd h (by rw [d0]; decide)) | refine And.intro (fun h => absurd h (by rw [d0]; decide)) (fun _ => ?_) | refine And.intro (fun _ => ?_) (fun h => absurd h (by rw [d1]; decide)) | refine And.intro (fun h => absurd h (by rw [d1]; decide)) (fun _ => ?_) | refine And.intro (fun _ => ?_) (fun h => absurd h (by rw [d2]; decide)) | refine And.intro (fun h => absurd h (by rw [d2]; decide)) (fun _ => ?_))
  refine call_same (fn_equal a.n b.n ha.n hb.n) [3, 7] rfl (by (repeat first | exact trivial | refine ⟨rfl, ?_⟩ | refine ⟨fun _ _ => ⟨rfl, trivial⟩, ?_⟩ | refine ⟨fun _ _ => trivial, ?_⟩ | refine ⟨by omega, ?_⟩ | refine ⟨fun _ _ => eqC_winS, ?_⟩ | refine ⟨fun _ _ => eqC_winM, ?_⟩ | refine ⟨fun _ _ => eqC_winB, ?_⟩ | refine ⟨fun _ _ => eqC_selfB, ?_⟩ | refine ⟨fun _ _ => eqC_mpB, ?_⟩)) (eqC_bts (eqC_bts trivial)) (fun _ _ => trivial) ?_
  rintro x hs ⟨rfl, rfl⟩
  by_cases q3 : a.n.l = b.n.l
  rotate_left
  · have d3 : decide (a.n.l = b.n.l) = false := decide_eq_false q3
    (repeat first | refine And.intro (by omega) ?_ | refine And.intro (by decide) ?_ | refine And.intro rfl ?_ | refine And.intro (fun _ => ?_) (fun h => Bool.noConfusion h) | refine And.intro (fun h => Bool.noConfusion h) (fun _ => ?_) | refine And.intro (fun _ => ?_) (fun h => absurd h (by rw [e1]; decide)) | refine And.intro (fun h => absurd h (by rw [e1]; decide)) (fun _ => ?_) | refine And.intro (fun _ => ?_) (fun h => absurd h (by rw [e2]; decide)) | refine And.intro (fun h => absurd h (by rw [e2]; decide)) (fun _ => ?_) | refine And.intro (fun _ => ?_) (fun h => absurd h (by rw [d0]; decide)) | refine And.intro (fun h => absurd h (by rw [d0]; decide)) (fun _ => ?_) | refine And.intro (fun _ => ?_) (fun h => absurd h (by rw [d1]; decide)) | refine And.intro (fun h => absurd h (by rw [d1]; decide)) (fun _ => ?_) | refine And.intro (fun _ => ?_) (fun h => absurd h (by rw [d2]; decide)) | refine And.intro (fun h => absurd h (by rw [d2]; decide)) (fun _ => ?_) | refine And.intro (fun _ => ?_) (fun h => absurd h (by rw [d3]; decide)) | refine And.intro (fun h => absurd h (by rw [d3]; decide)) (fun _ => ?_))
    refine ⟨.a (.c (.bool (sameM a b))), _, ⟨[0, 1, 2, 3, 4, 5, 6, 7], ⟨rfl, rfl, rfl⟩, ?_⟩, rfl, rfl⟩
    refine ⟨show decide (a.n.l = b.n.l) = sameM a b by unfold sameM; simp [q3], ?_⟩
    refine eqC_bts (eqC_bts (eqC_bts (eqC_bts (eqC_bts (eqC_bts (eqC_bts (eqC_bts ?_)))))))
    (repeat first | exact trivial | refine ⟨rfl, ?_⟩ | refine ⟨fun _ _ => ⟨rfl, trivial⟩, ?_⟩ | refine ⟨fun _ _ => trivial, ?_⟩ | refine ⟨by omega, ?_⟩ | refine ⟨fun _ _ => eqC_winS, ?_⟩ | refine ⟨fun _ _ => eqC_winM, ?_⟩ | refine ⟨fun _ _ => eqC_winB, ?_⟩ | refine ⟨fun _ _ => eqC_selfB, ?_⟩ | refine ⟨fun _ _ => eqC_mpB, ?_⟩)
  have d3 : decide (a.n.l = b.n.l) = true := decide_eq_true q3
  (repeat first | refine And.intro (by omega) ?_ | refine And.intro (by decide) ?_ | refine And.intro rfl ?_ | refine And.intro (fun _ => ?_) (fun h => Bool.noConfusion h) | refine And.intro (fun h => Bool.noConfusion h) (fun _ => ?_) | refine And.intro (fun _ => ?_) (fun h => absurd h (by rw [e1]; decide)) | refine And.intro (fun h => absurd h (by rw [e1]; decide)) (fun _ => ?_) | refine And.intro (fun _ => ?_) (fun h => absurd h (by rw [e2]; decide)) | refine And.intro (fun h => absurd h (by rw [e2]; decide)) (fun _ => ?_) | refine And.intro (fun _ => ?_) (fun h => absurd h (by rw [d0]; decide)) | refine And.intro (fun h => absurd h (by rw [d0]; decide)) (fun _ => ?_) | refine And.intro (fun _ => ?_) (fun h => absurd h (by rw [d1]; decide)) | refine And.intro (fun h => absurd h (by rw [d1]; decide)) (fun _ => ?_) | refine And.intro (fun _ => ?_) (fun h => absurd h (by rw [d2]; decide)) | refine And.intro (fun h => absurd h (by rw [d2]; decide)) (fun _ => ?_) | refine And.intro (fun _ => ?_) (fun h => absurd h (by rw [d3]; decide)) | refine And.intro (fun h => absurd h (by rw [d3]; decide)) (fun _ => ?_))
  refine ⟨.a (.c (.bool (sameM a b))), _, ⟨[0, 1, 2, 3, 4, 5, 6, 7], ⟨rfl, rfl, rfl⟩, ?_⟩, rfl, rfl⟩
  refine ⟨show decide (a.n.l = b.n.l) = sameM a b by unfold sameM; simp [h1, h2, q0, q1, q2, q3], ?_⟩
  refine eqC_bts (eqC_bts (eqC_bts (eqC_bts (eqC_bts (eqC_bts (eqC_bts (eqC_bts ?_)))))))
  (repeat first | exact trivial | refine ⟨rfl, ?_⟩ | refine ⟨fun _ _ => ⟨rfl, trivial⟩, ?_⟩ | refine ⟨fun _ _ => trivial, ?_⟩ | refine ⟨by omega, ?_⟩ | refine ⟨fun _ _ => eqC_winS, ?_⟩ | refine ⟨fun _ _ => eqC_winM, ?_⟩ | refine ⟨fun _ _ => eqC_winB, ?_⟩ | refine ⟨fun _ _ => eqC_selfB, ?_⟩ | refine ⟨fun _ _ => eqC_mpB, ?_⟩)
set_option maxRecDepth 20000 in
set_option maxHeartbeats 8000000 in
theorem fn_parse (s : Sl) (hs : s.Ok) (id : Int) : FnR Try.prog tds 31 1 [svB s] [.c (svC 0 s), .c (.int .i64 id)] (fun _ => True)
    (fun y hs => psRes [svB s] (parseP s.l id) y hs) := by
  refine fn_of_body tds_ok follows_ Try.func31 rfl (t := .a (.c (svC 0 s)) :: .a (.c (.int .i64 id)) :: anys (Try.f31.ntmps - 2)) rfl (fun w r0 hr0 _ => ?_)
  obtain ⟨x0, rfl⟩ := List.length_eq_one_iff.1 hr0
  have hN := hs.fit
  have hcp := hs.cap
  by_cases h0 : s.l.length = 0
  · have e0 : decide ((s.l.length : Int) = 0) = true := decide_eq_true (by omega)
    have hM : parseP s.l id = .no 3 := by unfold parseP; rw [if_pos h0]
    rw [hM]
    (repeat first | refine And.intro (by omega) ?_ | refine And.intro (by decide) ?_ | refine And.intro rfl ?_ | refine And.intro (fun _ => ?_) (fun h => Bool.noConfusion h) | refine And.intro (fun h => Bool.noConfusion h) (fun _ => ?_) | refine And.intro (fun _ => ?_) (fun h => absurd h (by rw [e0]; decide)) | refine And.intro (fun h => absurd h (by rw [e0]; decide)) (fun _ => ?_))
    refine ⟨.tup [.agg ps0, .c (.int .i64 3)], _, ⟨[0], ⟨rfl, rfl, rfl⟩, ?_⟩, rfl, rfl⟩
    (repeat first | exact trivial | refine ⟨rfl, ?_⟩ | refine ⟨fun _ _ => ⟨rfl, trivial⟩, ?_⟩ | refine ⟨fun _ _ => trivial, ?_⟩ | refine ⟨by omega, ?_⟩ | refine ⟨fun _ _ => eqC_winS, ?_⟩ | refine ⟨fun _ _ => eqC_winM, ?_⟩ | refine ⟨fun _ _ => eqC_winB, ?_⟩ | refine ⟨fun _ _ => eqC_selfB, ?_⟩ | refine ⟨fun _ _ => eqC_mpB, ?_⟩)
    refine eqC_bts ?_
    (repeat first | exact trivial | refine ⟨rfl, ?_⟩ | refine ⟨fun _ _ => ⟨rfl, trivial⟩, ?_⟩ | refine ⟨fun _ _ => trivial, ?_⟩ | refine ⟨by omega, ?_⟩ | refine ⟨fun _ _ => eqC_winS, ?_⟩ | refine ⟨fun _ _ => eqC_winM, ?_⟩ | refine ⟨fun _ _ => eqC_winB, ?_⟩ | refine ⟨fun _ _ => eqC_selfB, ?_⟩ | refine ⟨fun _ _ => eqC_mpB, ?_⟩)
  have e0 : decide ((s.l.length : Int) = 0) = false := decide_eq_false (by omega)
  have hp : 0 < s.l.length := by omega
  have hz := hs.pos hp
  rw [svB_row hz]
  (repeat first | refine And.intro (by omega) ?_ | refine And.intro (by decide) ?_ | refine And.intro rfl ?_ | refine And.intro (fun _ => ?_) (fun h => Bool.noConfusion h) | refine And.intro (fun h => Bool.noConfusion h) (fun _ => ?_) | refine And.intro (fun _ => ?_) (fun h => absurd h (by rw [e0]; decide)) | refine And.intro (fun h => absurd h (by rw [e0]; decide)) (fun _ => ?_))
  with_reducible refine frc_winA 0 rfl hp ?_
  by_cases h1 : L s.l 0 &&& 64#8 = 0#8
  · have e1 : decide (L s.l 0 &&& 64#8 = 0#8) = true := decide_eq_true h1
    have hM : parseP s.l id = .no 4 := by unfold parseP; rw [if_neg h0, if_pos h1]
    rw [hM]
    (repeat first | refine And.intro (by omega) ?_ | refine And.intro (by decide) ?_ | refine And.intro rfl ?_ | refine And.intro (fun _ => ?_) (fun h => Bool.noConfusion h) | refine And.intro (fun h => Bool.noConfusion h) (fun _ => ?_) | refine And.intro (fun _ => ?_) (fun h => absurd h (by rw [e1]; decide)) | refine And.intro (fun h => absurd h (by rw [e1]; decide)) (fun _ => ?_))
    refine ⟨.tup [.agg ps0, .c (.int .i64 4)], _, ⟨[0], ⟨rfl, rfl, rfl⟩, ?_⟩, rfl, rfl⟩
    (repeat first | exact trivial | refine ⟨rfl, ?_⟩ | refine ⟨fun _ _ => ⟨rfl, trivial⟩, ?_⟩ | refine ⟨fun _ _ => trivial, ?_⟩ | refine ⟨by omega, ?_⟩ | refine ⟨fun _ _ => eqC_winS, ?_⟩ | refine ⟨fun _ _ => eqC_winM, ?_⟩ | refine ⟨fun _ _ => eqC_winB, ?_⟩ | refine ⟨fun _ _ => eqC_selfB, ?_⟩ | refine ⟨fun _ _ => eqC_mpB, ?_⟩)
  have e1 : decide (L s.l 0 &&& 64#8 = 0#8) = false := decide_eq_false h1
  by_cases h2 : L s.l 0 &&& 128#8 = 0#8
  rotate_left
  · have e2 : decide (L s.l 0 &&& 128#8 ≠ 0#8) = true := decide_eq_true h2
    have hM : parseP s.l id = longP s.l := by unfold parseP; rw [if_neg h0, if_neg h1, if_pos h2]
    rw [hM]
    (repeat first | refine And.intro (by omega) ?_ | refine And.intro (by decide) ?_ | refine And.intro rfl ?_ | refine And.intro (fun _ => ?_) (fun h => Bool.noConfusion h) | refine And.intro (fun h => Bool.noConfusion h) (fun _ => ?_) | refine And.intro (fun _ => ?_) (fun h => absurd h (by rw [e1]; decide)) | refine And.intro (fun h => absurd h (by rw [e1]; decide)) (fun _ => ?_) | refine And.intro (fun _ => ?_) (fun h => absurd h (by rw [e2]; decide)) | refine And.intro (fun h => absurd h (by rw [e2]; decide)) (fun _ => ?_))
    refine call_same (fn_parseLong s hs hp) [0] rfl (by (repeat first | exact trivial | refine ⟨rfl, ?_⟩ | refine ⟨fun _ _ => ⟨rfl, trivial⟩, ?_⟩ | refine ⟨fun _ _ => trivial, ?_⟩ | refine ⟨by omega, ?_⟩ | refine ⟨fun _ _ => eqC_winS, ?_⟩ | refine ⟨fun _ _ => eqC_winM, ?_⟩ | refine ⟨fun _ _ => eqC_winB, ?_⟩ | refine ⟨fun _ _ => eqC_selfB, ?_⟩ | refine ⟨fun _ _ => eqC_mpB, ?_⟩)) ?_ (fun _ _ => trivial) ?_
    · rw [svB_row hz]
      (repeat first | exact trivial | refine ⟨rfl, ?_⟩ | refine ⟨fun _ _ => ⟨rfl, trivial⟩, ?_⟩ | refine ⟨fun _ _ => trivial, ?_⟩ | refine ⟨by omega, ?_⟩ | refine ⟨fun _ _ => eqC_winS, ?_⟩ | refine ⟨fun _ _ => eqC_winM, ?_⟩ | refine ⟨fun _ _ => eqC_winB, ?_⟩ | refine ⟨fun _ _ => eqC_selfB, ?_⟩ | refine ⟨fun _ _ => eqC_mpB, ?_⟩)
    rintro x hs' hres
    cases hm : longP s.l with
    | no e =>
      rw [hm] at hres
      obtain ⟨rfl, rfl⟩ := hres
      (repeat first | refine And.intro (by omega) ?_ | refine And.intro (by decide) ?_ | (with_reducible refine frc_parts (by first | omega | decide) ?_) | (with_reducible refine frc_bytesL (by first | omega | decide) ?_) | refine And.intro rfl ?_)
      refine ⟨.tup [.agg ps0, .c (.int .i64 e)], _, ⟨[0], ⟨rfl, rfl, rfl⟩, ?_⟩, rfl, rfl⟩
      (repeat first | exact trivial | refine ⟨rfl, ?_⟩ | refine ⟨fun _ _ => ⟨rfl, trivial⟩, ?_⟩ | refine ⟨fun _ _ => trivial, ?_⟩ | refine ⟨by omega, ?_⟩ | refine ⟨fun _ _ => eqC_winS, ?_⟩ | refine ⟨fun _ _ => eqC_winM, ?_⟩ | refine ⟨fun _ _ => eqC_winB, ?_⟩ | refine ⟨fun _ _ => eqC_selfB, ?_⟩ | refine ⟨fun _ _ => eqC_mpB, ?_⟩)
    | ok sp t f k at_ en =>
      rw [hm] at hres
      obtain ⟨T, F, K, hT, hF, hK, eT, eF, eK, rfl, rfl⟩ := hres
      (repeat first | refine And.intro (by omega) ?_ | refine And.intro (by decide) ?_ | (with_reducible refine frc_parts (by first | omega | decide) ?_) | (with_reducible refine frc_bytesL (by first | omega | decide) ?_) | refine And.intro rfl ?_)
      refine ⟨.tup [.agg (psC 1 2 3 sp T F K at_ en), .c (.int .i64 0)], [[.row s.N (winF s.o s.l.length (L s.l))], svB T, svB F, svB K], ⟨[0, 2, 3, 4], ⟨rfl, rfl, rfl⟩, ?_⟩, T, F, K, hT, hF, hK, eT, eF, eK, rfl, rfl⟩
      (repeat first | exact trivial | refine ⟨rfl, ?_⟩ | refine ⟨fun _ _ => ⟨rfl, trivial⟩, ?_⟩ | refine ⟨fun _ _ => trivial, ?_⟩ | refine ⟨by omega, ?_⟩ | refine ⟨fun _ _ => eqC_winS, ?_⟩ | refine ⟨fun _ _ => eqC_winM, ?_⟩ | refine ⟨fun _ _ => eqC_winB, ?_⟩ | refine ⟨fun _ _ => eqC_selfB, ?_⟩ | refine ⟨fun _ _ => eqC_mpB, ?_⟩)
      refine eqC_btsM ?_
      (repeat first | exact trivial | refine ⟨rfl, ?_⟩ | refine ⟨fun _ _ => ⟨rfl, trivial⟩, ?_⟩ | refine ⟨fun _ _ => trivial, ?_⟩ | refine ⟨by omega, ?_⟩ | refine ⟨fun _ _ => eqC_winS, ?_⟩ | refine ⟨fun _ _ => eqC_winM, ?_⟩ | refine ⟨fun _ _ => eqC_winB, ?_⟩ | refine ⟨fun _ _ => eqC_selfB, ?_⟩ | refine ⟨fun _ _ => eqC_mpB, ?_⟩)
      refine eqC_btsM ?_
      (repeat first | exact trivial | refine ⟨rfl, ?_⟩ | refine ⟨fun _ _ => ⟨rfl, trivial⟩, ?_⟩ | refine ⟨fun _ _ => trivial, ?_⟩ | refine ⟨by omega, ?_⟩ | refine ⟨fun _ _ => eqC_winS, ?_⟩ | refine ⟨fun _ _ => eqC_winM, ?_⟩ | refine ⟨fun _ _ => eqC_winB, ?_⟩ | refine ⟨fun _ _ => eqC_selfB, ?_⟩ | refine ⟨fun _ _ => eqC_mpB, ?_⟩)
      refine eqC_btsM ?_
      (repeat first | exact trivial | refine ⟨rfl, ?_⟩ | refine ⟨fun _ _ => ⟨rfl, trivial⟩, ?_⟩ | refine ⟨fun _ _ => trivial, ?_⟩ | refine ⟨by omega, ?_⟩ | refine ⟨fun _ _ => eqC_winS, ?_⟩ | refine ⟨fun _ _ => eqC_winM, ?_⟩ | refine ⟨fun _ _ => eqC_winB, ?_⟩ | refine ⟨fun _ _ => eqC_selfB, ?_⟩ | refine ⟨fun _ _ => eqC_mpB, ?_⟩)
  have e2 : decide (L s.l 0 &&& 128#8 ≠ 0#8) = false := decide_eq_false (fun e => e h2)
  (repeat first | refine And.intro (by omega) ?_ | refine And.intro (by decide) ?_ | refine And.intro rfl ?_ | refine And.intro (fun _ => ?_) (fun h => Bool.noConfusion h) | refine And.intro (fun h => Bool.noConfusion h) (fun _ => ?_) | refine And.intro (fun _ => ?_) (fun h => absurd h (by rw [e1]; decide)) | refine And.intro (fun h => absurd h (by rw [e1]; decide)) (fun _ => ?_) | refine And.intro (fun _ => ?_) (fun h => absurd h (by rw [e2]; decide)) | refine And.intro (fun h => absurd h (by rw [e2]; decide)) (fun _ => ?_))
  have hi := idN_int id
  have hi20 : idN id ≤ 20 := Nat.min_le_right _ _
  by_cases h3 : s.l.length < 1 + idN id
  · have e3 : decide ((s.l.length : Int) < 1 + (if (20 : Int) < (if id < 0 then 0 else id) then 20 else (if id < 0 then 0 else id))) = true := decide_eq_true (by rw [hi]; omega)
    have hM : parseP s.l id = .no 3 := by unfold parseP; rw [if_neg h0, if_neg h1, if_neg (fun e => e h2), if_pos h3]
    rw [hM]
    (repeat first | refine And.intro (by omega) ?_ | refine And.intro (by decide) ?_ | refine And.intro rfl ?_ | refine And.intro (fun _ => ?_) (fun h => Bool.noConfusion h) | refine And.intro (fun h => Bool.noConfusion h) (fun _ => ?_) | refine And.intro (fun _ => ?_) (fun h => absurd h (by rw [e3]; decide)) | refine And.intro (fun h => absurd h (by rw [e3]; decide)) (fun _ => ?_))
    refine ⟨.tup [.agg ps0, .c (.int .i64 3)], _, ⟨[0], ⟨rfl, rfl, rfl⟩, ?_⟩, rfl, rfl⟩
    (repeat first | exact trivial | refine ⟨rfl, ?_⟩ | refine ⟨fun _ _ => ⟨rfl, trivial⟩, ?_⟩ | refine ⟨fun _ _ => trivial, ?_⟩ | refine ⟨by omega, ?_⟩ | refine ⟨fun _ _ => eqC_winS, ?_⟩ | refine ⟨fun _ _ => eqC_winM, ?_⟩ | refine ⟨fun _ _ => eqC_winB, ?_⟩ | refine ⟨fun _ _ => eqC_selfB, ?_⟩ | refine ⟨fun _ _ => eqC_mpB, ?_⟩)
  have e3 : decide ((s.l.length : Int) < 1 + (if (20 : Int) < (if id < 0 then 0 else id) then 20 else (if id < 0 then 0 else id))) = false := decide_eq_false (by rw [hi]; omega)
  have hM : parseP s.l id = .ok 2#8 ((s.l.drop 1).take (idN id)) [] [] (1 + idN id) s.l.length := by unfold parseP; rw [if_neg h0, if_neg h1, if_neg (fun e => e h2), if_neg h3]
  rw [hM]
  (repeat first | refine And.intro (by omega) ?_ | refine And.intro (by decide) ?_ | refine And.intro rfl ?_ | refine And.intro (fun _ => ?_) (fun h => Bool.noConfusion h) | refine And.intro (fun h => Bool.noConfusion h) (fun _ => ?_) | refine And.intro (fun _ => ?_) (fun h => absurd h (by rw [e3]; decide)) | refine And.intro (fun h => absurd h (by rw [e3]; decide)) (fun _ => ?_))
  obtain ⟨i, hI⟩ : ∃ i, idN id = i := ⟨_, rfl⟩
  rw [hI] at h3 hi hi20 ⊢
  have li : ((s.l.drop 1).take i).length = i := by rw [List.length_take, List.length_drop]; omega
  obtain ⟨oo, hoo⟩ : ∃ oo, (if s.c = 1 then s.o else s.o + 1) = oo := ⟨_, rfl⟩
  have ho2 : oo = s.o ∧ i = 0 ∨ oo = s.o + 1 := by
    by_cases hc1 : s.c = 1
    · rw [if_pos hc1] at hoo; left; omega
    · rw [if_neg hc1] at hoo; right; omega
  refine call_pad (fn_clone ⟨s.z, s.N, oo, s.c - 1, (s.l.drop 1).take i⟩ ⟨(by rw [li]; dsimp only; omega), (by rw [li]; dsimp only; omega), (fun h => by rw [hz] at h; cases h), (by rw [li]; omega)⟩) [0] rfl ?_ ?_ (fun _ _ => trivial) ?_
  · refine ⟨rfl, ?_, ?_, rfl, trivial⟩
    · show (if s.c = 1 then s.o else s.o + 1 * 1) = oo
      rw [Nat.mul_one]; exact hoo
    · show (1 + (if (20 : Int) < (if id < 0 then 0 else id) then 20 else (if id < 0 then 0 else id))).toNat - 1 = ((s.l.drop 1).take i).length
      rw [hi, li]; omega
  · rw [svB_row (s := ⟨s.z, s.N, oo, s.c - 1, (s.l.drop 1).take i⟩) hz]
    refine ⟨rfl, fun j hj => eqC_win (fun q hq => ?_) j, trivial⟩
    have hq : q < i := by rw [← li]; exact hq
    have := winF_at s.o s.l.length (L s.l) (i := 1 + q) (by omega)
    rw [show s.o + (1 + q) = oo + q by omega] at this
    rw [this, L_sub _ _ _ _ hq]
  rintro x hs' ⟨t, ht, et, rfl, rfl⟩
  (repeat first | refine And.intro (by omega) ?_ | refine And.intro (by decide) ?_ | (with_reducible refine frc_parts (by first | omega | decide) ?_) | (with_reducible refine frc_bytesL (by first | omega | decide) ?_) | refine And.intro rfl ?_)
  refine ⟨.tup [.agg (psC 1 2 3 2#8 t nilS nilS (1 + i) s.l.length), .c (.int .i64 0)], [[.row s.N (winF s.o s.l.length (L s.l))], svB t, [], []], ⟨[0, 2, 1, 1], ⟨rfl, rfl, rfl⟩, ?_⟩, t, nilS, nilS, ht, nil_ok, nil_ok, et, rfl, rfl, rfl, rfl⟩
  (repeat first | exact trivial | refine ⟨rfl, ?_⟩ | refine ⟨fun _ _ => ⟨rfl, trivial⟩, ?_⟩ | refine ⟨fun _ _ => trivial, ?_⟩ | refine ⟨by omega, ?_⟩ | refine ⟨fun _ _ => eqC_winS, ?_⟩ | refine ⟨fun _ _ => eqC_winM, ?_⟩ | refine ⟨fun _ _ => eqC_winB, ?_⟩ | refine ⟨fun _ _ => eqC_selfB, ?_⟩ | refine ⟨fun _ _ => eqC_mpB, ?_⟩)
  exact (eqC_btsM (k := True) trivial : eqSegs [0, 2, 1, 1] (mpL (bk 2 [0]) (svB t)) (svB t) True)
end Sx
end Go.Proofs.Ytkjdkeolkigibaa
end

section
/-
  The program's numbers put behind other bytes: mark, attach. No condition.
-/
namespace Go.Proofs.Ytkjdkeolkigibaa
set_option linter.unusedVariables false
namespace Vi
open Sha
/-- The first j bytes of k, without what tells how many there are. -/
def partL (n : BitVec 64) (k j : Nat) : Bs := tab j fun i => byteN n (k - 1 - i)
@[simp] theorem partL_len (n : BitVec 64) (k j : Nat) : (partL n k j).length = j := tab_len _ _
theorem L_part {n : BitVec 64} {k j i : Nat} (h : i < j) : L (partL n k j) i = byteN n (k - 1 - i) := L_tab h
theorem L_wide {n : BitVec 64} {k i : Nat} (h : i < k) : L (wideL n k) i = if i = 0 then byteN n (k - 1) ||| markB k else byteN n (k - 1 - i) := L_tab h
theorem partL_succ (n : BitVec 64) (k j : Nat) : partL n k (j + 1) = partL n k j ++ [byteN n (k - 1 - j)] := by
  unfold partL tab
  rw [List.range_succ, List.map_append]
  rfl
theorem partL_one (n : BitVec 64) (k : Nat) : partL n k 1 = [byteN n (k - 1)] := rfl
theorem shl8 : ∀ i : Nat, i < 8 → (8#64 * BitVec.ofInt 64 (i : Int)).toNat = 8 * i := by decide +kernel
theorem byte_at (n : BitVec 64) (k j : Nat) (hj : j < k) (hk : k ≤ 8) : BitVec.setWidth 8 (n >>> (8#64 * BitVec.ofInt 64 ((k : Int) - 1 - (j : Int))).toNat) = byteN n (k - 1 - j) := by
  rw [show (k : Int) - 1 - (j : Int) = ((k - 1 - j : Nat) : Int) by omega, shl8 _ (by omega)]
  rfl
end Vi
namespace Sx
open Sha Vi

/-- Bytes of an own slice, room behind them. -/
abbrev lsC (b : Bs) (c : Nat) : List Seg := [.row c (bytesF b.length (L b))]
theorem fn_vmark (k : Nat) (hk : okSz k) : Fn Try.prog tds 77 [] [.c (.int .i64 (k : Nat))] (fun _ => True) (fun x hs => x = .tup [.c (.w8 (markB k)), .c (.bool true)] ∧ hs = []) := by
  refine fn_of_body tds_ok follows_ Try.func77 rfl (t := .a (.c (.int .i64 (k : Nat))) :: anys (Try.f77.ntmps - 1)) rfl (fun w r0 hr _ => ?_)
  obtain rfl : r0 = [] := List.eq_nil_of_length_eq_zero hr
  rcases hk with rfl | rfl | rfl | rfl
  · refine ⟨fun h => ?_, fun h => absurd h (by decide)⟩
    exact ⟨.tup [.c (.w8 0#8), .c (.bool true)], [], ⟨[], ⟨rfl, rfl, rfl⟩, rfl, rfl, trivial⟩, rfl, rfl⟩
  · refine ⟨fun h => absurd h (by decide), fun _ => ⟨fun h => ?_, fun h => absurd h (by decide)⟩⟩
    exact ⟨.tup [.c (.w8 64#8), .c (.bool true)], [], ⟨[], ⟨rfl, rfl, rfl⟩, rfl, rfl, trivial⟩, rfl, rfl⟩
  · refine ⟨fun h => absurd h (by decide), fun _ => ⟨fun h => absurd h (by decide), fun _ => ⟨fun h => ?_, fun h => absurd h (by decide)⟩⟩⟩
    exact ⟨.tup [.c (.w8 128#8), .c (.bool true)], [], ⟨[], ⟨rfl, rfl, rfl⟩, rfl, rfl, trivial⟩, rfl, rfl⟩
  · refine ⟨fun h => absurd h (by decide), fun _ => ⟨fun h => absurd h (by decide), fun _ => ⟨fun h => absurd h (by decide), fun _ => ⟨fun h => ?_, fun h => absurd h (by decide)⟩⟩⟩⟩
    exact ⟨.tup [.c (.w8 192#8), .c (.bool true)], [], ⟨[], ⟨rfl, rfl, rfl⟩, rfl, rfl, trivial⟩, rfl, rfl⟩
theorem wide_row {b : Bs} {n : BitVec 64} {j : Nat} (hj : 1 ≤ j) (i : Nat) (hi : i < b.length + j) :
    upd (bytesF (b.length + j) (L (b ++ partL n j j))) b.length (.w8 (L (b ++ partL n j j) b.length ||| markB j)) i = .w8 (L (b ++ wideL n j) i) := by
  refine upd_bytes (by omega) (congrArg SC.w8 ?_) (fun q hq => ?_) i hi
  · rw [L_app, L_app, if_neg (by omega), if_neg (by omega), Nat.sub_self, L_part (by omega), L_wide (by omega), if_pos rfl, Nat.sub_zero]
  · by_cases h : q < b.length + j
    · rw [L_app, L_app]
      by_cases h1 : q < b.length
      · rw [if_pos h1, if_pos h1]
      · rw [if_neg h1, if_neg h1, L_part (by omega), L_wide (by omega), if_neg (by omega)]
    · have e1 : (b ++ partL n j j).length ≤ q := by simp; omega
      have e2 : (b ++ wideL n j).length ≤ q := by simp; omega
      unfold L
      rw [List.getD_eq_getElem?_getD, List.getD_eq_getElem?_getD, List.getElem?_eq_none e1, List.getElem?_eq_none e2]
set_option maxRecDepth 20000 in
theorem fn_vattach (b : Bs) (c : Nat) (n : BitVec 64) (k : Nat) (hk : okSz k) (hb : b.length ≤ 1000000) (hc : b.length ≤ c) : Fn Try.prog tds 78 [lsC b c] [.c (.sl 0 0 0 b.length c), .c (.w64 n), .c (.int .i64 (k : Nat))] (fun _ => True)
    (fun x hs => ∃ c', b.length + k ≤ c' ∧ x = .a (.c (.sl 1 0 0 (b ++ wideL n k).length c')) ∧ hs = [[], lsC (b ++ wideL n k) c']) := by
  refine fn_of_body tds_ok follows_ Try.func78 rfl (t := [.a (.c (.sl 0 0 0 b.length c)), .a (.c (.w64 (n))), .a (.c (.int .i64 ((k : Nat)))), .any, .any, .any, .any, .any, .any, .any, .any, .any, .any, .any, .any, .any, .any, .any, .any, .any, .any, .any, .any, .any, .any, .any, .any, .any, .any, .any, .any, .any, .any, .any, .any, .any, .any, .any, .any, .any, .any]) rfl (fun w r0 hr _ => ?_)
  obtain ⟨x0, rfl⟩ := List.length_eq_one_iff.1 hr
  have hk8 : 1 ≤ k ∧ k ≤ 8 := by rcases hk with rfl | rfl | rfl | rfl <;> omega
  (repeat first | refine And.intro (by omega) ?_ | refine And.intro (by decide) ?_ | (with_reducible refine frc_parts (by first | omega | decide) ?_) | (with_reducible refine frc_bytesL (by first | omega | decide) ?_) | refine And.intro rfl ?_)
  refine call_same (fn_vmark k hk) [] rfl (by (repeat first | exact trivial | refine ⟨rfl, ?_⟩ | refine ⟨fun _ _ => ⟨rfl, trivial⟩, ?_⟩ | refine ⟨fun _ _ => trivial, ?_⟩ | refine ⟨by omega, ?_⟩ | refine ⟨fun _ _ => eqC_winS, ?_⟩ | refine ⟨fun _ _ => eqC_winM, ?_⟩ | refine ⟨fun _ _ => eqC_winB, ?_⟩ | refine ⟨fun _ _ => eqC_selfB, ?_⟩ | refine ⟨fun _ _ => eqC_mpB, ?_⟩)) trivial (fun _ _ => trivial) ?_
  rintro x hs ⟨rfl, rfl⟩
  (repeat first | refine And.intro (by omega) ?_ | refine And.intro (by decide) ?_ | (with_reducible refine frc_parts (by first | omega | decide) ?_) | (with_reducible refine frc_bytesL (by first | omega | decide) ?_) | refine And.intro rfl ?_)
  refine .inl ⟨Option (Nat × Nat), fun x => match x with
    | none => ⟨[.a (.c (.sl 0 0 0 b.length c)), .a (.c (.w64 (n))), .a (.c (.int .i64 ((k : Nat)))), .any, .any, .any, .any, .a (.c (.w8 (markB k))), .any, .a (.c (.int .i64 ((b.length : Nat)))), .a (.c (.int .i64 ((k : Int) - 1))), .any, .any, .any, .any, .any, .any, .any, .any, .any, .any, .any, .any, .any, .any, .any, .any, .any, .any, .any, .any, .any, .any, .any, .any, .any, .any, .any, .any, .any, .any], [lsC b c]⟩
    | some (j, c') => ⟨[.a (.c (.sl 1 0 0 (b.length + j) c')), .a (.c (.w64 (n))), .a (.c (.int .i64 ((k : Nat)))), .any, .any, .any, .any, .a (.c (.w8 (markB k))), .any, .a (.c (.int .i64 ((b.length : Nat)))), .a (.c (.int .i64 ((k : Int) - 1 - (j : Int)))), .any, .any, .any, .any, .any, .any, .any, .any, .any, .any, .any, .any, .any, .any, .any, .any, .any, .any, .any, .any, .any, .any, .any, .any, .any, .any, .any, .any, .any, .any], [[], [.row c' (bytesF (b.length + j) (L (b ++ partL n k j)))]]⟩,
    fun x => match x with
    | none => True
    | some (j, c') => 1 ≤ j ∧ j ≤ k ∧ b.length + j ≤ c', fun x => match x with
    | none => 9
    | some (j, _) => 8 - j, ⟨none, [0], ⟨⟨rfl, rfl, rfl⟩, ?_⟩, trivial⟩, fun x => ?_⟩
  · (repeat first | exact trivial | refine ⟨rfl, ?_⟩ | refine ⟨fun _ _ => ⟨rfl, trivial⟩, ?_⟩ | refine ⟨fun _ _ => trivial, ?_⟩ | refine ⟨by omega, ?_⟩ | refine ⟨fun _ _ => eqC_winS, ?_⟩ | refine ⟨fun _ _ => eqC_winM, ?_⟩ | refine ⟨fun _ _ => eqC_winB, ?_⟩ | refine ⟨fun _ _ => eqC_selfB, ?_⟩ | refine ⟨fun _ _ => eqC_mpB, ?_⟩)
  rcases x with _ | ⟨j, c'⟩
  · intro _
    have e1 : decide (0 ≤ (k : Int) - 1) = true := decide_eq_true (by omega)
    (repeat first | refine And.intro (by omega) ?_ | refine And.intro (by decide) ?_ | refine And.intro rfl ?_ | refine And.intro (fun _ => ?_) (fun h => Bool.noConfusion h) | refine And.intro (fun h => Bool.noConfusion h) (fun _ => ?_) | refine And.intro (fun _ => ?_) (fun h => absurd h (by rw [e1]; decide)) | refine And.intro (fun h => absurd h (by rw [e1]; decide)) (fun _ => ?_))
    refine ⟨⟨by omega, by simp only [scale]; omega, by show (b.length + 1) * 1 ≤ 140737488355328; omega⟩, fun c' hc' => ?_⟩
    refine ⟨⟨by omega, by omega⟩, some (1, c'), [0, 2], ⟨⟨rfl, rfl, rfl⟩, ?_⟩, ⟨by omega, by omega, by omega⟩, by show 8 - 1 < 9; omega⟩
    (repeat first | exact trivial | refine ⟨rfl, ?_⟩ | refine ⟨fun _ _ => ⟨rfl, trivial⟩, ?_⟩ | refine ⟨fun _ _ => trivial, ?_⟩ | refine ⟨by omega, ?_⟩ | refine ⟨fun _ _ => eqC_winS, ?_⟩ | refine ⟨fun _ _ => eqC_winM, ?_⟩ | refine ⟨fun _ _ => eqC_winB, ?_⟩ | refine ⟨fun _ _ => eqC_selfB, ?_⟩ | refine ⟨fun _ _ => eqC_mpB, ?_⟩)
    refine ⟨fun j hj => eqC_bytes (fun i hi => ?_) j, trivial⟩
    rw [partL_one]
    exact app_row rfl rfl (fun i hi => bytesF_lt hi) (fun i hi => one_row (by have := byte_at n k 0 (by omega) (by omega); simpa using this) i hi) i hi
  · rintro ⟨h1, h2, h3⟩
    refine ⟨fun h => ?_, fun h => ?_⟩
    · have hj : j < k := by have : (0 : Int) ≤ (k : Int) - 1 - j := of_decide_eq_true h; omega
      (repeat first | refine And.intro (by omega) ?_ | refine And.intro (by decide) ?_ | (with_reducible refine frc_parts (by first | omega | decide) ?_) | (with_reducible refine frc_bytesL (by first | omega | decide) ?_) | refine And.intro rfl ?_)
      refine ⟨⟨by omega, by simp only [scale]; omega, by show (b.length + j + 1) * 1 ≤ 140737488355328; omega⟩, fun c2 hc2 => ?_⟩
      refine ⟨⟨by omega, by omega⟩, some (j + 1, c2), [0, 3], ⟨⟨rfl, rfl, rfl⟩, ?_⟩, ⟨by omega, by omega, by omega⟩, by dsimp only; omega⟩
      (repeat first | exact trivial | refine ⟨rfl, ?_⟩ | refine ⟨fun _ _ => ⟨rfl, trivial⟩, ?_⟩ | refine ⟨fun _ _ => trivial, ?_⟩ | refine ⟨by omega, ?_⟩ | refine ⟨fun _ _ => eqC_winS, ?_⟩ | refine ⟨fun _ _ => eqC_winM, ?_⟩ | refine ⟨fun _ _ => eqC_winB, ?_⟩ | refine ⟨fun _ _ => eqC_selfB, ?_⟩ | refine ⟨fun _ _ => eqC_mpB, ?_⟩)
      refine ⟨fun j' hj' => eqC_bytes (fun i hi => ?_) j', trivial⟩
      rw [partL_succ, ← List.append_assoc]
      exact app_row (by simp) rfl (fun i hi => bytesF_lt hi) (fun i hi => one_row (byte_at n k j hj (by omega)) i hi) i hi
    · obtain rfl : j = k := by have : ¬ (0 : Int) ≤ (k : Int) - 1 - j := of_decide_eq_false h; omega
      (repeat first | refine And.intro (by omega) ?_ | refine And.intro (by decide) ?_ | (with_reducible refine frc_parts (by first | omega | decide) ?_) | (with_reducible refine frc_bytesL (by first | omega | decide) ?_) | refine And.intro rfl ?_)
      refine ⟨.a (.c (.sl 1 0 0 (b ++ wideL n j).length c')), _, ⟨[0, 1], ⟨rfl, rfl, rfl⟩, ?_⟩, c', h3, rfl, rfl⟩
      refine ⟨rfl, by simp, rfl, ?_⟩
      (repeat first | exact trivial | refine ⟨rfl, ?_⟩ | refine ⟨fun _ _ => ⟨rfl, trivial⟩, ?_⟩ | refine ⟨fun _ _ => trivial, ?_⟩ | refine ⟨by omega, ?_⟩ | refine ⟨fun _ _ => eqC_winS, ?_⟩ | refine ⟨fun _ _ => eqC_winM, ?_⟩ | refine ⟨fun _ _ => eqC_winB, ?_⟩ | refine ⟨fun _ _ => eqC_selfB, ?_⟩ | refine ⟨fun _ _ => eqC_mpB, ?_⟩)
      refine ⟨fun i hi => eqC_bytes (fun i hi => ?_) i, trivial⟩
      have hi : i < b.length + j := by simpa using hi
      exact wide_row (by omega) i hi
set_option maxRecDepth 20000 in
theorem fn_vattach0 (n : BitVec 64) (k : Nat) (hk : okSz k) : Fn Try.prog tds 78 [] [.c (.slc none 0 0), .c (.w64 n), .c (.int .i64 (k : Nat))] (fun _ => True)
    (fun x hs => ∃ c', k ≤ c' ∧ x = .a (.c (.sl 0 0 0 (wideL n k).length c')) ∧ hs = [lsC (wideL n k) c']) := by
  refine fn_of_body tds_ok follows_ Try.func78 rfl (t := [.a (.c (.slc none 0 0)), .a (.c (.w64 (n))), .a (.c (.int .i64 ((k : Nat)))), .any, .any, .any, .any, .any, .any, .any, .any, .any, .any, .any, .any, .any, .any, .any, .any, .any, .any, .any, .any, .any, .any, .any, .any, .any, .any, .any, .any, .any, .any, .any, .any, .any, .any, .any, .any, .any, .any]) rfl (fun w r0 hr _ => ?_)
  obtain rfl : r0 = [] := List.eq_nil_of_length_eq_zero hr
  have hk8 : 1 ≤ k ∧ k ≤ 8 := by rcases hk with rfl | rfl | rfl | rfl <;> omega
  (repeat first | refine And.intro (by omega) ?_ | refine And.intro (by decide) ?_ | (with_reducible refine frc_parts (by first | omega | decide) ?_) | (with_reducible refine frc_bytesL (by first | omega | decide) ?_) | refine And.intro rfl ?_)
  refine call_same (fn_vmark k hk) [] rfl (by (repeat first | exact trivial | refine ⟨rfl, ?_⟩ | refine ⟨fun _ _ => ⟨rfl, trivial⟩, ?_⟩ | refine ⟨fun _ _ => trivial, ?_⟩ | refine ⟨by omega, ?_⟩ | refine ⟨fun _ _ => eqC_winS, ?_⟩ | refine ⟨fun _ _ => eqC_winM, ?_⟩ | refine ⟨fun _ _ => eqC_winB, ?_⟩ | refine ⟨fun _ _ => eqC_selfB, ?_⟩ | refine ⟨fun _ _ => eqC_mpB, ?_⟩)) trivial (fun _ _ => trivial) ?_
  rintro x hs ⟨rfl, rfl⟩
  (repeat first | refine And.intro (by omega) ?_ | refine And.intro (by decide) ?_ | (with_reducible refine frc_parts (by first | omega | decide) ?_) | (with_reducible refine frc_bytesL (by first | omega | decide) ?_) | refine And.intro rfl ?_)
  refine .inl ⟨Option (Nat × Nat), fun x => match x with
    | none => ⟨[.a (.c (.slc none 0 0)), .a (.c (.w64 (n))), .a (.c (.int .i64 ((k : Nat)))), .any, .any, .any, .any, .a (.c (.w8 (markB k))), .any, .a (.c (.int .i64 (0))), .a (.c (.int .i64 ((k : Int) - 1))), .any, .any, .any, .any, .any, .any, .any, .any, .any, .any, .any, .any, .any, .any, .any, .any, .any, .any, .any, .any, .any, .any, .any, .any, .any, .any, .any, .any, .any, .any], []⟩
    | some (j, c') => ⟨[.a (.c (.sl 0 0 0 j c')), .a (.c (.w64 (n))), .a (.c (.int .i64 ((k : Nat)))), .any, .any, .any, .any, .a (.c (.w8 (markB k))), .any, .a (.c (.int .i64 (0))), .a (.c (.int .i64 ((k : Int) - 1 - (j : Int)))), .any, .any, .any, .any, .any, .any, .any, .any, .any, .any, .any, .any, .any, .any, .any, .any, .any, .any, .any, .any, .any, .any, .any, .any, .any, .any, .any, .any, .any, .any], [[.row c' (bytesF j (L (partL n k j)))]]⟩,
    fun x => match x with
    | none => True
    | some (j, c') => 1 ≤ j ∧ j ≤ k ∧ j ≤ c', fun x => match x with
    | none => 9
    | some (j, _) => 8 - j, ⟨none, [], ⟨⟨rfl, rfl, rfl⟩, ?_⟩, trivial⟩, fun x => ?_⟩
  · (repeat first | exact trivial | refine ⟨rfl, ?_⟩ | refine ⟨fun _ _ => ⟨rfl, trivial⟩, ?_⟩ | refine ⟨fun _ _ => trivial, ?_⟩ | refine ⟨by omega, ?_⟩ | refine ⟨fun _ _ => eqC_winS, ?_⟩ | refine ⟨fun _ _ => eqC_winM, ?_⟩ | refine ⟨fun _ _ => eqC_winB, ?_⟩ | refine ⟨fun _ _ => eqC_selfB, ?_⟩ | refine ⟨fun _ _ => eqC_mpB, ?_⟩)
  rcases x with _ | ⟨j, c'⟩
  · intro _
    have e1 : decide (0 ≤ (k : Int) - 1) = true := decide_eq_true (by omega)
    (repeat first | refine And.intro (by omega) ?_ | refine And.intro (by decide) ?_ | refine And.intro rfl ?_ | refine And.intro (fun _ => ?_) (fun h => Bool.noConfusion h) | refine And.intro (fun h => Bool.noConfusion h) (fun _ => ?_) | refine And.intro (fun _ => ?_) (fun h => absurd h (by rw [e1]; decide)) | refine And.intro (fun h => absurd h (by rw [e1]; decide)) (fun _ => ?_))
    refine fun _ c' hc' => ?_
    refine ⟨⟨by omega, by omega⟩, some (1, c'), [1], ⟨⟨rfl, rfl, rfl⟩, ?_⟩, ⟨by omega, by omega, by omega⟩, by show 8 - 1 < 9; omega⟩
    (repeat first | exact trivial | refine ⟨rfl, ?_⟩ | refine ⟨fun _ _ => ⟨rfl, trivial⟩, ?_⟩ | refine ⟨fun _ _ => trivial, ?_⟩ | refine ⟨by omega, ?_⟩ | refine ⟨fun _ _ => eqC_winS, ?_⟩ | refine ⟨fun _ _ => eqC_winM, ?_⟩ | refine ⟨fun _ _ => eqC_winB, ?_⟩ | refine ⟨fun _ _ => eqC_selfB, ?_⟩ | refine ⟨fun _ _ => eqC_mpB, ?_⟩)
    refine ⟨fun j hj => eqC_bytes (fun i hi => ?_) j, trivial⟩
    rw [partL_one]
    exact new_row (fun i hi => one_row (by have := byte_at n k 0 (by omega) (by omega); simpa using this) i hi) i hi
  · rintro ⟨h1, h2, h3⟩
    refine ⟨fun h => ?_, fun h => ?_⟩
    · have hj : j < k := by have : (0 : Int) ≤ (k : Int) - 1 - j := of_decide_eq_true h; omega
      (repeat first | refine And.intro (by omega) ?_ | refine And.intro (by decide) ?_ | (with_reducible refine frc_parts (by first | omega | decide) ?_) | (with_reducible refine frc_bytesL (by first | omega | decide) ?_) | refine And.intro rfl ?_)
      refine ⟨⟨by omega, by simp only [scale]; omega, by show (j + 1) * 1 ≤ 140737488355328; omega⟩, fun c2 hc2 => ?_⟩
      refine ⟨⟨by omega, by omega⟩, some (j + 1, c2), [2], ⟨⟨rfl, rfl, rfl⟩, ?_⟩, ⟨by omega, by omega, by omega⟩, by dsimp only; omega⟩
      (repeat first | exact trivial | refine ⟨rfl, ?_⟩ | refine ⟨fun _ _ => ⟨rfl, trivial⟩, ?_⟩ | refine ⟨fun _ _ => trivial, ?_⟩ | refine ⟨by omega, ?_⟩ | refine ⟨fun _ _ => eqC_winS, ?_⟩ | refine ⟨fun _ _ => eqC_winM, ?_⟩ | refine ⟨fun _ _ => eqC_winB, ?_⟩ | refine ⟨fun _ _ => eqC_selfB, ?_⟩ | refine ⟨fun _ _ => eqC_mpB, ?_⟩)
      refine ⟨fun j' hj' => eqC_bytes (fun i hi => ?_) j', trivial⟩
      rw [partL_succ]
      exact app_row (by simp) rfl (fun i hi => bytesF_lt hi) (fun i hi => one_row (byte_at n k j hj (by omega)) i hi) i hi
    · obtain rfl : j = k := by have : ¬ (0 : Int) ≤ (k : Int) - 1 - j := of_decide_eq_false h; omega
      (repeat first | refine And.intro (by omega) ?_ | refine And.intro (by decide) ?_ | (with_reducible refine frc_parts (by first | omega | decide) ?_) | (with_reducible refine frc_bytesL (by first | omega | decide) ?_) | refine And.intro rfl ?_)
      refine ⟨.a (.c (.sl 0 0 0 (wideL n j).length c')), _, ⟨[0], ⟨rfl, rfl, rfl⟩, ?_⟩, c', h3, rfl, rfl⟩
      refine ⟨rfl, by simp, rfl, ?_⟩
      (repeat first | exact trivial | refine ⟨rfl, ?_⟩ | refine ⟨fun _ _ => ⟨rfl, trivial⟩, ?_⟩ | refine ⟨fun _ _ => trivial, ?_⟩ | refine ⟨by omega, ?_⟩ | refine ⟨fun _ _ => eqC_winS, ?_⟩ | refine ⟨fun _ _ => eqC_winM, ?_⟩ | refine ⟨fun _ _ => eqC_winB, ?_⟩ | refine ⟨fun _ _ => eqC_selfB, ?_⟩ | refine ⟨fun _ _ => eqC_mpB, ?_⟩)
      refine ⟨fun i hi => eqC_bytes (fun i hi => ?_) i, trivial⟩
      have hi : i < 0 + j := by simpa using hi
      have := wide_row (b := []) (n := n) (j := j) (by omega) i (by simpa using hi)
      simpa using this
end Sx
end Go.Proofs.Ytkjdkeolkigibaa
end

section
/-
  The program's writer of numbers and bytes; Wide. No condition.
-/
namespace Go.Proofs.Ytkjdkeolkigibaa
set_option linter.unusedVariables false
namespace Vi
open Sha
/-- Numbers, one behind the other. -/
def putAll : List (BitVec 64) → Bs
  | [] => []
  | n :: r => putL n ++ putAll r
theorem putAll_snoc : ∀ (l : List (BitVec 64)) (n : BitVec 64), putAll (l ++ [n]) = putAll l ++ putL n
  | [], n => by simp [putAll]
  | x :: l, n => by simp [putAll, putAll_snoc l n]
theorem putL_len (n : BitVec 64) : (putL n).length = lenN n := wideL_len _ _
theorem lenN_le (n : BitVec 64) : lenN n ≤ 8 := by have := lenN_spec n; omega
theorem putAll_len : ∀ l : List (BitVec 64), (putAll l).length ≤ 8 * l.length
  | [] => Nat.le_refl _
  | x :: l => by
    have := putAll_len l
    have := lenN_le x
    simp only [putAll, List.length_append, putL_len, List.length_cons]
    omega
theorem take_succ {α : Type} {l : List α} {i : Nat} {x : α} (h : l[i]? = some x) : l.take (i + 1) = l.take i ++ [x] := by
  rw [List.take_add_one, h]; rfl
end Vi
namespace Sx
open Sha Vi

/-- A writer with nothing in it; with bytes in block i. -/
abbrev wrN : List Seg := [.one (.slc none 0 0), .one (.int .i64 0)]
abbrev wrC (i : Nat) (b : Bs) (c : Nat) : List Seg := [.one (.sl i 0 0 b.length c), .one (.int .i64 0)]
set_option maxRecDepth 20000 in
theorem fn_wbytes0 (s : Sl) (hs : s.Ok) (h0 : 0 < s.l.length) : FnR Try.prog tds 49 1 [svB s, wrN] [.c (.p 1 0 0), .c (svC 0 s)] (fun _ => True)
    (fun y hs => ∃ c, s.l.length ≤ c ∧ y = .tup [] ∧ hs = [svB s, wrC 2 s.l c, lsC s.l c]) := by
  refine fn_of_body tds_ok follows_ Try.func49 rfl (t := .a (.c (.p 1 0 0)) :: .a (.c (svC 0 s)) :: anys (Try.f49.ntmps - 2)) rfl (fun w r0 hr0 _ => ?_)
  obtain ⟨x0, x1, rfl⟩ := len2' hr0
  have hsm := hs.small
  (repeat first | refine And.intro (by omega) ?_ | refine And.intro (by decide) ?_ | refine And.intro rfl ?_ | refine And.intro (fun _ => ?_) (fun h => Bool.noConfusion h) | refine And.intro (fun h => Bool.noConfusion h) (fun _ => ?_))
  refine sn_bts rfl hs.fit (fun h => by rw [hs.nil h]; rfl) (fun g hg => ?_)
  refine ⟨⟨rfl, rfl⟩, by show s.l.length * 1 ≤ 140737488355328; omega, fun hm0 => absurd hm0 (by omega), fun hm0 c' hc' => ?_⟩
  (repeat first | refine And.intro (by omega) ?_ | refine And.intro (by decide) ?_ | refine And.intro rfl ?_ | refine And.intro (fun _ => ?_) (fun h => Bool.noConfusion h) | refine And.intro (fun h => Bool.noConfusion h) (fun _ => ?_))
  refine ⟨.tup [], _, ⟨[0, 1, 2], ⟨rfl, rfl, rfl⟩, ?_⟩, c', hc', rfl, rfl⟩
  refine eqC_bts ?_
  (repeat first | exact trivial | refine ⟨rfl, ?_⟩ | refine ⟨fun _ _ => ⟨rfl, trivial⟩, ?_⟩ | refine ⟨fun _ _ => trivial, ?_⟩ | refine ⟨by omega, ?_⟩ | refine ⟨fun _ _ => eqC_winS, ?_⟩ | refine ⟨fun _ _ => eqC_winM, ?_⟩ | refine ⟨fun _ _ => eqC_winB, ?_⟩ | refine ⟨fun _ _ => eqC_selfB, ?_⟩ | refine ⟨fun _ _ => eqC_mpB, ?_⟩)
  exact ⟨fun j hj => eqC_bytes (fun i hi => new_row hg i hi) j, trivial⟩
set_option maxRecDepth 20000 in
theorem fn_wbytes (s : Sl) (hs : s.Ok) (b : Bs) (c : Nat) (hb : b.length ≤ 1000000) (hc : b.length ≤ c) : FnR Try.prog tds 49 1 [svB s, wrC 2 b c, lsC b c] [.c (.p 1 0 0), .c (svC 0 s)] (fun _ => True)
    (fun y hs => ∃ c', (b ++ s.l).length ≤ c' ∧ y = .tup [] ∧ hs = [svB s, wrC 3 (b ++ s.l) c', [], lsC (b ++ s.l) c']) := by
  refine fn_of_body tds_ok follows_ Try.func49 rfl (t := .a (.c (.p 1 0 0)) :: .a (.c (svC 0 s)) :: anys (Try.f49.ntmps - 2)) rfl (fun w r0 hr0 _ => ?_)
  obtain ⟨x0, x1, x2, rfl⟩ := len3' hr0
  have hsm := hs.small
  (repeat first | refine And.intro (by omega) ?_ | refine And.intro (by decide) ?_ | refine And.intro rfl ?_ | refine And.intro (fun _ => ?_) (fun h => Bool.noConfusion h) | refine And.intro (fun h => Bool.noConfusion h) (fun _ => ?_))
  refine sn_bts rfl hs.fit (fun h => by rw [hs.nil h]; rfl) (fun g hg => ?_)
  refine ⟨⟨hc, by simp only [scale]; omega, by show (b.length + s.l.length) * 1 ≤ 140737488355328; omega⟩, fun c' hc' => ?_⟩
  (repeat first | refine And.intro (by omega) ?_ | refine And.intro (by decide) ?_ | refine And.intro rfl ?_ | refine And.intro (fun _ => ?_) (fun h => Bool.noConfusion h) | refine And.intro (fun h => Bool.noConfusion h) (fun _ => ?_))
  refine ⟨.tup [], _, ⟨[0, 1, 2, 3], ⟨rfl, rfl, rfl⟩, ?_⟩, c', by simpa using hc', rfl, rfl⟩
  refine eqC_bts ?_
  refine ⟨rfl, by simp, ?_⟩
  (repeat first | exact trivial | refine ⟨rfl, ?_⟩ | refine ⟨fun _ _ => ⟨rfl, trivial⟩, ?_⟩ | refine ⟨fun _ _ => trivial, ?_⟩ | refine ⟨by omega, ?_⟩ | refine ⟨fun _ _ => eqC_winS, ?_⟩ | refine ⟨fun _ _ => eqC_winM, ?_⟩ | refine ⟨fun _ _ => eqC_winB, ?_⟩ | refine ⟨fun _ _ => eqC_selfB, ?_⟩ | refine ⟨fun _ _ => eqC_mpB, ?_⟩)
  refine ⟨fun j hj => eqC_bytes (fun i hi => ?_) j, trivial⟩
  exact app_row rfl rfl (fun i hi => bytesF_lt hi) hg i (by simpa using hi)
/-- Numbers in a row. -/
def numsF (l : List (BitVec 64)) : Nat → SC := fun j => match l[j]? with
  | some x => .w64 x
  | none => .any
theorem frc_nums {l : List (BitVec 64)} {j : Nat} {x : BitVec 64} {k : SC → Prop} (h : l[j]? = some x) (hk : k (.w64 x)) : frcSC (numsF l j) k := by
  unfold numsF; rw [h]; exact hk
theorem eqC_nums {q : List Nat} {l : List (BitVec 64)} {f : Nat → SC} (h : ∀ (j : Nat) (x : BitVec 64), l[j]? = some x → f j = .w64 x) (j : Nat) : eqC q (f j) (numsF l j) True := by
  unfold numsF
  cases e : l[j]? with
  | none => trivial
  | some x => rw [h j x e]; exact ⟨rfl, trivial⟩
theorem eqC_numsS {q : List Nat} {l : List (BitVec 64)} {j : Nat} : eqC q (numsF l j) (numsF l j) True := eqC_nums (fun j x h => by unfold numsF; rw [h]) j
set_option maxRecDepth 20000 in
theorem fn_wint (l : List (BitVec 64)) (M cm : Nat) (b : Bs) (c : Nat) (hl : ∀ n ∈ l, lenN n ≠ 0) (hM : l.length ≤ M) (hlm : l.length ≤ 1000) (hb : b.length ≤ 500000) (hc : b.length ≤ c) :
    FnR Try.prog tds 56 1 [[.row M (numsF l)], wrC 2 b c, lsC b c] [.c (.p 1 0 0), .c (.sl 0 0 0 l.length cm)] (fun _ => True)
    (fun y hs => (l = [] → y = .tup [] ∧ hs = [[.row M (numsF l)], wrC 2 b c, lsC b c]) ∧ (l ≠ [] → ∃ c', (b ++ putAll l).length ≤ c' ∧ y = .tup [] ∧ hs = [[.row M (numsF l)], wrC 3 (b ++ putAll l) c', [], lsC (b ++ putAll l) c'])) := by
  refine fn_of_body tds_ok follows_ Try.func56 rfl (t := .a (.c (.p 1 0 0)) :: .a (.c (.sl 0 0 0 l.length cm)) :: anys (Try.f56.ntmps - 2)) rfl (fun w r0 hr0 _ => ?_)
  obtain ⟨x0, x1, x2, rfl⟩ := len3' hr0
  (repeat first | refine And.intro (by omega) ?_ | refine And.intro (by decide) ?_ | refine And.intro rfl ?_ | refine And.intro (fun _ => ?_) (fun h => Bool.noConfusion h) | refine And.intro (fun h => Bool.noConfusion h) (fun _ => ?_))
  refine .inl ⟨Option (Nat × Nat × Bs), fun x => match x with
    | none => ⟨[.a (.c (.p 1 0 0)), .any, .any, .any, .any, .any, .any, .any, .any, .any, .any, .any, .any, .any, .any, .any, .a (.c (.sl 0 0 0 l.length cm)), .a (.c (.int .i64 ((l.length : Nat)))), .a (.c (.int .i64 (0))), .any, .any, .any, .any, .any, .any, .any, .any, .any, .any, .any, .any, .any, .any, .any, .any, .any, .any, .any, .any, .any], [[.row M (numsF l)], wrC 2 b c, lsC b c]⟩
    | some (j, c', B) => ⟨[.a (.c (.p 1 0 0)), .any, .any, .any, .any, .any, .any, .any, .any, .any, .any, .any, .any, .any, .any, .any, .a (.c (.sl 0 0 0 l.length cm)), .a (.c (.int .i64 ((l.length : Nat)))), .a (.c (.int .i64 ((j : Nat)))), .any, .any, .any, .any, .any, .any, .any, .any, .any, .any, .any, .any, .any, .any, .any, .any, .any, .any, .any, .any, .any], [[.row M (numsF l)], wrC 3 B c', [], lsC B c']⟩,
    fun x => match x with
    | none => True
    | some (j, c', B) => 1 ≤ j ∧ j ≤ l.length ∧ B.length ≤ c' ∧ B = b ++ putAll (l.take j), fun x => match x with
    | none => l.length + 1
    | some (j, _, _) => l.length - j, ⟨none, [0, 1, 2], ⟨⟨rfl, rfl, rfl⟩, ?_⟩, trivial⟩, fun x => ?_⟩
  · (repeat first | exact trivial | refine ⟨rfl, ?_⟩ | refine ⟨fun _ _ => ⟨rfl, trivial⟩, ?_⟩ | refine ⟨fun _ _ => trivial, ?_⟩ | refine ⟨by omega, ?_⟩ | refine ⟨fun _ _ => eqC_winS, ?_⟩ | refine ⟨fun _ _ => eqC_winM, ?_⟩ | refine ⟨fun _ _ => eqC_winB, ?_⟩ | refine ⟨fun _ _ => eqC_selfB, ?_⟩ | refine ⟨fun _ _ => eqC_mpB, ?_⟩)
    exact ⟨fun j hj => eqC_numsS, by (repeat first | exact trivial | refine ⟨rfl, ?_⟩ | refine ⟨fun _ _ => ⟨rfl, trivial⟩, ?_⟩ | refine ⟨fun _ _ => trivial, ?_⟩ | refine ⟨by omega, ?_⟩ | refine ⟨fun _ _ => eqC_winS, ?_⟩ | refine ⟨fun _ _ => eqC_winM, ?_⟩ | refine ⟨fun _ _ => eqC_winB, ?_⟩ | refine ⟨fun _ _ => eqC_selfB, ?_⟩ | refine ⟨fun _ _ => eqC_mpB, ?_⟩)⟩
  rcases x with _ | ⟨j, c', B⟩
  · intro _
    refine ⟨fun h => ?_, fun h => ?_⟩
    · have hl0 : 0 < l.length := by have : (0 : Int) < (l.length : Int) := of_decide_eq_true h; omega
      obtain ⟨n, hn⟩ : ∃ n, l[0]? = some n := ⟨l[0], List.getElem?_eq_getElem hl0⟩
      have hne := hl n (List.mem_of_getElem? hn)
      (repeat first | refine And.intro (by omega) ?_ | refine And.intro (by decide) ?_ | (with_reducible refine frc_parts (by first | omega | decide) ?_) | (with_reducible refine frc_bytesL (by first | omega | decide) ?_) | refine And.intro rfl ?_)
      have hn' : l[Int.toNat 0 + 0]? = some n := hn
      with_reducible refine frc_nums hn' ?_
      (repeat first | refine And.intro (by omega) ?_ | refine And.intro (by decide) ?_ | (with_reducible refine frc_parts (by first | omega | decide) ?_) | (with_reducible refine frc_bytesL (by first | omega | decide) ?_) | refine And.intro rfl ?_)
      refine call_same (fn_vlen n) [] rfl (by (repeat first | exact trivial | refine ⟨rfl, ?_⟩ | refine ⟨fun _ _ => ⟨rfl, trivial⟩, ?_⟩ | refine ⟨fun _ _ => trivial, ?_⟩ | refine ⟨by omega, ?_⟩ | refine ⟨fun _ _ => eqC_winS, ?_⟩ | refine ⟨fun _ _ => eqC_winM, ?_⟩ | refine ⟨fun _ _ => eqC_winB, ?_⟩ | refine ⟨fun _ _ => eqC_selfB, ?_⟩ | refine ⟨fun _ _ => eqC_mpB, ?_⟩)) trivial (fun _ _ => trivial) ?_
      rintro x hs ⟨rfl, rfl⟩
      have e1 : decide ((lenN n : Int) = 0) = false := decide_eq_false (by omega)
      (repeat first | refine And.intro (by omega) ?_ | refine And.intro (by decide) ?_ | refine And.intro rfl ?_ | refine And.intro (fun _ => ?_) (fun h => Bool.noConfusion h) | refine And.intro (fun h => Bool.noConfusion h) (fun _ => ?_) | refine And.intro (fun _ => ?_) (fun h => absurd h (by rw [e1]; decide)) | refine And.intro (fun h => absurd h (by rw [e1]; decide)) (fun _ => ?_))
      refine call_same (fn_vattach b c n (lenN n) (lenN_ok hne) (by omega) hc) [2] rfl (by (repeat first | exact trivial | refine ⟨rfl, ?_⟩ | refine ⟨fun _ _ => ⟨rfl, trivial⟩, ?_⟩ | refine ⟨fun _ _ => trivial, ?_⟩ | refine ⟨by omega, ?_⟩ | refine ⟨fun _ _ => eqC_winS, ?_⟩ | refine ⟨fun _ _ => eqC_winM, ?_⟩ | refine ⟨fun _ _ => eqC_winB, ?_⟩ | refine ⟨fun _ _ => eqC_selfB, ?_⟩ | refine ⟨fun _ _ => eqC_mpB, ?_⟩)) ?_ (fun _ _ => trivial) ?_
      · (repeat first | exact trivial | refine ⟨rfl, ?_⟩ | refine ⟨fun _ _ => ⟨rfl, trivial⟩, ?_⟩ | refine ⟨fun _ _ => trivial, ?_⟩ | refine ⟨by omega, ?_⟩ | refine ⟨fun _ _ => eqC_winS, ?_⟩ | refine ⟨fun _ _ => eqC_winM, ?_⟩ | refine ⟨fun _ _ => eqC_winB, ?_⟩ | refine ⟨fun _ _ => eqC_selfB, ?_⟩ | refine ⟨fun _ _ => eqC_mpB, ?_⟩)
      rintro x hs ⟨c', hc', rfl, rfl⟩
      have ep : putAll (l.take 1) = wideL n (lenN n) := by
        rw [take_succ hn, putAll_snoc]; simp [putAll, putL]
      (repeat first | refine And.intro (by omega) ?_ | refine And.intro (by decide) ?_ | (with_reducible refine frc_parts (by first | omega | decide) ?_) | (with_reducible refine frc_bytesL (by first | omega | decide) ?_) | refine And.intro rfl ?_)
      refine ⟨some (1, c', b ++ wideL n (lenN n)), [0, 1, 2, 3], ⟨⟨rfl, rfl, rfl⟩, ?_⟩, ⟨by omega, by omega, by simpa using hc', by rw [ep]⟩, by dsimp only; omega⟩
      (repeat first | exact trivial | refine ⟨rfl, ?_⟩ | refine ⟨fun _ _ => ⟨rfl, trivial⟩, ?_⟩ | refine ⟨fun _ _ => trivial, ?_⟩ | refine ⟨by omega, ?_⟩ | refine ⟨fun _ _ => eqC_winS, ?_⟩ | refine ⟨fun _ _ => eqC_winM, ?_⟩ | refine ⟨fun _ _ => eqC_winB, ?_⟩ | refine ⟨fun _ _ => eqC_selfB, ?_⟩ | refine ⟨fun _ _ => eqC_mpB, ?_⟩)
      exact ⟨fun j hj => eqC_numsS, by (repeat first | exact trivial | refine ⟨rfl, ?_⟩ | refine ⟨fun _ _ => ⟨rfl, trivial⟩, ?_⟩ | refine ⟨fun _ _ => trivial, ?_⟩ | refine ⟨by omega, ?_⟩ | refine ⟨fun _ _ => eqC_winS, ?_⟩ | refine ⟨fun _ _ => eqC_winM, ?_⟩ | refine ⟨fun _ _ => eqC_winB, ?_⟩ | refine ⟨fun _ _ => eqC_selfB, ?_⟩ | refine ⟨fun _ _ => eqC_mpB, ?_⟩)⟩
    · have hl0 : l = [] := List.eq_nil_of_length_eq_zero (by have : ¬ (0 : Int) < (l.length : Int) := of_decide_eq_false h; omega)
      (repeat first | refine And.intro (by omega) ?_ | refine And.intro (by decide) ?_ | (with_reducible refine frc_parts (by first | omega | decide) ?_) | (with_reducible refine frc_bytesL (by first | omega | decide) ?_) | refine And.intro rfl ?_)
      refine ⟨.tup [], _, ⟨[0, 1, 2], ⟨rfl, rfl, rfl⟩, ?_⟩, fun _ => ⟨rfl, rfl⟩, fun h => absurd hl0 h⟩
      exact ⟨rfl, fun j hj => eqC_numsS, by (repeat first | exact trivial | refine ⟨rfl, ?_⟩ | refine ⟨fun _ _ => ⟨rfl, trivial⟩, ?_⟩ | refine ⟨fun _ _ => trivial, ?_⟩ | refine ⟨by omega, ?_⟩ | refine ⟨fun _ _ => eqC_winS, ?_⟩ | refine ⟨fun _ _ => eqC_winM, ?_⟩ | refine ⟨fun _ _ => eqC_winB, ?_⟩ | refine ⟨fun _ _ => eqC_selfB, ?_⟩ | refine ⟨fun _ _ => eqC_mpB, ?_⟩)⟩
  · rintro ⟨h1, h2, h3, hB⟩
    refine ⟨fun h => ?_, fun h => ?_⟩
    · have hj : j < l.length := by have : (j : Int) < (l.length : Int) := of_decide_eq_true h; omega
      obtain ⟨n, hn⟩ : ∃ n, l[j]? = some n := ⟨l[j], List.getElem?_eq_getElem hj⟩
      have hne := hl n (List.mem_of_getElem? hn)
      (repeat first | refine And.intro (by omega) ?_ | refine And.intro (by decide) ?_ | (with_reducible refine frc_parts (by first | omega | decide) ?_) | (with_reducible refine frc_bytesL (by first | omega | decide) ?_) | refine And.intro rfl ?_)
      have hn' : l[((j : Nat) : Int).toNat + 0]? = some n := hn
      with_reducible refine frc_nums hn' ?_
      (repeat first | refine And.intro (by omega) ?_ | refine And.intro (by decide) ?_ | (with_reducible refine frc_parts (by first | omega | decide) ?_) | (with_reducible refine frc_bytesL (by first | omega | decide) ?_) | refine And.intro rfl ?_)
      refine call_same (fn_vlen n) [] rfl (by (repeat first | exact trivial | refine ⟨rfl, ?_⟩ | refine ⟨fun _ _ => ⟨rfl, trivial⟩, ?_⟩ | refine ⟨fun _ _ => trivial, ?_⟩ | refine ⟨by omega, ?_⟩ | refine ⟨fun _ _ => eqC_winS, ?_⟩ | refine ⟨fun _ _ => eqC_winM, ?_⟩ | refine ⟨fun _ _ => eqC_winB, ?_⟩ | refine ⟨fun _ _ => eqC_selfB, ?_⟩ | refine ⟨fun _ _ => eqC_mpB, ?_⟩)) trivial (fun _ _ => trivial) ?_
      rintro x hs ⟨rfl, rfl⟩
      have e1 : decide ((lenN n : Int) = 0) = false := decide_eq_false (by omega)
      (repeat first | refine And.intro (by omega) ?_ | refine And.intro (by decide) ?_ | refine And.intro rfl ?_ | refine And.intro (fun _ => ?_) (fun h => Bool.noConfusion h) | refine And.intro (fun h => Bool.noConfusion h) (fun _ => ?_) | refine And.intro (fun _ => ?_) (fun h => absurd h (by rw [e1]; decide)) | refine And.intro (fun h => absurd h (by rw [e1]; decide)) (fun _ => ?_))
      have hpl := putAll_len (l.take j)
      have htl : (l.take j).length ≤ 1000 := by rw [List.length_take]; omega
      refine call_same (fn_vattach B c' n (lenN n) (lenN_ok hne) (by rw [hB, List.length_append]; have : (putAll (l.take j)).length ≤ 8 * (l.take j).length := hpl; omega) h3) [3] rfl (by (repeat first | exact trivial | refine ⟨rfl, ?_⟩ | refine ⟨fun _ _ => ⟨rfl, trivial⟩, ?_⟩ | refine ⟨fun _ _ => trivial, ?_⟩ | refine ⟨by omega, ?_⟩ | refine ⟨fun _ _ => eqC_winS, ?_⟩ | refine ⟨fun _ _ => eqC_winM, ?_⟩ | refine ⟨fun _ _ => eqC_winB, ?_⟩ | refine ⟨fun _ _ => eqC_selfB, ?_⟩ | refine ⟨fun _ _ => eqC_mpB, ?_⟩)) ?_ (fun _ _ => trivial) ?_
      · (repeat first | exact trivial | refine ⟨rfl, ?_⟩ | refine ⟨fun _ _ => ⟨rfl, trivial⟩, ?_⟩ | refine ⟨fun _ _ => trivial, ?_⟩ | refine ⟨by omega, ?_⟩ | refine ⟨fun _ _ => eqC_winS, ?_⟩ | refine ⟨fun _ _ => eqC_winM, ?_⟩ | refine ⟨fun _ _ => eqC_winB, ?_⟩ | refine ⟨fun _ _ => eqC_selfB, ?_⟩ | refine ⟨fun _ _ => eqC_mpB, ?_⟩)
      rintro x hs ⟨c2, hc2, rfl, rfl⟩
      have ep : b ++ putAll (l.take (j + 1)) = b ++ putAll (l.take j) ++ wideL n (lenN n) := by
        rw [take_succ hn, putAll_snoc, List.append_assoc]; rfl
      (repeat first | refine And.intro (by omega) ?_ | refine And.intro (by decide) ?_ | (with_reducible refine frc_parts (by first | omega | decide) ?_) | (with_reducible refine frc_bytesL (by first | omega | decide) ?_) | refine And.intro rfl ?_)
      refine ⟨some (j + 1, c2, B ++ wideL n (lenN n)), [0, 1, 2, 4], ⟨⟨rfl, rfl, rfl⟩, ?_⟩, ⟨by omega, by omega, by simpa using hc2, by rw [ep, hB]⟩, by dsimp only; omega⟩
      (repeat first | exact trivial | refine ⟨rfl, ?_⟩ | refine ⟨fun _ _ => ⟨rfl, trivial⟩, ?_⟩ | refine ⟨fun _ _ => trivial, ?_⟩ | refine ⟨by omega, ?_⟩ | refine ⟨fun _ _ => eqC_winS, ?_⟩ | refine ⟨fun _ _ => eqC_winM, ?_⟩ | refine ⟨fun _ _ => eqC_winB, ?_⟩ | refine ⟨fun _ _ => eqC_selfB, ?_⟩ | refine ⟨fun _ _ => eqC_mpB, ?_⟩)
      exact ⟨fun j hj => eqC_numsS, by (repeat first | exact trivial | refine ⟨rfl, ?_⟩ | refine ⟨fun _ _ => ⟨rfl, trivial⟩, ?_⟩ | refine ⟨fun _ _ => trivial, ?_⟩ | refine ⟨by omega, ?_⟩ | refine ⟨fun _ _ => eqC_winS, ?_⟩ | refine ⟨fun _ _ => eqC_winM, ?_⟩ | refine ⟨fun _ _ => eqC_winB, ?_⟩ | refine ⟨fun _ _ => eqC_selfB, ?_⟩ | refine ⟨fun _ _ => eqC_mpB, ?_⟩)⟩
    · have hj : j = l.length := by have : ¬ (j : Int) < (l.length : Int) := of_decide_eq_false h; omega
      subst hj
      rw [List.take_length] at hB
      subst hB
      (repeat first | refine And.intro (by omega) ?_ | refine And.intro (by decide) ?_ | (with_reducible refine frc_parts (by first | omega | decide) ?_) | (with_reducible refine frc_bytesL (by first | omega | decide) ?_) | refine And.intro rfl ?_)
      refine ⟨.tup [], _, ⟨[0, 1, 2, 3], ⟨rfl, rfl, rfl⟩, ?_⟩, fun h => absurd h (by intro e; subst e; simp at h1), fun _ => ⟨c', h3, rfl, rfl⟩⟩
      exact ⟨rfl, fun j hj => eqC_numsS, by (repeat first | exact trivial | refine ⟨rfl, ?_⟩ | refine ⟨fun _ _ => ⟨rfl, trivial⟩, ?_⟩ | refine ⟨fun _ _ => trivial, ?_⟩ | refine ⟨by omega, ?_⟩ | refine ⟨fun _ _ => eqC_winS, ?_⟩ | refine ⟨fun _ _ => eqC_winM, ?_⟩ | refine ⟨fun _ _ => eqC_winB, ?_⟩ | refine ⟨fun _ _ => eqC_selfB, ?_⟩ | refine ⟨fun _ _ => eqC_mpB, ?_⟩)⟩
end Sx
end Go.Proofs.Ytkjdkeolkigibaa
end

section
/-
  The program's writer: long ones, all of it; Wide. No condition.
-/
namespace Go.Proofs.Ytkjdkeolkigibaa
set_option linter.unusedVariables false
namespace Vi
open Sha
/-- Some bytes, their number ahead. -/
def longL (l : Bs) : Bs := putL (BitVec.ofNat 64 l.length) ++ l
theorem lenN_of {n : Nat} (h : n ≤ 1000000) : lenN (BitVec.ofNat 64 n) ≠ 0 := by
  have := lenN_spec (BitVec.ofNat 64 n)
  rw [BitVec.toNat_ofNat, Nat.mod_eq_of_lt (by omega)] at this
  omega
theorem longL_len (l : Bs) : (longL l).length ≤ 8 + l.length := by
  have := lenN_le (BitVec.ofNat 64 l.length)
  simp only [longL, List.length_append, putL_len]
  omega
end Vi
namespace Sx
open Sha Vi

set_option maxRecDepth 20000 in
theorem fn_wlong (s : Sl) (hs : s.Ok) (b : Bs) (c : Nat) (hb : b.length ≤ 400000) (hc : b.length ≤ c) : FnR Try.prog tds 51 1 [svB s, wrC 2 b c, lsC b c] [.c (.p 1 0 0), .c (svC 0 s)] (fun _ => True)
    (fun y hs => ∃ c', (b ++ longL s.l).length ≤ c' ∧ y = .tup [] ∧ hs = [svB s, wrC 3 (b ++ longL s.l) c', [], lsC (b ++ longL s.l) c']) := by
  refine fn_of_body tds_ok follows_ Try.func51 rfl (t := .a (.c (.p 1 0 0)) :: .a (.c (svC 0 s)) :: anys (Try.f51.ntmps - 2)) rfl (fun w r0 hr0 _ => ?_)
  obtain ⟨x0, x1, x2, rfl⟩ := len3' hr0
  have hsm := hs.small
  have hne := lenN_of hsm
  (repeat first | refine And.intro (by omega) ?_ | refine And.intro (by decide) ?_ | (with_reducible refine frc_parts (by first | omega | decide) ?_) | (with_reducible refine frc_bytesL (by first | omega | decide) ?_) | refine And.intro rfl ?_)
  refine call_same (fn_wint [BitVec.ofNat 64 s.l.length] 1 1 b c (fun n hn => by simp at hn; rw [hn]; exact hne) (Nat.le_refl _) (by simp) (by omega) hc) [3, 1, 2] rfl (by (repeat first | exact trivial | refine ⟨rfl, ?_⟩ | refine ⟨fun _ _ => ⟨rfl, trivial⟩, ?_⟩ | refine ⟨fun _ _ => trivial, ?_⟩ | refine ⟨by omega, ?_⟩ | refine ⟨fun _ _ => eqC_winS, ?_⟩ | refine ⟨fun _ _ => eqC_winM, ?_⟩ | refine ⟨fun _ _ => eqC_winB, ?_⟩ | refine ⟨fun _ _ => eqC_selfB, ?_⟩ | refine ⟨fun _ _ => eqC_mpB, ?_⟩)) ?_ (fun _ _ => trivial) ?_
  · refine ⟨rfl, fun j hj => eqC_nums (fun i x h => ?_) j, ?_⟩
    · have hi : i = 0 := by
        have := (List.getElem?_eq_some_iff.1 h).1
        simp at this
        exact this
      subst hi
      simp at h
      subst h
      show SC.w64 (BitVec.ofInt 64 ((s.l.length : Nat) : Int)) = _
      rw [BitVec.ofInt_natCast]
    (repeat first | exact trivial | refine ⟨rfl, ?_⟩ | refine ⟨fun _ _ => ⟨rfl, trivial⟩, ?_⟩ | refine ⟨fun _ _ => trivial, ?_⟩ | refine ⟨by omega, ?_⟩ | refine ⟨fun _ _ => eqC_winS, ?_⟩ | refine ⟨fun _ _ => eqC_winM, ?_⟩ | refine ⟨fun _ _ => eqC_winB, ?_⟩ | refine ⟨fun _ _ => eqC_selfB, ?_⟩ | refine ⟨fun _ _ => eqC_mpB, ?_⟩)
  rintro x hs' ⟨-, hx⟩
  obtain ⟨c1, hc1, rfl, rfl⟩ := hx (by simp)
  clear hx
  obtain ⟨B, hB⟩ : ∃ B, b ++ putAll [BitVec.ofNat 64 s.l.length] = B := ⟨_, rfl⟩
  have hBl : B.length ≤ 400008 := by
    have := putAll_len [BitVec.ofNat 64 s.l.length]
    rw [← hB, List.length_append]
    simp only [List.length_cons, List.length_nil] at this
    omega
  rw [hB] at hc1 ⊢
  have hf : b ++ longL s.l = B ++ s.l := by rw [← hB]; simp [longL, putAll]
  rw [hf]
  (repeat first | refine And.intro (by omega) ?_ | refine And.intro (by decide) ?_ | (with_reducible refine frc_parts (by first | omega | decide) ?_) | (with_reducible refine frc_bytesL (by first | omega | decide) ?_) | refine And.intro rfl ?_)
  refine call_same (fn_wbytes s hs B c1 (by omega) hc1) [0, 1, 4] rfl (by (repeat first | exact trivial | refine ⟨rfl, ?_⟩ | refine ⟨fun _ _ => ⟨rfl, trivial⟩, ?_⟩ | refine ⟨fun _ _ => trivial, ?_⟩ | refine ⟨by omega, ?_⟩ | refine ⟨fun _ _ => eqC_winS, ?_⟩ | refine ⟨fun _ _ => eqC_winM, ?_⟩ | refine ⟨fun _ _ => eqC_winB, ?_⟩ | refine ⟨fun _ _ => eqC_selfB, ?_⟩ | refine ⟨fun _ _ => eqC_mpB, ?_⟩)) ?_ (fun _ _ => trivial) ?_
  · refine eqC_bts ?_
    (repeat first | exact trivial | refine ⟨rfl, ?_⟩ | refine ⟨fun _ _ => ⟨rfl, trivial⟩, ?_⟩ | refine ⟨fun _ _ => trivial, ?_⟩ | refine ⟨by omega, ?_⟩ | refine ⟨fun _ _ => eqC_winS, ?_⟩ | refine ⟨fun _ _ => eqC_winM, ?_⟩ | refine ⟨fun _ _ => eqC_winB, ?_⟩ | refine ⟨fun _ _ => eqC_selfB, ?_⟩ | refine ⟨fun _ _ => eqC_mpB, ?_⟩)
  rintro x hs' ⟨c2, hc2, rfl, rfl⟩
  refine ⟨.tup [], _, ⟨[0, 1, 2, 5], ⟨rfl, rfl, rfl⟩, ?_⟩, c2, hc2, rfl, rfl⟩
  refine eqC_bts ?_
  (repeat first | exact trivial | refine ⟨rfl, ?_⟩ | refine ⟨fun _ _ => ⟨rfl, trivial⟩, ?_⟩ | refine ⟨fun _ _ => trivial, ?_⟩ | refine ⟨by omega, ?_⟩ | refine ⟨fun _ _ => eqC_winS, ?_⟩ | refine ⟨fun _ _ => eqC_winM, ?_⟩ | refine ⟨fun _ _ => eqC_winB, ?_⟩ | refine ⟨fun _ _ => eqC_selfB, ?_⟩ | refine ⟨fun _ _ => eqC_mpB, ?_⟩)
set_option maxRecDepth 20000 in
theorem fn_wdone (b : Bs) (c : Nat) (hb : b.length ≤ 1000000) (hc : b.length ≤ c) (h0 : 0 < b.length) : FnR Try.prog tds 50 2 [wrC 1 b c, lsC b c] [.c (.p 0 0 0)] (fun _ => True)
    (fun y hs => ∃ c', b.length ≤ c' ∧ y = .tup [.c (.sl 2 0 0 b.length c'), .c (.int .i64 0)] ∧ hs = [wrC 1 b c, lsC b c, lsC b c']) := by
  refine fn_of_body tds_ok follows_ Try.func50 rfl (t := .a (.c (.p 0 0 0)) :: anys (Try.f50.ntmps - 1)) rfl (fun w r0 hr0 _ => ?_)
  obtain ⟨x0, x1, rfl⟩ := len2' hr0
  (repeat first | refine And.intro (by omega) ?_ | refine And.intro (by decide) ?_ | refine And.intro rfl ?_ | refine And.intro (fun _ => ?_) (fun h => Bool.noConfusion h) | refine And.intro (fun h => Bool.noConfusion h) (fun _ => ?_))
  refine ⟨by show 0 + b.length ≤ c; omega, ⟨rfl, rfl⟩, by show b.length * 1 ≤ 140737488355328; omega, fun hm0 => absurd hm0 (by omega), fun hm0 c' hc' => ?_⟩
  refine ⟨.tup [.c (.sl 2 0 0 b.length c'), .c (.int .i64 0)], _, ⟨[0, 1, 2], ⟨rfl, rfl, rfl⟩, ?_⟩, c', hc', rfl, rfl⟩
  (repeat first | exact trivial | refine ⟨rfl, ?_⟩ | refine ⟨fun _ _ => ⟨rfl, trivial⟩, ?_⟩ | refine ⟨fun _ _ => trivial, ?_⟩ | refine ⟨by omega, ?_⟩ | refine ⟨fun _ _ => eqC_winS, ?_⟩ | refine ⟨fun _ _ => eqC_winM, ?_⟩ | refine ⟨fun _ _ => eqC_winB, ?_⟩ | refine ⟨fun _ _ => eqC_selfB, ?_⟩ | refine ⟨fun _ _ => eqC_mpB, ?_⟩)
  exact ⟨fun j hj => eqC_bytes (fun i hi => new_row (m := b) (fun q hq => bytesF_lt hq) i hi) j, trivial⟩
set_option maxRecDepth 20000 in
theorem fn_vwide (n : BitVec 64) (k : Nat) (hk : okSz k) (h0 : lenN n ≠ 0) (h1 : lenN n ≤ k) : Fn Try.prog tds 52 [] [.c (.slc none 0 0), .c (.w64 n), .c (.int .i64 (k : Nat))] (fun _ => True)
    (fun y hs => ∃ c', k ≤ c' ∧ y = .tup [.c (.sl 0 0 0 (wideL n k).length c'), .c (.int .i64 0)] ∧ hs = [lsC (wideL n k) c']) := by
  refine fn_of_body tds_ok follows_ Try.func52 rfl (t := .a (.c (.slc none 0 0)) :: .a (.c (.w64 n)) :: .a (.c (.int .i64 (k : Nat))) :: anys (Try.f52.ntmps - 3)) rfl (fun w r0 hr _ => ?_)
  obtain rfl : r0 = [] := List.eq_nil_of_length_eq_zero hr
  have hk8 : 1 ≤ k ∧ k ≤ 8 := by rcases hk with rfl | rfl | rfl | rfl <;> omega
  (repeat first | refine And.intro (by omega) ?_ | refine And.intro (by decide) ?_ | (with_reducible refine frc_parts (by first | omega | decide) ?_) | (with_reducible refine frc_bytesL (by first | omega | decide) ?_) | refine And.intro rfl ?_)
  refine call_same (fn_vlen n) [] rfl (by (repeat first | exact trivial | refine ⟨rfl, ?_⟩ | refine ⟨fun _ _ => ⟨rfl, trivial⟩, ?_⟩ | refine ⟨fun _ _ => trivial, ?_⟩ | refine ⟨by omega, ?_⟩ | refine ⟨fun _ _ => eqC_winS, ?_⟩ | refine ⟨fun _ _ => eqC_winM, ?_⟩ | refine ⟨fun _ _ => eqC_winB, ?_⟩ | refine ⟨fun _ _ => eqC_selfB, ?_⟩ | refine ⟨fun _ _ => eqC_mpB, ?_⟩)) trivial (fun _ _ => trivial) ?_
  rintro x hs ⟨rfl, rfl⟩
  (repeat first | refine And.intro (by omega) ?_ | refine And.intro (by decide) ?_ | (with_reducible refine frc_parts (by first | omega | decide) ?_) | (with_reducible refine frc_bytesL (by first | omega | decide) ?_) | refine And.intro rfl ?_)
  refine call_same (fn_vmark k hk) [] rfl (by (repeat first | exact trivial | refine ⟨rfl, ?_⟩ | refine ⟨fun _ _ => ⟨rfl, trivial⟩, ?_⟩ | refine ⟨fun _ _ => trivial, ?_⟩ | refine ⟨by omega, ?_⟩ | refine ⟨fun _ _ => eqC_winS, ?_⟩ | refine ⟨fun _ _ => eqC_winM, ?_⟩ | refine ⟨fun _ _ => eqC_winB, ?_⟩ | refine ⟨fun _ _ => eqC_selfB, ?_⟩ | refine ⟨fun _ _ => eqC_mpB, ?_⟩)) trivial (fun _ _ => trivial) ?_
  rintro x hs ⟨rfl, rfl⟩
  have e1 : decide ((lenN n : Int) = 0) = false := decide_eq_false (by omega)
  have e2 : decide ((k : Int) < (lenN n : Int)) = false := decide_eq_false (by omega)
  (repeat first | refine And.intro (by omega) ?_ | refine And.intro (by decide) ?_ | refine And.intro rfl ?_ | refine And.intro (fun _ => ?_) (fun h => Bool.noConfusion h) | refine And.intro (fun h => Bool.noConfusion h) (fun _ => ?_) | refine And.intro (fun _ => ?_) (fun h => absurd h (by rw [e1]; decide)) | refine And.intro (fun h => absurd h (by rw [e1]; decide)) (fun _ => ?_) | refine And.intro (fun _ => ?_) (fun h => absurd h (by rw [e2]; decide)) | refine And.intro (fun h => absurd h (by rw [e2]; decide)) (fun _ => ?_))
  refine ⟨by show (0 : Int) ≤ 0 ∧ (0 : Int) ≤ 0 + (k : Int) ∧ (0 + (k : Int)) * 1 ≤ 140737488355328 ∧ 0 + (k : Int) ≤ 9223372036854775807; omega, ?_⟩
  refine frcN_of (m := 0) rfl ?_
  refine frcN_of (m := k) (by omega) ?_
  (repeat first | refine And.intro (by omega) ?_ | refine And.intro (by decide) ?_ | (with_reducible refine frc_parts (by first | omega | decide) ?_) | (with_reducible refine frc_bytesL (by first | omega | decide) ?_) | refine And.intro rfl ?_)
  refine call_same (fn_vattach [] k n k hk (Nat.zero_le _) (Nat.zero_le _)) [0] rfl (by (repeat first | exact trivial | refine ⟨rfl, ?_⟩ | refine ⟨fun _ _ => ⟨rfl, trivial⟩, ?_⟩ | refine ⟨fun _ _ => trivial, ?_⟩ | refine ⟨by omega, ?_⟩ | refine ⟨fun _ _ => eqC_winS, ?_⟩ | refine ⟨fun _ _ => eqC_winM, ?_⟩ | refine ⟨fun _ _ => eqC_winB, ?_⟩ | refine ⟨fun _ _ => eqC_selfB, ?_⟩ | refine ⟨fun _ _ => eqC_mpB, ?_⟩)) ?_ (fun _ _ => trivial) ?_
  · refine ⟨rfl, fun j hj => eqC_bytes (fun i hi => by simp at hi) j, trivial⟩
  rintro x hs ⟨c', hc', rfl, rfl⟩
  refine ⟨.tup [.c (.sl 0 0 0 (wideL n k).length c'), .c (.int .i64 0)], _, ⟨[1], ⟨rfl, rfl, rfl⟩, ?_⟩, c', by simpa using hc', rfl, rfl⟩
  (repeat first | exact trivial | refine ⟨rfl, ?_⟩ | refine ⟨fun _ _ => ⟨rfl, trivial⟩, ?_⟩ | refine ⟨fun _ _ => trivial, ?_⟩ | refine ⟨by omega, ?_⟩ | refine ⟨fun _ _ => eqC_winS, ?_⟩ | refine ⟨fun _ _ => eqC_winM, ?_⟩ | refine ⟨fun _ _ => eqC_winB, ?_⟩ | refine ⟨fun _ _ => eqC_selfB, ?_⟩ | refine ⟨fun _ _ => eqC_mpB, ?_⟩)
end Sx
end Go.Proofs.Ytkjdkeolkigibaa
end

section
/-
  Headers as bytes: the program's Put. No condition.
-/
namespace Go.Proofs.Ytkjdkeolkigibaa
set_option linter.unusedVariables false
namespace Sx
open Sha Vi
set_option linter.unusedSimpArgs false

/-- The first byte of a header. -/
def fstB (h : Hd) : BitVec 8 := if h.sp = 2#8 then (if h.turn = true then BitVec.ofNat 8 (63 + h.n.l.length) + 4#8 else BitVec.ofNat 8 (63 + h.n.l.length))
  else (if h.sp = 1#8 then BitVec.ofNat 8 (63 + h.n.l.length) + 128#8 + 32#8 else BitVec.ofNat 8 (63 + h.n.l.length) + 128#8)
/-- A header as bytes, ahead of p. -/
def putH (h : Hd) (p : Nat) : Bs :=
  if h.sp = 2#8 then [fstB h] ++ h.t.l ++ h.n.l
  else [fstB h, 0#8, 0#8, 0#8, 1#8] ++ [BitVec.ofNat 8 h.t.l.length] ++ h.t.l ++ [BitVec.ofNat 8 h.f.l.length] ++ h.f.l ++ (if h.sp = 0#8 then longL h.k.l else []) ++ wideL (BitVec.ofNat 64 (h.n.l.length + p)) 2 ++ h.n.l
/-- Why it can't be put. -/
def putE (h : Hd) (p : Int) : Int := if checkM h ≠ 0 then checkM h else if p < 0 ∨ 1200 < p then 2 else 0
theorem checkM_0 {h : Hd} (e : checkM h = 0) : h.sp.toNat < 3 ∧ h.t.l.length ≤ 20 ∧ h.f.l.length ≤ 20 ∧ h.k.l.length ≤ 64 ∧ 1 ≤ h.n.l.length ∧ h.n.l.length ≤ 4 := by
  unfold checkM at e
  split at e
  · cases e
  · rename_i h1
    split at e
    · cases e
    · split at e
      · cases e
      · rw [BitVec.le_def] at h1
        simp at h1
        omega
theorem lit_ok {l : Bs} (h : l.length ≤ 1000000) : Sl.Ok ⟨false, l.length, 0, l.length, l⟩ := ⟨by simp, Nat.le_refl _, fun h => Bool.noConfusion h, h⟩
theorem eqC_lit' {q : List Nat} {l : Bs} {f : Nat → SC} (h : ∀ j, j < l.length → f j = .w8 (L l j)) (j : Nat) : eqC q (f j) (winF 0 l.length (L l) j) True := eqC_win0 h j
theorem lenN2 {n : Nat} (h : n ≤ 2000) : lenN (BitVec.ofNat 64 n) ≠ 0 ∧ lenN (BitVec.ofNat 64 n) ≤ 2 := by
  have := lenN_spec (BitVec.ofNat 64 n)
  rw [BitVec.toNat_ofNat, Nat.mod_eq_of_lt (by omega)] at this
  omega
set_option maxRecDepth 20000 in
set_option maxHeartbeats 8000000 in
theorem fn_hput (h : Hd) (ho : h.Ok) (q : Int) : FnR Try.prog tds 16 4 (hdB h) [.agg (hdC 0 1 2 3 h), .c (.int .i64 q)] (fun _ => True)
    (fun y hs => (putE h q ≠ 0 → y = .tup [.c (.slc none 0 0), .c (.int .i64 (putE h q))] ∧ hs = hdB h) ∧
      (putE h q = 0 → ∃ c, (putH h q.toNat).length ≤ c ∧ y = .tup [.c (.sl 4 0 0 (putH h q.toNat).length c), .c (.int .i64 0)] ∧ hs = hdB h ++ [lsC (putH h q.toNat) c])) := by
  refine fn_of_body tds_ok follows_ Try.func16 rfl (t := .a (.agg (hdC 0 1 2 3 h)) :: .a (.c (.int .i64 q)) :: anys (Try.f16.ntmps - 2)) rfl (fun w r0 hr _ => ?_)
  obtain ⟨x0, x1, x2, x3, rfl⟩ := len4' hr
  (repeat first | refine And.intro (by omega) ?_ | refine And.intro (by decide) ?_ | (with_reducible refine frc_parts (by first | omega | decide) ?_) | (with_reducible refine frc_bytesL (by first | omega | decide) ?_) | refine And.intro rfl ?_)
  refine call_same (fn_hcheck h) [0, 1, 2, 3] rfl (by (repeat first | exact trivial | refine ⟨rfl, ?_⟩ | refine ⟨fun _ _ => ⟨rfl, trivial⟩, ?_⟩ | refine ⟨fun _ _ => trivial, ?_⟩ | refine ⟨by omega, ?_⟩ | refine ⟨fun _ _ => eqC_winS, ?_⟩ | refine ⟨fun _ _ => eqC_winM, ?_⟩ | refine ⟨fun _ _ => eqC_winB, ?_⟩ | refine ⟨fun _ _ => eqC_selfB, ?_⟩ | refine ⟨fun _ _ => eqC_mpB, ?_⟩)) ?_ (fun _ _ => trivial) ?_
  · refine eqC_bts (eqC_bts (eqC_bts (eqC_bts ?_)))
    (repeat first | exact trivial | refine ⟨rfl, ?_⟩ | refine ⟨fun _ _ => ⟨rfl, trivial⟩, ?_⟩ | refine ⟨fun _ _ => trivial, ?_⟩ | refine ⟨by omega, ?_⟩ | refine ⟨fun _ _ => eqC_winS, ?_⟩ | refine ⟨fun _ _ => eqC_winM, ?_⟩ | refine ⟨fun _ _ => eqC_winB, ?_⟩ | refine ⟨fun _ _ => eqC_selfB, ?_⟩ | refine ⟨fun _ _ => eqC_mpB, ?_⟩)
  rintro x hs ⟨rfl, rfl⟩
  have back : ∀ (e : Int) {h' : List (List Seg)}, putE h q = e → e ≠ 0 → True := fun _ _ _ _ => trivial
  by_cases h0 : checkM h = 0
  rotate_left
  · have e0 : decide (checkM h ≠ 0) = true := decide_eq_true h0
    have hE : putE h q = checkM h := by unfold putE; rw [if_pos h0]
    rw [hE]
    (repeat first | refine And.intro (by omega) ?_ | refine And.intro (by decide) ?_ | refine And.intro rfl ?_ | refine And.intro (fun _ => ?_) (fun h => Bool.noConfusion h) | refine And.intro (fun h => Bool.noConfusion h) (fun _ => ?_) | refine And.intro (fun _ => ?_) (fun h => absurd h (by rw [e0]; decide)) | refine And.intro (fun h => absurd h (by rw [e0]; decide)) (fun _ => ?_))
    refine ⟨.tup [.c (.slc none 0 0), .c (.int .i64 (checkM h))], _, ⟨[0, 1, 2, 3], ⟨rfl, rfl, rfl⟩, ?_⟩, fun _ => ⟨rfl, rfl⟩, fun he => absurd he h0⟩
    (repeat first | exact trivial | refine ⟨rfl, ?_⟩ | refine ⟨fun _ _ => ⟨rfl, trivial⟩, ?_⟩ | refine ⟨fun _ _ => trivial, ?_⟩ | refine ⟨by omega, ?_⟩ | refine ⟨fun _ _ => eqC_winS, ?_⟩ | refine ⟨fun _ _ => eqC_winM, ?_⟩ | refine ⟨fun _ _ => eqC_winB, ?_⟩ | refine ⟨fun _ _ => eqC_selfB, ?_⟩ | refine ⟨fun _ _ => eqC_mpB, ?_⟩)
    refine eqC_bts (eqC_bts (eqC_bts (eqC_bts ?_)))
    (repeat first | exact trivial | refine ⟨rfl, ?_⟩ | refine ⟨fun _ _ => ⟨rfl, trivial⟩, ?_⟩ | refine ⟨fun _ _ => trivial, ?_⟩ | refine ⟨by omega, ?_⟩ | refine ⟨fun _ _ => eqC_winS, ?_⟩ | refine ⟨fun _ _ => eqC_winM, ?_⟩ | refine ⟨fun _ _ => eqC_winB, ?_⟩ | refine ⟨fun _ _ => eqC_selfB, ?_⟩ | refine ⟨fun _ _ => eqC_mpB, ?_⟩)
  have e0 : decide (checkM h ≠ 0) = false := decide_eq_false (by omega)
  (repeat first | refine And.intro (by omega) ?_ | refine And.intro (by decide) ?_ | refine And.intro rfl ?_ | refine And.intro (fun _ => ?_) (fun h => Bool.noConfusion h) | refine And.intro (fun h => Bool.noConfusion h) (fun _ => ?_) | refine And.intro (fun _ => ?_) (fun h => absurd h (by rw [e0]; decide)) | refine And.intro (fun h => absurd h (by rw [e0]; decide)) (fun _ => ?_))
  by_cases h1 : q < 0
  · have e1 : decide (q < 0) = true := decide_eq_true h1
    have hE : putE h q = 2 := by unfold putE; rw [if_neg (by omega), if_pos (.inl h1)]
    rw [hE]
    (repeat first | refine And.intro (by omega) ?_ | refine And.intro (by decide) ?_ | refine And.intro rfl ?_ | refine And.intro (fun _ => ?_) (fun h => Bool.noConfusion h) | refine And.intro (fun h => Bool.noConfusion h) (fun _ => ?_) | refine And.intro (fun _ => ?_) (fun h => absurd h (by rw [e0]; decide)) | refine And.intro (fun h => absurd h (by rw [e0]; decide)) (fun _ => ?_) | refine And.intro (fun _ => ?_) (fun h => absurd h (by rw [e1]; decide)) | refine And.intro (fun h => absurd h (by rw [e1]; decide)) (fun _ => ?_))
    refine ⟨.tup [.c (.slc none 0 0), .c (.int .i64 2)], _, ⟨[0, 1, 2, 3], ⟨rfl, rfl, rfl⟩, ?_⟩, fun _ => ⟨rfl, rfl⟩, fun he => absurd he (by decide)⟩
    (repeat first | exact trivial | refine ⟨rfl, ?_⟩ | refine ⟨fun _ _ => ⟨rfl, trivial⟩, ?_⟩ | refine ⟨fun _ _ => trivial, ?_⟩ | refine ⟨by omega, ?_⟩ | refine ⟨fun _ _ => eqC_winS, ?_⟩ | refine ⟨fun _ _ => eqC_winM, ?_⟩ | refine ⟨fun _ _ => eqC_winB, ?_⟩ | refine ⟨fun _ _ => eqC_selfB, ?_⟩ | refine ⟨fun _ _ => eqC_mpB, ?_⟩)
    refine eqC_bts (eqC_bts (eqC_bts (eqC_bts ?_)))
    (repeat first | exact trivial | refine ⟨rfl, ?_⟩ | refine ⟨fun _ _ => ⟨rfl, trivial⟩, ?_⟩ | refine ⟨fun _ _ => trivial, ?_⟩ | refine ⟨by omega, ?_⟩ | refine ⟨fun _ _ => eqC_winS, ?_⟩ | refine ⟨fun _ _ => eqC_winM, ?_⟩ | refine ⟨fun _ _ => eqC_winB, ?_⟩ | refine ⟨fun _ _ => eqC_selfB, ?_⟩ | refine ⟨fun _ _ => eqC_mpB, ?_⟩)
  have e1 : decide (q < 0) = false := decide_eq_false h1
  (repeat first | refine And.intro (by omega) ?_ | refine And.intro (by decide) ?_ | refine And.intro rfl ?_ | refine And.intro (fun _ => ?_) (fun h => Bool.noConfusion h) | refine And.intro (fun h => Bool.noConfusion h) (fun _ => ?_) | refine And.intro (fun _ => ?_) (fun h => absurd h (by rw [e0]; decide)) | refine And.intro (fun h => absurd h (by rw [e0]; decide)) (fun _ => ?_) | refine And.intro (fun _ => ?_) (fun h => absurd h (by rw [e1]; decide)) | refine And.intro (fun h => absurd h (by rw [e1]; decide)) (fun _ => ?_))
  by_cases h2 : 1200 < q
  · have e2 : decide (1200 < q) = true := decide_eq_true h2
    have hE : putE h q = 2 := by unfold putE; rw [if_neg (by omega), if_pos (.inr h2)]
    rw [hE]
    (repeat first | refine And.intro (by omega) ?_ | refine And.intro (by decide) ?_ | refine And.intro rfl ?_ | refine And.intro (fun _ => ?_) (fun h => Bool.noConfusion h) | refine And.intro (fun h => Bool.noConfusion h) (fun _ => ?_) | refine And.intro (fun _ => ?_) (fun h => absurd h (by rw [e0]; decide)) | refine And.intro (fun h => absurd h (by rw [e0]; decide)) (fun _ => ?_) | refine And.intro (fun _ => ?_) (fun h => absurd h (by rw [e1]; decide)) | refine And.intro (fun h => absurd h (by rw [e1]; decide)) (fun _ => ?_) | refine And.intro (fun _ => ?_) (fun h => absurd h (by rw [e2]; decide)) | refine And.intro (fun h => absurd h (by rw [e2]; decide)) (fun _ => ?_))
    refine ⟨.tup [.c (.slc none 0 0), .c (.int .i64 2)], _, ⟨[0, 1, 2, 3], ⟨rfl, rfl, rfl⟩, ?_⟩, fun _ => ⟨rfl, rfl⟩, fun he => absurd he (by decide)⟩
    (repeat first | exact trivial | refine ⟨rfl, ?_⟩ | refine ⟨fun _ _ => ⟨rfl, trivial⟩, ?_⟩ | refine ⟨fun _ _ => trivial, ?_⟩ | refine ⟨by omega, ?_⟩ | refine ⟨fun _ _ => eqC_winS, ?_⟩ | refine ⟨fun _ _ => eqC_winM, ?_⟩ | refine ⟨fun _ _ => eqC_winB, ?_⟩ | refine ⟨fun _ _ => eqC_selfB, ?_⟩ | refine ⟨fun _ _ => eqC_mpB, ?_⟩)
    refine eqC_bts (eqC_bts (eqC_bts (eqC_bts ?_)))
    (repeat first | exact trivial | refine ⟨rfl, ?_⟩ | refine ⟨fun _ _ => ⟨rfl, trivial⟩, ?_⟩ | refine ⟨fun _ _ => trivial, ?_⟩ | refine ⟨by omega, ?_⟩ | refine ⟨fun _ _ => eqC_winS, ?_⟩ | refine ⟨fun _ _ => eqC_winM, ?_⟩ | refine ⟨fun _ _ => eqC_winB, ?_⟩ | refine ⟨fun _ _ => eqC_selfB, ?_⟩ | refine ⟨fun _ _ => eqC_mpB, ?_⟩)
  have e2 : decide (1200 < q) = false := decide_eq_false h2
  have hE : putE h q = 0 := by unfold putE; rw [if_neg (by omega), if_neg (by omega)]
  obtain ⟨p, rfl⟩ : ∃ p : Nat, q = p := ⟨q.toNat, by omega⟩
  have hp : ((p : Int)).toNat = p := rfl
  rw [hp]
  obtain ⟨g1, g2, g3, g4, g5, g6⟩ := checkM_0 h0
  have hf8 : BitVec.ofInt 8 (64 + (h.n.l.length : Int) - 1) = BitVec.ofNat 8 (63 + h.n.l.length) := by
    rw [show (64 : Int) + (h.n.l.length : Int) - 1 = ((63 + h.n.l.length : Nat) : Int) by omega, BitVec.ofInt_natCast]
  by_cases h5 : h.sp = 2#8
  · have e5 : decide (h.sp = 2#8) = true := decide_eq_true h5
    by_cases h6 : h.turn = true
    · have e6 : h.turn = true := h6
      (repeat first | refine And.intro (by omega) ?_ | refine And.intro (by decide) ?_ | refine And.intro rfl ?_ | refine And.intro (fun _ => ?_) (fun h => Bool.noConfusion h) | refine And.intro (fun h => Bool.noConfusion h) (fun _ => ?_) | refine And.intro (fun _ => ?_) (fun h => absurd h (by rw [e0]; decide)) | refine And.intro (fun h => absurd h (by rw [e0]; decide)) (fun _ => ?_) | refine And.intro (fun _ => ?_) (fun h => absurd h (by rw [e1]; decide)) | refine And.intro (fun h => absurd h (by rw [e1]; decide)) (fun _ => ?_) | refine And.intro (fun _ => ?_) (fun h => absurd h (by rw [e2]; decide)) | refine And.intro (fun h => absurd h (by rw [e2]; decide)) (fun _ => ?_) | refine And.intro (fun _ => ?_) (fun h => absurd h (by rw [e5]; decide)) | refine And.intro (fun h => absurd h (by rw [e5]; decide)) (fun _ => ?_) | refine And.intro (fun _ => ?_) (fun h => absurd h (by rw [e6]; decide)) | refine And.intro (fun h => absurd h (by rw [e6]; decide)) (fun _ => ?_))
      refine call_same (fn_wbytes0 _ (lit_ok (l := [BitVec.ofNat 8 (63 + h.n.l.length) + 4#8]) (by simp)) (by simp)) [6, 5] rfl (by (repeat first | exact trivial | refine ⟨rfl, ?_⟩ | refine ⟨fun _ _ => ⟨rfl, trivial⟩, ?_⟩ | refine ⟨fun _ _ => trivial, ?_⟩ | refine ⟨by omega, ?_⟩ | refine ⟨fun _ _ => eqC_winS, ?_⟩ | refine ⟨fun _ _ => eqC_winM, ?_⟩ | refine ⟨fun _ _ => eqC_winB, ?_⟩ | refine ⟨fun _ _ => eqC_selfB, ?_⟩ | refine ⟨fun _ _ => eqC_mpB, ?_⟩)) ?_ (fun _ _ => trivial) ?_
      · refine ⟨rfl, fun j hj => eqC_lit' (l := [BitVec.ofNat 8 (63 + h.n.l.length) + 4#8]) (fun j hj => ?_) j, ?_⟩
        · exact one_row (by rw [← hf8]) j hj
        (repeat first | exact trivial | refine ⟨rfl, ?_⟩ | refine ⟨fun _ _ => ⟨rfl, trivial⟩, ?_⟩ | refine ⟨fun _ _ => trivial, ?_⟩ | refine ⟨by omega, ?_⟩ | refine ⟨fun _ _ => eqC_winS, ?_⟩ | refine ⟨fun _ _ => eqC_winM, ?_⟩ | refine ⟨fun _ _ => eqC_winB, ?_⟩ | refine ⟨fun _ _ => eqC_selfB, ?_⟩ | refine ⟨fun _ _ => eqC_mpB, ?_⟩)
      rintro x hs' ⟨c1, hc1, rfl, rfl⟩
      obtain ⟨B1, hB1⟩ : ∃ B, [BitVec.ofNat 8 (63 + h.n.l.length) + 4#8] = B := ⟨_, rfl⟩
      have lB1 : B1.length = ([BitVec.ofNat 8 (63 + h.n.l.length) + 4#8]).length := by rw [← hB1]
      try simp only [List.length_cons, List.length_nil, wideL_len] at lB1
      dsimp only at hc1 ⊢
      rw [hB1] at hc1 ⊢
      (repeat first | refine And.intro (by omega) ?_ | refine And.intro (by decide) ?_ | refine And.intro rfl ?_ | refine And.intro (fun _ => ?_) (fun h => Bool.noConfusion h) | refine And.intro (fun h => Bool.noConfusion h) (fun _ => ?_) | refine And.intro (fun _ => ?_) (fun h => absurd h (by rw [e0]; decide)) | refine And.intro (fun h => absurd h (by rw [e0]; decide)) (fun _ => ?_) | refine And.intro (fun _ => ?_) (fun h => absurd h (by rw [e1]; decide)) | refine And.intro (fun h => absurd h (by rw [e1]; decide)) (fun _ => ?_) | refine And.intro (fun _ => ?_) (fun h => absurd h (by rw [e2]; decide)) | refine And.intro (fun h => absurd h (by rw [e2]; decide)) (fun _ => ?_) | refine And.intro (fun _ => ?_) (fun h => absurd h (by rw [e5]; decide)) | refine And.intro (fun h => absurd h (by rw [e5]; decide)) (fun _ => ?_) | refine And.intro (fun _ => ?_) (fun h => absurd h (by rw [e6]; decide)) | refine And.intro (fun h => absurd h (by rw [e6]; decide)) (fun _ => ?_))
      refine call_same (fn_wbytes h.t ho.t B1 c1 (by omega) hc1) [0, 5, 7] rfl (by (repeat first | exact trivial | refine ⟨rfl, ?_⟩ | refine ⟨fun _ _ => ⟨rfl, trivial⟩, ?_⟩ | refine ⟨fun _ _ => trivial, ?_⟩ | refine ⟨by omega, ?_⟩ | refine ⟨fun _ _ => eqC_winS, ?_⟩ | refine ⟨fun _ _ => eqC_winM, ?_⟩ | refine ⟨fun _ _ => eqC_winB, ?_⟩ | refine ⟨fun _ _ => eqC_selfB, ?_⟩ | refine ⟨fun _ _ => eqC_mpB, ?_⟩)) ?_ (fun _ _ => trivial) ?_
      · refine eqC_bts ?_
        (repeat first | exact trivial | refine ⟨rfl, ?_⟩ | refine ⟨fun _ _ => ⟨rfl, trivial⟩, ?_⟩ | refine ⟨fun _ _ => trivial, ?_⟩ | refine ⟨by omega, ?_⟩ | refine ⟨fun _ _ => eqC_winS, ?_⟩ | refine ⟨fun _ _ => eqC_winM, ?_⟩ | refine ⟨fun _ _ => eqC_winB, ?_⟩ | refine ⟨fun _ _ => eqC_selfB, ?_⟩ | refine ⟨fun _ _ => eqC_mpB, ?_⟩)
      rintro x hs' ⟨c2, hc2, rfl, rfl⟩
      obtain ⟨B2, hB2⟩ : ∃ B, B1 ++ h.t.l = B := ⟨_, rfl⟩
      have lB2 : B2.length = B1.length + (h.t.l).length := by rw [← hB2, List.length_append]
      try simp only [List.length_cons, List.length_nil, wideL_len] at lB2
      dsimp only at hc2 ⊢
      rw [hB2] at hc2 ⊢
      (repeat first | refine And.intro (by omega) ?_ | refine And.intro (by decide) ?_ | refine And.intro rfl ?_ | refine And.intro (fun _ => ?_) (fun h => Bool.noConfusion h) | refine And.intro (fun h => Bool.noConfusion h) (fun _ => ?_) | refine And.intro (fun _ => ?_) (fun h => absurd h (by rw [e0]; decide)) | refine And.intro (fun h => absurd h (by rw [e0]; decide)) (fun _ => ?_) | refine And.intro (fun _ => ?_) (fun h => absurd h (by rw [e1]; decide)) | refine And.intro (fun h => absurd h (by rw [e1]; decide)) (fun _ => ?_) | refine And.intro (fun _ => ?_) (fun h => absurd h (by rw [e2]; decide)) | refine And.intro (fun h => absurd h (by rw [e2]; decide)) (fun _ => ?_) | refine And.intro (fun _ => ?_) (fun h => absurd h (by rw [e5]; decide)) | refine And.intro (fun h => absurd h (by rw [e5]; decide)) (fun _ => ?_) | refine And.intro (fun _ => ?_) (fun h => absurd h (by rw [e6]; decide)) | refine And.intro (fun h => absurd h (by rw [e6]; decide)) (fun _ => ?_))
      refine call_same (fn_wbytes h.n ho.n B2 c2 (by omega) hc2) [3, 5, 8] rfl (by (repeat first | exact trivial | refine ⟨rfl, ?_⟩ | refine ⟨fun _ _ => ⟨rfl, trivial⟩, ?_⟩ | refine ⟨fun _ _ => trivial, ?_⟩ | refine ⟨by omega, ?_⟩ | refine ⟨fun _ _ => eqC_winS, ?_⟩ | refine ⟨fun _ _ => eqC_winM, ?_⟩ | refine ⟨fun _ _ => eqC_winB, ?_⟩ | refine ⟨fun _ _ => eqC_selfB, ?_⟩ | refine ⟨fun _ _ => eqC_mpB, ?_⟩)) ?_ (fun _ _ => trivial) ?_
      · refine eqC_bts ?_
        (repeat first | exact trivial | refine ⟨rfl, ?_⟩ | refine ⟨fun _ _ => ⟨rfl, trivial⟩, ?_⟩ | refine ⟨fun _ _ => trivial, ?_⟩ | refine ⟨by omega, ?_⟩ | refine ⟨fun _ _ => eqC_winS, ?_⟩ | refine ⟨fun _ _ => eqC_winM, ?_⟩ | refine ⟨fun _ _ => eqC_winB, ?_⟩ | refine ⟨fun _ _ => eqC_selfB, ?_⟩ | refine ⟨fun _ _ => eqC_mpB, ?_⟩)
      rintro x hs' ⟨c3, hc3, rfl, rfl⟩
      obtain ⟨B3, hB3⟩ : ∃ B, B2 ++ h.n.l = B := ⟨_, rfl⟩
      have lB3 : B3.length = B2.length + (h.n.l).length := by rw [← hB3, List.length_append]
      try simp only [List.length_cons, List.length_nil, wideL_len] at lB3
      dsimp only at hc3 ⊢
      rw [hB3] at hc3 ⊢
      (repeat first | refine And.intro (by omega) ?_ | refine And.intro (by decide) ?_ | refine And.intro rfl ?_ | refine And.intro (fun _ => ?_) (fun h => Bool.noConfusion h) | refine And.intro (fun h => Bool.noConfusion h) (fun _ => ?_) | refine And.intro (fun _ => ?_) (fun h => absurd h (by rw [e0]; decide)) | refine And.intro (fun h => absurd h (by rw [e0]; decide)) (fun _ => ?_) | refine And.intro (fun _ => ?_) (fun h => absurd h (by rw [e1]; decide)) | refine And.intro (fun h => absurd h (by rw [e1]; decide)) (fun _ => ?_) | refine And.intro (fun _ => ?_) (fun h => absurd h (by rw [e2]; decide)) | refine And.intro (fun h => absurd h (by rw [e2]; decide)) (fun _ => ?_) | refine And.intro (fun _ => ?_) (fun h => absurd h (by rw [e5]; decide)) | refine And.intro (fun h => absurd h (by rw [e5]; decide)) (fun _ => ?_) | refine And.intro (fun _ => ?_) (fun h => absurd h (by rw [e6]; decide)) | refine And.intro (fun h => absurd h (by rw [e6]; decide)) (fun _ => ?_))
      refine call_same (fn_wdone B3 c3 (by omega) hc3 (by omega)) [5, 9] rfl (by (repeat first | exact trivial | refine ⟨rfl, ?_⟩ | refine ⟨fun _ _ => ⟨rfl, trivial⟩, ?_⟩ | refine ⟨fun _ _ => trivial, ?_⟩ | refine ⟨by omega, ?_⟩ | refine ⟨fun _ _ => eqC_winS, ?_⟩ | refine ⟨fun _ _ => eqC_winM, ?_⟩ | refine ⟨fun _ _ => eqC_winB, ?_⟩ | refine ⟨fun _ _ => eqC_selfB, ?_⟩ | refine ⟨fun _ _ => eqC_mpB, ?_⟩)) ?_ (fun _ _ => trivial) ?_
      · (repeat first | exact trivial | refine ⟨rfl, ?_⟩ | refine ⟨fun _ _ => ⟨rfl, trivial⟩, ?_⟩ | refine ⟨fun _ _ => trivial, ?_⟩ | refine ⟨by omega, ?_⟩ | refine ⟨fun _ _ => eqC_winS, ?_⟩ | refine ⟨fun _ _ => eqC_winM, ?_⟩ | refine ⟨fun _ _ => eqC_winB, ?_⟩ | refine ⟨fun _ _ => eqC_selfB, ?_⟩ | refine ⟨fun _ _ => eqC_mpB, ?_⟩)
      rintro x hs' ⟨cz, hcz, rfl, rfl⟩
      have hP : B3 = putH h p := by rw [← hB3, ← hB2, ← hB1]; unfold putH fstB; simp [h5, h6]
      rw [hP] at hcz ⊢
      refine ⟨.tup [.c (.sl 4 0 0 (putH h p).length cz), .c (.int .i64 0)], _, ⟨[0, 1, 2, 3, 10], ⟨rfl, rfl, rfl⟩, ?_⟩, fun he => absurd hE he, fun _ => ⟨cz, hcz, rfl, rfl⟩⟩
      (repeat first | exact trivial | refine ⟨rfl, ?_⟩ | refine ⟨fun _ _ => ⟨rfl, trivial⟩, ?_⟩ | refine ⟨fun _ _ => trivial, ?_⟩ | refine ⟨by omega, ?_⟩ | refine ⟨fun _ _ => eqC_winS, ?_⟩ | refine ⟨fun _ _ => eqC_winM, ?_⟩ | refine ⟨fun _ _ => eqC_winB, ?_⟩ | refine ⟨fun _ _ => eqC_selfB, ?_⟩ | refine ⟨fun _ _ => eqC_mpB, ?_⟩)
      refine eqC_bts (eqC_bts (eqC_bts (eqC_bts ?_)))
      (repeat first | exact trivial | refine ⟨rfl, ?_⟩ | refine ⟨fun _ _ => ⟨rfl, trivial⟩, ?_⟩ | refine ⟨fun _ _ => trivial, ?_⟩ | refine ⟨by omega, ?_⟩ | refine ⟨fun _ _ => eqC_winS, ?_⟩ | refine ⟨fun _ _ => eqC_winM, ?_⟩ | refine ⟨fun _ _ => eqC_winB, ?_⟩ | refine ⟨fun _ _ => eqC_selfB, ?_⟩ | refine ⟨fun _ _ => eqC_mpB, ?_⟩)
    · have e6 : h.turn = false := by simpa using h6
      (repeat first | refine And.intro (by omega) ?_ | refine And.intro (by decide) ?_ | refine And.intro rfl ?_ | refine And.intro (fun _ => ?_) (fun h => Bool.noConfusion h) | refine And.intro (fun h => Bool.noConfusion h) (fun _ => ?_) | refine And.intro (fun _ => ?_) (fun h => absurd h (by rw [e0]; decide)) | refine And.intro (fun h => absurd h (by rw [e0]; decide)) (fun _ => ?_) | refine And.intro (fun _ => ?_) (fun h => absurd h (by rw [e1]; decide)) | refine And.intro (fun h => absurd h (by rw [e1]; decide)) (fun _ => ?_) | refine And.intro (fun _ => ?_) (fun h => absurd h (by rw [e2]; decide)) | refine And.intro (fun h => absurd h (by rw [e2]; decide)) (fun _ => ?_) | refine And.intro (fun _ => ?_) (fun h => absurd h (by rw [e5]; decide)) | refine And.intro (fun h => absurd h (by rw [e5]; decide)) (fun _ => ?_) | refine And.intro (fun _ => ?_) (fun h => absurd h (by rw [e6]; decide)) | refine And.intro (fun h => absurd h (by rw [e6]; decide)) (fun _ => ?_))
      refine call_same (fn_wbytes0 _ (lit_ok (l := [BitVec.ofNat 8 (63 + h.n.l.length)]) (by simp)) (by simp)) [6, 5] rfl (by (repeat first | exact trivial | refine ⟨rfl, ?_⟩ | refine ⟨fun _ _ => ⟨rfl, trivial⟩, ?_⟩ | refine ⟨fun _ _ => trivial, ?_⟩ | refine ⟨by omega, ?_⟩ | refine ⟨fun _ _ => eqC_winS, ?_⟩ | refine ⟨fun _ _ => eqC_winM, ?_⟩ | refine ⟨fun _ _ => eqC_winB, ?_⟩ | refine ⟨fun _ _ => eqC_selfB, ?_⟩ | refine ⟨fun _ _ => eqC_mpB, ?_⟩)) ?_ (fun _ _ => trivial) ?_
      · refine ⟨rfl, fun j hj => eqC_lit' (l := [BitVec.ofNat 8 (63 + h.n.l.length)]) (fun j hj => ?_) j, ?_⟩
        · exact one_row (by rw [← hf8]) j hj
        (repeat first | exact trivial | refine ⟨rfl, ?_⟩ | refine ⟨fun _ _ => ⟨rfl, trivial⟩, ?_⟩ | refine ⟨fun _ _ => trivial, ?_⟩ | refine ⟨by omega, ?_⟩ | refine ⟨fun _ _ => eqC_winS, ?_⟩ | refine ⟨fun _ _ => eqC_winM, ?_⟩ | refine ⟨fun _ _ => eqC_winB, ?_⟩ | refine ⟨fun _ _ => eqC_selfB, ?_⟩ | refine ⟨fun _ _ => eqC_mpB, ?_⟩)
      rintro x hs' ⟨c4, hc4, rfl, rfl⟩
      obtain ⟨B4, hB4⟩ : ∃ B, [BitVec.ofNat 8 (63 + h.n.l.length)] = B := ⟨_, rfl⟩
      have lB4 : B4.length = ([BitVec.ofNat 8 (63 + h.n.l.length)]).length := by rw [← hB4]
      try simp only [List.length_cons, List.length_nil, wideL_len] at lB4
      dsimp only at hc4 ⊢
      rw [hB4] at hc4 ⊢
      (repeat first | refine And.intro (by omega) ?_ | refine And.intro (by decide) ?_ | refine And.intro rfl ?_ | refine And.intro (fun _ => ?_) (fun h => Bool.noConfusion h) | refine And.intro (fun h => Bool.noConfusion h) (fun _ => ?_) | refine And.intro (fun _ => ?_) (fun h => absurd h (by rw [e0]; decide)) | refine And.intro (fun h => absurd h (by rw [e0]; decide)) (fun _ => ?_) | refine And.intro (fun _ => ?_) (fun h => absurd h (by rw [e1]; decide)) | refine And.intro (fun h => absurd h (by rw [e1]; decide)) (fun _ => ?_) | refine And.intro (fun _ => ?_) (fun h => absurd h (by rw [e2]; decide)) | refine And.intro (fun h => absurd h (by rw [e2]; decide)) (fun _ => ?_) | refine And.intro (fun _ => ?_) (fun h => absurd h (by rw [e5]; decide)) | refine And.intro (fun h => absurd h (by rw [e5]; decide)) (fun _ => ?_) | refine And.intro (fun _ => ?_) (fun h => absurd h (by rw [e6]; decide)) | refine And.intro (fun h => absurd h (by rw [e6]; decide)) (fun _ => ?_))
      refine call_same (fn_wbytes h.t ho.t B4 c4 (by omega) hc4) [0, 5, 7] rfl (by (repeat first | exact trivial | refine ⟨rfl, ?_⟩ | refine ⟨fun _ _ => ⟨rfl, trivial⟩, ?_⟩ | refine ⟨fun _ _ => trivial, ?_⟩ | refine ⟨by omega, ?_⟩ | refine ⟨fun _ _ => eqC_winS, ?_⟩ | refine ⟨fun _ _ => eqC_winM, ?_⟩ | refine ⟨fun _ _ => eqC_winB, ?_⟩ | refine ⟨fun _ _ => eqC_selfB, ?_⟩ | refine ⟨fun _ _ => eqC_mpB, ?_⟩)) ?_ (fun _ _ => trivial) ?_
      · refine eqC_bts ?_
        (repeat first | exact trivial | refine ⟨rfl, ?_⟩ | refine ⟨fun _ _ => ⟨rfl, trivial⟩, ?_⟩ | refine ⟨fun _ _ => trivial, ?_⟩ | refine ⟨by omega, ?_⟩ | refine ⟨fun _ _ => eqC_winS, ?_⟩ | refine ⟨fun _ _ => eqC_winM, ?_⟩ | refine ⟨fun _ _ => eqC_winB, ?_⟩ | refine ⟨fun _ _ => eqC_selfB, ?_⟩ | refine ⟨fun _ _ => eqC_mpB, ?_⟩)
      rintro x hs' ⟨c5, hc5, rfl, rfl⟩
      obtain ⟨B5, hB5⟩ : ∃ B, B4 ++ h.t.l = B := ⟨_, rfl⟩
      have lB5 : B5.length = B4.length + (h.t.l).length := by rw [← hB5, List.length_append]
      try simp only [List.length_cons, List.length_nil, wideL_len] at lB5
      dsimp only at hc5 ⊢
      rw [hB5] at hc5 ⊢
      (repeat first | refine And.intro (by omega) ?_ | refine And.intro (by decide) ?_ | refine And.intro rfl ?_ | refine And.intro (fun _ => ?_) (fun h => Bool.noConfusion h) | refine And.intro (fun h => Bool.noConfusion h) (fun _ => ?_) | refine And.intro (fun _ => ?_) (fun h => absurd h (by rw [e0]; decide)) | refine And.intro (fun h => absurd h (by rw [e0]; decide)) (fun _ => ?_) | refine And.intro (fun _ => ?_) (fun h => absurd h (by rw [e1]; decide)) | refine And.intro (fun h => absurd h (by rw [e1]; decide)) (fun _ => ?_) | refine And.intro (fun _ => ?_) (fun h => absurd h (by rw [e2]; decide)) | refine And.intro (fun h => absurd h (by rw [e2]; decide)) (fun _ => ?_) | refine And.intro (fun _ => ?_) (fun h => absurd h (by rw [e5]; decide)) | refine And.intro (fun h => absurd h (by rw [e5]; decide)) (fun _ => ?_) | refine And.intro (fun _ => ?_) (fun h => absurd h (by rw [e6]; decide)) | refine And.intro (fun h => absurd h (by rw [e6]; decide)) (fun _ => ?_))
      refine call_same (fn_wbytes h.n ho.n B5 c5 (by omega) hc5) [3, 5, 8] rfl (by (repeat first | exact trivial | refine ⟨rfl, ?_⟩ | refine ⟨fun _ _ => ⟨rfl, trivial⟩, ?_⟩ | refine ⟨fun _ _ => trivial, ?_⟩ | refine ⟨by omega, ?_⟩ | refine ⟨fun _ _ => eqC_winS, ?_⟩ | refine ⟨fun _ _ => eqC_winM, ?_⟩ | refine ⟨fun _ _ => eqC_winB, ?_⟩ | refine ⟨fun _ _ => eqC_selfB, ?_⟩ | refine ⟨fun _ _ => eqC_mpB, ?_⟩)) ?_ (fun _ _ => trivial) ?_
      · refine eqC_bts ?_
        (repeat first | exact trivial | refine ⟨rfl, ?_⟩ | refine ⟨fun _ _ => ⟨rfl, trivial⟩, ?_⟩ | refine ⟨fun _ _ => trivial, ?_⟩ | refine ⟨by omega, ?_⟩ | refine ⟨fun _ _ => eqC_winS, ?_⟩ | refine ⟨fun _ _ => eqC_winM, ?_⟩ | refine ⟨fun _ _ => eqC_winB, ?_⟩ | refine ⟨fun _ _ => eqC_selfB, ?_⟩ | refine ⟨fun _ _ => eqC_mpB, ?_⟩)
      rintro x hs' ⟨c6, hc6, rfl, rfl⟩
      obtain ⟨B6, hB6⟩ : ∃ B, B5 ++ h.n.l = B := ⟨_, rfl⟩
      have lB6 : B6.length = B5.length + (h.n.l).length := by rw [← hB6, List.length_append]
      try simp only [List.length_cons, List.length_nil, wideL_len] at lB6
      dsimp only at hc6 ⊢
      rw [hB6] at hc6 ⊢
      (repeat first | refine And.intro (by omega) ?_ | refine And.intro (by decide) ?_ | refine And.intro rfl ?_ | refine And.intro (fun _ => ?_) (fun h => Bool.noConfusion h) | refine And.intro (fun h => Bool.noConfusion h) (fun _ => ?_) | refine And.intro (fun _ => ?_) (fun h => absurd h (by rw [e0]; decide)) | refine And.intro (fun h => absurd h (by rw [e0]; decide)) (fun _ => ?_) | refine And.intro (fun _ => ?_) (fun h => absurd h (by rw [e1]; decide)) | refine And.intro (fun h => absurd h (by rw [e1]; decide)) (fun _ => ?_) | refine And.intro (fun _ => ?_) (fun h => absurd h (by rw [e2]; decide)) | refine And.intro (fun h => absurd h (by rw [e2]; decide)) (fun _ => ?_) | refine And.intro (fun _ => ?_) (fun h => absurd h (by rw [e5]; decide)) | refine And.intro (fun h => absurd h (by rw [e5]; decide)) (fun _ => ?_) | refine And.intro (fun _ => ?_) (fun h => absurd h (by rw [e6]; decide)) | refine And.intro (fun h => absurd h (by rw [e6]; decide)) (fun _ => ?_))
      refine call_same (fn_wdone B6 c6 (by omega) hc6 (by omega)) [5, 9] rfl (by (repeat first | exact trivial | refine ⟨rfl, ?_⟩ | refine ⟨fun _ _ => ⟨rfl, trivial⟩, ?_⟩ | refine ⟨fun _ _ => trivial, ?_⟩ | refine ⟨by omega, ?_⟩ | refine ⟨fun _ _ => eqC_winS, ?_⟩ | refine ⟨fun _ _ => eqC_winM, ?_⟩ | refine ⟨fun _ _ => eqC_winB, ?_⟩ | refine ⟨fun _ _ => eqC_selfB, ?_⟩ | refine ⟨fun _ _ => eqC_mpB, ?_⟩)) ?_ (fun _ _ => trivial) ?_
      · (repeat first | exact trivial | refine ⟨rfl, ?_⟩ | refine ⟨fun _ _ => ⟨rfl, trivial⟩, ?_⟩ | refine ⟨fun _ _ => trivial, ?_⟩ | refine ⟨by omega, ?_⟩ | refine ⟨fun _ _ => eqC_winS, ?_⟩ | refine ⟨fun _ _ => eqC_winM, ?_⟩ | refine ⟨fun _ _ => eqC_winB, ?_⟩ | refine ⟨fun _ _ => eqC_selfB, ?_⟩ | refine ⟨fun _ _ => eqC_mpB, ?_⟩)
      rintro x hs' ⟨cz, hcz, rfl, rfl⟩
      have hP : B6 = putH h p := by rw [← hB6, ← hB5, ← hB4]; unfold putH fstB; simp [h5, h6]
      rw [hP] at hcz ⊢
      refine ⟨.tup [.c (.sl 4 0 0 (putH h p).length cz), .c (.int .i64 0)], _, ⟨[0, 1, 2, 3, 10], ⟨rfl, rfl, rfl⟩, ?_⟩, fun he => absurd hE he, fun _ => ⟨cz, hcz, rfl, rfl⟩⟩
      (repeat first | exact trivial | refine ⟨rfl, ?_⟩ | refine ⟨fun _ _ => ⟨rfl, trivial⟩, ?_⟩ | refine ⟨fun _ _ => trivial, ?_⟩ | refine ⟨by omega, ?_⟩ | refine ⟨fun _ _ => eqC_winS, ?_⟩ | refine ⟨fun _ _ => eqC_winM, ?_⟩ | refine ⟨fun _ _ => eqC_winB, ?_⟩ | refine ⟨fun _ _ => eqC_selfB, ?_⟩ | refine ⟨fun _ _ => eqC_mpB, ?_⟩)
      refine eqC_bts (eqC_bts (eqC_bts (eqC_bts ?_)))
      (repeat first | exact trivial | refine ⟨rfl, ?_⟩ | refine ⟨fun _ _ => ⟨rfl, trivial⟩, ?_⟩ | refine ⟨fun _ _ => trivial, ?_⟩ | refine ⟨by omega, ?_⟩ | refine ⟨fun _ _ => eqC_winS, ?_⟩ | refine ⟨fun _ _ => eqC_winM, ?_⟩ | refine ⟨fun _ _ => eqC_winB, ?_⟩ | refine ⟨fun _ _ => eqC_selfB, ?_⟩ | refine ⟨fun _ _ => eqC_mpB, ?_⟩)
  have e5 : decide (h.sp = 2#8) = false := decide_eq_false h5
  by_cases h6 : h.sp = 1#8
  · have e6 : decide (h.sp = 1#8) = true := decide_eq_true h6
    have e7 : decide (h.sp = 0#8) = false := decide_eq_false (by rw [h6]; decide)
    (repeat first | refine And.intro (by omega) ?_ | refine And.intro (by decide) ?_ | refine And.intro rfl ?_ | refine And.intro (fun _ => ?_) (fun h => Bool.noConfusion h) | refine And.intro (fun h => Bool.noConfusion h) (fun _ => ?_) | refine And.intro (fun _ => ?_) (fun h => absurd h (by rw [e0]; decide)) | refine And.intro (fun h => absurd h (by rw [e0]; decide)) (fun _ => ?_) | refine And.intro (fun _ => ?_) (fun h => absurd h (by rw [e1]; decide)) | refine And.intro (fun h => absurd h (by rw [e1]; decide)) (fun _ => ?_) | refine And.intro (fun _ => ?_) (fun h => absurd h (by rw [e2]; decide)) | refine And.intro (fun h => absurd h (by rw [e2]; decide)) (fun _ => ?_) | refine And.intro (fun _ => ?_) (fun h => absurd h (by rw [e5]; decide)) | refine And.intro (fun h => absurd h (by rw [e5]; decide)) (fun _ => ?_) | refine And.intro (fun _ => ?_) (fun h => absurd h (by rw [e6]; decide)) | refine And.intro (fun h => absurd h (by rw [e6]; decide)) (fun _ => ?_) | refine And.intro (fun _ => ?_) (fun h => absurd h (by rw [e7]; decide)) | refine And.intro (fun h => absurd h (by rw [e7]; decide)) (fun _ => ?_))
    refine call_same (fn_wbytes0 _ (lit_ok (l := [BitVec.ofNat 8 (63 + h.n.l.length) + 128#8 + 32#8, 0#8, 0#8, 0#8, 1#8]) (by simp)) (by simp)) [6, 5] rfl (by (repeat first | exact trivial | refine ⟨rfl, ?_⟩ | refine ⟨fun _ _ => ⟨rfl, trivial⟩, ?_⟩ | refine ⟨fun _ _ => trivial, ?_⟩ | refine ⟨by omega, ?_⟩ | refine ⟨fun _ _ => eqC_winS, ?_⟩ | refine ⟨fun _ _ => eqC_winM, ?_⟩ | refine ⟨fun _ _ => eqC_winB, ?_⟩ | refine ⟨fun _ _ => eqC_selfB, ?_⟩ | refine ⟨fun _ _ => eqC_mpB, ?_⟩)) ?_ (fun _ _ => trivial) ?_
    · refine ⟨rfl, fun j hj => eqC_lit' (l := [BitVec.ofNat 8 (63 + h.n.l.length) + 128#8 + 32#8, 0#8, 0#8, 0#8, 1#8]) (fun j hj => ?_) j, ?_⟩
      · rw [← hf8]; exact nthC_w8 [_, 0#8, 0#8, 0#8, 1#8] j hj
      (repeat first | exact trivial | refine ⟨rfl, ?_⟩ | refine ⟨fun _ _ => ⟨rfl, trivial⟩, ?_⟩ | refine ⟨fun _ _ => trivial, ?_⟩ | refine ⟨by omega, ?_⟩ | refine ⟨fun _ _ => eqC_winS, ?_⟩ | refine ⟨fun _ _ => eqC_winM, ?_⟩ | refine ⟨fun _ _ => eqC_winB, ?_⟩ | refine ⟨fun _ _ => eqC_selfB, ?_⟩ | refine ⟨fun _ _ => eqC_mpB, ?_⟩)
    rintro x hs' ⟨c7, hc7, rfl, rfl⟩
    obtain ⟨B7, hB7⟩ : ∃ B, [BitVec.ofNat 8 (63 + h.n.l.length) + 128#8 + 32#8, 0#8, 0#8, 0#8, 1#8] = B := ⟨_, rfl⟩
    have lB7 : B7.length = ([BitVec.ofNat 8 (63 + h.n.l.length) + 128#8 + 32#8, 0#8, 0#8, 0#8, 1#8]).length := by rw [← hB7]
    try simp only [List.length_cons, List.length_nil, wideL_len] at lB7
    dsimp only at hc7 ⊢
    rw [hB7] at hc7 ⊢
    (repeat first | refine And.intro (by omega) ?_ | refine And.intro (by decide) ?_ | refine And.intro rfl ?_ | refine And.intro (fun _ => ?_) (fun h => Bool.noConfusion h) | refine And.intro (fun h => Bool.noConfusion h) (fun _ => ?_) | refine And.intro (fun _ => ?_) (fun h => absurd h (by rw [e0]; decide)) | refine And.intro (fun h => absurd h (by rw [e0]; decide)) (fun _ => ?_) | refine And.intro (fun _ => ?_) (fun h => absurd h (by rw [e1]; decide)) | refine And.intro (fun h => absurd h (by rw [e1]; decide)) (fun _ => ?_) | refine And.intro (fun _ => ?_) (fun h => absurd h (by rw [e2]; decide)) | refine And.intro (fun h => absurd h (by rw [e2]; decide)) (fun _ => ?_) | refine And.intro (fun _ => ?_) (fun h => absurd h (by rw [e5]; decide)) | refine And.intro (fun h => absurd h (by rw [e5]; decide)) (fun _ => ?_) | refine And.intro (fun _ => ?_) (fun h => absurd h (by rw [e6]; decide)) | refine And.intro (fun h => absurd h (by rw [e6]; decide)) (fun _ => ?_) | refine And.intro (fun _ => ?_) (fun h => absurd h (by rw [e7]; decide)) | refine And.intro (fun h => absurd h (by rw [e7]; decide)) (fun _ => ?_))
    refine call_same (fn_wbytes _ (lit_ok (l := [BitVec.ofNat 8 h.t.l.length]) (by simp)) B7 c7 (by omega) hc7) [8, 5, 7] rfl (by (repeat first | exact trivial | refine ⟨rfl, ?_⟩ | refine ⟨fun _ _ => ⟨rfl, trivial⟩, ?_⟩ | refine ⟨fun _ _ => trivial, ?_⟩ | refine ⟨by omega, ?_⟩ | refine ⟨fun _ _ => eqC_winS, ?_⟩ | refine ⟨fun _ _ => eqC_winM, ?_⟩ | refine ⟨fun _ _ => eqC_winB, ?_⟩ | refine ⟨fun _ _ => eqC_selfB, ?_⟩ | refine ⟨fun _ _ => eqC_mpB, ?_⟩)) ?_ (fun _ _ => trivial) ?_
    · refine ⟨rfl, fun j hj => eqC_lit' (l := [BitVec.ofNat 8 h.t.l.length]) (fun j hj => ?_) j, ?_⟩
      · exact one_row (BitVec.ofInt_natCast 8 _) j hj
      (repeat first | exact trivial | refine ⟨rfl, ?_⟩ | refine ⟨fun _ _ => ⟨rfl, trivial⟩, ?_⟩ | refine ⟨fun _ _ => trivial, ?_⟩ | refine ⟨by omega, ?_⟩ | refine ⟨fun _ _ => eqC_winS, ?_⟩ | refine ⟨fun _ _ => eqC_winM, ?_⟩ | refine ⟨fun _ _ => eqC_winB, ?_⟩ | refine ⟨fun _ _ => eqC_selfB, ?_⟩ | refine ⟨fun _ _ => eqC_mpB, ?_⟩)
    rintro x hs' ⟨c8, hc8, rfl, rfl⟩
    obtain ⟨B8, hB8⟩ : ∃ B, B7 ++ [BitVec.ofNat 8 h.t.l.length] = B := ⟨_, rfl⟩
    have lB8 : B8.length = B7.length + ([BitVec.ofNat 8 h.t.l.length]).length := by rw [← hB8, List.length_append]
    try simp only [List.length_cons, List.length_nil, wideL_len] at lB8
    dsimp only at hc8 ⊢
    rw [hB8] at hc8 ⊢
    (repeat first | refine And.intro (by omega) ?_ | refine And.intro (by decide) ?_ | refine And.intro rfl ?_ | refine And.intro (fun _ => ?_) (fun h => Bool.noConfusion h) | refine And.intro (fun h => Bool.noConfusion h) (fun _ => ?_) | refine And.intro (fun _ => ?_) (fun h => absurd h (by rw [e0]; decide)) | refine And.intro (fun h => absurd h (by rw [e0]; decide)) (fun _ => ?_) | refine And.intro (fun _ => ?_) (fun h => absurd h (by rw [e1]; decide)) | refine And.intro (fun h => absurd h (by rw [e1]; decide)) (fun _ => ?_) | refine And.intro (fun _ => ?_) (fun h => absurd h (by rw [e2]; decide)) | refine And.intro (fun h => absurd h (by rw [e2]; decide)) (fun _ => ?_) | refine And.intro (fun _ => ?_) (fun h => absurd h (by rw [e5]; decide)) | refine And.intro (fun h => absurd h (by rw [e5]; decide)) (fun _ => ?_) | refine And.intro (fun _ => ?_) (fun h => absurd h (by rw [e6]; decide)) | refine And.intro (fun h => absurd h (by rw [e6]; decide)) (fun _ => ?_) | refine And.intro (fun _ => ?_) (fun h => absurd h (by rw [e7]; decide)) | refine And.intro (fun h => absurd h (by rw [e7]; decide)) (fun _ => ?_))
    refine call_same (fn_wbytes h.t ho.t B8 c8 (by omega) hc8) [0, 5, 9] rfl (by (repeat first | exact trivial | refine ⟨rfl, ?_⟩ | refine ⟨fun _ _ => ⟨rfl, trivial⟩, ?_⟩ | refine ⟨fun _ _ => trivial, ?_⟩ | refine ⟨by omega, ?_⟩ | refine ⟨fun _ _ => eqC_winS, ?_⟩ | refine ⟨fun _ _ => eqC_winM, ?_⟩ | refine ⟨fun _ _ => eqC_winB, ?_⟩ | refine ⟨fun _ _ => eqC_selfB, ?_⟩ | refine ⟨fun _ _ => eqC_mpB, ?_⟩)) ?_ (fun _ _ => trivial) ?_
    · refine eqC_bts ?_
      (repeat first | exact trivial | refine ⟨rfl, ?_⟩ | refine ⟨fun _ _ => ⟨rfl, trivial⟩, ?_⟩ | refine ⟨fun _ _ => trivial, ?_⟩ | refine ⟨by omega, ?_⟩ | refine ⟨fun _ _ => eqC_winS, ?_⟩ | refine ⟨fun _ _ => eqC_winM, ?_⟩ | refine ⟨fun _ _ => eqC_winB, ?_⟩ | refine ⟨fun _ _ => eqC_selfB, ?_⟩ | refine ⟨fun _ _ => eqC_mpB, ?_⟩)
    rintro x hs' ⟨c9, hc9, rfl, rfl⟩
    obtain ⟨B9, hB9⟩ : ∃ B, B8 ++ h.t.l = B := ⟨_, rfl⟩
    have lB9 : B9.length = B8.length + (h.t.l).length := by rw [← hB9, List.length_append]
    try simp only [List.length_cons, List.length_nil, wideL_len] at lB9
    dsimp only at hc9 ⊢
    rw [hB9] at hc9 ⊢
    (repeat first | refine And.intro (by omega) ?_ | refine And.intro (by decide) ?_ | refine And.intro rfl ?_ | refine And.intro (fun _ => ?_) (fun h => Bool.noConfusion h) | refine And.intro (fun h => Bool.noConfusion h) (fun _ => ?_) | refine And.intro (fun _ => ?_) (fun h => absurd h (by rw [e0]; decide)) | refine And.intro (fun h => absurd h (by rw [e0]; decide)) (fun _ => ?_) | refine And.intro (fun _ => ?_) (fun h => absurd h (by rw [e1]; decide)) | refine And.intro (fun h => absurd h (by rw [e1]; decide)) (fun _ => ?_) | refine And.intro (fun _ => ?_) (fun h => absurd h (by rw [e2]; decide)) | refine And.intro (fun h => absurd h (by rw [e2]; decide)) (fun _ => ?_) | refine And.intro (fun _ => ?_) (fun h => absurd h (by rw [e5]; decide)) | refine And.intro (fun h => absurd h (by rw [e5]; decide)) (fun _ => ?_) | refine And.intro (fun _ => ?_) (fun h => absurd h (by rw [e6]; decide)) | refine And.intro (fun h => absurd h (by rw [e6]; decide)) (fun _ => ?_) | refine And.intro (fun _ => ?_) (fun h => absurd h (by rw [e7]; decide)) | refine And.intro (fun h => absurd h (by rw [e7]; decide)) (fun _ => ?_))
    refine call_same (fn_wbytes _ (lit_ok (l := [BitVec.ofNat 8 h.f.l.length]) (by simp)) B9 c9 (by omega) hc9) [11, 5, 10] rfl (by (repeat first | exact trivial | refine ⟨rfl, ?_⟩ | refine ⟨fun _ _ => ⟨rfl, trivial⟩, ?_⟩ | refine ⟨fun _ _ => trivial, ?_⟩ | refine ⟨by omega, ?_⟩ | refine ⟨fun _ _ => eqC_winS, ?_⟩ | refine ⟨fun _ _ => eqC_winM, ?_⟩ | refine ⟨fun _ _ => eqC_winB, ?_⟩ | refine ⟨fun _ _ => eqC_selfB, ?_⟩ | refine ⟨fun _ _ => eqC_mpB, ?_⟩)) ?_ (fun _ _ => trivial) ?_
    · refine ⟨rfl, fun j hj => eqC_lit' (l := [BitVec.ofNat 8 h.f.l.length]) (fun j hj => ?_) j, ?_⟩
      · exact one_row (BitVec.ofInt_natCast 8 _) j hj
      (repeat first | exact trivial | refine ⟨rfl, ?_⟩ | refine ⟨fun _ _ => ⟨rfl, trivial⟩, ?_⟩ | refine ⟨fun _ _ => trivial, ?_⟩ | refine ⟨by omega, ?_⟩ | refine ⟨fun _ _ => eqC_winS, ?_⟩ | refine ⟨fun _ _ => eqC_winM, ?_⟩ | refine ⟨fun _ _ => eqC_winB, ?_⟩ | refine ⟨fun _ _ => eqC_selfB, ?_⟩ | refine ⟨fun _ _ => eqC_mpB, ?_⟩)
    rintro x hs' ⟨c10, hc10, rfl, rfl⟩
    obtain ⟨B10, hB10⟩ : ∃ B, B9 ++ [BitVec.ofNat 8 h.f.l.length] = B := ⟨_, rfl⟩
    have lB10 : B10.length = B9.length + ([BitVec.ofNat 8 h.f.l.length]).length := by rw [← hB10, List.length_append]
    try simp only [List.length_cons, List.length_nil, wideL_len] at lB10
    dsimp only at hc10 ⊢
    rw [hB10] at hc10 ⊢
    (repeat first | refine And.intro (by omega) ?_ | refine And.intro (by decide) ?_ | refine And.intro rfl ?_ | refine And.intro (fun _ => ?_) (fun h => Bool.noConfusion h) | refine And.intro (fun h => Bool.noConfusion h) (fun _ => ?_) | refine And.intro (fun _ => ?_) (fun h => absurd h (by rw [e0]; decide)) | refine And.intro (fun h => absurd h (by rw [e0]; decide)) (fun _ => ?_) | refine And.intro (fun _ => ?_) (fun h => absurd h (by rw [e1]; decide)) | refine And.intro (fun h => absurd h (by rw [e1]; decide)) (fun _ => ?_) | refine And.intro (fun _ => ?_) (fun h => absurd h (by rw [e2]; decide)) | refine And.intro (fun h => absurd h (by rw [e2]; decide)) (fun _ => ?_) | refine And.intro (fun _ => ?_) (fun h => absurd h (by rw [e5]; decide)) | refine And.intro (fun h => absurd h (by rw [e5]; decide)) (fun _ => ?_) | refine And.intro (fun _ => ?_) (fun h => absurd h (by rw [e6]; decide)) | refine And.intro (fun h => absurd h (by rw [e6]; decide)) (fun _ => ?_) | refine And.intro (fun _ => ?_) (fun h => absurd h (by rw [e7]; decide)) | refine And.intro (fun h => absurd h (by rw [e7]; decide)) (fun _ => ?_))
    refine call_same (fn_wbytes h.f ho.f B10 c10 (by omega) hc10) [1, 5, 12] rfl (by (repeat first | exact trivial | refine ⟨rfl, ?_⟩ | refine ⟨fun _ _ => ⟨rfl, trivial⟩, ?_⟩ | refine ⟨fun _ _ => trivial, ?_⟩ | refine ⟨by omega, ?_⟩ | refine ⟨fun _ _ => eqC_winS, ?_⟩ | refine ⟨fun _ _ => eqC_winM, ?_⟩ | refine ⟨fun _ _ => eqC_winB, ?_⟩ | refine ⟨fun _ _ => eqC_selfB, ?_⟩ | refine ⟨fun _ _ => eqC_mpB, ?_⟩)) ?_ (fun _ _ => trivial) ?_
    · refine eqC_bts ?_
      (repeat first | exact trivial | refine ⟨rfl, ?_⟩ | refine ⟨fun _ _ => ⟨rfl, trivial⟩, ?_⟩ | refine ⟨fun _ _ => trivial, ?_⟩ | refine ⟨by omega, ?_⟩ | refine ⟨fun _ _ => eqC_winS, ?_⟩ | refine ⟨fun _ _ => eqC_winM, ?_⟩ | refine ⟨fun _ _ => eqC_winB, ?_⟩ | refine ⟨fun _ _ => eqC_selfB, ?_⟩ | refine ⟨fun _ _ => eqC_mpB, ?_⟩)
    rintro x hs' ⟨c11, hc11, rfl, rfl⟩
    obtain ⟨B11, hB11⟩ : ∃ B, B10 ++ h.f.l = B := ⟨_, rfl⟩
    have lB11 : B11.length = B10.length + (h.f.l).length := by rw [← hB11, List.length_append]
    try simp only [List.length_cons, List.length_nil, wideL_len] at lB11
    dsimp only at hc11 ⊢
    rw [hB11] at hc11 ⊢
    (repeat first | refine And.intro (by omega) ?_ | refine And.intro (by decide) ?_ | refine And.intro rfl ?_ | refine And.intro (fun _ => ?_) (fun h => Bool.noConfusion h) | refine And.intro (fun h => Bool.noConfusion h) (fun _ => ?_) | refine And.intro (fun _ => ?_) (fun h => absurd h (by rw [e0]; decide)) | refine And.intro (fun h => absurd h (by rw [e0]; decide)) (fun _ => ?_) | refine And.intro (fun _ => ?_) (fun h => absurd h (by rw [e1]; decide)) | refine And.intro (fun h => absurd h (by rw [e1]; decide)) (fun _ => ?_) | refine And.intro (fun _ => ?_) (fun h => absurd h (by rw [e2]; decide)) | refine And.intro (fun h => absurd h (by rw [e2]; decide)) (fun _ => ?_) | refine And.intro (fun _ => ?_) (fun h => absurd h (by rw [e5]; decide)) | refine And.intro (fun h => absurd h (by rw [e5]; decide)) (fun _ => ?_) | refine And.intro (fun _ => ?_) (fun h => absurd h (by rw [e6]; decide)) | refine And.intro (fun h => absurd h (by rw [e6]; decide)) (fun _ => ?_) | refine And.intro (fun _ => ?_) (fun h => absurd h (by rw [e7]; decide)) | refine And.intro (fun h => absurd h (by rw [e7]; decide)) (fun _ => ?_))
    have hw : BitVec.ofInt 64 ((h.n.l.length : Int) + (p : Int)) = BitVec.ofNat 64 (h.n.l.length + p) := by
      rw [show (h.n.l.length : Int) + (p : Int) = ((h.n.l.length + p : Nat) : Int) by omega, BitVec.ofInt_natCast]
    have hw2 := lenN2 (n := h.n.l.length + p) (by omega)
    rw [hw]
    refine call_same (fn_vwide (BitVec.ofNat 64 (h.n.l.length + p)) 2 (.inr (.inl rfl)) hw2.1 hw2.2) [] rfl (by (repeat first | exact trivial | refine ⟨rfl, ?_⟩ | refine ⟨fun _ _ => ⟨rfl, trivial⟩, ?_⟩ | refine ⟨fun _ _ => trivial, ?_⟩ | refine ⟨by omega, ?_⟩ | refine ⟨fun _ _ => eqC_winS, ?_⟩ | refine ⟨fun _ _ => eqC_winM, ?_⟩ | refine ⟨fun _ _ => eqC_winB, ?_⟩ | refine ⟨fun _ _ => eqC_selfB, ?_⟩ | refine ⟨fun _ _ => eqC_mpB, ?_⟩)) trivial (fun _ _ => trivial) ?_
    rintro x hs' ⟨cw, hcw, rfl, rfl⟩
    (repeat first | refine And.intro (by omega) ?_ | refine And.intro (by decide) ?_ | refine And.intro rfl ?_ | refine And.intro (fun _ => ?_) (fun h => Bool.noConfusion h) | refine And.intro (fun h => Bool.noConfusion h) (fun _ => ?_) | refine And.intro (fun _ => ?_) (fun h => absurd h (by rw [e0]; decide)) | refine And.intro (fun h => absurd h (by rw [e0]; decide)) (fun _ => ?_) | refine And.intro (fun _ => ?_) (fun h => absurd h (by rw [e1]; decide)) | refine And.intro (fun h => absurd h (by rw [e1]; decide)) (fun _ => ?_) | refine And.intro (fun _ => ?_) (fun h => absurd h (by rw [e2]; decide)) | refine And.intro (fun h => absurd h (by rw [e2]; decide)) (fun _ => ?_) | refine And.intro (fun _ => ?_) (fun h => absurd h (by rw [e5]; decide)) | refine And.intro (fun h => absurd h (by rw [e5]; decide)) (fun _ => ?_) | refine And.intro (fun _ => ?_) (fun h => absurd h (by rw [e6]; decide)) | refine And.intro (fun h => absurd h (by rw [e6]; decide)) (fun _ => ?_) | refine And.intro (fun _ => ?_) (fun h => absurd h (by rw [e7]; decide)) | refine And.intro (fun h => absurd h (by rw [e7]; decide)) (fun _ => ?_))
    refine call_same (fn_wbytes _ (own_ok (l := wideL (BitVec.ofNat 64 (h.n.l.length + p)) 2) (c := cw) (by simpa using hcw) (by simp)) B11 c11 (by omega) hc11) [14, 5, 13] rfl (by (repeat first | exact trivial | refine ⟨rfl, ?_⟩ | refine ⟨fun _ _ => ⟨rfl, trivial⟩, ?_⟩ | refine ⟨fun _ _ => trivial, ?_⟩ | refine ⟨by omega, ?_⟩ | refine ⟨fun _ _ => eqC_winS, ?_⟩ | refine ⟨fun _ _ => eqC_winM, ?_⟩ | refine ⟨fun _ _ => eqC_winB, ?_⟩ | refine ⟨fun _ _ => eqC_selfB, ?_⟩ | refine ⟨fun _ _ => eqC_mpB, ?_⟩)) ?_ (fun _ _ => trivial) ?_
    · refine ⟨rfl, fun j hj => eqC_winBM (Nat.le_refl _), ?_⟩
      (repeat first | exact trivial | refine ⟨rfl, ?_⟩ | refine ⟨fun _ _ => ⟨rfl, trivial⟩, ?_⟩ | refine ⟨fun _ _ => trivial, ?_⟩ | refine ⟨by omega, ?_⟩ | refine ⟨fun _ _ => eqC_winS, ?_⟩ | refine ⟨fun _ _ => eqC_winM, ?_⟩ | refine ⟨fun _ _ => eqC_winB, ?_⟩ | refine ⟨fun _ _ => eqC_selfB, ?_⟩ | refine ⟨fun _ _ => eqC_mpB, ?_⟩)
    rintro x hs' ⟨c12, hc12, rfl, rfl⟩
    obtain ⟨B12, hB12⟩ : ∃ B, B11 ++ wideL (BitVec.ofNat 64 (h.n.l.length + p)) 2 = B := ⟨_, rfl⟩
    have lB12 : B12.length = B11.length + (wideL (BitVec.ofNat 64 (h.n.l.length + p)) 2).length := by rw [← hB12, List.length_append]
    try simp only [List.length_cons, List.length_nil, wideL_len] at lB12
    dsimp only at hc12 ⊢
    rw [hB12] at hc12 ⊢
    (repeat first | refine And.intro (by omega) ?_ | refine And.intro (by decide) ?_ | refine And.intro rfl ?_ | refine And.intro (fun _ => ?_) (fun h => Bool.noConfusion h) | refine And.intro (fun h => Bool.noConfusion h) (fun _ => ?_) | refine And.intro (fun _ => ?_) (fun h => absurd h (by rw [e0]; decide)) | refine And.intro (fun h => absurd h (by rw [e0]; decide)) (fun _ => ?_) | refine And.intro (fun _ => ?_) (fun h => absurd h (by rw [e1]; decide)) | refine And.intro (fun h => absurd h (by rw [e1]; decide)) (fun _ => ?_) | refine And.intro (fun _ => ?_) (fun h => absurd h (by rw [e2]; decide)) | refine And.intro (fun h => absurd h (by rw [e2]; decide)) (fun _ => ?_) | refine And.intro (fun _ => ?_) (fun h => absurd h (by rw [e5]; decide)) | refine And.intro (fun h => absurd h (by rw [e5]; decide)) (fun _ => ?_) | refine And.intro (fun _ => ?_) (fun h => absurd h (by rw [e6]; decide)) | refine And.intro (fun h => absurd h (by rw [e6]; decide)) (fun _ => ?_) | refine And.intro (fun _ => ?_) (fun h => absurd h (by rw [e7]; decide)) | refine And.intro (fun h => absurd h (by rw [e7]; decide)) (fun _ => ?_))
    refine call_same (fn_wbytes h.n ho.n B12 c12 (by omega) hc12) [3, 5, 15] rfl (by (repeat first | exact trivial | refine ⟨rfl, ?_⟩ | refine ⟨fun _ _ => ⟨rfl, trivial⟩, ?_⟩ | refine ⟨fun _ _ => trivial, ?_⟩ | refine ⟨by omega, ?_⟩ | refine ⟨fun _ _ => eqC_winS, ?_⟩ | refine ⟨fun _ _ => eqC_winM, ?_⟩ | refine ⟨fun _ _ => eqC_winB, ?_⟩ | refine ⟨fun _ _ => eqC_selfB, ?_⟩ | refine ⟨fun _ _ => eqC_mpB, ?_⟩)) ?_ (fun _ _ => trivial) ?_
    · refine eqC_bts ?_
      (repeat first | exact trivial | refine ⟨rfl, ?_⟩ | refine ⟨fun _ _ => ⟨rfl, trivial⟩, ?_⟩ | refine ⟨fun _ _ => trivial, ?_⟩ | refine ⟨by omega, ?_⟩ | refine ⟨fun _ _ => eqC_winS, ?_⟩ | refine ⟨fun _ _ => eqC_winM, ?_⟩ | refine ⟨fun _ _ => eqC_winB, ?_⟩ | refine ⟨fun _ _ => eqC_selfB, ?_⟩ | refine ⟨fun _ _ => eqC_mpB, ?_⟩)
    rintro x hs' ⟨c13, hc13, rfl, rfl⟩
    obtain ⟨B13, hB13⟩ : ∃ B, B12 ++ h.n.l = B := ⟨_, rfl⟩
    have lB13 : B13.length = B12.length + (h.n.l).length := by rw [← hB13, List.length_append]
    try simp only [List.length_cons, List.length_nil, wideL_len] at lB13
    dsimp only at hc13 ⊢
    rw [hB13] at hc13 ⊢
    (repeat first | refine And.intro (by omega) ?_ | refine And.intro (by decide) ?_ | refine And.intro rfl ?_ | refine And.intro (fun _ => ?_) (fun h => Bool.noConfusion h) | refine And.intro (fun h => Bool.noConfusion h) (fun _ => ?_) | refine And.intro (fun _ => ?_) (fun h => absurd h (by rw [e0]; decide)) | refine And.intro (fun h => absurd h (by rw [e0]; decide)) (fun _ => ?_) | refine And.intro (fun _ => ?_) (fun h => absurd h (by rw [e1]; decide)) | refine And.intro (fun h => absurd h (by rw [e1]; decide)) (fun _ => ?_) | refine And.intro (fun _ => ?_) (fun h => absurd h (by rw [e2]; decide)) | refine And.intro (fun h => absurd h (by rw [e2]; decide)) (fun _ => ?_) | refine And.intro (fun _ => ?_) (fun h => absurd h (by rw [e5]; decide)) | refine And.intro (fun h => absurd h (by rw [e5]; decide)) (fun _ => ?_) | refine And.intro (fun _ => ?_) (fun h => absurd h (by rw [e6]; decide)) | refine And.intro (fun h => absurd h (by rw [e6]; decide)) (fun _ => ?_) | refine And.intro (fun _ => ?_) (fun h => absurd h (by rw [e7]; decide)) | refine And.intro (fun h => absurd h (by rw [e7]; decide)) (fun _ => ?_))
    refine call_same (fn_wdone B13 c13 (by omega) hc13 (by omega)) [5, 16] rfl (by (repeat first | exact trivial | refine ⟨rfl, ?_⟩ | refine ⟨fun _ _ => ⟨rfl, trivial⟩, ?_⟩ | refine ⟨fun _ _ => trivial, ?_⟩ | refine ⟨by omega, ?_⟩ | refine ⟨fun _ _ => eqC_winS, ?_⟩ | refine ⟨fun _ _ => eqC_winM, ?_⟩ | refine ⟨fun _ _ => eqC_winB, ?_⟩ | refine ⟨fun _ _ => eqC_selfB, ?_⟩ | refine ⟨fun _ _ => eqC_mpB, ?_⟩)) ?_ (fun _ _ => trivial) ?_
    · (repeat first | exact trivial | refine ⟨rfl, ?_⟩ | refine ⟨fun _ _ => ⟨rfl, trivial⟩, ?_⟩ | refine ⟨fun _ _ => trivial, ?_⟩ | refine ⟨by omega, ?_⟩ | refine ⟨fun _ _ => eqC_winS, ?_⟩ | refine ⟨fun _ _ => eqC_winM, ?_⟩ | refine ⟨fun _ _ => eqC_winB, ?_⟩ | refine ⟨fun _ _ => eqC_selfB, ?_⟩ | refine ⟨fun _ _ => eqC_mpB, ?_⟩)
    rintro x hs' ⟨cz, hcz, rfl, rfl⟩
    have hP : B13 = putH h p := by rw [← hB13, ← hB12, ← hB11, ← hB10, ← hB9, ← hB8, ← hB7]; unfold putH fstB; simp [h5, h6]
    rw [hP] at hcz ⊢
    refine ⟨.tup [.c (.sl 4 0 0 (putH h p).length cz), .c (.int .i64 0)], _, ⟨[0, 1, 2, 3, 17], ⟨rfl, rfl, rfl⟩, ?_⟩, fun he => absurd hE he, fun _ => ⟨cz, hcz, rfl, rfl⟩⟩
    (repeat first | exact trivial | refine ⟨rfl, ?_⟩ | refine ⟨fun _ _ => ⟨rfl, trivial⟩, ?_⟩ | refine ⟨fun _ _ => trivial, ?_⟩ | refine ⟨by omega, ?_⟩ | refine ⟨fun _ _ => eqC_winS, ?_⟩ | refine ⟨fun _ _ => eqC_winM, ?_⟩ | refine ⟨fun _ _ => eqC_winB, ?_⟩ | refine ⟨fun _ _ => eqC_selfB, ?_⟩ | refine ⟨fun _ _ => eqC_mpB, ?_⟩)
    refine eqC_bts (eqC_bts (eqC_bts (eqC_bts ?_)))
    (repeat first | exact trivial | refine ⟨rfl, ?_⟩ | refine ⟨fun _ _ => ⟨rfl, trivial⟩, ?_⟩ | refine ⟨fun _ _ => trivial, ?_⟩ | refine ⟨by omega, ?_⟩ | refine ⟨fun _ _ => eqC_winS, ?_⟩ | refine ⟨fun _ _ => eqC_winM, ?_⟩ | refine ⟨fun _ _ => eqC_winB, ?_⟩ | refine ⟨fun _ _ => eqC_selfB, ?_⟩ | refine ⟨fun _ _ => eqC_mpB, ?_⟩)
  · have e6 : decide (h.sp = 1#8) = false := decide_eq_false h6
    have h7 : h.sp = 0#8 := by
      apply BitVec.eq_of_toNat_eq
      have a1 : h.sp.toNat ≠ 1 := fun e => h6 (BitVec.eq_of_toNat_eq e)
      have a2 : h.sp.toNat ≠ 2 := fun e => h5 (BitVec.eq_of_toNat_eq e)
      show h.sp.toNat = 0
      omega
    have e7 : decide (h.sp = 0#8) = true := decide_eq_true h7
    (repeat first | refine And.intro (by omega) ?_ | refine And.intro (by decide) ?_ | refine And.intro rfl ?_ | refine And.intro (fun _ => ?_) (fun h => Bool.noConfusion h) | refine And.intro (fun h => Bool.noConfusion h) (fun _ => ?_) | refine And.intro (fun _ => ?_) (fun h => absurd h (by rw [e0]; decide)) | refine And.intro (fun h => absurd h (by rw [e0]; decide)) (fun _ => ?_) | refine And.intro (fun _ => ?_) (fun h => absurd h (by rw [e1]; decide)) | refine And.intro (fun h => absurd h (by rw [e1]; decide)) (fun _ => ?_) | refine And.intro (fun _ => ?_) (fun h => absurd h (by rw [e2]; decide)) | refine And.intro (fun h => absurd h (by rw [e2]; decide)) (fun _ => ?_) | refine And.intro (fun _ => ?_) (fun h => absurd h (by rw [e5]; decide)) | refine And.intro (fun h => absurd h (by rw [e5]; decide)) (fun _ => ?_) | refine And.intro (fun _ => ?_) (fun h => absurd h (by rw [e6]; decide)) | refine And.intro (fun h => absurd h (by rw [e6]; decide)) (fun _ => ?_) | refine And.intro (fun _ => ?_) (fun h => absurd h (by rw [e7]; decide)) | refine And.intro (fun h => absurd h (by rw [e7]; decide)) (fun _ => ?_))
    refine call_same (fn_wbytes0 _ (lit_ok (l := [BitVec.ofNat 8 (63 + h.n.l.length) + 128#8, 0#8, 0#8, 0#8, 1#8]) (by simp)) (by simp)) [6, 5] rfl (by (repeat first | exact trivial | refine ⟨rfl, ?_⟩ | refine ⟨fun _ _ => ⟨rfl, trivial⟩, ?_⟩ | refine ⟨fun _ _ => trivial, ?_⟩ | refine ⟨by omega, ?_⟩ | refine ⟨fun _ _ => eqC_winS, ?_⟩ | refine ⟨fun _ _ => eqC_winM, ?_⟩ | refine ⟨fun _ _ => eqC_winB, ?_⟩ | refine ⟨fun _ _ => eqC_selfB, ?_⟩ | refine ⟨fun _ _ => eqC_mpB, ?_⟩)) ?_ (fun _ _ => trivial) ?_
    · refine ⟨rfl, fun j hj => eqC_lit' (l := [BitVec.ofNat 8 (63 + h.n.l.length) + 128#8, 0#8, 0#8, 0#8, 1#8]) (fun j hj => ?_) j, ?_⟩
      · rw [← hf8]; exact nthC_w8 [_, 0#8, 0#8, 0#8, 1#8] j hj
      (repeat first | exact trivial | refine ⟨rfl, ?_⟩ | refine ⟨fun _ _ => ⟨rfl, trivial⟩, ?_⟩ | refine ⟨fun _ _ => trivial, ?_⟩ | refine ⟨by omega, ?_⟩ | refine ⟨fun _ _ => eqC_winS, ?_⟩ | refine ⟨fun _ _ => eqC_winM, ?_⟩ | refine ⟨fun _ _ => eqC_winB, ?_⟩ | refine ⟨fun _ _ => eqC_selfB, ?_⟩ | refine ⟨fun _ _ => eqC_mpB, ?_⟩)
    rintro x hs' ⟨c14, hc14, rfl, rfl⟩
    obtain ⟨B14, hB14⟩ : ∃ B, [BitVec.ofNat 8 (63 + h.n.l.length) + 128#8, 0#8, 0#8, 0#8, 1#8] = B := ⟨_, rfl⟩
    have lB14 : B14.length = ([BitVec.ofNat 8 (63 + h.n.l.length) + 128#8, 0#8, 0#8, 0#8, 1#8]).length := by rw [← hB14]
    try simp only [List.length_cons, List.length_nil, wideL_len] at lB14
    dsimp only at hc14 ⊢
    rw [hB14] at hc14 ⊢
    (repeat first | refine And.intro (by omega) ?_ | refine And.intro (by decide) ?_ | refine And.intro rfl ?_ | refine And.intro (fun _ => ?_) (fun h => Bool.noConfusion h) | refine And.intro (fun h => Bool.noConfusion h) (fun _ => ?_) | refine And.intro (fun _ => ?_) (fun h => absurd h (by rw [e0]; decide)) | refine And.intro (fun h => absurd h (by rw [e0]; decide)) (fun _ => ?_) | refine And.intro (fun _ => ?_) (fun h => absurd h (by rw [e1]; decide)) | refine And.intro (fun h => absurd h (by rw [e1]; decide)) (fun _ => ?_) | refine And.intro (fun _ => ?_) (fun h => absurd h (by rw [e2]; decide)) | refine And.intro (fun h => absurd h (by rw [e2]; decide)) (fun _ => ?_) | refine And.intro (fun _ => ?_) (fun h => absurd h (by rw [e5]; decide)) | refine And.intro (fun h => absurd h (by rw [e5]; decide)) (fun _ => ?_) | refine And.intro (fun _ => ?_) (fun h => absurd h (by rw [e6]; decide)) | refine And.intro (fun h => absurd h (by rw [e6]; decide)) (fun _ => ?_) | refine And.intro (fun _ => ?_) (fun h => absurd h (by rw [e7]; decide)) | refine And.intro (fun h => absurd h (by rw [e7]; decide)) (fun _ => ?_))
    refine call_same (fn_wbytes _ (lit_ok (l := [BitVec.ofNat 8 h.t.l.length]) (by simp)) B14 c14 (by omega) hc14) [8, 5, 7] rfl (by (repeat first | exact trivial | refine ⟨rfl, ?_⟩ | refine ⟨fun _ _ => ⟨rfl, trivial⟩, ?_⟩ | refine ⟨fun _ _ => trivial, ?_⟩ | refine ⟨by omega, ?_⟩ | refine ⟨fun _ _ => eqC_winS, ?_⟩ | refine ⟨fun _ _ => eqC_winM, ?_⟩ | refine ⟨fun _ _ => eqC_winB, ?_⟩ | refine ⟨fun _ _ => eqC_selfB, ?_⟩ | refine ⟨fun _ _ => eqC_mpB, ?_⟩)) ?_ (fun _ _ => trivial) ?_
    · refine ⟨rfl, fun j hj => eqC_lit' (l := [BitVec.ofNat 8 h.t.l.length]) (fun j hj => ?_) j, ?_⟩
      · exact one_row (BitVec.ofInt_natCast 8 _) j hj
      (repeat first | exact trivial | refine ⟨rfl, ?_⟩ | refine ⟨fun _ _ => ⟨rfl, trivial⟩, ?_⟩ | refine ⟨fun _ _ => trivial, ?_⟩ | refine ⟨by omega, ?_⟩ | refine ⟨fun _ _ => eqC_winS, ?_⟩ | refine ⟨fun _ _ => eqC_winM, ?_⟩ | refine ⟨fun _ _ => eqC_winB, ?_⟩ | refine ⟨fun _ _ => eqC_selfB, ?_⟩ | refine ⟨fun _ _ => eqC_mpB, ?_⟩)
    rintro x hs' ⟨c15, hc15, rfl, rfl⟩
    obtain ⟨B15, hB15⟩ : ∃ B, B14 ++ [BitVec.ofNat 8 h.t.l.length] = B := ⟨_, rfl⟩
    have lB15 : B15.length = B14.length + ([BitVec.ofNat 8 h.t.l.length]).length := by rw [← hB15, List.length_append]
    try simp only [List.length_cons, List.length_nil, wideL_len] at lB15
    dsimp only at hc15 ⊢
    rw [hB15] at hc15 ⊢
    (repeat first | refine And.intro (by omega) ?_ | refine And.intro (by decide) ?_ | refine And.intro rfl ?_ | refine And.intro (fun _ => ?_) (fun h => Bool.noConfusion h) | refine And.intro (fun h => Bool.noConfusion h) (fun _ => ?_) | refine And.intro (fun _ => ?_) (fun h => absurd h (by rw [e0]; decide)) | refine And.intro (fun h => absurd h (by rw [e0]; decide)) (fun _ => ?_) | refine And.intro (fun _ => ?_) (fun h => absurd h (by rw [e1]; decide)) | refine And.intro (fun h => absurd h (by rw [e1]; decide)) (fun _ => ?_) | refine And.intro (fun _ => ?_) (fun h => absurd h (by rw [e2]; decide)) | refine And.intro (fun h => absurd h (by rw [e2]; decide)) (fun _ => ?_) | refine And.intro (fun _ => ?_) (fun h => absurd h (by rw [e5]; decide)) | refine And.intro (fun h => absurd h (by rw [e5]; decide)) (fun _ => ?_) | refine And.intro (fun _ => ?_) (fun h => absurd h (by rw [e6]; decide)) | refine And.intro (fun h => absurd h (by rw [e6]; decide)) (fun _ => ?_) | refine And.intro (fun _ => ?_) (fun h => absurd h (by rw [e7]; decide)) | refine And.intro (fun h => absurd h (by rw [e7]; decide)) (fun _ => ?_))
    refine call_same (fn_wbytes h.t ho.t B15 c15 (by omega) hc15) [0, 5, 9] rfl (by (repeat first | exact trivial | refine ⟨rfl, ?_⟩ | refine ⟨fun _ _ => ⟨rfl, trivial⟩, ?_⟩ | refine ⟨fun _ _ => trivial, ?_⟩ | refine ⟨by omega, ?_⟩ | refine ⟨fun _ _ => eqC_winS, ?_⟩ | refine ⟨fun _ _ => eqC_winM, ?_⟩ | refine ⟨fun _ _ => eqC_winB, ?_⟩ | refine ⟨fun _ _ => eqC_selfB, ?_⟩ | refine ⟨fun _ _ => eqC_mpB, ?_⟩)) ?_ (fun _ _ => trivial) ?_
    · refine eqC_bts ?_
      (repeat first | exact trivial | refine ⟨rfl, ?_⟩ | refine ⟨fun _ _ => ⟨rfl, trivial⟩, ?_⟩ | refine ⟨fun _ _ => trivial, ?_⟩ | refine ⟨by omega, ?_⟩ | refine ⟨fun _ _ => eqC_winS, ?_⟩ | refine ⟨fun _ _ => eqC_winM, ?_⟩ | refine ⟨fun _ _ => eqC_winB, ?_⟩ | refine ⟨fun _ _ => eqC_selfB, ?_⟩ | refine ⟨fun _ _ => eqC_mpB, ?_⟩)
    rintro x hs' ⟨c16, hc16, rfl, rfl⟩
    obtain ⟨B16, hB16⟩ : ∃ B, B15 ++ h.t.l = B := ⟨_, rfl⟩
    have lB16 : B16.length = B15.length + (h.t.l).length := by rw [← hB16, List.length_append]
    try simp only [List.length_cons, List.length_nil, wideL_len] at lB16
    dsimp only at hc16 ⊢
    rw [hB16] at hc16 ⊢
    (repeat first | refine And.intro (by omega) ?_ | refine And.intro (by decide) ?_ | refine And.intro rfl ?_ | refine And.intro (fun _ => ?_) (fun h => Bool.noConfusion h) | refine And.intro (fun h => Bool.noConfusion h) (fun _ => ?_) | refine And.intro (fun _ => ?_) (fun h => absurd h (by rw [e0]; decide)) | refine And.intro (fun h => absurd h (by rw [e0]; decide)) (fun _ => ?_) | refine And.intro (fun _ => ?_) (fun h => absurd h (by rw [e1]; decide)) | refine And.intro (fun h => absurd h (by rw [e1]; decide)) (fun _ => ?_) | refine And.intro (fun _ => ?_) (fun h => absurd h (by rw [e2]; decide)) | refine And.intro (fun h => absurd h (by rw [e2]; decide)) (fun _ => ?_) | refine And.intro (fun _ => ?_) (fun h => absurd h (by rw [e5]; decide)) | refine And.intro (fun h => absurd h (by rw [e5]; decide)) (fun _ => ?_) | refine And.intro (fun _ => ?_) (fun h => absurd h (by rw [e6]; decide)) | refine And.intro (fun h => absurd h (by rw [e6]; decide)) (fun _ => ?_) | refine And.intro (fun _ => ?_) (fun h => absurd h (by rw [e7]; decide)) | refine And.intro (fun h => absurd h (by rw [e7]; decide)) (fun _ => ?_))
    refine call_same (fn_wbytes _ (lit_ok (l := [BitVec.ofNat 8 h.f.l.length]) (by simp)) B16 c16 (by omega) hc16) [11, 5, 10] rfl (by (repeat first | exact trivial | refine ⟨rfl, ?_⟩ | refine ⟨fun _ _ => ⟨rfl, trivial⟩, ?_⟩ | refine ⟨fun _ _ => trivial, ?_⟩ | refine ⟨by omega, ?_⟩ | refine ⟨fun _ _ => eqC_winS, ?_⟩ | refine ⟨fun _ _ => eqC_winM, ?_⟩ | refine ⟨fun _ _ => eqC_winB, ?_⟩ | refine ⟨fun _ _ => eqC_selfB, ?_⟩ | refine ⟨fun _ _ => eqC_mpB, ?_⟩)) ?_ (fun _ _ => trivial) ?_
    · refine ⟨rfl, fun j hj => eqC_lit' (l := [BitVec.ofNat 8 h.f.l.length]) (fun j hj => ?_) j, ?_⟩
      · exact one_row (BitVec.ofInt_natCast 8 _) j hj
      (repeat first | exact trivial | refine ⟨rfl, ?_⟩ | refine ⟨fun _ _ => ⟨rfl, trivial⟩, ?_⟩ | refine ⟨fun _ _ => trivial, ?_⟩ | refine ⟨by omega, ?_⟩ | refine ⟨fun _ _ => eqC_winS, ?_⟩ | refine ⟨fun _ _ => eqC_winM, ?_⟩ | refine ⟨fun _ _ => eqC_winB, ?_⟩ | refine ⟨fun _ _ => eqC_selfB, ?_⟩ | refine ⟨fun _ _ => eqC_mpB, ?_⟩)
    rintro x hs' ⟨c17, hc17, rfl, rfl⟩
    obtain ⟨B17, hB17⟩ : ∃ B, B16 ++ [BitVec.ofNat 8 h.f.l.length] = B := ⟨_, rfl⟩
    have lB17 : B17.length = B16.length + ([BitVec.ofNat 8 h.f.l.length]).length := by rw [← hB17, List.length_append]
    try simp only [List.length_cons, List.length_nil, wideL_len] at lB17
    dsimp only at hc17 ⊢
    rw [hB17] at hc17 ⊢
    (repeat first | refine And.intro (by omega) ?_ | refine And.intro (by decide) ?_ | refine And.intro rfl ?_ | refine And.intro (fun _ => ?_) (fun h => Bool.noConfusion h) | refine And.intro (fun h => Bool.noConfusion h) (fun _ => ?_) | refine And.intro (fun _ => ?_) (fun h => absurd h (by rw [e0]; decide)) | refine And.intro (fun h => absurd h (by rw [e0]; decide)) (fun _ => ?_) | refine And.intro (fun _ => ?_) (fun h => absurd h (by rw [e1]; decide)) | refine And.intro (fun h => absurd h (by rw [e1]; decide)) (fun _ => ?_) | refine And.intro (fun _ => ?_) (fun h => absurd h (by rw [e2]; decide)) | refine And.intro (fun h => absurd h (by rw [e2]; decide)) (fun _ => ?_) | refine And.intro (fun _ => ?_) (fun h => absurd h (by rw [e5]; decide)) | refine And.intro (fun h => absurd h (by rw [e5]; decide)) (fun _ => ?_) | refine And.intro (fun _ => ?_) (fun h => absurd h (by rw [e6]; decide)) | refine And.intro (fun h => absurd h (by rw [e6]; decide)) (fun _ => ?_) | refine And.intro (fun _ => ?_) (fun h => absurd h (by rw [e7]; decide)) | refine And.intro (fun h => absurd h (by rw [e7]; decide)) (fun _ => ?_))
    refine call_same (fn_wbytes h.f ho.f B17 c17 (by omega) hc17) [1, 5, 12] rfl (by (repeat first | exact trivial | refine ⟨rfl, ?_⟩ | refine ⟨fun _ _ => ⟨rfl, trivial⟩, ?_⟩ | refine ⟨fun _ _ => trivial, ?_⟩ | refine ⟨by omega, ?_⟩ | refine ⟨fun _ _ => eqC_winS, ?_⟩ | refine ⟨fun _ _ => eqC_winM, ?_⟩ | refine ⟨fun _ _ => eqC_winB, ?_⟩ | refine ⟨fun _ _ => eqC_selfB, ?_⟩ | refine ⟨fun _ _ => eqC_mpB, ?_⟩)) ?_ (fun _ _ => trivial) ?_
    · refine eqC_bts ?_
      (repeat first | exact trivial | refine ⟨rfl, ?_⟩ | refine ⟨fun _ _ => ⟨rfl, trivial⟩, ?_⟩ | refine ⟨fun _ _ => trivial, ?_⟩ | refine ⟨by omega, ?_⟩ | refine ⟨fun _ _ => eqC_winS, ?_⟩ | refine ⟨fun _ _ => eqC_winM, ?_⟩ | refine ⟨fun _ _ => eqC_winB, ?_⟩ | refine ⟨fun _ _ => eqC_selfB, ?_⟩ | refine ⟨fun _ _ => eqC_mpB, ?_⟩)
    rintro x hs' ⟨c18, hc18, rfl, rfl⟩
    obtain ⟨B18, hB18⟩ : ∃ B, B17 ++ h.f.l = B := ⟨_, rfl⟩
    have lB18 : B18.length = B17.length + (h.f.l).length := by rw [← hB18, List.length_append]
    try simp only [List.length_cons, List.length_nil, wideL_len] at lB18
    dsimp only at hc18 ⊢
    rw [hB18] at hc18 ⊢
    (repeat first | refine And.intro (by omega) ?_ | refine And.intro (by decide) ?_ | refine And.intro rfl ?_ | refine And.intro (fun _ => ?_) (fun h => Bool.noConfusion h) | refine And.intro (fun h => Bool.noConfusion h) (fun _ => ?_) | refine And.intro (fun _ => ?_) (fun h => absurd h (by rw [e0]; decide)) | refine And.intro (fun h => absurd h (by rw [e0]; decide)) (fun _ => ?_) | refine And.intro (fun _ => ?_) (fun h => absurd h (by rw [e1]; decide)) | refine And.intro (fun h => absurd h (by rw [e1]; decide)) (fun _ => ?_) | refine And.intro (fun _ => ?_) (fun h => absurd h (by rw [e2]; decide)) | refine And.intro (fun h => absurd h (by rw [e2]; decide)) (fun _ => ?_) | refine And.intro (fun _ => ?_) (fun h => absurd h (by rw [e5]; decide)) | refine And.intro (fun h => absurd h (by rw [e5]; decide)) (fun _ => ?_) | refine And.intro (fun _ => ?_) (fun h => absurd h (by rw [e6]; decide)) | refine And.intro (fun h => absurd h (by rw [e6]; decide)) (fun _ => ?_) | refine And.intro (fun _ => ?_) (fun h => absurd h (by rw [e7]; decide)) | refine And.intro (fun h => absurd h (by rw [e7]; decide)) (fun _ => ?_))
    refine call_same (fn_wlong h.k ho.k B18 c18 (by omega) hc18) [2, 5, 13] rfl (by (repeat first | exact trivial | refine ⟨rfl, ?_⟩ | refine ⟨fun _ _ => ⟨rfl, trivial⟩, ?_⟩ | refine ⟨fun _ _ => trivial, ?_⟩ | refine ⟨by omega, ?_⟩ | refine ⟨fun _ _ => eqC_winS, ?_⟩ | refine ⟨fun _ _ => eqC_winM, ?_⟩ | refine ⟨fun _ _ => eqC_winB, ?_⟩ | refine ⟨fun _ _ => eqC_selfB, ?_⟩ | refine ⟨fun _ _ => eqC_mpB, ?_⟩)) ?_ (fun _ _ => trivial) ?_
    · refine eqC_bts ?_
      (repeat first | exact trivial | refine ⟨rfl, ?_⟩ | refine ⟨fun _ _ => ⟨rfl, trivial⟩, ?_⟩ | refine ⟨fun _ _ => trivial, ?_⟩ | refine ⟨by omega, ?_⟩ | refine ⟨fun _ _ => eqC_winS, ?_⟩ | refine ⟨fun _ _ => eqC_winM, ?_⟩ | refine ⟨fun _ _ => eqC_winB, ?_⟩ | refine ⟨fun _ _ => eqC_selfB, ?_⟩ | refine ⟨fun _ _ => eqC_mpB, ?_⟩)
    rintro x hs' ⟨c19, hc19, rfl, rfl⟩
    obtain ⟨B19, hB19⟩ : ∃ B, B18 ++ longL h.k.l = B := ⟨_, rfl⟩
    have lB19 : B19.length = B18.length + (longL h.k.l).length := by rw [← hB19, List.length_append]
    have lkB19 := longL_len h.k.l
    try simp only [List.length_cons, List.length_nil, wideL_len] at lB19
    dsimp only at hc19 ⊢
    rw [hB19] at hc19 ⊢
    (repeat first | refine And.intro (by omega) ?_ | refine And.intro (by decide) ?_ | refine And.intro rfl ?_ | refine And.intro (fun _ => ?_) (fun h => Bool.noConfusion h) | refine And.intro (fun h => Bool.noConfusion h) (fun _ => ?_) | refine And.intro (fun _ => ?_) (fun h => absurd h (by rw [e0]; decide)) | refine And.intro (fun h => absurd h (by rw [e0]; decide)) (fun _ => ?_) | refine And.intro (fun _ => ?_) (fun h => absurd h (by rw [e1]; decide)) | refine And.intro (fun h => absurd h (by rw [e1]; decide)) (fun _ => ?_) | refine And.intro (fun _ => ?_) (fun h => absurd h (by rw [e2]; decide)) | refine And.intro (fun h => absurd h (by rw [e2]; decide)) (fun _ => ?_) | refine And.intro (fun _ => ?_) (fun h => absurd h (by rw [e5]; decide)) | refine And.intro (fun h => absurd h (by rw [e5]; decide)) (fun _ => ?_) | refine And.intro (fun _ => ?_) (fun h => absurd h (by rw [e6]; decide)) | refine And.intro (fun h => absurd h (by rw [e6]; decide)) (fun _ => ?_) | refine And.intro (fun _ => ?_) (fun h => absurd h (by rw [e7]; decide)) | refine And.intro (fun h => absurd h (by rw [e7]; decide)) (fun _ => ?_))
    have hw : BitVec.ofInt 64 ((h.n.l.length : Int) + (p : Int)) = BitVec.ofNat 64 (h.n.l.length + p) := by
      rw [show (h.n.l.length : Int) + (p : Int) = ((h.n.l.length + p : Nat) : Int) by omega, BitVec.ofInt_natCast]
    have hw2 := lenN2 (n := h.n.l.length + p) (by omega)
    rw [hw]
    refine call_same (fn_vwide (BitVec.ofNat 64 (h.n.l.length + p)) 2 (.inr (.inl rfl)) hw2.1 hw2.2) [] rfl (by (repeat first | exact trivial | refine ⟨rfl, ?_⟩ | refine ⟨fun _ _ => ⟨rfl, trivial⟩, ?_⟩ | refine ⟨fun _ _ => trivial, ?_⟩ | refine ⟨by omega, ?_⟩ | refine ⟨fun _ _ => eqC_winS, ?_⟩ | refine ⟨fun _ _ => eqC_winM, ?_⟩ | refine ⟨fun _ _ => eqC_winB, ?_⟩ | refine ⟨fun _ _ => eqC_selfB, ?_⟩ | refine ⟨fun _ _ => eqC_mpB, ?_⟩)) trivial (fun _ _ => trivial) ?_
    rintro x hs' ⟨cw, hcw, rfl, rfl⟩
    (repeat first | refine And.intro (by omega) ?_ | refine And.intro (by decide) ?_ | refine And.intro rfl ?_ | refine And.intro (fun _ => ?_) (fun h => Bool.noConfusion h) | refine And.intro (fun h => Bool.noConfusion h) (fun _ => ?_) | refine And.intro (fun _ => ?_) (fun h => absurd h (by rw [e0]; decide)) | refine And.intro (fun h => absurd h (by rw [e0]; decide)) (fun _ => ?_) | refine And.intro (fun _ => ?_) (fun h => absurd h (by rw [e1]; decide)) | refine And.intro (fun h => absurd h (by rw [e1]; decide)) (fun _ => ?_) | refine And.intro (fun _ => ?_) (fun h => absurd h (by rw [e2]; decide)) | refine And.intro (fun h => absurd h (by rw [e2]; decide)) (fun _ => ?_) | refine And.intro (fun _ => ?_) (fun h => absurd h (by rw [e5]; decide)) | refine And.intro (fun h => absurd h (by rw [e5]; decide)) (fun _ => ?_) | refine And.intro (fun _ => ?_) (fun h => absurd h (by rw [e6]; decide)) | refine And.intro (fun h => absurd h (by rw [e6]; decide)) (fun _ => ?_) | refine And.intro (fun _ => ?_) (fun h => absurd h (by rw [e7]; decide)) | refine And.intro (fun h => absurd h (by rw [e7]; decide)) (fun _ => ?_))
    refine call_same (fn_wbytes _ (own_ok (l := wideL (BitVec.ofNat 64 (h.n.l.length + p)) 2) (c := cw) (by simpa using hcw) (by simp)) B19 c19 (by omega) hc19) [15, 5, 14] rfl (by (repeat first | exact trivial | refine ⟨rfl, ?_⟩ | refine ⟨fun _ _ => ⟨rfl, trivial⟩, ?_⟩ | refine ⟨fun _ _ => trivial, ?_⟩ | refine ⟨by omega, ?_⟩ | refine ⟨fun _ _ => eqC_winS, ?_⟩ | refine ⟨fun _ _ => eqC_winM, ?_⟩ | refine ⟨fun _ _ => eqC_winB, ?_⟩ | refine ⟨fun _ _ => eqC_selfB, ?_⟩ | refine ⟨fun _ _ => eqC_mpB, ?_⟩)) ?_ (fun _ _ => trivial) ?_
    · refine ⟨rfl, fun j hj => eqC_winBM (Nat.le_refl _), ?_⟩
      (repeat first | exact trivial | refine ⟨rfl, ?_⟩ | refine ⟨fun _ _ => ⟨rfl, trivial⟩, ?_⟩ | refine ⟨fun _ _ => trivial, ?_⟩ | refine ⟨by omega, ?_⟩ | refine ⟨fun _ _ => eqC_winS, ?_⟩ | refine ⟨fun _ _ => eqC_winM, ?_⟩ | refine ⟨fun _ _ => eqC_winB, ?_⟩ | refine ⟨fun _ _ => eqC_selfB, ?_⟩ | refine ⟨fun _ _ => eqC_mpB, ?_⟩)
    rintro x hs' ⟨c20, hc20, rfl, rfl⟩
    obtain ⟨B20, hB20⟩ : ∃ B, B19 ++ wideL (BitVec.ofNat 64 (h.n.l.length + p)) 2 = B := ⟨_, rfl⟩
    have lB20 : B20.length = B19.length + (wideL (BitVec.ofNat 64 (h.n.l.length + p)) 2).length := by rw [← hB20, List.length_append]
    try simp only [List.length_cons, List.length_nil, wideL_len] at lB20
    dsimp only at hc20 ⊢
    rw [hB20] at hc20 ⊢
    (repeat first | refine And.intro (by omega) ?_ | refine And.intro (by decide) ?_ | refine And.intro rfl ?_ | refine And.intro (fun _ => ?_) (fun h => Bool.noConfusion h) | refine And.intro (fun h => Bool.noConfusion h) (fun _ => ?_) | refine And.intro (fun _ => ?_) (fun h => absurd h (by rw [e0]; decide)) | refine And.intro (fun h => absurd h (by rw [e0]; decide)) (fun _ => ?_) | refine And.intro (fun _ => ?_) (fun h => absurd h (by rw [e1]; decide)) | refine And.intro (fun h => absurd h (by rw [e1]; decide)) (fun _ => ?_) | refine And.intro (fun _ => ?_) (fun h => absurd h (by rw [e2]; decide)) | refine And.intro (fun h => absurd h (by rw [e2]; decide)) (fun _ => ?_) | refine And.intro (fun _ => ?_) (fun h => absurd h (by rw [e5]; decide)) | refine And.intro (fun h => absurd h (by rw [e5]; decide)) (fun _ => ?_) | refine And.intro (fun _ => ?_) (fun h => absurd h (by rw [e6]; decide)) | refine And.intro (fun h => absurd h (by rw [e6]; decide)) (fun _ => ?_) | refine And.intro (fun _ => ?_) (fun h => absurd h (by rw [e7]; decide)) | refine And.intro (fun h => absurd h (by rw [e7]; decide)) (fun _ => ?_))
    refine call_same (fn_wbytes h.n ho.n B20 c20 (by omega) hc20) [3, 5, 16] rfl (by (repeat first | exact trivial | refine ⟨rfl, ?_⟩ | refine ⟨fun _ _ => ⟨rfl, trivial⟩, ?_⟩ | refine ⟨fun _ _ => trivial, ?_⟩ | refine ⟨by omega, ?_⟩ | refine ⟨fun _ _ => eqC_winS, ?_⟩ | refine ⟨fun _ _ => eqC_winM, ?_⟩ | refine ⟨fun _ _ => eqC_winB, ?_⟩ | refine ⟨fun _ _ => eqC_selfB, ?_⟩ | refine ⟨fun _ _ => eqC_mpB, ?_⟩)) ?_ (fun _ _ => trivial) ?_
    · refine eqC_bts ?_
      (repeat first | exact trivial | refine ⟨rfl, ?_⟩ | refine ⟨fun _ _ => ⟨rfl, trivial⟩, ?_⟩ | refine ⟨fun _ _ => trivial, ?_⟩ | refine ⟨by omega, ?_⟩ | refine ⟨fun _ _ => eqC_winS, ?_⟩ | refine ⟨fun _ _ => eqC_winM, ?_⟩ | refine ⟨fun _ _ => eqC_winB, ?_⟩ | refine ⟨fun _ _ => eqC_selfB, ?_⟩ | refine ⟨fun _ _ => eqC_mpB, ?_⟩)
    rintro x hs' ⟨c21, hc21, rfl, rfl⟩
    obtain ⟨B21, hB21⟩ : ∃ B, B20 ++ h.n.l = B := ⟨_, rfl⟩
    have lB21 : B21.length = B20.length + (h.n.l).length := by rw [← hB21, List.length_append]
    try simp only [List.length_cons, List.length_nil, wideL_len] at lB21
    dsimp only at hc21 ⊢
    rw [hB21] at hc21 ⊢
    (repeat first | refine And.intro (by omega) ?_ | refine And.intro (by decide) ?_ | refine And.intro rfl ?_ | refine And.intro (fun _ => ?_) (fun h => Bool.noConfusion h) | refine And.intro (fun h => Bool.noConfusion h) (fun _ => ?_) | refine And.intro (fun _ => ?_) (fun h => absurd h (by rw [e0]; decide)) | refine And.intro (fun h => absurd h (by rw [e0]; decide)) (fun _ => ?_) | refine And.intro (fun _ => ?_) (fun h => absurd h (by rw [e1]; decide)) | refine And.intro (fun h => absurd h (by rw [e1]; decide)) (fun _ => ?_) | refine And.intro (fun _ => ?_) (fun h => absurd h (by rw [e2]; decide)) | refine And.intro (fun h => absurd h (by rw [e2]; decide)) (fun _ => ?_) | refine And.intro (fun _ => ?_) (fun h => absurd h (by rw [e5]; decide)) | refine And.intro (fun h => absurd h (by rw [e5]; decide)) (fun _ => ?_) | refine And.intro (fun _ => ?_) (fun h => absurd h (by rw [e6]; decide)) | refine And.intro (fun h => absurd h (by rw [e6]; decide)) (fun _ => ?_) | refine And.intro (fun _ => ?_) (fun h => absurd h (by rw [e7]; decide)) | refine And.intro (fun h => absurd h (by rw [e7]; decide)) (fun _ => ?_))
    refine call_same (fn_wdone B21 c21 (by omega) hc21 (by omega)) [5, 17] rfl (by (repeat first | exact trivial | refine ⟨rfl, ?_⟩ | refine ⟨fun _ _ => ⟨rfl, trivial⟩, ?_⟩ | refine ⟨fun _ _ => trivial, ?_⟩ | refine ⟨by omega, ?_⟩ | refine ⟨fun _ _ => eqC_winS, ?_⟩ | refine ⟨fun _ _ => eqC_winM, ?_⟩ | refine ⟨fun _ _ => eqC_winB, ?_⟩ | refine ⟨fun _ _ => eqC_selfB, ?_⟩ | refine ⟨fun _ _ => eqC_mpB, ?_⟩)) ?_ (fun _ _ => trivial) ?_
    · (repeat first | exact trivial | refine ⟨rfl, ?_⟩ | refine ⟨fun _ _ => ⟨rfl, trivial⟩, ?_⟩ | refine ⟨fun _ _ => trivial, ?_⟩ | refine ⟨by omega, ?_⟩ | refine ⟨fun _ _ => eqC_winS, ?_⟩ | refine ⟨fun _ _ => eqC_winM, ?_⟩ | refine ⟨fun _ _ => eqC_winB, ?_⟩ | refine ⟨fun _ _ => eqC_selfB, ?_⟩ | refine ⟨fun _ _ => eqC_mpB, ?_⟩)
    rintro x hs' ⟨cz, hcz, rfl, rfl⟩
    have hP : B21 = putH h p := by rw [← hB21, ← hB20, ← hB19, ← hB18, ← hB17, ← hB16, ← hB15, ← hB14]; unfold putH fstB; simp [h7]
    rw [hP] at hcz ⊢
    refine ⟨.tup [.c (.sl 4 0 0 (putH h p).length cz), .c (.int .i64 0)], _, ⟨[0, 1, 2, 3, 18], ⟨rfl, rfl, rfl⟩, ?_⟩, fun he => absurd hE he, fun _ => ⟨cz, hcz, rfl, rfl⟩⟩
    (repeat first | exact trivial | refine ⟨rfl, ?_⟩ | refine ⟨fun _ _ => ⟨rfl, trivial⟩, ?_⟩ | refine ⟨fun _ _ => trivial, ?_⟩ | refine ⟨by omega, ?_⟩ | refine ⟨fun _ _ => eqC_winS, ?_⟩ | refine ⟨fun _ _ => eqC_winM, ?_⟩ | refine ⟨fun _ _ => eqC_winB, ?_⟩ | refine ⟨fun _ _ => eqC_selfB, ?_⟩ | refine ⟨fun _ _ => eqC_mpB, ?_⟩)
    refine eqC_bts (eqC_bts (eqC_bts (eqC_bts ?_)))
    (repeat first | exact trivial | refine ⟨rfl, ?_⟩ | refine ⟨fun _ _ => ⟨rfl, trivial⟩, ?_⟩ | refine ⟨fun _ _ => trivial, ?_⟩ | refine ⟨by omega, ?_⟩ | refine ⟨fun _ _ => eqC_winS, ?_⟩ | refine ⟨fun _ _ => eqC_winM, ?_⟩ | refine ⟨fun _ _ => eqC_winB, ?_⟩ | refine ⟨fun _ _ => eqC_selfB, ?_⟩ | refine ⟨fun _ _ => eqC_mpB, ?_⟩)
end Sx
end Go.Proofs.Ytkjdkeolkigibaa
end

section
/-
  Headers put, and taken back: plain. No condition.
-/
namespace Go.Proofs.Ytkjdkeolkigibaa
set_option linter.unusedVariables false
namespace Vi
open Sha
theorem bytes_app (a r : Bs) : bytesM (a ++ r) 0 (a.length : Int) = (a, r, 0) := by
  unfold bytesM
  rw [if_neg (by decide), if_neg (by rw [List.length_append]; omega)]
  simp
theorem byte_app (x : BitVec 8) (r : Bs) : byteM (x :: r) 0 = (x, r, 0) := by
  unfold byteM
  have := bytes_app [x] r
  simp only [List.length_singleton, List.singleton_append] at this
  rw [show (1 : Int) = ((1 : Nat) : Int) from rfl, this]
  rfl
theorem id_app {t : Bs} (h : t.length ≤ 20) (r : Bs) : idM (BitVec.ofNat 8 t.length :: (t ++ r)) 0 = (t, r, 0) := by
  unfold idM
  rw [byte_app]
  have e : (BitVec.ofNat 8 t.length).toNat = t.length := by rw [BitVec.toNat_ofNat]; omega
  show (match (if 20 < (BitVec.ofNat 8 t.length).toNat then failM (t ++ r) 0 6 else (t ++ r, 0)) with | (l2, e2) => bytesM l2 e2 ((BitVec.ofNat 8 t.length).toNat : Int)) = _
  rw [e, if_neg (by omega)]
  exact bytes_app t r
theorem next_app {n : BitVec 64} {k : Nat} (hk : okSz k) (h0 : lenN n ≠ 0) (h1 : lenN n ≤ k) (r : Bs) : nextM (wideL n k ++ r) 0 = ((n, k, true), r, 0) := by
  obtain ⟨a, b⟩ := take_wide hk h0 h1 r
  have e : takeM (wideL n k ++ r) = (n, k, 0) := by
    unfold takeM
    rw [a, if_neg, b]
    rw [List.length_append, wideL_len]
    rcases hk with rfl | rfl | rfl | rfl <;> omega
  unfold nextM
  rw [e, if_neg (by decide), if_neg (fun q => q rfl)]
  have : (wideL n k ++ r).drop k = r := by
    have := List.drop_left (l₁ := wideL n k) (l₂ := r)
    rw [wideL_len] at this
    exact this
  show ((n, k, true), (wideL n k ++ r).drop k, 0) = _
  rw [this]
theorem count_app {n : BitVec 64} {k most : Nat} (hk : okSz k) (h0 : lenN n ≠ 0) (h1 : lenN n ≤ k) (h2 : n.toNat ≤ most) (r : Bs) : countM (wideL n k ++ r) 0 most = (n.toNat, r, 0) := by
  unfold countM
  rw [next_app hk h0 h1]
  show (if true = false then (0, r, 0) else if most < n.toNat then (0, [], 2) else (n.toNat, r, 0)) = _
  rw [if_neg (by decide), if_neg (by omega)]
theorem num64 {m : Nat} (h : m ≤ 2000) : (BitVec.ofNat 64 m).toNat = m := by rw [BitVec.toNat_ofNat]; omega
theorem long_app {l : Bs} (h : l.length ≤ 64) (r : Bs) : longM (longL l ++ r) 0 64 = (l, r, 0) := by
  have h0 := lenN_of (n := l.length) (by omega)
  unfold longM longL putL
  rw [List.append_assoc, count_app (lenN_ok h0) h0 (Nat.le_refl _) (by rw [num64 (by omega)]; exact h)]
  show bytesM (l ++ r) 0 (((BitVec.ofNat 64 l.length).toNat : Nat) : Int) = _
  rw [num64 (by omega)]
  exact bytes_app l r
theorem len_app {m : Nat} (h : m ≤ 1204) {r : Bs} (hr : m ≤ r.length) : lenM (wideL (BitVec.ofNat 64 m) 2 ++ r) 0 = (m, r, 0) := by
  have h0 := lenN_of (n := m) (by omega)
  have hs := lenN_spec (BitVec.ofNat 64 m)
  rw [num64 (by omega)] at hs
  unfold lenM
  rw [count_app (.inr (.inl rfl)) h0 (by omega) (by rw [num64 (by omega)]; exact h)]
  show (match (if r.length < (BitVec.ofNat 64 m).toNat then failM r 0 3 else (r, 0)) with | (l2, e2) => ((BitVec.ofNat 64 m).toNat, l2, e2)) = _
  rw [num64 (by omega), if_neg (by omega)]
theorem parts_app {sp : BitVec 8} {t f k : Bs} {m : Nat} (ht : t.length ≤ 20) (hf : f.length ≤ 20) (hk : k.length ≤ 64) (hs : sp ≠ 0#8 → k = []) (hm : m ≤ 1204) {r : Bs} (hr : m ≤ r.length) :
    partsM sp (BitVec.ofNat 8 t.length :: (t ++ (BitVec.ofNat 8 f.length :: (f ++ ((if sp = 0#8 then longL k else []) ++ (wideL (BitVec.ofNat 64 m) 2 ++ r)))))) 0 = ((t, f, k, m), r, 0) := by
  unfold partsM
  rw [id_app ht]
  dsimp only
  rw [id_app hf]
  dsimp only
  by_cases h : sp = 0#8
  · rw [if_pos h, if_pos h, long_app hk]
    dsimp only
    rw [len_app hm hr]
  · rw [if_neg h, if_neg h, hs h]
    dsimp only
    rw [List.nil_append, len_app hm hr]
end Vi
namespace Sx
open Sha Vi
theorem checkM_more {h : Hd} (e : checkM h = 0) : (h.sp ≠ 0#8 → h.k.l = []) ∧ (h.sp = 2#8 → h.f.l = []) ∧ (h.sp ≠ 2#8 → h.turn = false) := by
  unfold checkM at e
  split at e
  · cases e
  split at e
  · cases e
  split at e
  · cases e
  split at e
  · cases e
  rename_i h1
  split at e
  · cases e
  rename_i h2
  split at e
  · cases e
  rename_i h3
  refine ⟨fun hs => ?_, fun hs => ?_, fun hs => ?_⟩
  · exact List.eq_nil_of_length_eq_zero (by by_cases hh : 0 < h.k.l.length; exact absurd ⟨hh, hs⟩ h1; omega)
  · exact List.eq_nil_of_length_eq_zero (by by_cases hh : 0 < h.f.l.length; exact absurd ⟨hh, hs⟩ h2; omega)
  · cases ht : h.turn with
    | false => rfl
    | true => exact absurd ⟨ht, hs⟩ h3
theorem sp3 : ∀ x : BitVec 8, x.toNat < 3 → x = 0#8 ∨ x = 1#8 ∨ x = 2#8 := by decide +kernel
theorem fstB_s {h : Hd} (e : checkM h = 0) (hs : h.sp = 2#8) : fstB h &&& 64#8 ≠ 0#8 ∧ fstB h &&& 128#8 = 0#8 ∧ noneB h.sp (fstB h) = 0#8 ∧ manyB (fstB h) = h.n.l.length ∧ decide (fstB h &&& 4#8 ≠ 0#8) = h.turn := by
  obtain ⟨_, _, _, _, a, b⟩ := checkM_0 e
  unfold fstB noneB
  rw [if_pos hs, if_pos hs]
  have : h.n.l.length = 1 ∨ h.n.l.length = 2 ∨ h.n.l.length = 3 ∨ h.n.l.length = 4 := by omega
  cases h.turn <;> rcases this with q | q | q | q <;> rw [q] <;> decide
theorem fstB_l {h : Hd} (e : checkM h = 0) (hs : h.sp ≠ 2#8) : fstB h &&& 64#8 ≠ 0#8 ∧ fstB h &&& 128#8 ≠ 0#8 ∧ noneB h.sp (fstB h) = 0#8 ∧ manyB (fstB h) = h.n.l.length ∧
    ¬ (fstB h &&& 48#8 ≠ 0#8 ∧ fstB h &&& 48#8 ≠ 32#8) ∧ (if fstB h &&& 48#8 = 0#8 then 0#8 else 1#8) = h.sp := by
  obtain ⟨s, _, _, _, a, b⟩ := checkM_0 e
  unfold fstB noneB
  rw [if_neg hs, if_neg hs]
  have : h.n.l.length = 1 ∨ h.n.l.length = 2 ∨ h.n.l.length = 3 ∨ h.n.l.length = 4 := by omega
  rcases sp3 _ s with q | q | q
  · rw [q]; rcases this with q | q | q | q <;> rw [q] <;> decide
  · rw [q]; rcases this with q | q | q | q <;> rw [q] <;> decide
  · exact absurd q hs
theorem L_cons0 (x : BitVec 8) (r : Bs) : L (x :: r) 0 = x := rfl
theorem putH_long {h : Hd} (hs : h.sp ≠ 2#8) (p : Nat) (r : Bs) : putH h p ++ r = fstB h :: 0#8 :: 0#8 :: 0#8 :: 1#8 :: (BitVec.ofNat 8 h.t.l.length :: (h.t.l ++ (BitVec.ofNat 8 h.f.l.length :: (h.f.l ++ ((if h.sp = 0#8 then longL h.k.l else []) ++ (wideL (BitVec.ofNat 64 (h.n.l.length + p)) 2 ++ (h.n.l ++ r))))))) := by
  unfold putH
  rw [if_neg hs]
  simp only [List.append_assoc, List.cons_append, List.nil_append]
theorem putH_short {h : Hd} (hs : h.sp = 2#8) (p : Nat) (r : Bs) : putH h p ++ r = fstB h :: (h.t.l ++ (h.n.l ++ r)) := by
  unfold putH
  rw [if_pos hs]
  simp only [List.append_assoc, List.cons_append, List.nil_append]
theorem putH_fst (h : Hd) (p : Nat) (r : Bs) : L (putH h p ++ r) 0 = fstB h := by
  by_cases hs : h.sp = 2#8
  · rw [putH_short hs]; rfl
  · rw [putH_long hs]; rfl
theorem putH_n (h : Hd) (p : Nat) : ∃ H, putH h p = H ++ h.n.l ∧ 1 ≤ H.length := by
  unfold putH
  split
  · exact ⟨_, rfl, by simp⟩
  · exact ⟨_, rfl, by simp⟩
theorem putH_drop (h : Hd) (p : Nat) (r : Bs) : (putH h p ++ r).drop ((putH h p).length - h.n.l.length) = h.n.l ++ r := by
  obtain ⟨H, e, _⟩ := putH_n h p
  rw [e]
  simp
theorem parse_put {h : Hd} (e : checkM h = 0) {p : Nat} (hp : p ≤ 1000) {r : Bs} (hr : p ≤ r.length) :
    parseP (putH h p ++ r) (h.t.l.length : Nat) = .ok h.sp h.t.l h.f.l h.k.l ((putH h p).length - h.n.l.length) (if h.sp = 2#8 then (putH h p ++ r).length else (putH h p).length + p) := by
  obtain ⟨a0, a1, a2, a3, a4, a5⟩ := checkM_0 e
  obtain ⟨b0, b1, b2⟩ := checkM_more e
  have hid : idN (h.t.l.length : Nat) = h.t.l.length := by unfold idN; rw [Int.toNat_natCast]; omega
  have hl : (putH h p ++ r).length ≠ 0 := by
    obtain ⟨H, e, _⟩ := putH_n h p
    rw [e, List.length_append, List.length_append]
    omega
  unfold parseP
  rw [if_neg hl, putH_fst, hid]
  by_cases hs : h.sp = 2#8
  · obtain ⟨c0, c1, _, _, _⟩ := fstB_s e hs
    rw [if_neg c0, if_neg (fun q => q c1), if_pos hs, b1 hs, b0 (by rw [hs]; decide), hs]
    have hH : (putH h p).length = 1 + h.t.l.length + h.n.l.length := by unfold putH; rw [if_pos hs]; simp [Nat.add_assoc]; omega
    rw [if_neg (by rw [List.length_append, hH]; omega), hH]
    have d : ((putH h p ++ r).drop 1).take h.t.l.length = h.t.l := by rw [putH_short hs]; simp
    rw [d, Nat.add_sub_cancel]
  · obtain ⟨c0, c1, _, _, c2, c3⟩ := fstB_l e hs
    rw [if_neg c0, if_pos c1, if_neg hs]
    unfold longP
    rw [putH_fst, if_neg c2, c3]
    have d4 : ((putH h p ++ r).drop 1).take 4 = [0#8, 0#8, 0#8, 1#8] := by rw [putH_long hs]; rfl
    rw [if_neg (fun q => q.2 d4)]
    have hb := bytes_app [fstB h, 0#8, 0#8, 0#8, 1#8] (BitVec.ofNat 8 h.t.l.length :: (h.t.l ++ (BitVec.ofNat 8 h.f.l.length :: (h.f.l ++ ((if h.sp = 0#8 then longL h.k.l else []) ++ (wideL (BitVec.ofNat 64 (h.n.l.length + p)) 2 ++ (h.n.l ++ r)))))))
    rw [show bytesM (putH h p ++ r) 0 5 = bytesM (putH h p ++ r) 0 (([fstB h, 0#8, 0#8, 0#8, 1#8] : Bs).length : Int) from rfl]
    rw [(congrArg (fun x => bytesM x 0 (([fstB h, 0#8, 0#8, 0#8, 1#8] : Bs).length : Int)) (putH_long hs p r)).trans hb]
    dsimp only
    rw [parts_app a1 a2 a3 b0 (by omega) (by rw [List.length_append]; omega)]
    dsimp only
    rw [if_neg (fun q => q rfl)]
    obtain ⟨H, eH, hH1⟩ := putH_n h p
    have e1 : (putH h p ++ r).length - (h.n.l ++ r).length = (putH h p).length - h.n.l.length := by
      rw [eH]; simp only [List.length_append]; omega
    have e2 : (putH h p).length - h.n.l.length + (h.n.l.length + p) = (putH h p).length + p := by
      rw [eH]; simp only [List.length_append]; omega
    rw [e1, e2]
theorem putH_le {h : Hd} (e : checkM h = 0) (p : Nat) : (putH h p).length ≤ 200 := by
  obtain ⟨a0, a1, a2, a3, a4, a5⟩ := checkM_0 e
  have := longL_len h.k.l
  unfold putH
  split
  · simp; omega
  · split <;> simp <;> omega
end Sx
end Go.Proofs.Ytkjdkeolkigibaa
end

section
/-
  What is taken out of any bytes: plain. No condition.
-/
namespace Go.Proofs.Ytkjdkeolkigibaa
set_option linter.unusedVariables false
namespace Vi
open Sha
theorem bytesM_0 {l t l' : Bs} {e e' m : Int} (h : bytesM l e m = (t, l', e')) (h0 : e' = 0) : e = 0 ∧ (t.length : Int) = m ∧ l'.length + t.length = l.length := by
  subst h0
  unfold bytesM at h
  split at h
  · rename_i he
    simp only [Prod.mk.injEq] at h
    exact absurd h.2.2 he
  · rename_i he
    split at h
    · simp only [Prod.mk.injEq] at h
      exact absurd h.2.2 (by decide)
    · rename_i hm
      simp only [Prod.mk.injEq] at h
      obtain ⟨rfl, rfl, _⟩ := h
      refine ⟨by omega, ?_, ?_⟩
      · rw [List.length_take]; omega
      · rw [List.length_take, List.length_drop]; omega
theorem byteM_0 {l l' : Bs} {n : BitVec 8} {e e' : Int} (h : byteM l e = (n, l', e')) (h0 : e' = 0) : e = 0 ∧ l'.length ≤ l.length := by
  rcases hb : bytesM l e 1 with ⟨t, l1, e1⟩
  unfold byteM at h
  rw [hb] at h
  simp only [Prod.mk.injEq] at h
  obtain ⟨_, rfl, rfl⟩ := h
  have := bytesM_0 hb h0
  omega
theorem failM_0 {l l' : Bs} {e e' x : Int} (hx : x ≠ 0) (h : failM l e x = (l', e')) : e' ≠ 0 := by
  unfold failM at h
  split at h
  · rename_i q
    simp only [Prod.mk.injEq] at h
    obtain ⟨_, rfl⟩ := h
    exact q.resolve_left hx
  · simp only [Prod.mk.injEq] at h
    obtain ⟨_, rfl⟩ := h
    exact hx
theorem idM_0 {l t l' : Bs} {e e' : Int} (h : idM l e = (t, l', e')) (h0 : e' = 0) : e = 0 ∧ t.length ≤ 20 ∧ l'.length ≤ l.length := by
  rcases hb : byteM l e with ⟨n, l1, e1⟩
  unfold idM at h
  rw [hb] at h
  dsimp only at h
  by_cases hn : 20 < n.toNat
  · rw [if_pos hn] at h
    rcases hf : failM l1 e1 6 with ⟨l2, e2⟩
    rw [hf] at h
    exact absurd (bytesM_0 h h0).1 (failM_0 (by decide) hf)
  · rw [if_neg hn] at h
    have h : bytesM l1 e1 (n.toNat : Int) = (t, l', e') := h
    obtain ⟨a, b, c⟩ := bytesM_0 h h0
    have := byteM_0 hb a
    omega
theorem nextM_0 {l l' : Bs} {n : BitVec 64} {k : Nat} {b : Bool} {e e' : Int} (h : nextM l e = ((n, k, b), l', e')) (h0 : e' = 0) : e = 0 ∧ l'.length ≤ l.length := by
  unfold nextM at h
  split at h
  · rename_i q
    simp only [Prod.mk.injEq] at h
    obtain ⟨_, rfl, rfl⟩ := h
    exact ⟨h0, Nat.le_refl _⟩
  · rename_i q
    split at h
    · rename_i q2
      simp only [Prod.mk.injEq] at h
      obtain ⟨_, _, rfl⟩ := h
      exact absurd h0 q2
    · simp only [Prod.mk.injEq] at h
      obtain ⟨_, rfl, _⟩ := h
      exact ⟨by omega, by rw [List.length_drop]; omega⟩
theorem countM_0 {l l' : Bs} {n most : Nat} {e e' : Int} (h : countM l e most = (n, l', e')) (h0 : e' = 0) : e = 0 ∧ n ≤ most ∧ l'.length ≤ l.length := by
  rcases hb : nextM l e with ⟨⟨x, k, b⟩, l1, e1⟩
  unfold countM at h
  rw [hb] at h
  dsimp only at h
  split at h
  · rename_i q
    simp only [Prod.mk.injEq] at h
    obtain ⟨rfl, rfl, rfl⟩ := h
    have := nextM_0 hb h0
    omega
  · split at h
    · simp only [Prod.mk.injEq] at h
      obtain ⟨_, _, rfl⟩ := h
      exact absurd h0 (by decide)
    · simp only [Prod.mk.injEq] at h
      obtain ⟨rfl, rfl, rfl⟩ := h
      have := nextM_0 hb h0
      omega
theorem longM_0 {l t l' : Bs} {most : Nat} {e e' : Int} (h : longM l e most = (t, l', e')) (h0 : e' = 0) : e = 0 ∧ t.length ≤ most ∧ l'.length ≤ l.length := by
  rcases hb : countM l e most with ⟨n, l1, e1⟩
  unfold longM at h
  rw [hb] at h
  dsimp only at h
  obtain ⟨a, b, c⟩ := bytesM_0 h h0
  have := countM_0 hb a
  omega
theorem lenM_0 {l l' : Bs} {n : Nat} {e e' : Int} (h : lenM l e = (n, l', e')) (h0 : e' = 0) : e = 0 ∧ n ≤ l'.length ∧ l'.length ≤ l.length := by
  rcases hb : countM l e 1204 with ⟨m, l1, e1⟩
  unfold lenM at h
  rw [hb] at h
  dsimp only at h
  by_cases hn : l1.length < m
  · rw [if_pos hn] at h
    rcases hf : failM l1 e1 3 with ⟨l2, e2⟩
    rw [hf] at h
    simp only [Prod.mk.injEq] at h
    obtain ⟨_, _, rfl⟩ := h
    exact absurd h0 (failM_0 (by decide) hf)
  · rw [if_neg hn] at h
    simp only [Prod.mk.injEq] at h
    obtain ⟨rfl, rfl, rfl⟩ := h
    have := countM_0 hb h0
    omega
theorem partsM_0 {sp : BitVec 8} {l t f k l' : Bs} {n : Nat} {e e' : Int} (h : partsM sp l e = ((t, f, k, n), l', e')) (h0 : e' = 0) :
    e = 0 ∧ t.length ≤ 20 ∧ f.length ≤ 20 ∧ k.length ≤ 64 ∧ (sp ≠ 0#8 → k = []) ∧ n ≤ l'.length ∧ l'.length ≤ l.length := by
  rcases h1 : idM l e with ⟨t1, l1, e1⟩
  rcases h2 : idM l1 e1 with ⟨f1, l2, e2⟩
  unfold partsM at h
  rw [h1] at h
  dsimp only at h
  rw [h2] at h
  dsimp only at h
  by_cases hs : sp = 0#8
  · rw [if_pos hs] at h
    rcases h3 : longM l2 e2 64 with ⟨k1, l3, e3⟩
    rw [h3] at h
    dsimp only at h
    rcases h4 : lenM l3 e3 with ⟨n1, l4, e4⟩
    rw [h4] at h
    simp only [Prod.mk.injEq] at h
    obtain ⟨⟨rfl, rfl, rfl, rfl⟩, rfl, rfl⟩ := h
    have a4 := lenM_0 h4 h0
    have a3 := longM_0 h3 a4.1
    have a2 := idM_0 h2 a3.1
    have a1 := idM_0 h1 a2.1
    exact ⟨a1.1, a1.2.1, a2.2.1, a3.2.1, fun q => absurd hs q, a4.2.1, by omega⟩
  · rw [if_neg hs] at h
    dsimp only at h
    rcases h4 : lenM l2 e2 with ⟨n1, l4, e4⟩
    rw [h4] at h
    simp only [Prod.mk.injEq] at h
    obtain ⟨⟨rfl, rfl, rfl, rfl⟩, rfl, rfl⟩ := h
    have a4 := lenM_0 h4 h0
    have a2 := idM_0 h2 a4.1
    have a1 := idM_0 h1 a2.1
    exact ⟨a1.1, a1.2.1, a2.2.1, Nat.zero_le _, fun _ => rfl, a4.2.1, by omega⟩
/-- What a parsed header keeps to. -/
structure POk (b : Bs) (sp : BitVec 8) (t f k : Bs) (at_ en : Nat) : Prop where
  at1 : 1 ≤ at_
  le : at_ ≤ en
  hen : en ≤ b.length
  ht : t.length ≤ 20
  hf : f.length ≤ 20
  hk : k.length ≤ 64
  hsp : sp.toNat < 3
  k0 : sp ≠ 0#8 → k = []
  f0 : sp = 2#8 → f = []
  top : sp = 2#8 ↔ L b 0 &&& 128#8 = 0#8
def PRes (b : Bs) : PM → Prop
  | .no e => e ≠ 0
  | .ok sp t f k at_ en => POk b sp t f k at_ en
theorem parseP_any (b : Bs) (id : Int) : PRes b (parseP b id) := by
  unfold parseP
  split
  · exact (by decide : (3 : Int) ≠ 0)
  rename_i h0
  split
  · exact (by decide : (4 : Int) ≠ 0)
  split
  · rename_i h2
    unfold longP
    split
    · exact (by decide : (5 : Int) ≠ 0)
    split
    · exact (by decide : (12 : Int) ≠ 0)
    rcases hb : bytesM b 0 5 with ⟨x, l, e⟩
    dsimp only
    rcases hp : partsM (if L b 0 &&& 48#8 = 0#8 then 0#8 else 1#8) l e with ⟨⟨t, f, k, n⟩, l', e'⟩
    dsimp only
    by_cases he : e' = 0
    · rw [if_neg (fun q => q he)]
      obtain ⟨a0, a1, a2, a3, a4, a5, a6⟩ := partsM_0 hp he
      obtain ⟨b0, b1, b2⟩ := bytesM_0 hb a0
      refine ⟨by omega, by omega, by omega, a1, a2, a3, ?_, a4, ?_, ?_⟩
      · split <;> decide
      · split <;> (intro q; exact absurd q (by decide))
      · exact ⟨fun q => by split at q <;> exact absurd q (by decide), fun q => absurd q h2⟩
    · rw [if_pos he]
      exact he
  · rename_i h2
    split
    · exact (by decide : (3 : Int) ≠ 0)
    · rename_i h3
      have : idN id ≤ 20 := Nat.min_le_right _ _
      refine ⟨by omega, by omega, Nat.le_refl _, by rw [List.length_take]; omega, Nat.zero_le _, Nat.zero_le _, by decide, fun _ => rfl, fun _ => rfl, ⟨fun _ => Decidable.byContradiction h2, fun _ => rfl⟩⟩
end Vi
namespace Sx
open Sha Vi
theorem numbered_ok {b T F K : Bs} {sp : BitVec 8} {at_ en : Nat} (h : POk b sp T F K at_ en) {first : BitVec 8} {g : Hd} (gs : g.sp = sp) (gt : g.t.l = T) (gf : g.f.l = F) (gk : g.k.l = K) (gu : g.turn = (if sp = 2#8 then decide (first &&& 4#8 ≠ 0#8) else false)) (gn : g.n.l.length = manyB first) : checkM g = 0 := by
  have h1 : 1 ≤ manyB first := Nat.le_add_left _ _
  have h2 : manyB first ≤ 4 := by
    have : ∀ x : BitVec 8, (x &&& 3#8).toNat < 4 := by decide +kernel
    have := this first
    unfold manyB
    omega
  unfold checkM
  rw [gs, gt, gf, gk, gn]
  have h3 := h.hsp
  have h4 := h.ht
  have h5 := h.hf
  have h6 := h.hk
  rw [if_neg (by rw [BitVec.le_def]; show ¬ 3 ≤ sp.toNat; omega), if_neg (by omega), if_neg (by omega), if_neg, if_neg, if_neg]
  · rintro ⟨q, hs⟩
    rw [gu, if_neg hs] at q
    cases q
  · rintro ⟨q, hs⟩
    rw [h.f0 hs] at q
    exact absurd q (by decide)
  · rintro ⟨q, hs⟩
    rw [h.k0 hs] at q
    exact absurd q (by decide)
end Sx
end Go.Proofs.Ytkjdkeolkigibaa
end
