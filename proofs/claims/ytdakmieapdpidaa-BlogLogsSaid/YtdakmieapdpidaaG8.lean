/-
  Texts of this claim, part 8: EoK, EoL, VwC, EoM. No condition of its own.
-/
import Derived.Test.YtdakmieapdpidaaG7
section
/-
  An event taken by a reader: blog.take. No condition.
-/
namespace Go.Proofs.Ytdakmieapdpidaa
set_option linter.unusedVariables false
namespace Ev
open Vi Sha
def numsR : Nat → Bs → Int → List (BitVec 64) × Bs × Int
  | 0, l, e => ([], l, e)
  | k + 1, l, e => ((leastM l e).1 :: (numsR k (leastM l e).2.1 (leastM l e).2.2).1, (numsR k (leastM l e).2.1 (leastM l e).2.2).2)
/-- What is read ends by an error, if so. -/
def failIf (c : Bool) (x : Int) (p : Bs × Int) : Bs × Int := if c = true then failM p.1 p.2 x else p
abbrev kindL (k : BitVec 64) : BitVec 8 := BitVec.setWidth 8 (if 255#64 < k then 255#64 else k)
abbrev manyL (m : BitVec 64) : Int := ((if 20#64 < m then 20#64 else m).toNat : Int)
def data1 (m : BitVec 64) (q : Bs × Int) : Bs × Bs × Int := bytesM q.1 q.2 (manyL m)
def take3 (kk : BitVec 8) (t : BitVec 64) (N : List (BitVec 64)) (p : Bs × Int) : Ev × Bs × Int :=
  if evData kk = true then (⟨kk, t, N, (data1 (leastM p.1 p.2).1 (failIf (decide (20#64 < (leastM p.1 p.2).1)) 4 (leastM p.1 p.2).2)).1⟩, (data1 (leastM p.1 p.2).1 (failIf (decide (20#64 < (leastM p.1 p.2).1)) 4 (leastM p.1 p.2).2)).2)
  else (⟨kk, t, N, []⟩, p)
def take2 (kk : BitVec 8) (t : BitVec 64) (q : Bs × Int) : Ev × Bs × Int := take3 kk t (numsR (evNames kk).length q.1 q.2).1 (numsR (evNames kk).length q.1 q.2).2
def take1 (kk : BitVec 8) (last : BitVec 64) (p : Bs × Int) : Ev × Bs × Int :=
  take2 kk (last + (leastM p.1 p.2).1) (failIf (decide (1125899906842624#64 < last + (leastM p.1 p.2).1)) 21 (leastM p.1 p.2).2)
def takeE (l : Bs) (e : Int) (last : BitVec 64) : Ev × Bs × Int :=
  if (leastM l e).2.2 ≠ 0 then (⟨0#8, 0#64, [], []⟩, (leastM l e).2) else take1 (kindL (leastM l e).1) last (failIf (!evOk (kindL (leastM l e).1)) 5 (leastM l e).2)
theorem min20_le (m : BitVec 64) : (if 20#64 < m then 20#64 else m).toNat ≤ 20 := by
  split
  · decide
  · rename_i h
    rw [BitVec.lt_def] at h
    have : (20#64).toNat = 20 := rfl
    omega
theorem evNo (k : BitVec 8) (h : evOk k = false) : evNames k = [] ∧ evData k = false := by revert h; revert k; decide +kernel
theorem take1_eq {kk : BitVec 8} {last n : BitVec 64} {l l' : Bs} {e e' : Int} (h : leastM l e = (n, l', e')) : take1 kk last (l, e) = take2 kk (last + n) (failIf (decide (1125899906842624#64 < last + n)) 21 (l', e')) := by
  unfold take1; rw [h]
theorem take3_no {kk : BitVec 8} {t : BitVec 64} {N : List (BitVec 64)} {p : Bs × Int} (h : evData kk = false) : take3 kk t N p = (⟨kk, t, N, []⟩, p) := by
  unfold take3; rw [h, if_neg (by decide)]
theorem take3_ok {kk : BitVec 8} {t m : BitVec 64} {N : List (BitVec 64)} {l l' : Bs} {e e' : Int} (h : evData kk = true) (hm : leastM l e = (m, l', e')) {D l2 : Bs} {e2 : Int} (hd : data1 m (failIf (decide (20#64 < m)) 4 (l', e')) = (D, l2, e2)) : take3 kk t N (l, e) = (⟨kk, t, N, D⟩, l2, e2) := by
  unfold take3; rw [h, if_pos rfl]; simp only [hm]; rw [hd]
theorem take2_nil {kk : BitVec 8} {t : BitVec 64} {q : Bs × Int} (h : evNames kk = []) : take2 kk t q = take3 kk t [] q := by
  unfold take2; rw [h]; rfl
theorem numsR_step {P : List (BitVec 64)} {m : Nat} {l l' : Bs} {e e' : Int} {n : BitVec 64} (hP : P.length < m) (h : leastM l e = (n, l', e')) :
    P ++ (numsR (m - P.length) l e).1 = (P ++ [n]) ++ (numsR (m - (P ++ [n]).length) l' e').1 ∧ (numsR (m - P.length) l e).2 = (numsR (m - (P ++ [n]).length) l' e').2 := by
  obtain ⟨k, hk⟩ : ∃ k, m - P.length = k + 1 := ⟨m - P.length - 1, by omega⟩
  rw [hk, numsR, h, List.length_append, List.length_singleton, show m - (P.length + 1) = k by omega, List.append_assoc]
  exact ⟨rfl, rfl⟩
end Ev
namespace Sx
open Go.RowKit Sha Vi Ev

set_option maxRecDepth 20000 in
theorem fn_bclone_row (s : Sl) (hs : s.Ok) (hz : s.z = false) : FnR Try.prog tds 43 1 [svB s] [.c (svC 0 s)] (fun _ => True)
    (fun y hs => ∃ c, s.l.length ≤ c ∧ y = .a (.c (.sl 1 0 0 s.l.length c)) ∧ hs = [svB s, lsC s.l c]) := by
  refine fn_of_body tds_ok follows_ Try.func43 rfl (t := .a (.c (svC 0 s)) :: anys (Try.f43.ntmps - 1)) rfl (fun w r0 hr _ => ?_)
  obtain ⟨x0, rfl⟩ := List.length_eq_one_iff.1 hr
  have hsm := hs.small
  (repeat first | refine And.intro (by omega) ?_ | refine And.intro (by decide) ?_ | refine And.intro rfl ?_ | refine And.intro (fun _ => ?_) (fun h => Bool.noConfusion h) | refine And.intro (fun h => Bool.noConfusion h) (fun _ => ?_) | refine And.intro (fun _ => ?_) (fun h => absurd h (by rw [hz]; decide)) | refine And.intro (fun h => absurd h (by rw [hz]; decide)) (fun _ => ?_))
  refine sn_bts rfl hs.fit (fun h => by rw [hs.nil h]; rfl) (fun g hg => ?_)
  refine ⟨⟨Nat.le_refl _, Nat.le_refl _, by show (0 + s.l.length) * 1 ≤ 140737488355328; omega⟩, fun c' hc' => ?_⟩
  refine ⟨.a (.c (.sl 1 0 0 s.l.length c')), [svB s, lsC s.l c'], ⟨[0, 2], ⟨rfl, rfl, rfl⟩, ?_⟩, c', (by omega), rfl, rfl⟩
  (repeat first | exact trivial | refine ent1 ?_)
  refine eqC_bts ?_
  (repeat first | exact trivial | refine ent1 ?_)
  refine ⟨fun j hj => eqC_bytes (fun i hi => ?_) j, trivial⟩
  exact app_row (l := []) (m := s.l) (f := nthC []) rfl rfl (fun i hi => absurd hi (by simp)) hg i (by simpa using hi)
theorem fn_bclone_nil (s : Sl) (hz : s.z = true) : FnR Try.prog tds 43 1 [svB s] [.c (svC 0 s)] (fun _ => True)
    (fun y hs => y = .a (.c (.slc none 0 0)) ∧ hs = [svB s]) := by
  refine fn_of_body tds_ok follows_ Try.func43 rfl (t := .a (.c (svC 0 s)) :: anys (Try.f43.ntmps - 1)) rfl (fun w r0 hr _ => ?_)
  obtain ⟨x0, rfl⟩ := List.length_eq_one_iff.1 hr
  (repeat first | refine And.intro (by omega) ?_ | refine And.intro (by decide) ?_ | refine And.intro rfl ?_ | refine And.intro (fun _ => ?_) (fun h => Bool.noConfusion h) | refine And.intro (fun h => Bool.noConfusion h) (fun _ => ?_) | refine And.intro (fun _ => ?_) (fun h => absurd h (by rw [hz]; decide)) | refine And.intro (fun h => absurd h (by rw [hz]; decide)) (fun _ => ?_))
  refine ⟨.a (.c (.slc none 0 0)), [svB s], ⟨[0], ⟨rfl, rfl, rfl⟩, ?_⟩, rfl, rfl⟩
  (repeat first | exact trivial | refine ent1 ?_)
  refine eqC_bts ?_
  (repeat first | exact trivial | refine ent1 ?_)
theorem eqC_btsZ {q : List Nat} {F : Nat → Bool} {α : Nat → Addr} {z : Bool} {N o n : Nat} {b : Nat → BitVec 8} {k : Prop} (hk : k) : eqSegs q (rzL F α (bts z N o n b)) (bts z N o n b) k := by
  rw [rzL_bts]; exact eqC_bts hk
theorem bytes_fin {D : Bs} (j : Nat) (x : SC) (h : (D.map SC.w8)[j]? = some x) : bytesF D.length (L D) j = x := by
  rw [List.getElem?_map, Option.map_eq_some_iff] at h
  obtain ⟨b, hb, rfl⟩ := h
  exact bytes_get hb (Nat.le_refl _) D rfl (fun i hi => rfl)
theorem bytes_finM {g : Nat → Nat} {D : Bs} (j : Nat) (x : SC) (h : (D.map SC.w8)[j]? = some x) : SC.mp g (bytesF D.length (L D) j) = x := by
  rw [bytes_fin j x h]
  rw [List.getElem?_map, Option.map_eq_some_iff] at h
  obtain ⟨b, hb, rfl⟩ := h
  rfl
theorem nums_fin {P : List (BitVec 64)} (j : Nat) (x : SC) (h : (P.map SC.w64)[j]? = some x) : numsF P j = x := by
  rw [List.getElem?_map, Option.map_eq_some_iff] at h
  obtain ⟨b, hb, rfl⟩ := h
  exact nums_get hb
set_option maxRecDepth 20000 in
set_option maxHeartbeats 16000000 in
theorem fn_btake {W : World} {ms : List Nat} (A : Sl) (s : RS) {l : Bs} {e : Int} (hr : RdI A s l e) (last : BitVec 64) : FnR Try.prog tds 33 2 [[.past W ms], svB A, rdCi 1 s] [.c (.p 2 0 0), .c (.w64 last)] (fun _ => True)
    (fun y hs => ∃ ev x s' l' e' W' ms', takeE l e last = (ev, l', e') ∧ RdI A s' l' e' ∧ Later W ms W' ms' ∧ EvAt W' ms' x ev ∧ y = .a (.agg (evS ev x)) ∧ hs = [[.past W' ms'], svB A, rdCi 1 s']) := by
  refine fn_of_bodyW tds_ok follows_ Try.func33 rfl (t := .a (.c (.p 2 0 0)) :: .a (.c (.w64 last)) :: anys (Try.f33.ntmps - 2)) rfl (fun w r0 hr0 _ => ?_)
  obtain ⟨x0, x1, x2, rfl⟩ := len3' hr0
  (repeat first | (refine And.intro ?_ ?_; first | exact rfl | ((exact fun h => absurd h (by first | decide)); intro yy; clear yy) | (rotate_left; (exact fun h => absurd h (by first | decide)); intro yy; clear yy) | decide | omega) | (with_reducible refine frc_bytesL (by first | omega | decide) ?_) | (with_reducible refine frc_bytesM (by first | omega | decide) ?_))
  refine call_same (fn_rleast A s hr) [1, 2] rfl (by (repeat first | exact trivial | refine ent1 ?_)) (eqC_bts (by (repeat first | exact trivial | refine ent1 ?_))) (fun _ _ => trivial) ?_
  rintro x hs ⟨k, s1, l1, e1, hx1, hr1, rfl, rfl⟩
  (repeat first | (refine And.intro ?_ ?_; first | exact rfl | ((exact fun h => absurd h (by first | decide)); intro yy; clear yy) | (rotate_left; (exact fun h => absurd h (by first | decide)); intro yy; clear yy) | decide | omega) | (with_reducible refine frc_bytesL (by first | omega | decide) ?_) | (with_reducible refine frc_bytesM (by first | omega | decide) ?_))
  refine call_same (fn_rerr A s1 hr1) [1, 2] rfl (by (repeat first | exact trivial | refine ent1 ?_)) (eqC_bts (by (repeat first | exact trivial | refine ent1 ?_))) (fun _ _ => trivial) ?_
  rintro x hs ⟨rfl, rfl⟩
  by_cases h1 : e1 ≠ 0
  · have k1 : decide (e1 ≠ 0) = true := decide_eq_true h1
    (repeat first | (refine And.intro ?_ ?_; first | exact rfl | ((exact fun h => absurd h (by first | decide | (rw [k1]; decide))); intro yy; clear yy) | (rotate_left; (exact fun h => absurd h (by first | decide | (rw [k1]; decide))); intro yy; clear yy) | decide | omega) | (with_reducible refine frc_bytesL (by first | omega | decide) ?_) | (with_reducible refine frc_bytesM (by first | omega | decide) ?_))
    have hT : takeE l e last = (⟨0#8, 0#64, [], []⟩, l1, e1) := by unfold takeE; rw [hx1, if_pos h1]
    generalize hkk : (0#8) = kk at hT
    generalize ht : (0#64) = t at hT
    subst hkk; subst ht
    refine finW_frz [0, 1, 2] rfl (Nat.zero_lt_succ 1) cx0_m rfl (fun W' ms' α hL hI => ?_)
    refine ⟨.a (.agg (evS ⟨0#8, 0#64, [], []⟩ ⟨none, 0, 0, none, 0, 0⟩)), [svB A, rdCi 1 s1], ⟨⟨rfl, rfl, rfl⟩, ?_⟩, ⟨0#8, 0#64, [], []⟩, ⟨none, 0, 0, none, 0, 0⟩, s1, l1, e1, W', ms', hT, hr1, hL, ⟨SlAt.nul, SlAt.nul⟩, rfl, rfl⟩
    (repeat first | exact trivial | refine ent1 ?_)
    refine eqC_btsZ ?_
    (repeat first | exact trivial | refine ent1 ?_)
  have k1 : decide (e1 ≠ 0) = false := decide_eq_false h1
  have hT0 : takeE l e last = take1 (BitVec.setWidth 8 (if 255#64 < k then 255#64 else k)) last (failIf (!evOk (BitVec.setWidth 8 (if 255#64 < k then 255#64 else k))) 5 (l1, e1)) := by unfold takeE; rw [hx1, if_neg h1]
  (repeat first | (refine And.intro ?_ ?_; first | exact rfl | ((exact fun h => absurd h (by first | decide | (rw [k1]; decide))); intro yy; clear yy) | (rotate_left; (exact fun h => absurd h (by first | decide | (rw [k1]; decide))); intro yy; clear yy) | decide | omega) | (with_reducible refine frc_bytesL (by first | omega | decide) ?_) | (with_reducible refine frc_bytesM (by first | omega | decide) ?_))
  generalize hkk : BitVec.setWidth 8 (if 255#64 < k then 255#64 else k) = kk at hT0 ⊢
  refine call_same (fn_eof kk) [] rfl (by (repeat first | exact trivial | refine ent1 ?_)) trivial (fun _ _ => trivial) ?_
  rintro y hs' ⟨rfl, rfl⟩
  cases hok : evOk kk
  · obtain ⟨hnn, hnd⟩ := evNo kk hok
    rw [hok] at hT0
    rw [hnn, hnd]
    (repeat first | (refine And.intro ?_ ?_; first | exact rfl | ((exact fun h => absurd h (by first | decide)); intro yy; clear yy) | (rotate_left; (exact fun h => absurd h (by first | decide)); intro yy; clear yy) | decide | omega) | (with_reducible refine frc_bytesL (by first | omega | decide) ?_) | (with_reducible refine frc_bytesM (by first | omega | decide) ?_))
    refine call_same (fn_rfail A s1 5 hr1) [1, 2] rfl (by (repeat first | exact trivial | refine ent1 ?_)) (eqC_bts (by (repeat first | exact trivial | refine ent1 ?_))) (fun _ _ => trivial) ?_
    rintro x hs ⟨s2, l2, e2, hf2, hr2, rfl, rfl⟩
    have hT1 : takeE l e last = take1 kk last (l2, e2) := by rw [hT0]; show take1 kk last (failM l1 e1 5) = _; rw [hf2]
    (repeat first | (refine And.intro ?_ ?_; first | exact rfl | ((exact fun h => absurd h (by first | decide)); intro yy; clear yy) | (rotate_left; (exact fun h => absurd h (by first | decide)); intro yy; clear yy) | decide | omega) | (with_reducible refine frc_bytesL (by first | omega | decide) ?_) | (with_reducible refine frc_bytesM (by first | omega | decide) ?_))
    refine call_same (fn_rleast A s2 hr2) [1, 2] rfl (by (repeat first | exact trivial | refine ent1 ?_)) (eqC_bts (by (repeat first | exact trivial | refine ent1 ?_))) (fun _ _ => trivial) ?_
    rintro x hs ⟨n, s3, l3, e3, hx3, hr3, rfl, rfl⟩
    rw [take1_eq hx3] at hT1
    generalize ht : last + n = t at hT1
    by_cases h2 : 1125899906842624#64 < t
    · have k2 : decide (1125899906842624#64 < t) = true := decide_eq_true h2
      rw [k2] at hT1
      rw [← ht] at k2
      (repeat first | (refine And.intro ?_ ?_; first | exact rfl | ((exact fun h => absurd h (by first | decide | (rw [k2]; decide))); intro yy; clear yy) | (rotate_left; (exact fun h => absurd h (by first | decide | (rw [k2]; decide))); intro yy; clear yy) | decide | omega) | (with_reducible refine frc_bytesL (by first | omega | decide) ?_) | (with_reducible refine frc_bytesM (by first | omega | decide) ?_))
      rw [ht]
      refine call_same (fn_rfail A s3 21 hr3) [1, 2] rfl (by (repeat first | exact trivial | refine ent1 ?_)) (eqC_bts (by (repeat first | exact trivial | refine ent1 ?_))) (fun _ _ => trivial) ?_
      rintro x hs ⟨s4, l4, e4, hf4, hr4, rfl, rfl⟩
      rw [show failIf true 21 (l3, e3) = (l4, e4) from hf4] at hT1
      (repeat first | (refine And.intro ?_ ?_; first | exact rfl | ((exact fun h => absurd h (by first | decide)); intro yy; clear yy) | (rotate_left; (exact fun h => absurd h (by first | decide)); intro yy; clear yy) | decide | omega) | (with_reducible refine frc_bytesL (by first | omega | decide) ?_) | (with_reducible refine frc_bytesM (by first | omega | decide) ?_))
      refine .inl ⟨Nat, fun _ => ⟨[.a (.c (.p 2 0 0)), .a (.c (.w64 (last))), .any, .any, .a (.c (.p 3 0 0)), .a (.c (.p 4 0 0)), .any, .a (.c (.p 5 0 0)), .any, .any, .any, .any, .any, .any, .any, .any, .any, .any, .any, .any, .any, .any, .any, .any, .any, .any, .any, .any, .any, .any, .any, .any, .any, .any, .any, .any, .any, .any, .any, .any, .any, .any, .a (.c (.int .i64 (0))), .a (.c (.int .i64 (0))), .any, .any, .any, .any, .any, .any, .any, .any, .any, .any, .any, .any, .any, .any, .any, .any, .any, .any, .any, .any, .any, .any, .any, .any, .any], [[.past W ms], svB A, rdCi 1 s4, [.one (.w8 0#8), .one (.w64 0#64), .one (.slc none 0 0), .one (.slc none 0 0)], [.one (.w8 kk), .one (.w64 t), .one (.slc none 0 0), .one (.slc none 0 0)], [.one (.str (evName kk)), .one .any, .one (.bool false)]]⟩, fun _ => True, fun _ => 0, ⟨0, [0, 1, 2, 3, 4, 6], ⟨⟨rfl, rfl, rfl⟩, ?_⟩, trivial⟩, fun i _ => ?_⟩
      · (repeat first | exact trivial | refine ent1 ?_)
        refine eqC_bts ?_
        (repeat first | exact trivial | refine ent1 ?_)
      refine And.intro (fun h => absurd (show (0 : Int) < (0 : Int) from of_decide_eq_true h) (by omega)) (fun _ => ?_)
      rw [take2_nil hnn, take3_no hnd] at hT1
      (repeat first | (refine And.intro ?_ ?_; first | exact rfl | ((exact fun h => absurd h (by first | decide)); intro yy; clear yy) | (rotate_left; (exact fun h => absurd h (by first | decide)); intro yy; clear yy) | decide | omega) | (with_reducible refine frc_bytesL (by first | omega | decide) ?_) | (with_reducible refine frc_bytesM (by first | omega | decide) ?_))
      refine finW_frz [0, 1, 2] rfl (Nat.zero_lt_succ 1) cx0_m rfl (fun W' ms' α hL hI => ?_)
      refine ⟨.a (.agg (evS ⟨kk, t, [], []⟩ ⟨none, 0, 0, none, 0, 0⟩)), [svB A, rdCi 1 s4], ⟨⟨rfl, rfl, rfl⟩, ?_⟩, ⟨kk, t, [], []⟩, ⟨none, 0, 0, none, 0, 0⟩, s4, l4, e4, W', ms', hT1, hr4, hL, ⟨SlAt.nul, SlAt.nul⟩, rfl, rfl⟩
      (repeat first | exact trivial | refine ent1 ?_)
      refine eqC_btsZ ?_
      (repeat first | exact trivial | refine ent1 ?_)
    · have k2 : decide (1125899906842624#64 < t) = false := decide_eq_false h2
      rw [k2, show failIf false 21 (l3, e3) = (l3, e3) from rfl] at hT1
      rw [← ht] at k2
      (repeat first | (refine And.intro ?_ ?_; first | exact rfl | ((exact fun h => absurd h (by first | decide | (rw [k2]; decide))); intro yy; clear yy) | (rotate_left; (exact fun h => absurd h (by first | decide | (rw [k2]; decide))); intro yy; clear yy) | decide | omega) | (with_reducible refine frc_bytesL (by first | omega | decide) ?_) | (with_reducible refine frc_bytesM (by first | omega | decide) ?_))
      rw [ht]
      (repeat first | (refine And.intro ?_ ?_; first | exact rfl | ((exact fun h => absurd h (by first | decide)); intro yy; clear yy) | (rotate_left; (exact fun h => absurd h (by first | decide)); intro yy; clear yy) | decide | omega) | (with_reducible refine frc_bytesL (by first | omega | decide) ?_) | (with_reducible refine frc_bytesM (by first | omega | decide) ?_))
      refine .inl ⟨Nat, fun _ => ⟨[.a (.c (.p 2 0 0)), .a (.c (.w64 (last))), .any, .any, .a (.c (.p 3 0 0)), .a (.c (.p 4 0 0)), .any, .a (.c (.p 5 0 0)), .any, .any, .any, .any, .any, .any, .any, .any, .any, .any, .any, .any, .any, .any, .any, .any, .any, .any, .any, .any, .any, .any, .any, .any, .any, .any, .any, .any, .any, .any, .any, .any, .any, .any, .a (.c (.int .i64 (0))), .a (.c (.int .i64 (0))), .any, .any, .any, .any, .any, .any, .any, .any, .any, .any, .any, .any, .any, .any, .any, .any, .any, .any, .any, .any, .any, .any, .any, .any, .any], [[.past W ms], svB A, rdCi 1 s3, [.one (.w8 0#8), .one (.w64 0#64), .one (.slc none 0 0), .one (.slc none 0 0)], [.one (.w8 kk), .one (.w64 t), .one (.slc none 0 0), .one (.slc none 0 0)], [.one (.str (evName kk)), .one .any, .one (.bool false)]]⟩, fun _ => True, fun _ => 0, ⟨0, [0, 1, 2, 3, 4, 6], ⟨⟨rfl, rfl, rfl⟩, ?_⟩, trivial⟩, fun i _ => ?_⟩
      · (repeat first | exact trivial | refine ent1 ?_)
        refine eqC_bts ?_
        (repeat first | exact trivial | refine ent1 ?_)
      refine And.intro (fun h => absurd (show (0 : Int) < (0 : Int) from of_decide_eq_true h) (by omega)) (fun _ => ?_)
      rw [take2_nil hnn, take3_no hnd] at hT1
      (repeat first | (refine And.intro ?_ ?_; first | exact rfl | ((exact fun h => absurd h (by first | decide)); intro yy; clear yy) | (rotate_left; (exact fun h => absurd h (by first | decide)); intro yy; clear yy) | decide | omega) | (with_reducible refine frc_bytesL (by first | omega | decide) ?_) | (with_reducible refine frc_bytesM (by first | omega | decide) ?_))
      refine finW_frz [0, 1, 2] rfl (Nat.zero_lt_succ 1) cx0_m rfl (fun W' ms' α hL hI => ?_)
      refine ⟨.a (.agg (evS ⟨kk, t, [], []⟩ ⟨none, 0, 0, none, 0, 0⟩)), [svB A, rdCi 1 s3], ⟨⟨rfl, rfl, rfl⟩, ?_⟩, ⟨kk, t, [], []⟩, ⟨none, 0, 0, none, 0, 0⟩, s3, l3, e3, W', ms', hT1, hr3, hL, ⟨SlAt.nul, SlAt.nul⟩, rfl, rfl⟩
      (repeat first | exact trivial | refine ent1 ?_)
      refine eqC_btsZ ?_
      (repeat first | exact trivial | refine ent1 ?_)
  · rw [hok] at hT0
    have hT1 : takeE l e last = take1 kk last (l1, e1) := hT0
    (repeat first | (refine And.intro ?_ ?_; first | exact rfl | ((exact fun h => absurd h (by first | decide)); intro yy; clear yy) | (rotate_left; (exact fun h => absurd h (by first | decide)); intro yy; clear yy) | decide | omega) | (with_reducible refine frc_bytesL (by first | omega | decide) ?_) | (with_reducible refine frc_bytesM (by first | omega | decide) ?_))
    refine call_same (fn_rleast A s1 hr1) [1, 2] rfl (by (repeat first | exact trivial | refine ent1 ?_)) (eqC_bts (by (repeat first | exact trivial | refine ent1 ?_))) (fun _ _ => trivial) ?_
    rintro x hs ⟨n, s3, l3, e3, hx3, hr3, rfl, rfl⟩
    rw [take1_eq hx3] at hT1
    generalize ht : last + n = t at hT1
    by_cases h2 : 1125899906842624#64 < t
    · have k2 : decide (1125899906842624#64 < t) = true := decide_eq_true h2
      rw [k2] at hT1
      rw [← ht] at k2
      (repeat first | (refine And.intro ?_ ?_; first | exact rfl | ((exact fun h => absurd h (by first | decide | (rw [k2]; decide))); intro yy; clear yy) | (rotate_left; (exact fun h => absurd h (by first | decide | (rw [k2]; decide))); intro yy; clear yy) | decide | omega) | (with_reducible refine frc_bytesL (by first | omega | decide) ?_) | (with_reducible refine frc_bytesM (by first | omega | decide) ?_))
      rw [ht]
      refine call_same (fn_rfail A s3 21 hr3) [1, 2] rfl (by (repeat first | exact trivial | refine ent1 ?_)) (eqC_bts (by (repeat first | exact trivial | refine ent1 ?_))) (fun _ _ => trivial) ?_
      rintro x hs ⟨s4, l4, e4, hf4, hr4, rfl, rfl⟩
      rw [show failIf true 21 (l3, e3) = (l4, e4) from hf4] at hT1
      (repeat first | (refine And.intro ?_ ?_; first | exact rfl | ((exact fun h => absurd h (by first | decide)); intro yy; clear yy) | (rotate_left; (exact fun h => absurd h (by first | decide)); intro yy; clear yy) | decide | omega) | (with_reducible refine frc_bytesL (by first | omega | decide) ?_) | (with_reducible refine frc_bytesM (by first | omega | decide) ?_))
      refine .inl ⟨Option (List (BitVec 64) × Nat × RS × Bs × Int), fun x => match x with
        | none => ⟨[.a (.c (.p 2 0 0)), .a (.c (.w64 (last))), .any, .any, .a (.c (.p 3 0 0)), .a (.c (.p 4 0 0)), .any, .a (.c (.p 5 0 0)), .any, .any, .any, .any, .any, .any, .any, .any, .any, .any, .any, .any, .any, .any, .any, .any, .any, .any, .any, .any, .any, .any, .any, .any, .any, .any, .any, .any, .any, .any, .any, .any, .any, .any, .a (.c (.int .i64 (↑(evNames kk).length))), .a (.c (.int .i64 (0))), .any, .any, .any, .any, .any, .any, .any, .any, .any, .any, .any, .any, .any, .any, .any, .any, .any, .any, .any, .any, .any, .any, .any, .any, .any], [[.past W ms], svB A, rdCi 1 s4, [.one (.w8 0#8), .one (.w64 0#64), .one (.slc none 0 0), .one (.slc none 0 0)], [.one (.w8 kk), .one (.w64 t), .one (.slc none 0 0), .one (.slc none 0 0)], [.one (.str (evName kk)), .one .any, .one (.bool (evData kk))]]⟩
        | some (P, c, s5, l5, e5) => ⟨[.a (.c (.p 2 0 0)), .a (.c (.w64 (last))), .any, .any, .a (.c (.p 3 0 0)), .a (.c (.p 4 0 0)), .any, .a (.c (.p 5 0 0)), .any, .any, .any, .any, .any, .any, .any, .any, .any, .any, .any, .any, .any, .any, .any, .any, .any, .any, .any, .any, .any, .any, .any, .any, .any, .any, .any, .any, .any, .any, .any, .any, .any, .any, .a (.c (.int .i64 (↑(evNames kk).length))), .a (.c (.int .i64 (↑P.length))), .any, .any, .any, .any, .any, .any, .any, .any, .any, .any, .any, .any, .any, .any, .any, .any, .any, .any, .any, .any, .any, .any, .any, .any, .any], [[.past W ms], svB A, rdCi 1 s5, [.one (.w8 0#8), .one (.w64 0#64), .one (.slc none 0 0), .one (.slc none 0 0)], [.one (.w8 kk), .one (.w64 t), .one (.sl 6 0 0 P.length c), .one (.slc none 0 0)], [.one (.str (evName kk)), .one .any, .one (.bool (evData kk))], [.row (scale c (0 + 1)) (numsF P)]]⟩,
        fun x => match x with
        | none => True
        | some (P, c, s5, l5, e5) => P.length ≤ c ∧ P.length ≤ (evNames kk).length ∧ RdI A s5 l5 e5 ∧ takeE l e last = take3 kk t (P ++ (numsR ((evNames kk).length - P.length) l5 e5).1) (numsR ((evNames kk).length - P.length) l5 e5).2,
        fun x => match x with
        | none => (evNames kk).length + 1
        | some (P, _, _, _, _) => (evNames kk).length - P.length, ⟨none, [0, 1, 2, 3, 4, 6], ⟨⟨rfl, rfl, rfl⟩, ?_⟩, trivial⟩, fun x hp => ?_⟩
      · (repeat first | exact trivial | refine ent1 ?_)
        refine eqC_bts ?_
        (repeat first | exact trivial | refine ent1 ?_)
      have hm8 := many_le kk
      rcases x with _ | ⟨P, c, s5, l5, e5⟩
      · refine And.intro (fun hlt => ?_) (fun hge => ?_)
        · have hlt : 0 < (evNames kk).length := by have : (0 : Int) < ((evNames kk).length : Int) := of_decide_eq_true hlt; omega
          (repeat first | (refine And.intro ?_ ?_; first | exact rfl | ((exact fun h => absurd h (by first | decide)); intro yy; clear yy) | (rotate_left; (exact fun h => absurd h (by first | decide)); intro yy; clear yy) | decide | omega) | (with_reducible refine frc_bytesL (by first | omega | decide) ?_) | (with_reducible refine frc_bytesM (by first | omega | decide) ?_))
          refine ⟨some [4], [], [(0, true), (1, true), (2, true), (3, false), (4, false)], [5, 6, 7], by kernel_rfl, ?_⟩
          (repeat first | (refine And.intro ?_ ?_; first | exact rfl | ((exact fun h => absurd h (by first | decide)); intro yy; clear yy) | (rotate_left; (exact fun h => absurd h (by first | decide)); intro yy; clear yy) | decide | omega) | (with_reducible refine frc_bytesL (by first | omega | decide) ?_) | (with_reducible refine frc_bytesM (by first | omega | decide) ?_))
          refine call_same (fn_rleast A s4 hr4) [1, 2] rfl (by (repeat first | exact trivial | refine ent1 ?_)) (eqC_bts (by (repeat first | exact trivial | refine ent1 ?_))) (fun _ _ => trivial) ?_
          rintro x hs ⟨n5, s5, l5, e5, hx5, hr5, rfl, rfl⟩
          (repeat first | (refine And.intro ?_ ?_; first | exact rfl | ((exact fun h => absurd h (by first | decide)); intro yy; clear yy) | (rotate_left; (exact fun h => absurd h (by first | decide)); intro yy; clear yy) | decide | omega) | (with_reducible refine frc_bytesL (by first | omega | decide) ?_) | (with_reducible refine frc_bytesM (by first | omega | decide) ?_))
          intro c' hc'
          (repeat first | (refine And.intro ?_ ?_; first | exact rfl | ((exact fun h => absurd h (by first | decide)); intro yy; clear yy) | (rotate_left; (exact fun h => absurd h (by first | decide)); intro yy; clear yy) | decide | omega) | (with_reducible refine frc_bytesL (by first | omega | decide) ?_) | (with_reducible refine frc_bytesM (by first | omega | decide) ?_))
          have hst := numsR_step (P := []) hlt hx5
          refine ⟨some ([n5], c', s5, l5, e5), [0, 1, 2, 3, 4, 5, 7], ⟨⟨rfl, rfl, rfl⟩, ?_⟩, ⟨hc', hlt, hr5, by rw [hT1]; unfold take2; exact congr (congrArg (take3 kk t) hst.1) hst.2⟩, by dsimp only [List.length_singleton]; omega⟩
          (repeat first | exact trivial | refine ent1 ?_)
          refine eqC_bts ?_
          (repeat first | exact trivial | refine ent1 ?_)
          exact ⟨fun j hj => eqC_nums (new_nums rfl) j, by (repeat first | exact trivial | refine ent1 ?_)⟩
        · have hz : evNames kk = [] := List.eq_nil_of_length_eq_zero (by have : ¬ (0 : Int) < ((evNames kk).length : Int) := of_decide_eq_false hge; omega)
          rw [take2_nil hz] at hT1
          (repeat first | (refine And.intro ?_ ?_; first | exact rfl | ((exact fun h => absurd h (by first | decide)); intro yy; clear yy) | (rotate_left; (exact fun h => absurd h (by first | decide)); intro yy; clear yy) | decide | omega) | (with_reducible refine frc_bytesL (by first | omega | decide) ?_) | (with_reducible refine frc_bytesM (by first | omega | decide) ?_))
          cases hdt : evData kk
          · (repeat first | (refine And.intro ?_ ?_; first | exact rfl | ((exact fun h => absurd h (by first | decide)); intro yy; clear yy) | (rotate_left; (exact fun h => absurd h (by first | decide)); intro yy; clear yy) | decide | omega) | (with_reducible refine frc_bytesL (by first | omega | decide) ?_) | (with_reducible refine frc_bytesM (by first | omega | decide) ?_))
            rw [take3_no hdt] at hT1
            refine finW_frz [0, 1, 2] rfl (Nat.zero_lt_succ 1) cx0_m rfl (fun W' ms' α hL hI => ?_)
            refine ⟨.a (.agg (evS ⟨kk, t, [], []⟩ ⟨none, 0, 0, none, 0, 0⟩)), [svB A, rdCi 1 s4], ⟨⟨rfl, rfl, rfl⟩, ?_⟩, ⟨kk, t, [], []⟩, ⟨none, 0, 0, none, 0, 0⟩, s4, l4, e4, W', ms', hT1, hr4, hL, ⟨SlAt.nul, SlAt.nul⟩, rfl, rfl⟩
            (repeat first | exact trivial | refine ent1 ?_)
            refine eqC_btsZ ?_
            (repeat first | exact trivial | refine ent1 ?_)
          · (repeat first | (refine And.intro ?_ ?_; first | exact rfl | ((exact fun h => absurd h (by first | decide)); intro yy; clear yy) | (rotate_left; (exact fun h => absurd h (by first | decide)); intro yy; clear yy) | decide | omega) | (with_reducible refine frc_bytesL (by first | omega | decide) ?_) | (with_reducible refine frc_bytesM (by first | omega | decide) ?_))
            refine call_same (fn_rleast A s4 hr4) [1, 2] rfl (by (repeat first | exact trivial | refine ent1 ?_)) (eqC_bts (by (repeat first | exact trivial | refine ent1 ?_))) (fun _ _ => trivial) ?_
            rintro x hs ⟨m, s6, l6, e6, hx6, hr6, rfl, rfl⟩
            by_cases h3 : 20#64 < m
            · have k3 : decide (20#64 < m) = true := decide_eq_true h3
              (repeat first | (refine And.intro ?_ ?_; first | exact rfl | ((exact fun h => absurd h (by first | decide | (rw [k3]; decide))); intro yy; clear yy) | (rotate_left; (exact fun h => absurd h (by first | decide | (rw [k3]; decide))); intro yy; clear yy) | decide | omega) | (with_reducible refine frc_bytesL (by first | omega | decide) ?_) | (with_reducible refine frc_bytesM (by first | omega | decide) ?_))
              refine call_same (fn_rfail A s6 4 hr6) [1, 2] rfl (by (repeat first | exact trivial | refine ent1 ?_)) (eqC_bts (by (repeat first | exact trivial | refine ent1 ?_))) (fun _ _ => trivial) ?_
              rintro x hs ⟨s7, l7, e7, hf7, hr7, rfl, rfl⟩
              (repeat first | (refine And.intro ?_ ?_; first | exact rfl | ((exact fun h => absurd h (by first | decide)); intro yy; clear yy) | (rotate_left; (exact fun h => absurd h (by first | decide)); intro yy; clear yy) | decide | omega) | (with_reducible refine frc_bytesL (by first | omega | decide) ?_) | (with_reducible refine frc_bytesM (by first | omega | decide) ?_))
              refine And.intro (Nat.le_trans (min20_le m) (by decide)) ?_
              (repeat first | (refine And.intro ?_ ?_; first | exact rfl | ((exact fun h => absurd h (by first | decide)); intro yy; clear yy) | (rotate_left; (exact fun h => absurd h (by first | decide)); intro yy; clear yy) | decide | omega) | (with_reducible refine frc_bytesL (by first | omega | decide) ?_) | (with_reducible refine frc_bytesM (by first | omega | decide) ?_))
              refine call_same (fn_rbytes A s7 (manyL m) hr7) [1, 2] rfl (by (repeat first | exact trivial | refine ent1 ?_)) (eqC_bts (by (repeat first | exact trivial | refine ent1 ?_))) (fun _ _ => trivial) ?_
              rintro x hs ⟨D, s8, l8, e8, hx8, hr8, hD, rfl, rfl⟩
              have hd : data1 m (failIf (decide (20#64 < m)) 4 (l6, e6)) = (D.l, l8, e8) := by rw [k3]; show data1 m (failM l6 e6 4) = _; rw [hf7]; exact hx8
              rw [take3_ok hdt hx6 hd] at hT1
              rcases Bool.eq_false_or_eq_true D.z with hz | hz
              · have hD0 := hD.nil hz
                (repeat first | (refine And.intro ?_ ?_; first | exact rfl | ((exact fun h => absurd h (by first | decide)); intro yy; clear yy) | (rotate_left; (exact fun h => absurd h (by first | decide)); intro yy; clear yy) | decide | omega) | (with_reducible refine frc_bytesL (by first | omega | decide) ?_) | (with_reducible refine frc_bytesM (by first | omega | decide) ?_))
                refine call_same (fn_bclone_nil D hz) [6] rfl (by (repeat first | exact trivial | refine ent1 ?_)) ?_ (fun _ _ => trivial) ?_
                · refine eqC_btsM ?_
                  (repeat first | exact trivial | refine ent1 ?_)
                rintro x hs ⟨rfl, rfl⟩
                (repeat first | (refine And.intro ?_ ?_; first | exact rfl | ((exact fun h => absurd h (by first | decide)); intro yy; clear yy) | (rotate_left; (exact fun h => absurd h (by first | decide)); intro yy; clear yy) | decide | omega) | (with_reducible refine frc_bytesL (by first | omega | decide) ?_) | (with_reducible refine frc_bytesM (by first | omega | decide) ?_))
                rw [hD0] at hT1
                refine finW_frz [0, 1, 2] rfl (Nat.zero_lt_succ 1) cx0_m rfl (fun W' ms' α hL hI => ?_)
                refine ⟨.a (.agg (evS ⟨kk, t, [], []⟩ ⟨none, 0, 0, none, 0, 0⟩)), [svB A, rdCi 1 s8], ⟨⟨rfl, rfl, rfl⟩, ?_⟩, ⟨kk, t, [], []⟩, ⟨none, 0, 0, none, 0, 0⟩, s8, l8, e8, W', ms', hT1, hr8, hL, ⟨SlAt.nul, SlAt.nul⟩, rfl, rfl⟩
                (repeat first | exact trivial | refine ent1 ?_)
                refine eqC_btsZ ?_
                (repeat first | exact trivial | refine ent1 ?_)
              · (repeat first | (refine And.intro ?_ ?_; first | exact rfl | ((exact fun h => absurd h (by first | decide)); intro yy; clear yy) | (rotate_left; (exact fun h => absurd h (by first | decide)); intro yy; clear yy) | decide | omega) | (with_reducible refine frc_bytesL (by first | omega | decide) ?_) | (with_reducible refine frc_bytesM (by first | omega | decide) ?_))
                refine call_same (fn_bclone_row D hD hz) [6] rfl (by (repeat first | exact trivial | refine ent1 ?_)) ?_ (fun _ _ => trivial) ?_
                · refine eqC_btsM ?_
                  (repeat first | exact trivial | refine ent1 ?_)
                rintro x hs ⟨c8, hc8, rfl, rfl⟩
                have hDs := hD.small
                (repeat first | (refine And.intro ?_ ?_; first | exact rfl | ((exact fun h => absurd h (by first | decide)); intro yy; clear yy) | (rotate_left; (exact fun h => absurd h (by first | decide)); intro yy; clear yy) | decide | omega) | (with_reducible refine frc_bytesL (by first | omega | decide) ?_) | (with_reducible refine frc_bytesM (by first | omega | decide) ?_))
                refine finW_frz [0, 1, 2] rfl (Nat.zero_lt_succ 1) cx0_m rfl (fun W' ms' α hL hI => ?_)
                refine ⟨.a (.agg (evS ⟨kk, t, [], D.l⟩ ⟨none, 0, 0, some ((α 7).add (0 + 0)), D.l.length, c8⟩)), [svB A, rdCi 1 s8], ⟨⟨rfl, rfl, rfl⟩, ?_⟩, ⟨kk, t, [], D.l⟩, ⟨none, 0, 0, some ((α 7).add (0 + 0)), D.l.length, c8⟩, s8, l8, e8, W', ms', hT1, hr8, hL, ⟨SlAt.nul, SlAt.frz (F := fun j => !memB j [0, 1, 2]) (hI 7 rfl) rfl hc8 (show D.l.length ≤ 9223372036854775807 by omega) (by decide) (by rw [List.length_map, Nat.mul_one]) bytes_finM (rz_w8 _)⟩, rfl, rfl⟩
                (repeat first | exact trivial | refine ent1 ?_)
                refine eqC_btsZ ?_
                (repeat first | exact trivial | refine ent1 ?_)
            · have k3 : decide (20#64 < m) = false := decide_eq_false h3
              (repeat first | (refine And.intro ?_ ?_; first | exact rfl | ((exact fun h => absurd h (by first | decide | (rw [k3]; decide))); intro yy; clear yy) | (rotate_left; (exact fun h => absurd h (by first | decide | (rw [k3]; decide))); intro yy; clear yy) | decide | omega) | (with_reducible refine frc_bytesL (by first | omega | decide) ?_) | (with_reducible refine frc_bytesM (by first | omega | decide) ?_))
              refine And.intro (Nat.le_trans (min20_le m) (by decide)) ?_
              (repeat first | (refine And.intro ?_ ?_; first | exact rfl | ((exact fun h => absurd h (by first | decide)); intro yy; clear yy) | (rotate_left; (exact fun h => absurd h (by first | decide)); intro yy; clear yy) | decide | omega) | (with_reducible refine frc_bytesL (by first | omega | decide) ?_) | (with_reducible refine frc_bytesM (by first | omega | decide) ?_))
              refine call_same (fn_rbytes A s6 (manyL m) hr6) [1, 2] rfl (by (repeat first | exact trivial | refine ent1 ?_)) (eqC_bts (by (repeat first | exact trivial | refine ent1 ?_))) (fun _ _ => trivial) ?_
              rintro x hs ⟨D, s8, l8, e8, hx8, hr8, hD, rfl, rfl⟩
              have hd : data1 m (failIf (decide (20#64 < m)) 4 (l6, e6)) = (D.l, l8, e8) := by rw [k3]; exact hx8
              rw [take3_ok hdt hx6 hd] at hT1
              rcases Bool.eq_false_or_eq_true D.z with hz | hz
              · have hD0 := hD.nil hz
                (repeat first | (refine And.intro ?_ ?_; first | exact rfl | ((exact fun h => absurd h (by first | decide)); intro yy; clear yy) | (rotate_left; (exact fun h => absurd h (by first | decide)); intro yy; clear yy) | decide | omega) | (with_reducible refine frc_bytesL (by first | omega | decide) ?_) | (with_reducible refine frc_bytesM (by first | omega | decide) ?_))
                refine call_same (fn_bclone_nil D hz) [6] rfl (by (repeat first | exact trivial | refine ent1 ?_)) ?_ (fun _ _ => trivial) ?_
                · refine eqC_btsM ?_
                  (repeat first | exact trivial | refine ent1 ?_)
                rintro x hs ⟨rfl, rfl⟩
                (repeat first | (refine And.intro ?_ ?_; first | exact rfl | ((exact fun h => absurd h (by first | decide)); intro yy; clear yy) | (rotate_left; (exact fun h => absurd h (by first | decide)); intro yy; clear yy) | decide | omega) | (with_reducible refine frc_bytesL (by first | omega | decide) ?_) | (with_reducible refine frc_bytesM (by first | omega | decide) ?_))
                rw [hD0] at hT1
                refine finW_frz [0, 1, 2] rfl (Nat.zero_lt_succ 1) cx0_m rfl (fun W' ms' α hL hI => ?_)
                refine ⟨.a (.agg (evS ⟨kk, t, [], []⟩ ⟨none, 0, 0, none, 0, 0⟩)), [svB A, rdCi 1 s8], ⟨⟨rfl, rfl, rfl⟩, ?_⟩, ⟨kk, t, [], []⟩, ⟨none, 0, 0, none, 0, 0⟩, s8, l8, e8, W', ms', hT1, hr8, hL, ⟨SlAt.nul, SlAt.nul⟩, rfl, rfl⟩
                (repeat first | exact trivial | refine ent1 ?_)
                refine eqC_btsZ ?_
                (repeat first | exact trivial | refine ent1 ?_)
              · (repeat first | (refine And.intro ?_ ?_; first | exact rfl | ((exact fun h => absurd h (by first | decide)); intro yy; clear yy) | (rotate_left; (exact fun h => absurd h (by first | decide)); intro yy; clear yy) | decide | omega) | (with_reducible refine frc_bytesL (by first | omega | decide) ?_) | (with_reducible refine frc_bytesM (by first | omega | decide) ?_))
                refine call_same (fn_bclone_row D hD hz) [6] rfl (by (repeat first | exact trivial | refine ent1 ?_)) ?_ (fun _ _ => trivial) ?_
                · refine eqC_btsM ?_
                  (repeat first | exact trivial | refine ent1 ?_)
                rintro x hs ⟨c8, hc8, rfl, rfl⟩
                have hDs := hD.small
                (repeat first | (refine And.intro ?_ ?_; first | exact rfl | ((exact fun h => absurd h (by first | decide)); intro yy; clear yy) | (rotate_left; (exact fun h => absurd h (by first | decide)); intro yy; clear yy) | decide | omega) | (with_reducible refine frc_bytesL (by first | omega | decide) ?_) | (with_reducible refine frc_bytesM (by first | omega | decide) ?_))
                refine finW_frz [0, 1, 2] rfl (Nat.zero_lt_succ 1) cx0_m rfl (fun W' ms' α hL hI => ?_)
                refine ⟨.a (.agg (evS ⟨kk, t, [], D.l⟩ ⟨none, 0, 0, some ((α 7).add (0 + 0)), D.l.length, c8⟩)), [svB A, rdCi 1 s8], ⟨⟨rfl, rfl, rfl⟩, ?_⟩, ⟨kk, t, [], D.l⟩, ⟨none, 0, 0, some ((α 7).add (0 + 0)), D.l.length, c8⟩, s8, l8, e8, W', ms', hT1, hr8, hL, ⟨SlAt.nul, SlAt.frz (F := fun j => !memB j [0, 1, 2]) (hI 7 rfl) rfl hc8 (show D.l.length ≤ 9223372036854775807 by omega) (by decide) (by rw [List.length_map, Nat.mul_one]) bytes_finM (rz_w8 _)⟩, rfl, rfl⟩
                (repeat first | exact trivial | refine ent1 ?_)
                refine eqC_btsZ ?_
                (repeat first | exact trivial | refine ent1 ?_)
      · obtain ⟨g1, g2, hr5, hT5⟩ := hp
        clear hT1
        refine And.intro (fun hlt => ?_) (fun hge => ?_)
        · have hlt : P.length < (evNames kk).length := by have : (P.length : Int) < ((evNames kk).length : Int) := of_decide_eq_true hlt; omega
          (repeat first | (refine And.intro ?_ ?_; first | exact rfl | ((exact fun h => absurd h (by first | decide)); intro yy; clear yy) | (rotate_left; (exact fun h => absurd h (by first | decide)); intro yy; clear yy) | decide | omega) | (with_reducible refine frc_bytesL (by first | omega | decide) ?_) | (with_reducible refine frc_bytesM (by first | omega | decide) ?_))
          refine ⟨some [4], [], [(0, true), (1, true), (2, true), (3, false), (4, false)], [5, 6, 7], by kernel_rfl, ?_⟩
          (repeat first | (refine And.intro ?_ ?_; first | exact rfl | ((exact fun h => absurd h (by first | decide)); intro yy; clear yy) | (rotate_left; (exact fun h => absurd h (by first | decide)); intro yy; clear yy) | decide | omega) | (with_reducible refine frc_bytesL (by first | omega | decide) ?_) | (with_reducible refine frc_bytesM (by first | omega | decide) ?_))
          refine call_same (fn_rleast A s5 hr5) [1, 2] rfl (by (repeat first | exact trivial | refine ent1 ?_)) (eqC_bts (by (repeat first | exact trivial | refine ent1 ?_))) (fun _ _ => trivial) ?_
          rintro x hs ⟨n6, s6, l6, e6, hx6, hr6, rfl, rfl⟩
          (repeat first | (refine And.intro ?_ ?_; first | exact rfl | ((exact fun h => absurd h (by first | decide)); intro yy; clear yy) | (rotate_left; (exact fun h => absurd h (by first | decide)); intro yy; clear yy) | decide | omega) | (with_reducible refine frc_bytesL (by first | omega | decide) ?_) | (with_reducible refine frc_bytesM (by first | omega | decide) ?_))
          refine And.intro ⟨g1, by first | omega | (simp only [scale_eq]; omega), show (P.length + 1) * 8 ≤ 140737488355328 by omega⟩ ?_
          intro c' hc'
          (repeat first | (refine And.intro ?_ ?_; first | exact rfl | ((exact fun h => absurd h (by first | decide)); intro yy; clear yy) | (rotate_left; (exact fun h => absurd h (by first | decide)); intro yy; clear yy) | decide | omega) | (with_reducible refine frc_bytesL (by first | omega | decide) ?_) | (with_reducible refine frc_bytesM (by first | omega | decide) ?_))
          have hst := numsR_step hlt hx6
          obtain ⟨Q, hQ⟩ : ∃ Q, Q = P ++ [n6] := ⟨_, rfl⟩
          have hQl : Q.length = P.length + 1 := by rw [hQ, List.length_append, List.length_singleton]
          rw [← hQ] at hst
          refine ⟨some (Q, c', s6, l6, e6), [0, 1, 2, 3, 4, 5, 8], ⟨⟨rfl, rfl, rfl⟩, ?_⟩, ⟨by rw [hQl]; exact hc', by rw [hQl]; omega, hr6, by rw [hT5]; exact congr (congrArg (take3 kk t) hst.1) hst.2⟩, by dsimp only; omega⟩
          (repeat first | exact trivial | refine ent1 ?_)
          refine eqC_bts ?_
          (repeat first | exact trivial | refine ent1 ?_)
          exact ⟨fun j hj => by rw [hQ]; exact eqC_nums (app_nums rfl (fun j x h => nums_get h) rfl) j, by (repeat first | exact trivial | refine ent1 ?_)⟩
        · have hge : (evNames kk).length - P.length = 0 := by have : ¬ (P.length : Int) < ((evNames kk).length : Int) := of_decide_eq_false hge; omega
          have hT1 : takeE l e last = take3 kk t P (l5, e5) := by rw [hT5, hge]; show take3 kk t (P ++ []) (l5, e5) = _; rw [List.append_nil]
          clear hT5
          (repeat first | (refine And.intro ?_ ?_; first | exact rfl | ((exact fun h => absurd h (by first | decide)); intro yy; clear yy) | (rotate_left; (exact fun h => absurd h (by first | decide)); intro yy; clear yy) | decide | omega) | (with_reducible refine frc_bytesL (by first | omega | decide) ?_) | (with_reducible refine frc_bytesM (by first | omega | decide) ?_))
          cases hdt : evData kk
          · (repeat first | (refine And.intro ?_ ?_; first | exact rfl | ((exact fun h => absurd h (by first | decide)); intro yy; clear yy) | (rotate_left; (exact fun h => absurd h (by first | decide)); intro yy; clear yy) | decide | omega) | (with_reducible refine frc_bytesL (by first | omega | decide) ?_) | (with_reducible refine frc_bytesM (by first | omega | decide) ?_))
            rw [take3_no hdt] at hT1
            refine finW_frz [0, 1, 2] rfl (Nat.zero_lt_succ 1) cx0_m rfl (fun W' ms' α hL hI => ?_)
            refine ⟨.a (.agg (evS ⟨kk, t, P, []⟩ ⟨some ((α 6).add (0 + 0)), P.length, c, none, 0, 0⟩)), [svB A, rdCi 1 s5], ⟨⟨rfl, rfl, rfl⟩, ?_⟩, ⟨kk, t, P, []⟩, ⟨some ((α 6).add (0 + 0)), P.length, c, none, 0, 0⟩, s5, l5, e5, W', ms', hT1, hr5, hL, ⟨SlAt.frz (F := fun j => !memB j [0, 1, 2]) (hI 6 rfl) rfl g1 (show P.length ≤ 9223372036854775807 by omega) (by decide) (by rw [List.length_map, Nat.mul_one]) nums_fin (rz_w64 _), SlAt.nul⟩, rfl, rfl⟩
            (repeat first | exact trivial | refine ent1 ?_)
            refine eqC_btsZ ?_
            (repeat first | exact trivial | refine ent1 ?_)
          · (repeat first | (refine And.intro ?_ ?_; first | exact rfl | ((exact fun h => absurd h (by first | decide)); intro yy; clear yy) | (rotate_left; (exact fun h => absurd h (by first | decide)); intro yy; clear yy) | decide | omega) | (with_reducible refine frc_bytesL (by first | omega | decide) ?_) | (with_reducible refine frc_bytesM (by first | omega | decide) ?_))
            refine call_same (fn_rleast A s5 hr5) [1, 2] rfl (by (repeat first | exact trivial | refine ent1 ?_)) (eqC_bts (by (repeat first | exact trivial | refine ent1 ?_))) (fun _ _ => trivial) ?_
            rintro x hs ⟨m, s6, l6, e6, hx6, hr6, rfl, rfl⟩
            by_cases h3 : 20#64 < m
            · have k3 : decide (20#64 < m) = true := decide_eq_true h3
              (repeat first | (refine And.intro ?_ ?_; first | exact rfl | ((exact fun h => absurd h (by first | decide | (rw [k3]; decide))); intro yy; clear yy) | (rotate_left; (exact fun h => absurd h (by first | decide | (rw [k3]; decide))); intro yy; clear yy) | decide | omega) | (with_reducible refine frc_bytesL (by first | omega | decide) ?_) | (with_reducible refine frc_bytesM (by first | omega | decide) ?_))
              refine call_same (fn_rfail A s6 4 hr6) [1, 2] rfl (by (repeat first | exact trivial | refine ent1 ?_)) (eqC_bts (by (repeat first | exact trivial | refine ent1 ?_))) (fun _ _ => trivial) ?_
              rintro x hs ⟨s7, l7, e7, hf7, hr7, rfl, rfl⟩
              (repeat first | (refine And.intro ?_ ?_; first | exact rfl | ((exact fun h => absurd h (by first | decide)); intro yy; clear yy) | (rotate_left; (exact fun h => absurd h (by first | decide)); intro yy; clear yy) | decide | omega) | (with_reducible refine frc_bytesL (by first | omega | decide) ?_) | (with_reducible refine frc_bytesM (by first | omega | decide) ?_))
              refine And.intro (Nat.le_trans (min20_le m) (by decide)) ?_
              (repeat first | (refine And.intro ?_ ?_; first | exact rfl | ((exact fun h => absurd h (by first | decide)); intro yy; clear yy) | (rotate_left; (exact fun h => absurd h (by first | decide)); intro yy; clear yy) | decide | omega) | (with_reducible refine frc_bytesL (by first | omega | decide) ?_) | (with_reducible refine frc_bytesM (by first | omega | decide) ?_))
              refine call_same (fn_rbytes A s7 (manyL m) hr7) [1, 2] rfl (by (repeat first | exact trivial | refine ent1 ?_)) (eqC_bts (by (repeat first | exact trivial | refine ent1 ?_))) (fun _ _ => trivial) ?_
              rintro x hs ⟨D, s8, l8, e8, hx8, hr8, hD, rfl, rfl⟩
              have hd : data1 m (failIf (decide (20#64 < m)) 4 (l6, e6)) = (D.l, l8, e8) := by rw [k3]; show data1 m (failM l6 e6 4) = _; rw [hf7]; exact hx8
              rw [take3_ok hdt hx6 hd] at hT1
              rcases Bool.eq_false_or_eq_true D.z with hz | hz
              · have hD0 := hD.nil hz
                (repeat first | (refine And.intro ?_ ?_; first | exact rfl | ((exact fun h => absurd h (by first | decide)); intro yy; clear yy) | (rotate_left; (exact fun h => absurd h (by first | decide)); intro yy; clear yy) | decide | omega) | (with_reducible refine frc_bytesL (by first | omega | decide) ?_) | (with_reducible refine frc_bytesM (by first | omega | decide) ?_))
                refine call_same (fn_bclone_nil D hz) [7] rfl (by (repeat first | exact trivial | refine ent1 ?_)) ?_ (fun _ _ => trivial) ?_
                · refine eqC_btsM ?_
                  (repeat first | exact trivial | refine ent1 ?_)
                rintro x hs ⟨rfl, rfl⟩
                (repeat first | (refine And.intro ?_ ?_; first | exact rfl | ((exact fun h => absurd h (by first | decide)); intro yy; clear yy) | (rotate_left; (exact fun h => absurd h (by first | decide)); intro yy; clear yy) | decide | omega) | (with_reducible refine frc_bytesL (by first | omega | decide) ?_) | (with_reducible refine frc_bytesM (by first | omega | decide) ?_))
                rw [hD0] at hT1
                refine finW_frz [0, 1, 2] rfl (Nat.zero_lt_succ 1) cx0_m rfl (fun W' ms' α hL hI => ?_)
                refine ⟨.a (.agg (evS ⟨kk, t, P, []⟩ ⟨some ((α 6).add (0 + 0)), P.length, c, none, 0, 0⟩)), [svB A, rdCi 1 s8], ⟨⟨rfl, rfl, rfl⟩, ?_⟩, ⟨kk, t, P, []⟩, ⟨some ((α 6).add (0 + 0)), P.length, c, none, 0, 0⟩, s8, l8, e8, W', ms', hT1, hr8, hL, ⟨SlAt.frz (F := fun j => !memB j [0, 1, 2]) (hI 6 rfl) rfl g1 (show P.length ≤ 9223372036854775807 by omega) (by decide) (by rw [List.length_map, Nat.mul_one]) nums_fin (rz_w64 _), SlAt.nul⟩, rfl, rfl⟩
                (repeat first | exact trivial | refine ent1 ?_)
                refine eqC_btsZ ?_
                (repeat first | exact trivial | refine ent1 ?_)
              · (repeat first | (refine And.intro ?_ ?_; first | exact rfl | ((exact fun h => absurd h (by first | decide)); intro yy; clear yy) | (rotate_left; (exact fun h => absurd h (by first | decide)); intro yy; clear yy) | decide | omega) | (with_reducible refine frc_bytesL (by first | omega | decide) ?_) | (with_reducible refine frc_bytesM (by first | omega | decide) ?_))
                refine call_same (fn_bclone_row D hD hz) [7] rfl (by (repeat first | exact trivial | refine ent1 ?_)) ?_ (fun _ _ => trivial) ?_
                · refine eqC_btsM ?_
                  (repeat first | exact trivial | refine ent1 ?_)
                rintro x hs ⟨c8, hc8, rfl, rfl⟩
                have hDs := hD.small
                (repeat first | (refine And.intro ?_ ?_; first | exact rfl | ((exact fun h => absurd h (by first | decide)); intro yy; clear yy) | (rotate_left; (exact fun h => absurd h (by first | decide)); intro yy; clear yy) | decide | omega) | (with_reducible refine frc_bytesL (by first | omega | decide) ?_) | (with_reducible refine frc_bytesM (by first | omega | decide) ?_))
                refine finW_frz [0, 1, 2] rfl (Nat.zero_lt_succ 1) cx0_m rfl (fun W' ms' α hL hI => ?_)
                refine ⟨.a (.agg (evS ⟨kk, t, P, D.l⟩ ⟨some ((α 6).add (0 + 0)), P.length, c, some ((α 8).add (0 + 0)), D.l.length, c8⟩)), [svB A, rdCi 1 s8], ⟨⟨rfl, rfl, rfl⟩, ?_⟩, ⟨kk, t, P, D.l⟩, ⟨some ((α 6).add (0 + 0)), P.length, c, some ((α 8).add (0 + 0)), D.l.length, c8⟩, s8, l8, e8, W', ms', hT1, hr8, hL, ⟨SlAt.frz (F := fun j => !memB j [0, 1, 2]) (hI 6 rfl) rfl g1 (show P.length ≤ 9223372036854775807 by omega) (by decide) (by rw [List.length_map, Nat.mul_one]) nums_fin (rz_w64 _), SlAt.frz (F := fun j => !memB j [0, 1, 2]) (hI 8 rfl) rfl hc8 (show D.l.length ≤ 9223372036854775807 by omega) (by decide) (by rw [List.length_map, Nat.mul_one]) bytes_finM (rz_w8 _)⟩, rfl, rfl⟩
                (repeat first | exact trivial | refine ent1 ?_)
                refine eqC_btsZ ?_
                (repeat first | exact trivial | refine ent1 ?_)
            · have k3 : decide (20#64 < m) = false := decide_eq_false h3
              (repeat first | (refine And.intro ?_ ?_; first | exact rfl | ((exact fun h => absurd h (by first | decide | (rw [k3]; decide))); intro yy; clear yy) | (rotate_left; (exact fun h => absurd h (by first | decide | (rw [k3]; decide))); intro yy; clear yy) | decide | omega) | (with_reducible refine frc_bytesL (by first | omega | decide) ?_) | (with_reducible refine frc_bytesM (by first | omega | decide) ?_))
              refine And.intro (Nat.le_trans (min20_le m) (by decide)) ?_
              (repeat first | (refine And.intro ?_ ?_; first | exact rfl | ((exact fun h => absurd h (by first | decide)); intro yy; clear yy) | (rotate_left; (exact fun h => absurd h (by first | decide)); intro yy; clear yy) | decide | omega) | (with_reducible refine frc_bytesL (by first | omega | decide) ?_) | (with_reducible refine frc_bytesM (by first | omega | decide) ?_))
              refine call_same (fn_rbytes A s6 (manyL m) hr6) [1, 2] rfl (by (repeat first | exact trivial | refine ent1 ?_)) (eqC_bts (by (repeat first | exact trivial | refine ent1 ?_))) (fun _ _ => trivial) ?_
              rintro x hs ⟨D, s8, l8, e8, hx8, hr8, hD, rfl, rfl⟩
              have hd : data1 m (failIf (decide (20#64 < m)) 4 (l6, e6)) = (D.l, l8, e8) := by rw [k3]; exact hx8
              rw [take3_ok hdt hx6 hd] at hT1
              rcases Bool.eq_false_or_eq_true D.z with hz | hz
              · have hD0 := hD.nil hz
                (repeat first | (refine And.intro ?_ ?_; first | exact rfl | ((exact fun h => absurd h (by first | decide)); intro yy; clear yy) | (rotate_left; (exact fun h => absurd h (by first | decide)); intro yy; clear yy) | decide | omega) | (with_reducible refine frc_bytesL (by first | omega | decide) ?_) | (with_reducible refine frc_bytesM (by first | omega | decide) ?_))
                refine call_same (fn_bclone_nil D hz) [7] rfl (by (repeat first | exact trivial | refine ent1 ?_)) ?_ (fun _ _ => trivial) ?_
                · refine eqC_btsM ?_
                  (repeat first | exact trivial | refine ent1 ?_)
                rintro x hs ⟨rfl, rfl⟩
                (repeat first | (refine And.intro ?_ ?_; first | exact rfl | ((exact fun h => absurd h (by first | decide)); intro yy; clear yy) | (rotate_left; (exact fun h => absurd h (by first | decide)); intro yy; clear yy) | decide | omega) | (with_reducible refine frc_bytesL (by first | omega | decide) ?_) | (with_reducible refine frc_bytesM (by first | omega | decide) ?_))
                rw [hD0] at hT1
                refine finW_frz [0, 1, 2] rfl (Nat.zero_lt_succ 1) cx0_m rfl (fun W' ms' α hL hI => ?_)
                refine ⟨.a (.agg (evS ⟨kk, t, P, []⟩ ⟨some ((α 6).add (0 + 0)), P.length, c, none, 0, 0⟩)), [svB A, rdCi 1 s8], ⟨⟨rfl, rfl, rfl⟩, ?_⟩, ⟨kk, t, P, []⟩, ⟨some ((α 6).add (0 + 0)), P.length, c, none, 0, 0⟩, s8, l8, e8, W', ms', hT1, hr8, hL, ⟨SlAt.frz (F := fun j => !memB j [0, 1, 2]) (hI 6 rfl) rfl g1 (show P.length ≤ 9223372036854775807 by omega) (by decide) (by rw [List.length_map, Nat.mul_one]) nums_fin (rz_w64 _), SlAt.nul⟩, rfl, rfl⟩
                (repeat first | exact trivial | refine ent1 ?_)
                refine eqC_btsZ ?_
                (repeat first | exact trivial | refine ent1 ?_)
              · (repeat first | (refine And.intro ?_ ?_; first | exact rfl | ((exact fun h => absurd h (by first | decide)); intro yy; clear yy) | (rotate_left; (exact fun h => absurd h (by first | decide)); intro yy; clear yy) | decide | omega) | (with_reducible refine frc_bytesL (by first | omega | decide) ?_) | (with_reducible refine frc_bytesM (by first | omega | decide) ?_))
                refine call_same (fn_bclone_row D hD hz) [7] rfl (by (repeat first | exact trivial | refine ent1 ?_)) ?_ (fun _ _ => trivial) ?_
                · refine eqC_btsM ?_
                  (repeat first | exact trivial | refine ent1 ?_)
                rintro x hs ⟨c8, hc8, rfl, rfl⟩
                have hDs := hD.small
                (repeat first | (refine And.intro ?_ ?_; first | exact rfl | ((exact fun h => absurd h (by first | decide)); intro yy; clear yy) | (rotate_left; (exact fun h => absurd h (by first | decide)); intro yy; clear yy) | decide | omega) | (with_reducible refine frc_bytesL (by first | omega | decide) ?_) | (with_reducible refine frc_bytesM (by first | omega | decide) ?_))
                refine finW_frz [0, 1, 2] rfl (Nat.zero_lt_succ 1) cx0_m rfl (fun W' ms' α hL hI => ?_)
                refine ⟨.a (.agg (evS ⟨kk, t, P, D.l⟩ ⟨some ((α 6).add (0 + 0)), P.length, c, some ((α 8).add (0 + 0)), D.l.length, c8⟩)), [svB A, rdCi 1 s8], ⟨⟨rfl, rfl, rfl⟩, ?_⟩, ⟨kk, t, P, D.l⟩, ⟨some ((α 6).add (0 + 0)), P.length, c, some ((α 8).add (0 + 0)), D.l.length, c8⟩, s8, l8, e8, W', ms', hT1, hr8, hL, ⟨SlAt.frz (F := fun j => !memB j [0, 1, 2]) (hI 6 rfl) rfl g1 (show P.length ≤ 9223372036854775807 by omega) (by decide) (by rw [List.length_map, Nat.mul_one]) nums_fin (rz_w64 _), SlAt.frz (F := fun j => !memB j [0, 1, 2]) (hI 8 rfl) rfl hc8 (show D.l.length ≤ 9223372036854775807 by omega) (by decide) (by rw [List.length_map, Nat.mul_one]) bytes_finM (rz_w8 _)⟩, rfl, rfl⟩
                (repeat first | exact trivial | refine ent1 ?_)
                refine eqC_btsZ ?_
                (repeat first | exact trivial | refine ent1 ?_)
    · have k2 : decide (1125899906842624#64 < t) = false := decide_eq_false h2
      rw [k2, show failIf false 21 (l3, e3) = (l3, e3) from rfl] at hT1
      rw [← ht] at k2
      (repeat first | (refine And.intro ?_ ?_; first | exact rfl | ((exact fun h => absurd h (by first | decide | (rw [k2]; decide))); intro yy; clear yy) | (rotate_left; (exact fun h => absurd h (by first | decide | (rw [k2]; decide))); intro yy; clear yy) | decide | omega) | (with_reducible refine frc_bytesL (by first | omega | decide) ?_) | (with_reducible refine frc_bytesM (by first | omega | decide) ?_))
      rw [ht]
      (repeat first | (refine And.intro ?_ ?_; first | exact rfl | ((exact fun h => absurd h (by first | decide)); intro yy; clear yy) | (rotate_left; (exact fun h => absurd h (by first | decide)); intro yy; clear yy) | decide | omega) | (with_reducible refine frc_bytesL (by first | omega | decide) ?_) | (with_reducible refine frc_bytesM (by first | omega | decide) ?_))
      refine .inl ⟨Option (List (BitVec 64) × Nat × RS × Bs × Int), fun x => match x with
        | none => ⟨[.a (.c (.p 2 0 0)), .a (.c (.w64 (last))), .any, .any, .a (.c (.p 3 0 0)), .a (.c (.p 4 0 0)), .any, .a (.c (.p 5 0 0)), .any, .any, .any, .any, .any, .any, .any, .any, .any, .any, .any, .any, .any, .any, .any, .any, .any, .any, .any, .any, .any, .any, .any, .any, .any, .any, .any, .any, .any, .any, .any, .any, .any, .any, .a (.c (.int .i64 (↑(evNames kk).length))), .a (.c (.int .i64 (0))), .any, .any, .any, .any, .any, .any, .any, .any, .any, .any, .any, .any, .any, .any, .any, .any, .any, .any, .any, .any, .any, .any, .any, .any, .any], [[.past W ms], svB A, rdCi 1 s3, [.one (.w8 0#8), .one (.w64 0#64), .one (.slc none 0 0), .one (.slc none 0 0)], [.one (.w8 kk), .one (.w64 t), .one (.slc none 0 0), .one (.slc none 0 0)], [.one (.str (evName kk)), .one .any, .one (.bool (evData kk))]]⟩
        | some (P, c, s5, l5, e5) => ⟨[.a (.c (.p 2 0 0)), .a (.c (.w64 (last))), .any, .any, .a (.c (.p 3 0 0)), .a (.c (.p 4 0 0)), .any, .a (.c (.p 5 0 0)), .any, .any, .any, .any, .any, .any, .any, .any, .any, .any, .any, .any, .any, .any, .any, .any, .any, .any, .any, .any, .any, .any, .any, .any, .any, .any, .any, .any, .any, .any, .any, .any, .any, .any, .a (.c (.int .i64 (↑(evNames kk).length))), .a (.c (.int .i64 (↑P.length))), .any, .any, .any, .any, .any, .any, .any, .any, .any, .any, .any, .any, .any, .any, .any, .any, .any, .any, .any, .any, .any, .any, .any, .any, .any], [[.past W ms], svB A, rdCi 1 s5, [.one (.w8 0#8), .one (.w64 0#64), .one (.slc none 0 0), .one (.slc none 0 0)], [.one (.w8 kk), .one (.w64 t), .one (.sl 6 0 0 P.length c), .one (.slc none 0 0)], [.one (.str (evName kk)), .one .any, .one (.bool (evData kk))], [.row (scale c (0 + 1)) (numsF P)]]⟩,
        fun x => match x with
        | none => True
        | some (P, c, s5, l5, e5) => P.length ≤ c ∧ P.length ≤ (evNames kk).length ∧ RdI A s5 l5 e5 ∧ takeE l e last = take3 kk t (P ++ (numsR ((evNames kk).length - P.length) l5 e5).1) (numsR ((evNames kk).length - P.length) l5 e5).2,
        fun x => match x with
        | none => (evNames kk).length + 1
        | some (P, _, _, _, _) => (evNames kk).length - P.length, ⟨none, [0, 1, 2, 3, 4, 6], ⟨⟨rfl, rfl, rfl⟩, ?_⟩, trivial⟩, fun x hp => ?_⟩
      · (repeat first | exact trivial | refine ent1 ?_)
        refine eqC_bts ?_
        (repeat first | exact trivial | refine ent1 ?_)
      have hm8 := many_le kk
      rcases x with _ | ⟨P, c, s5, l5, e5⟩
      · refine And.intro (fun hlt => ?_) (fun hge => ?_)
        · have hlt : 0 < (evNames kk).length := by have : (0 : Int) < ((evNames kk).length : Int) := of_decide_eq_true hlt; omega
          (repeat first | (refine And.intro ?_ ?_; first | exact rfl | ((exact fun h => absurd h (by first | decide)); intro yy; clear yy) | (rotate_left; (exact fun h => absurd h (by first | decide)); intro yy; clear yy) | decide | omega) | (with_reducible refine frc_bytesL (by first | omega | decide) ?_) | (with_reducible refine frc_bytesM (by first | omega | decide) ?_))
          refine ⟨some [4], [], [(0, true), (1, true), (2, true), (3, false), (4, false)], [5, 6, 7], by kernel_rfl, ?_⟩
          (repeat first | (refine And.intro ?_ ?_; first | exact rfl | ((exact fun h => absurd h (by first | decide)); intro yy; clear yy) | (rotate_left; (exact fun h => absurd h (by first | decide)); intro yy; clear yy) | decide | omega) | (with_reducible refine frc_bytesL (by first | omega | decide) ?_) | (with_reducible refine frc_bytesM (by first | omega | decide) ?_))
          refine call_same (fn_rleast A s3 hr3) [1, 2] rfl (by (repeat first | exact trivial | refine ent1 ?_)) (eqC_bts (by (repeat first | exact trivial | refine ent1 ?_))) (fun _ _ => trivial) ?_
          rintro x hs ⟨n5, s5, l5, e5, hx5, hr5, rfl, rfl⟩
          (repeat first | (refine And.intro ?_ ?_; first | exact rfl | ((exact fun h => absurd h (by first | decide)); intro yy; clear yy) | (rotate_left; (exact fun h => absurd h (by first | decide)); intro yy; clear yy) | decide | omega) | (with_reducible refine frc_bytesL (by first | omega | decide) ?_) | (with_reducible refine frc_bytesM (by first | omega | decide) ?_))
          intro c' hc'
          (repeat first | (refine And.intro ?_ ?_; first | exact rfl | ((exact fun h => absurd h (by first | decide)); intro yy; clear yy) | (rotate_left; (exact fun h => absurd h (by first | decide)); intro yy; clear yy) | decide | omega) | (with_reducible refine frc_bytesL (by first | omega | decide) ?_) | (with_reducible refine frc_bytesM (by first | omega | decide) ?_))
          have hst := numsR_step (P := []) hlt hx5
          refine ⟨some ([n5], c', s5, l5, e5), [0, 1, 2, 3, 4, 5, 7], ⟨⟨rfl, rfl, rfl⟩, ?_⟩, ⟨hc', hlt, hr5, by rw [hT1]; unfold take2; exact congr (congrArg (take3 kk t) hst.1) hst.2⟩, by dsimp only [List.length_singleton]; omega⟩
          (repeat first | exact trivial | refine ent1 ?_)
          refine eqC_bts ?_
          (repeat first | exact trivial | refine ent1 ?_)
          exact ⟨fun j hj => eqC_nums (new_nums rfl) j, by (repeat first | exact trivial | refine ent1 ?_)⟩
        · have hz : evNames kk = [] := List.eq_nil_of_length_eq_zero (by have : ¬ (0 : Int) < ((evNames kk).length : Int) := of_decide_eq_false hge; omega)
          rw [take2_nil hz] at hT1
          (repeat first | (refine And.intro ?_ ?_; first | exact rfl | ((exact fun h => absurd h (by first | decide)); intro yy; clear yy) | (rotate_left; (exact fun h => absurd h (by first | decide)); intro yy; clear yy) | decide | omega) | (with_reducible refine frc_bytesL (by first | omega | decide) ?_) | (with_reducible refine frc_bytesM (by first | omega | decide) ?_))
          cases hdt : evData kk
          · (repeat first | (refine And.intro ?_ ?_; first | exact rfl | ((exact fun h => absurd h (by first | decide)); intro yy; clear yy) | (rotate_left; (exact fun h => absurd h (by first | decide)); intro yy; clear yy) | decide | omega) | (with_reducible refine frc_bytesL (by first | omega | decide) ?_) | (with_reducible refine frc_bytesM (by first | omega | decide) ?_))
            rw [take3_no hdt] at hT1
            refine finW_frz [0, 1, 2] rfl (Nat.zero_lt_succ 1) cx0_m rfl (fun W' ms' α hL hI => ?_)
            refine ⟨.a (.agg (evS ⟨kk, t, [], []⟩ ⟨none, 0, 0, none, 0, 0⟩)), [svB A, rdCi 1 s3], ⟨⟨rfl, rfl, rfl⟩, ?_⟩, ⟨kk, t, [], []⟩, ⟨none, 0, 0, none, 0, 0⟩, s3, l3, e3, W', ms', hT1, hr3, hL, ⟨SlAt.nul, SlAt.nul⟩, rfl, rfl⟩
            (repeat first | exact trivial | refine ent1 ?_)
            refine eqC_btsZ ?_
            (repeat first | exact trivial | refine ent1 ?_)
          · (repeat first | (refine And.intro ?_ ?_; first | exact rfl | ((exact fun h => absurd h (by first | decide)); intro yy; clear yy) | (rotate_left; (exact fun h => absurd h (by first | decide)); intro yy; clear yy) | decide | omega) | (with_reducible refine frc_bytesL (by first | omega | decide) ?_) | (with_reducible refine frc_bytesM (by first | omega | decide) ?_))
            refine call_same (fn_rleast A s3 hr3) [1, 2] rfl (by (repeat first | exact trivial | refine ent1 ?_)) (eqC_bts (by (repeat first | exact trivial | refine ent1 ?_))) (fun _ _ => trivial) ?_
            rintro x hs ⟨m, s6, l6, e6, hx6, hr6, rfl, rfl⟩
            by_cases h3 : 20#64 < m
            · have k3 : decide (20#64 < m) = true := decide_eq_true h3
              (repeat first | (refine And.intro ?_ ?_; first | exact rfl | ((exact fun h => absurd h (by first | decide | (rw [k3]; decide))); intro yy; clear yy) | (rotate_left; (exact fun h => absurd h (by first | decide | (rw [k3]; decide))); intro yy; clear yy) | decide | omega) | (with_reducible refine frc_bytesL (by first | omega | decide) ?_) | (with_reducible refine frc_bytesM (by first | omega | decide) ?_))
              refine call_same (fn_rfail A s6 4 hr6) [1, 2] rfl (by (repeat first | exact trivial | refine ent1 ?_)) (eqC_bts (by (repeat first | exact trivial | refine ent1 ?_))) (fun _ _ => trivial) ?_
              rintro x hs ⟨s7, l7, e7, hf7, hr7, rfl, rfl⟩
              (repeat first | (refine And.intro ?_ ?_; first | exact rfl | ((exact fun h => absurd h (by first | decide)); intro yy; clear yy) | (rotate_left; (exact fun h => absurd h (by first | decide)); intro yy; clear yy) | decide | omega) | (with_reducible refine frc_bytesL (by first | omega | decide) ?_) | (with_reducible refine frc_bytesM (by first | omega | decide) ?_))
              refine And.intro (Nat.le_trans (min20_le m) (by decide)) ?_
              (repeat first | (refine And.intro ?_ ?_; first | exact rfl | ((exact fun h => absurd h (by first | decide)); intro yy; clear yy) | (rotate_left; (exact fun h => absurd h (by first | decide)); intro yy; clear yy) | decide | omega) | (with_reducible refine frc_bytesL (by first | omega | decide) ?_) | (with_reducible refine frc_bytesM (by first | omega | decide) ?_))
              refine call_same (fn_rbytes A s7 (manyL m) hr7) [1, 2] rfl (by (repeat first | exact trivial | refine ent1 ?_)) (eqC_bts (by (repeat first | exact trivial | refine ent1 ?_))) (fun _ _ => trivial) ?_
              rintro x hs ⟨D, s8, l8, e8, hx8, hr8, hD, rfl, rfl⟩
              have hd : data1 m (failIf (decide (20#64 < m)) 4 (l6, e6)) = (D.l, l8, e8) := by rw [k3]; show data1 m (failM l6 e6 4) = _; rw [hf7]; exact hx8
              rw [take3_ok hdt hx6 hd] at hT1
              rcases Bool.eq_false_or_eq_true D.z with hz | hz
              · have hD0 := hD.nil hz
                (repeat first | (refine And.intro ?_ ?_; first | exact rfl | ((exact fun h => absurd h (by first | decide)); intro yy; clear yy) | (rotate_left; (exact fun h => absurd h (by first | decide)); intro yy; clear yy) | decide | omega) | (with_reducible refine frc_bytesL (by first | omega | decide) ?_) | (with_reducible refine frc_bytesM (by first | omega | decide) ?_))
                refine call_same (fn_bclone_nil D hz) [6] rfl (by (repeat first | exact trivial | refine ent1 ?_)) ?_ (fun _ _ => trivial) ?_
                · refine eqC_btsM ?_
                  (repeat first | exact trivial | refine ent1 ?_)
                rintro x hs ⟨rfl, rfl⟩
                (repeat first | (refine And.intro ?_ ?_; first | exact rfl | ((exact fun h => absurd h (by first | decide)); intro yy; clear yy) | (rotate_left; (exact fun h => absurd h (by first | decide)); intro yy; clear yy) | decide | omega) | (with_reducible refine frc_bytesL (by first | omega | decide) ?_) | (with_reducible refine frc_bytesM (by first | omega | decide) ?_))
                rw [hD0] at hT1
                refine finW_frz [0, 1, 2] rfl (Nat.zero_lt_succ 1) cx0_m rfl (fun W' ms' α hL hI => ?_)
                refine ⟨.a (.agg (evS ⟨kk, t, [], []⟩ ⟨none, 0, 0, none, 0, 0⟩)), [svB A, rdCi 1 s8], ⟨⟨rfl, rfl, rfl⟩, ?_⟩, ⟨kk, t, [], []⟩, ⟨none, 0, 0, none, 0, 0⟩, s8, l8, e8, W', ms', hT1, hr8, hL, ⟨SlAt.nul, SlAt.nul⟩, rfl, rfl⟩
                (repeat first | exact trivial | refine ent1 ?_)
                refine eqC_btsZ ?_
                (repeat first | exact trivial | refine ent1 ?_)
              · (repeat first | (refine And.intro ?_ ?_; first | exact rfl | ((exact fun h => absurd h (by first | decide)); intro yy; clear yy) | (rotate_left; (exact fun h => absurd h (by first | decide)); intro yy; clear yy) | decide | omega) | (with_reducible refine frc_bytesL (by first | omega | decide) ?_) | (with_reducible refine frc_bytesM (by first | omega | decide) ?_))
                refine call_same (fn_bclone_row D hD hz) [6] rfl (by (repeat first | exact trivial | refine ent1 ?_)) ?_ (fun _ _ => trivial) ?_
                · refine eqC_btsM ?_
                  (repeat first | exact trivial | refine ent1 ?_)
                rintro x hs ⟨c8, hc8, rfl, rfl⟩
                have hDs := hD.small
                (repeat first | (refine And.intro ?_ ?_; first | exact rfl | ((exact fun h => absurd h (by first | decide)); intro yy; clear yy) | (rotate_left; (exact fun h => absurd h (by first | decide)); intro yy; clear yy) | decide | omega) | (with_reducible refine frc_bytesL (by first | omega | decide) ?_) | (with_reducible refine frc_bytesM (by first | omega | decide) ?_))
                refine finW_frz [0, 1, 2] rfl (Nat.zero_lt_succ 1) cx0_m rfl (fun W' ms' α hL hI => ?_)
                refine ⟨.a (.agg (evS ⟨kk, t, [], D.l⟩ ⟨none, 0, 0, some ((α 7).add (0 + 0)), D.l.length, c8⟩)), [svB A, rdCi 1 s8], ⟨⟨rfl, rfl, rfl⟩, ?_⟩, ⟨kk, t, [], D.l⟩, ⟨none, 0, 0, some ((α 7).add (0 + 0)), D.l.length, c8⟩, s8, l8, e8, W', ms', hT1, hr8, hL, ⟨SlAt.nul, SlAt.frz (F := fun j => !memB j [0, 1, 2]) (hI 7 rfl) rfl hc8 (show D.l.length ≤ 9223372036854775807 by omega) (by decide) (by rw [List.length_map, Nat.mul_one]) bytes_finM (rz_w8 _)⟩, rfl, rfl⟩
                (repeat first | exact trivial | refine ent1 ?_)
                refine eqC_btsZ ?_
                (repeat first | exact trivial | refine ent1 ?_)
            · have k3 : decide (20#64 < m) = false := decide_eq_false h3
              (repeat first | (refine And.intro ?_ ?_; first | exact rfl | ((exact fun h => absurd h (by first | decide | (rw [k3]; decide))); intro yy; clear yy) | (rotate_left; (exact fun h => absurd h (by first | decide | (rw [k3]; decide))); intro yy; clear yy) | decide | omega) | (with_reducible refine frc_bytesL (by first | omega | decide) ?_) | (with_reducible refine frc_bytesM (by first | omega | decide) ?_))
              refine And.intro (Nat.le_trans (min20_le m) (by decide)) ?_
              (repeat first | (refine And.intro ?_ ?_; first | exact rfl | ((exact fun h => absurd h (by first | decide)); intro yy; clear yy) | (rotate_left; (exact fun h => absurd h (by first | decide)); intro yy; clear yy) | decide | omega) | (with_reducible refine frc_bytesL (by first | omega | decide) ?_) | (with_reducible refine frc_bytesM (by first | omega | decide) ?_))
              refine call_same (fn_rbytes A s6 (manyL m) hr6) [1, 2] rfl (by (repeat first | exact trivial | refine ent1 ?_)) (eqC_bts (by (repeat first | exact trivial | refine ent1 ?_))) (fun _ _ => trivial) ?_
              rintro x hs ⟨D, s8, l8, e8, hx8, hr8, hD, rfl, rfl⟩
              have hd : data1 m (failIf (decide (20#64 < m)) 4 (l6, e6)) = (D.l, l8, e8) := by rw [k3]; exact hx8
              rw [take3_ok hdt hx6 hd] at hT1
              rcases Bool.eq_false_or_eq_true D.z with hz | hz
              · have hD0 := hD.nil hz
                (repeat first | (refine And.intro ?_ ?_; first | exact rfl | ((exact fun h => absurd h (by first | decide)); intro yy; clear yy) | (rotate_left; (exact fun h => absurd h (by first | decide)); intro yy; clear yy) | decide | omega) | (with_reducible refine frc_bytesL (by first | omega | decide) ?_) | (with_reducible refine frc_bytesM (by first | omega | decide) ?_))
                refine call_same (fn_bclone_nil D hz) [6] rfl (by (repeat first | exact trivial | refine ent1 ?_)) ?_ (fun _ _ => trivial) ?_
                · refine eqC_btsM ?_
                  (repeat first | exact trivial | refine ent1 ?_)
                rintro x hs ⟨rfl, rfl⟩
                (repeat first | (refine And.intro ?_ ?_; first | exact rfl | ((exact fun h => absurd h (by first | decide)); intro yy; clear yy) | (rotate_left; (exact fun h => absurd h (by first | decide)); intro yy; clear yy) | decide | omega) | (with_reducible refine frc_bytesL (by first | omega | decide) ?_) | (with_reducible refine frc_bytesM (by first | omega | decide) ?_))
                rw [hD0] at hT1
                refine finW_frz [0, 1, 2] rfl (Nat.zero_lt_succ 1) cx0_m rfl (fun W' ms' α hL hI => ?_)
                refine ⟨.a (.agg (evS ⟨kk, t, [], []⟩ ⟨none, 0, 0, none, 0, 0⟩)), [svB A, rdCi 1 s8], ⟨⟨rfl, rfl, rfl⟩, ?_⟩, ⟨kk, t, [], []⟩, ⟨none, 0, 0, none, 0, 0⟩, s8, l8, e8, W', ms', hT1, hr8, hL, ⟨SlAt.nul, SlAt.nul⟩, rfl, rfl⟩
                (repeat first | exact trivial | refine ent1 ?_)
                refine eqC_btsZ ?_
                (repeat first | exact trivial | refine ent1 ?_)
              · (repeat first | (refine And.intro ?_ ?_; first | exact rfl | ((exact fun h => absurd h (by first | decide)); intro yy; clear yy) | (rotate_left; (exact fun h => absurd h (by first | decide)); intro yy; clear yy) | decide | omega) | (with_reducible refine frc_bytesL (by first | omega | decide) ?_) | (with_reducible refine frc_bytesM (by first | omega | decide) ?_))
                refine call_same (fn_bclone_row D hD hz) [6] rfl (by (repeat first | exact trivial | refine ent1 ?_)) ?_ (fun _ _ => trivial) ?_
                · refine eqC_btsM ?_
                  (repeat first | exact trivial | refine ent1 ?_)
                rintro x hs ⟨c8, hc8, rfl, rfl⟩
                have hDs := hD.small
                (repeat first | (refine And.intro ?_ ?_; first | exact rfl | ((exact fun h => absurd h (by first | decide)); intro yy; clear yy) | (rotate_left; (exact fun h => absurd h (by first | decide)); intro yy; clear yy) | decide | omega) | (with_reducible refine frc_bytesL (by first | omega | decide) ?_) | (with_reducible refine frc_bytesM (by first | omega | decide) ?_))
                refine finW_frz [0, 1, 2] rfl (Nat.zero_lt_succ 1) cx0_m rfl (fun W' ms' α hL hI => ?_)
                refine ⟨.a (.agg (evS ⟨kk, t, [], D.l⟩ ⟨none, 0, 0, some ((α 7).add (0 + 0)), D.l.length, c8⟩)), [svB A, rdCi 1 s8], ⟨⟨rfl, rfl, rfl⟩, ?_⟩, ⟨kk, t, [], D.l⟩, ⟨none, 0, 0, some ((α 7).add (0 + 0)), D.l.length, c8⟩, s8, l8, e8, W', ms', hT1, hr8, hL, ⟨SlAt.nul, SlAt.frz (F := fun j => !memB j [0, 1, 2]) (hI 7 rfl) rfl hc8 (show D.l.length ≤ 9223372036854775807 by omega) (by decide) (by rw [List.length_map, Nat.mul_one]) bytes_finM (rz_w8 _)⟩, rfl, rfl⟩
                (repeat first | exact trivial | refine ent1 ?_)
                refine eqC_btsZ ?_
                (repeat first | exact trivial | refine ent1 ?_)
      · obtain ⟨g1, g2, hr5, hT5⟩ := hp
        clear hT1
        refine And.intro (fun hlt => ?_) (fun hge => ?_)
        · have hlt : P.length < (evNames kk).length := by have : (P.length : Int) < ((evNames kk).length : Int) := of_decide_eq_true hlt; omega
          (repeat first | (refine And.intro ?_ ?_; first | exact rfl | ((exact fun h => absurd h (by first | decide)); intro yy; clear yy) | (rotate_left; (exact fun h => absurd h (by first | decide)); intro yy; clear yy) | decide | omega) | (with_reducible refine frc_bytesL (by first | omega | decide) ?_) | (with_reducible refine frc_bytesM (by first | omega | decide) ?_))
          refine ⟨some [4], [], [(0, true), (1, true), (2, true), (3, false), (4, false)], [5, 6, 7], by kernel_rfl, ?_⟩
          (repeat first | (refine And.intro ?_ ?_; first | exact rfl | ((exact fun h => absurd h (by first | decide)); intro yy; clear yy) | (rotate_left; (exact fun h => absurd h (by first | decide)); intro yy; clear yy) | decide | omega) | (with_reducible refine frc_bytesL (by first | omega | decide) ?_) | (with_reducible refine frc_bytesM (by first | omega | decide) ?_))
          refine call_same (fn_rleast A s5 hr5) [1, 2] rfl (by (repeat first | exact trivial | refine ent1 ?_)) (eqC_bts (by (repeat first | exact trivial | refine ent1 ?_))) (fun _ _ => trivial) ?_
          rintro x hs ⟨n6, s6, l6, e6, hx6, hr6, rfl, rfl⟩
          (repeat first | (refine And.intro ?_ ?_; first | exact rfl | ((exact fun h => absurd h (by first | decide)); intro yy; clear yy) | (rotate_left; (exact fun h => absurd h (by first | decide)); intro yy; clear yy) | decide | omega) | (with_reducible refine frc_bytesL (by first | omega | decide) ?_) | (with_reducible refine frc_bytesM (by first | omega | decide) ?_))
          refine And.intro ⟨g1, by first | omega | (simp only [scale_eq]; omega), show (P.length + 1) * 8 ≤ 140737488355328 by omega⟩ ?_
          intro c' hc'
          (repeat first | (refine And.intro ?_ ?_; first | exact rfl | ((exact fun h => absurd h (by first | decide)); intro yy; clear yy) | (rotate_left; (exact fun h => absurd h (by first | decide)); intro yy; clear yy) | decide | omega) | (with_reducible refine frc_bytesL (by first | omega | decide) ?_) | (with_reducible refine frc_bytesM (by first | omega | decide) ?_))
          have hst := numsR_step hlt hx6
          obtain ⟨Q, hQ⟩ : ∃ Q, Q = P ++ [n6] := ⟨_, rfl⟩
          have hQl : Q.length = P.length + 1 := by rw [hQ, List.length_append, List.length_singleton]
          rw [← hQ] at hst
          refine ⟨some (Q, c', s6, l6, e6), [0, 1, 2, 3, 4, 5, 8], ⟨⟨rfl, rfl, rfl⟩, ?_⟩, ⟨by rw [hQl]; exact hc', by rw [hQl]; omega, hr6, by rw [hT5]; exact congr (congrArg (take3 kk t) hst.1) hst.2⟩, by dsimp only; omega⟩
          (repeat first | exact trivial | refine ent1 ?_)
          refine eqC_bts ?_
          (repeat first | exact trivial | refine ent1 ?_)
          exact ⟨fun j hj => by rw [hQ]; exact eqC_nums (app_nums rfl (fun j x h => nums_get h) rfl) j, by (repeat first | exact trivial | refine ent1 ?_)⟩
        · have hge : (evNames kk).length - P.length = 0 := by have : ¬ (P.length : Int) < ((evNames kk).length : Int) := of_decide_eq_false hge; omega
          have hT1 : takeE l e last = take3 kk t P (l5, e5) := by rw [hT5, hge]; show take3 kk t (P ++ []) (l5, e5) = _; rw [List.append_nil]
          clear hT5
          (repeat first | (refine And.intro ?_ ?_; first | exact rfl | ((exact fun h => absurd h (by first | decide)); intro yy; clear yy) | (rotate_left; (exact fun h => absurd h (by first | decide)); intro yy; clear yy) | decide | omega) | (with_reducible refine frc_bytesL (by first | omega | decide) ?_) | (with_reducible refine frc_bytesM (by first | omega | decide) ?_))
          cases hdt : evData kk
          · (repeat first | (refine And.intro ?_ ?_; first | exact rfl | ((exact fun h => absurd h (by first | decide)); intro yy; clear yy) | (rotate_left; (exact fun h => absurd h (by first | decide)); intro yy; clear yy) | decide | omega) | (with_reducible refine frc_bytesL (by first | omega | decide) ?_) | (with_reducible refine frc_bytesM (by first | omega | decide) ?_))
            rw [take3_no hdt] at hT1
            refine finW_frz [0, 1, 2] rfl (Nat.zero_lt_succ 1) cx0_m rfl (fun W' ms' α hL hI => ?_)
            refine ⟨.a (.agg (evS ⟨kk, t, P, []⟩ ⟨some ((α 6).add (0 + 0)), P.length, c, none, 0, 0⟩)), [svB A, rdCi 1 s5], ⟨⟨rfl, rfl, rfl⟩, ?_⟩, ⟨kk, t, P, []⟩, ⟨some ((α 6).add (0 + 0)), P.length, c, none, 0, 0⟩, s5, l5, e5, W', ms', hT1, hr5, hL, ⟨SlAt.frz (F := fun j => !memB j [0, 1, 2]) (hI 6 rfl) rfl g1 (show P.length ≤ 9223372036854775807 by omega) (by decide) (by rw [List.length_map, Nat.mul_one]) nums_fin (rz_w64 _), SlAt.nul⟩, rfl, rfl⟩
            (repeat first | exact trivial | refine ent1 ?_)
            refine eqC_btsZ ?_
            (repeat first | exact trivial | refine ent1 ?_)
          · (repeat first | (refine And.intro ?_ ?_; first | exact rfl | ((exact fun h => absurd h (by first | decide)); intro yy; clear yy) | (rotate_left; (exact fun h => absurd h (by first | decide)); intro yy; clear yy) | decide | omega) | (with_reducible refine frc_bytesL (by first | omega | decide) ?_) | (with_reducible refine frc_bytesM (by first | omega | decide) ?_))
            refine call_same (fn_rleast A s5 hr5) [1, 2] rfl (by (repeat first | exact trivial | refine ent1 ?_)) (eqC_bts (by (repeat first | exact trivial | refine ent1 ?_))) (fun _ _ => trivial) ?_
            rintro x hs ⟨m, s6, l6, e6, hx6, hr6, rfl, rfl⟩
            by_cases h3 : 20#64 < m
            · have k3 : decide (20#64 < m) = true := decide_eq_true h3
              (repeat first | (refine And.intro ?_ ?_; first | exact rfl | ((exact fun h => absurd h (by first | decide | (rw [k3]; decide))); intro yy; clear yy) | (rotate_left; (exact fun h => absurd h (by first | decide | (rw [k3]; decide))); intro yy; clear yy) | decide | omega) | (with_reducible refine frc_bytesL (by first | omega | decide) ?_) | (with_reducible refine frc_bytesM (by first | omega | decide) ?_))
              refine call_same (fn_rfail A s6 4 hr6) [1, 2] rfl (by (repeat first | exact trivial | refine ent1 ?_)) (eqC_bts (by (repeat first | exact trivial | refine ent1 ?_))) (fun _ _ => trivial) ?_
              rintro x hs ⟨s7, l7, e7, hf7, hr7, rfl, rfl⟩
              (repeat first | (refine And.intro ?_ ?_; first | exact rfl | ((exact fun h => absurd h (by first | decide)); intro yy; clear yy) | (rotate_left; (exact fun h => absurd h (by first | decide)); intro yy; clear yy) | decide | omega) | (with_reducible refine frc_bytesL (by first | omega | decide) ?_) | (with_reducible refine frc_bytesM (by first | omega | decide) ?_))
              refine And.intro (Nat.le_trans (min20_le m) (by decide)) ?_
              (repeat first | (refine And.intro ?_ ?_; first | exact rfl | ((exact fun h => absurd h (by first | decide)); intro yy; clear yy) | (rotate_left; (exact fun h => absurd h (by first | decide)); intro yy; clear yy) | decide | omega) | (with_reducible refine frc_bytesL (by first | omega | decide) ?_) | (with_reducible refine frc_bytesM (by first | omega | decide) ?_))
              refine call_same (fn_rbytes A s7 (manyL m) hr7) [1, 2] rfl (by (repeat first | exact trivial | refine ent1 ?_)) (eqC_bts (by (repeat first | exact trivial | refine ent1 ?_))) (fun _ _ => trivial) ?_
              rintro x hs ⟨D, s8, l8, e8, hx8, hr8, hD, rfl, rfl⟩
              have hd : data1 m (failIf (decide (20#64 < m)) 4 (l6, e6)) = (D.l, l8, e8) := by rw [k3]; show data1 m (failM l6 e6 4) = _; rw [hf7]; exact hx8
              rw [take3_ok hdt hx6 hd] at hT1
              rcases Bool.eq_false_or_eq_true D.z with hz | hz
              · have hD0 := hD.nil hz
                (repeat first | (refine And.intro ?_ ?_; first | exact rfl | ((exact fun h => absurd h (by first | decide)); intro yy; clear yy) | (rotate_left; (exact fun h => absurd h (by first | decide)); intro yy; clear yy) | decide | omega) | (with_reducible refine frc_bytesL (by first | omega | decide) ?_) | (with_reducible refine frc_bytesM (by first | omega | decide) ?_))
                refine call_same (fn_bclone_nil D hz) [7] rfl (by (repeat first | exact trivial | refine ent1 ?_)) ?_ (fun _ _ => trivial) ?_
                · refine eqC_btsM ?_
                  (repeat first | exact trivial | refine ent1 ?_)
                rintro x hs ⟨rfl, rfl⟩
                (repeat first | (refine And.intro ?_ ?_; first | exact rfl | ((exact fun h => absurd h (by first | decide)); intro yy; clear yy) | (rotate_left; (exact fun h => absurd h (by first | decide)); intro yy; clear yy) | decide | omega) | (with_reducible refine frc_bytesL (by first | omega | decide) ?_) | (with_reducible refine frc_bytesM (by first | omega | decide) ?_))
                rw [hD0] at hT1
                refine finW_frz [0, 1, 2] rfl (Nat.zero_lt_succ 1) cx0_m rfl (fun W' ms' α hL hI => ?_)
                refine ⟨.a (.agg (evS ⟨kk, t, P, []⟩ ⟨some ((α 6).add (0 + 0)), P.length, c, none, 0, 0⟩)), [svB A, rdCi 1 s8], ⟨⟨rfl, rfl, rfl⟩, ?_⟩, ⟨kk, t, P, []⟩, ⟨some ((α 6).add (0 + 0)), P.length, c, none, 0, 0⟩, s8, l8, e8, W', ms', hT1, hr8, hL, ⟨SlAt.frz (F := fun j => !memB j [0, 1, 2]) (hI 6 rfl) rfl g1 (show P.length ≤ 9223372036854775807 by omega) (by decide) (by rw [List.length_map, Nat.mul_one]) nums_fin (rz_w64 _), SlAt.nul⟩, rfl, rfl⟩
                (repeat first | exact trivial | refine ent1 ?_)
                refine eqC_btsZ ?_
                (repeat first | exact trivial | refine ent1 ?_)
              · (repeat first | (refine And.intro ?_ ?_; first | exact rfl | ((exact fun h => absurd h (by first | decide)); intro yy; clear yy) | (rotate_left; (exact fun h => absurd h (by first | decide)); intro yy; clear yy) | decide | omega) | (with_reducible refine frc_bytesL (by first | omega | decide) ?_) | (with_reducible refine frc_bytesM (by first | omega | decide) ?_))
                refine call_same (fn_bclone_row D hD hz) [7] rfl (by (repeat first | exact trivial | refine ent1 ?_)) ?_ (fun _ _ => trivial) ?_
                · refine eqC_btsM ?_
                  (repeat first | exact trivial | refine ent1 ?_)
                rintro x hs ⟨c8, hc8, rfl, rfl⟩
                have hDs := hD.small
                (repeat first | (refine And.intro ?_ ?_; first | exact rfl | ((exact fun h => absurd h (by first | decide)); intro yy; clear yy) | (rotate_left; (exact fun h => absurd h (by first | decide)); intro yy; clear yy) | decide | omega) | (with_reducible refine frc_bytesL (by first | omega | decide) ?_) | (with_reducible refine frc_bytesM (by first | omega | decide) ?_))
                refine finW_frz [0, 1, 2] rfl (Nat.zero_lt_succ 1) cx0_m rfl (fun W' ms' α hL hI => ?_)
                refine ⟨.a (.agg (evS ⟨kk, t, P, D.l⟩ ⟨some ((α 6).add (0 + 0)), P.length, c, some ((α 8).add (0 + 0)), D.l.length, c8⟩)), [svB A, rdCi 1 s8], ⟨⟨rfl, rfl, rfl⟩, ?_⟩, ⟨kk, t, P, D.l⟩, ⟨some ((α 6).add (0 + 0)), P.length, c, some ((α 8).add (0 + 0)), D.l.length, c8⟩, s8, l8, e8, W', ms', hT1, hr8, hL, ⟨SlAt.frz (F := fun j => !memB j [0, 1, 2]) (hI 6 rfl) rfl g1 (show P.length ≤ 9223372036854775807 by omega) (by decide) (by rw [List.length_map, Nat.mul_one]) nums_fin (rz_w64 _), SlAt.frz (F := fun j => !memB j [0, 1, 2]) (hI 8 rfl) rfl hc8 (show D.l.length ≤ 9223372036854775807 by omega) (by decide) (by rw [List.length_map, Nat.mul_one]) bytes_finM (rz_w8 _)⟩, rfl, rfl⟩
                (repeat first | exact trivial | refine ent1 ?_)
                refine eqC_btsZ ?_
                (repeat first | exact trivial | refine ent1 ?_)
            · have k3 : decide (20#64 < m) = false := decide_eq_false h3
              (repeat first | (refine And.intro ?_ ?_; first | exact rfl | ((exact fun h => absurd h (by first | decide | (rw [k3]; decide))); intro yy; clear yy) | (rotate_left; (exact fun h => absurd h (by first | decide | (rw [k3]; decide))); intro yy; clear yy) | decide | omega) | (with_reducible refine frc_bytesL (by first | omega | decide) ?_) | (with_reducible refine frc_bytesM (by first | omega | decide) ?_))
              refine And.intro (Nat.le_trans (min20_le m) (by decide)) ?_
              (repeat first | (refine And.intro ?_ ?_; first | exact rfl | ((exact fun h => absurd h (by first | decide)); intro yy; clear yy) | (rotate_left; (exact fun h => absurd h (by first | decide)); intro yy; clear yy) | decide | omega) | (with_reducible refine frc_bytesL (by first | omega | decide) ?_) | (with_reducible refine frc_bytesM (by first | omega | decide) ?_))
              refine call_same (fn_rbytes A s6 (manyL m) hr6) [1, 2] rfl (by (repeat first | exact trivial | refine ent1 ?_)) (eqC_bts (by (repeat first | exact trivial | refine ent1 ?_))) (fun _ _ => trivial) ?_
              rintro x hs ⟨D, s8, l8, e8, hx8, hr8, hD, rfl, rfl⟩
              have hd : data1 m (failIf (decide (20#64 < m)) 4 (l6, e6)) = (D.l, l8, e8) := by rw [k3]; exact hx8
              rw [take3_ok hdt hx6 hd] at hT1
              rcases Bool.eq_false_or_eq_true D.z with hz | hz
              · have hD0 := hD.nil hz
                (repeat first | (refine And.intro ?_ ?_; first | exact rfl | ((exact fun h => absurd h (by first | decide)); intro yy; clear yy) | (rotate_left; (exact fun h => absurd h (by first | decide)); intro yy; clear yy) | decide | omega) | (with_reducible refine frc_bytesL (by first | omega | decide) ?_) | (with_reducible refine frc_bytesM (by first | omega | decide) ?_))
                refine call_same (fn_bclone_nil D hz) [7] rfl (by (repeat first | exact trivial | refine ent1 ?_)) ?_ (fun _ _ => trivial) ?_
                · refine eqC_btsM ?_
                  (repeat first | exact trivial | refine ent1 ?_)
                rintro x hs ⟨rfl, rfl⟩
                (repeat first | (refine And.intro ?_ ?_; first | exact rfl | ((exact fun h => absurd h (by first | decide)); intro yy; clear yy) | (rotate_left; (exact fun h => absurd h (by first | decide)); intro yy; clear yy) | decide | omega) | (with_reducible refine frc_bytesL (by first | omega | decide) ?_) | (with_reducible refine frc_bytesM (by first | omega | decide) ?_))
                rw [hD0] at hT1
                refine finW_frz [0, 1, 2] rfl (Nat.zero_lt_succ 1) cx0_m rfl (fun W' ms' α hL hI => ?_)
                refine ⟨.a (.agg (evS ⟨kk, t, P, []⟩ ⟨some ((α 6).add (0 + 0)), P.length, c, none, 0, 0⟩)), [svB A, rdCi 1 s8], ⟨⟨rfl, rfl, rfl⟩, ?_⟩, ⟨kk, t, P, []⟩, ⟨some ((α 6).add (0 + 0)), P.length, c, none, 0, 0⟩, s8, l8, e8, W', ms', hT1, hr8, hL, ⟨SlAt.frz (F := fun j => !memB j [0, 1, 2]) (hI 6 rfl) rfl g1 (show P.length ≤ 9223372036854775807 by omega) (by decide) (by rw [List.length_map, Nat.mul_one]) nums_fin (rz_w64 _), SlAt.nul⟩, rfl, rfl⟩
                (repeat first | exact trivial | refine ent1 ?_)
                refine eqC_btsZ ?_
                (repeat first | exact trivial | refine ent1 ?_)
              · (repeat first | (refine And.intro ?_ ?_; first | exact rfl | ((exact fun h => absurd h (by first | decide)); intro yy; clear yy) | (rotate_left; (exact fun h => absurd h (by first | decide)); intro yy; clear yy) | decide | omega) | (with_reducible refine frc_bytesL (by first | omega | decide) ?_) | (with_reducible refine frc_bytesM (by first | omega | decide) ?_))
                refine call_same (fn_bclone_row D hD hz) [7] rfl (by (repeat first | exact trivial | refine ent1 ?_)) ?_ (fun _ _ => trivial) ?_
                · refine eqC_btsM ?_
                  (repeat first | exact trivial | refine ent1 ?_)
                rintro x hs ⟨c8, hc8, rfl, rfl⟩
                have hDs := hD.small
                (repeat first | (refine And.intro ?_ ?_; first | exact rfl | ((exact fun h => absurd h (by first | decide)); intro yy; clear yy) | (rotate_left; (exact fun h => absurd h (by first | decide)); intro yy; clear yy) | decide | omega) | (with_reducible refine frc_bytesL (by first | omega | decide) ?_) | (with_reducible refine frc_bytesM (by first | omega | decide) ?_))
                refine finW_frz [0, 1, 2] rfl (Nat.zero_lt_succ 1) cx0_m rfl (fun W' ms' α hL hI => ?_)
                refine ⟨.a (.agg (evS ⟨kk, t, P, D.l⟩ ⟨some ((α 6).add (0 + 0)), P.length, c, some ((α 8).add (0 + 0)), D.l.length, c8⟩)), [svB A, rdCi 1 s8], ⟨⟨rfl, rfl, rfl⟩, ?_⟩, ⟨kk, t, P, D.l⟩, ⟨some ((α 6).add (0 + 0)), P.length, c, some ((α 8).add (0 + 0)), D.l.length, c8⟩, s8, l8, e8, W', ms', hT1, hr8, hL, ⟨SlAt.frz (F := fun j => !memB j [0, 1, 2]) (hI 6 rfl) rfl g1 (show P.length ≤ 9223372036854775807 by omega) (by decide) (by rw [List.length_map, Nat.mul_one]) nums_fin (rz_w64 _), SlAt.frz (F := fun j => !memB j [0, 1, 2]) (hI 8 rfl) rfl hc8 (show D.l.length ≤ 9223372036854775807 by omega) (by decide) (by rw [List.length_map, Nat.mul_one]) bytes_finM (rz_w8 _)⟩, rfl, rfl⟩
                (repeat first | exact trivial | refine ent1 ?_)
                refine eqC_btsZ ?_
                (repeat first | exact trivial | refine ent1 ?_)
end Sx
end Go.Proofs.Ytdakmieapdpidaa
end

section
/-
  Events out of bytes: blog.Decode. No condition.
-/
namespace Go.Proofs.Ytdakmieapdpidaa
set_option linter.unusedVariables false
namespace Ev
open Vi Sha
def evsR : Nat → BitVec 64 → Bs → Int → List Ev × Bs × Int
  | 0, _, l, e => ([], l, e)
  | k + 1, last, l, e => if e ≠ 0 then ([], l, e) else
    ((takeE l e last).1 :: (evsR k (takeE l e last).1.t (failIf (decide ((takeE l e last).1.k = 19#8) && decide (k ≠ 0)) 10 (takeE l e last).2).1 (failIf (decide ((takeE l e last).1.k = 19#8) && decide (k ≠ 0)) 10 (takeE l e last).2).2).1,
     (evsR k (takeE l e last).1.t (failIf (decide ((takeE l e last).1.k = 19#8) && decide (k ≠ 0)) 10 (takeE l e last).2).1 (failIf (decide ((takeE l e last).1.k = 19#8) && decide (k ≠ 0)) 10 (takeE l e last).2).2).2)
def finD (r : List Ev × Bs × Int) : List Ev × Int := if (endM r.2.1 r.2.2).2 ≠ 0 then ([], (endM r.2.1 r.2.2).2) else (r.1, 0)
def dec3 (m : BitVec 64) (q : Bs × Int) : List Ev × Int := finD (evsR m.toNat 0#64 q.1 q.2)
def dec2 (p : Bs × Int) : List Ev × Int := dec3 (leastM p.1 p.2).1 (failIf (decide (2048#64 < (leastM p.1 p.2).1)) 7 (leastM p.1 p.2).2)
/-- What blog.Decode answers. -/
def decM (b : Bs) : List Ev × Int := dec2 (failIf (decide ((bytesM b 0 4).2.2 = 0) && decide (U8 (bytesM b 0 4).1 ≠ [66, 73, 78, 49])) 4 (bytesM b 0 4).2)
theorem leastM_err {l : Bs} {e : Int} (h : e ≠ 0) : leastM l e = (0#64, l, e) := by
  unfold leastM nextM; rw [if_pos h]; rfl
theorem evsR_err {k : Nat} {last : BitVec 64} {l : Bs} {e : Int} (h : e ≠ 0) : evsR k last l e = ([], l, e) := by
  cases k with
  | zero => rfl
  | succ k => rw [evsR, if_pos h]
theorem finD_err {es : List Ev} {e : Int} (h : e ≠ 0) : finD (es, [], e) = ([], e) := by
  have : endM [] e = ([], e) := rfl
  unfold finD; dsimp only; rw [this, if_pos h]
theorem dec2_err {e : Int} (h : e ≠ 0) : dec2 ([], e) = ([], e) := by
  unfold dec2 dec3; dsimp only
  rw [leastM_err h]; exact finD_err h
theorem evsR_step {k : Nat} {last : BitVec 64} {l l1 l2 : Bs} {e1 e2 : Int} {ev : Ev} (h : takeE l 0 last = (ev, l1, e1)) (hf : failIf (decide (ev.k = 19#8) && decide (k ≠ 0)) 10 (l1, e1) = (l2, e2)) :
    evsR (k + 1) last l 0 = (ev :: (evsR k ev.t l2 e2).1, (evsR k ev.t l2 e2).2) := by
  rw [evsR, if_neg (by decide), h]; dsimp only; rw [hf]
theorem u64_lt {i : Nat} {m : BitVec 64} (h : i ≤ m.toNat) : decide (BitVec.ofNat 64 i < m) = decide (i < m.toNat) := by
  have := m.isLt
  refine decide_eq_decide.2 ?_
  rw [BitVec.lt_def, BitVec.toNat_ofNat, Nat.mod_eq_of_lt (by omega)]
end Ev
namespace Sx
open Go.RowKit Sha Vi Ev

theorem EvsAt.nul {W : World} {ms : List Nat} : EvsAt W ms none 0 0 [] := ⟨rfl, Nat.le_refl _, by decide, fun _ => rfl, fun A h => by cases h⟩
theorem rz_raw {F : Nat → Bool} {α : Nat → Addr} {x : SC} (h : x.raw = x) : (x.rz F α).raw = x := by
  cases x <;> simp only [SC.raw] at h <;> first | rfl | cases h
theorem nthC_get {l : List SC} {j : Nat} (h : j < l.length) : l[j]? = some (nthC l j) := by
  obtain ⟨x, hx⟩ : ∃ x, l[j]? = some x := ⟨_, List.getElem?_eq_getElem h⟩
  rw [hx, nthC_get? hx]
theorem RowAt.frz {W0 W : World} {ms0 ms : List Nat} {A : Addr} {F : Nat → Bool} {α : Nat → Addr} {n c : Nat} {cs : List SC} {es : List Ev} (k : RowAt W0 ms0 cs es) (hL : Later W0 ms0 W ms)
    (h : flat [.row (scale c (3 + 1)) (nthC cs)] ≠ [] → ImAt W ms A (((flat [.row (scale c (3 + 1)) (nthC cs)]).map (SC.rz F α)).map SC.raw)) (hn : es.length = n) (hc : n ≤ c) (hcap : n ≤ 9223372036854775807) : EvsAt W ms (some (A.add (0 + 0))) n c es := by
  refine ⟨hn, hc, hcap, (fun e => by cases e), fun B hB j e he => ?_⟩
  injection hB with hB
  subst hB
  obtain ⟨x, h1, h2⟩ := k.elt j e he
  have hj : j < n := by rw [← hn]; exact (List.getElem?_eq_some_iff.1 he).1
  have hne : flat [.row (scale c (3 + 1)) (nthC cs)] ≠ [] := by
    intro e
    have := congrArg List.length e
    simp [flat, sc4] at this
    omega
  refine ⟨x, (((h hne).part (0 + 0) (m := ((flat [.row (scale c (3 + 1)) (nthC cs)]).map (SC.rz F α)).map SC.raw) (fun j x hx => by simpa using hx)).part (j * 4) fun i y hy => ?_), h2.later hL⟩
  have hi : i < 4 := (List.getElem?_eq_some_iff.1 hy).1
  have hcs := h1 i y hy
  have hlen := k.len
  have hjn : j * 4 + i < scale c (3 + 1) := by rw [sc4]; omega
  rw [List.getElem?_map, List.getElem?_map]
  simp only [flat, List.append_nil, List.getElem?_map, List.getElem?_range hjn, Option.map_some]
  have hraw := k.raw y (List.mem_of_getElem? hcs)
  rw [nthC_get? hcs, rz_raw hraw]
theorem ofNat_succ (i : Nat) : BitVec.ofNat 64 i + 1#64 = BitVec.ofNat 64 (i + 1) := by
  apply BitVec.eq_of_toNat_eq
  simp [BitVec.toNat_add]
theorem u64_lt1 {i : Nat} {m : BitVec 64} (h : i < m.toNat) : decide (BitVec.ofNat 64 i + 1#64 < m) = decide (i + 1 < m.toNat) := by
  rw [ofNat_succ]; exact u64_lt h
theorem finD_nil {es : List Ev} {l l' : Bs} {e e' : Int} (h : endM l e = (l', e')) : finD (es, l, e) = if e' ≠ 0 then ([], e') else (es, 0) := by
  unfold finD; dsimp only; rw [h]

set_option maxRecDepth 20000 in
set_option maxHeartbeats 16000000 in
theorem fn_bdecode {W : World} {ms : List Nat} (s : Sl) (hs0 : s.Ok) : FnR Try.prog tds 13 2 [[.past W ms], svB s] [.c (svC 1 s)] (fun _ => True)
    (fun y hs => ∃ es a n c e W' ms', decM s.l = (es, e) ∧ Later W ms W' ms' ∧ EvsAt W' ms' a n c es ∧ y = .tup [.c (.slc a n c), .c (.int .i64 e)] ∧ hs = [[.past W' ms'], svB s]) := by
  refine fn_of_bodyW tds_ok follows_ Try.func13 rfl (t := .a (.c (svC 1 s)) :: anys (Try.f13.ntmps - 1)) rfl (fun w r0 hr0 _ => ?_)
  obtain ⟨x0, x1, rfl⟩ := len2' hr0
  (repeat first | (refine And.intro ?_ ?_; first | exact rfl | ((exact fun h => absurd h (by first | decide)); intro yy; clear yy) | (rotate_left; (exact fun h => absurd h (by first | decide)); intro yy; clear yy) | decide | omega) | (with_reducible refine frc_bytesL (by first | omega | decide) ?_) | (with_reducible refine frc_bytesM (by first | omega | decide) ?_))
  refine call_same (fn_vread s hs0) [1] rfl (by (repeat first | exact trivial | refine ent1 ?_)) (eqC_bts (by (repeat first | exact trivial | refine ent1 ?_))) (fun _ _ => trivial) ?_
  rintro x hs ⟨A, r, hAl, hr, rfl, rfl⟩
  (repeat first | (refine And.intro ?_ ?_; first | exact rfl | ((exact fun h => absurd h (by first | decide)); intro yy; clear yy) | (rotate_left; (exact fun h => absurd h (by first | decide)); intro yy; clear yy) | decide | omega) | (with_reducible refine frc_bytesL (by first | omega | decide) ?_) | (with_reducible refine frc_bytesM (by first | omega | decide) ?_))
  refine call_same (fn_rbytes A r 4 hr) [3, 2] rfl (by (repeat first | exact trivial | refine ent1 ?_)) (by first | exact eqC_btsM (by (repeat first | exact trivial | refine ent1 ?_)) | exact eqC_bts (by (repeat first | exact trivial | refine ent1 ?_))) (fun _ _ => trivial) ?_
  rintro x hs ⟨t, s1, l1, e1, hx1, hr1, ht, rfl, rfl⟩
  (repeat first | (refine And.intro ?_ ?_; first | exact rfl | ((exact fun h => absurd h (by first | decide)); intro yy; clear yy) | (rotate_left; (exact fun h => absurd h (by first | decide)); intro yy; clear yy) | decide | omega) | (with_reducible refine frc_bytesL (by first | omega | decide) ?_) | (with_reducible refine frc_bytesM (by first | omega | decide) ?_))
  refine call_same (fn_rerr A s1 hr1) [3, 2] rfl (by (repeat first | exact trivial | refine ent1 ?_)) (by first | exact eqC_btsM (by (repeat first | exact trivial | refine ent1 ?_)) | exact eqC_bts (by (repeat first | exact trivial | refine ent1 ?_))) (fun _ _ => trivial) ?_
  rintro x hs ⟨rfl, rfl⟩
  by_cases h1 : e1 = 0
  rotate_left
  · have k1 : decide (e1 = 0) = false := decide_eq_false h1
    have hT1 : decM s.l = dec2 (l1, e1) := by unfold decM; rw [← hAl] at *; rw [hx1]; dsimp only; rw [k1]; rfl
    (repeat first | (refine And.intro ?_ ?_; first | exact rfl | ((exact fun h => absurd h (by first | decide | (rw [k1]; decide))); intro yy; clear yy) | (rotate_left; (exact fun h => absurd h (by first | decide | (rw [k1]; decide))); intro yy; clear yy) | decide | omega) | (with_reducible refine frc_bytesL (by first | omega | decide) ?_) | (with_reducible refine frc_bytesM (by first | omega | decide) ?_))
    (repeat first | (refine And.intro ?_ ?_; first | exact rfl | ((exact fun h => absurd h (by first | decide)); intro yy; clear yy) | (rotate_left; (exact fun h => absurd h (by first | decide)); intro yy; clear yy) | decide | omega) | (with_reducible refine frc_bytesL (by first | omega | decide) ?_) | (with_reducible refine frc_bytesM (by first | omega | decide) ?_))
    refine call_same (fn_rleast A s1 hr1) [3, 2] rfl (by (repeat first | exact trivial | refine ent1 ?_)) (by first | exact eqC_btsM (by (repeat first | exact trivial | refine ent1 ?_)) | exact eqC_bts (by (repeat first | exact trivial | refine ent1 ?_))) (fun _ _ => trivial) ?_
    rintro x hs ⟨n, s8, l8, e8, hx8, hr8, rfl, rfl⟩
    have hl0 := hr1.ended h1
    rw [leastM_err h1, hl0] at hx8
    obtain ⟨rfl, rfl, rfl⟩ : 0#64 = n ∧ [] = l8 ∧ e1 = e8 := by simp only [Prod.mk.injEq] at hx8; exact hx8
    rw [hl0, dec2_err h1] at hT1
    (repeat first | (refine And.intro ?_ ?_; first | exact rfl | ((exact fun h => absurd h (by first | decide)); intro yy; clear yy) | (rotate_left; (exact fun h => absurd h (by first | decide)); intro yy; clear yy) | decide | omega) | (with_reducible refine frc_bytesL (by first | omega | decide) ?_) | (with_reducible refine frc_bytesM (by first | omega | decide) ?_))
    refine .inr ⟨1, ?_⟩
    (repeat first | (refine And.intro ?_ ?_; first | exact rfl | ((exact fun h => absurd h (by first | decide)); intro yy; clear yy) | (rotate_left; (exact fun h => absurd h (by first | decide)); intro yy; clear yy) | decide | omega) | (with_reducible refine frc_bytesL (by first | omega | decide) ?_) | (with_reducible refine frc_bytesM (by first | omega | decide) ?_))
    refine call_same (fn_rend A s8 hr8) [3, 2] rfl (by (repeat first | exact trivial | refine ent1 ?_)) (by first | exact eqC_btsM (by (repeat first | exact trivial | refine ent1 ?_)) | exact eqC_bts (by (repeat first | exact trivial | refine ent1 ?_))) (fun _ _ => trivial) ?_
    rintro x hs ⟨s9, l9, ez, hx9, hr9, rfl, rfl⟩
    obtain ⟨rfl, rfl⟩ : [] = l9 ∧ e1 = ez := by simp only [endM, List.length_nil, Nat.lt_irrefl, if_false, Prod.mk.injEq] at hx9; exact hx9
    have k9 : decide ((e1 : Int) ≠ 0) = true := decide_eq_true h1
    (repeat first | (refine And.intro ?_ ?_; first | exact rfl | ((exact fun h => absurd h (by first | decide | (rw [k9]; decide))); intro yy; clear yy) | (rotate_left; (exact fun h => absurd h (by first | decide | (rw [k9]; decide))); intro yy; clear yy) | decide | omega) | (with_reducible refine frc_bytesL (by first | omega | decide) ?_) | (with_reducible refine frc_bytesM (by first | omega | decide) ?_))
    refine finW_frz [0, 1] rfl (Nat.zero_lt_succ 1) cx0_m rfl (fun W' ms' α hL hI => ?_)
    refine ⟨.tup [.c (.slc none 0 0), .c (.int .i64 e1)], [svB s], ⟨⟨rfl, rfl, rfl⟩, ?_⟩, [], none, 0, 0, e1, W', ms', hT1, hL, EvsAt.nul, rfl, rfl⟩
    (repeat first | exact trivial | refine ent1 ?_)
    refine eqC_btsZ ?_
    (repeat first | exact trivial | refine ent1 ?_)
  subst h1
  (repeat first | (refine And.intro ?_ ?_; first | exact rfl | ((exact fun h => absurd h (by first | decide)); intro yy; clear yy) | (rotate_left; (exact fun h => absurd h (by first | decide)); intro yy; clear yy) | decide | omega) | (with_reducible refine frc_bytesL (by first | omega | decide) ?_) | (with_reducible refine frc_bytesM (by first | omega | decide) ?_))
  refine sn_btsM rfl ht.fit (fun h => by rw [ht.nil h]; rfl) (fun g hg => ?_)
  refine ⟨U8 t.l, ⟨U8_len _, fun q hq => by rw [hg q hq, U8_get _ _ hq]⟩, ?_⟩
  (repeat first | (refine And.intro ?_ ?_; first | exact rfl | ((exact fun h => absurd h (by first | decide)); intro yy; clear yy) | (rotate_left; (exact fun h => absurd h (by first | decide)); intro yy; clear yy) | decide | omega) | (with_reducible refine frc_bytesL (by first | omega | decide) ?_) | (with_reducible refine frc_bytesM (by first | omega | decide) ?_))
  by_cases h2 : U8 t.l ≠ [66, 73, 78, 49]
  · have k2 : decide (U8 t.l ≠ [66, 73, 78, 49]) = true := decide_eq_true h2
    have k2' : (!decide (U8 t.l = [66, 73, 78, 49])) = true := by rw [decide_eq_false h2]; rfl
    refine And.intro (fun _ => ?_) (fun h => Bool.noConfusion (h.symm.trans k2'))
    (repeat first | (refine And.intro ?_ ?_; first | exact rfl | ((exact fun h => absurd h (by first | decide)); intro yy; clear yy) | (rotate_left; (exact fun h => absurd h (by first | decide)); intro yy; clear yy) | decide | omega) | (with_reducible refine frc_bytesL (by first | omega | decide) ?_) | (with_reducible refine frc_bytesM (by first | omega | decide) ?_))
    refine call_same (fn_rfail A s1 4 hr1) [3, 2] rfl (by (repeat first | exact trivial | refine ent1 ?_)) (by first | exact eqC_btsM (by (repeat first | exact trivial | refine ent1 ?_)) | exact eqC_bts (by (repeat first | exact trivial | refine ent1 ?_))) (fun _ _ => trivial) ?_
    rintro x hs ⟨s2, l2, e2, hf2, hr2, rfl, rfl⟩
    obtain ⟨rfl, rfl⟩ : l2 = [] ∧ e2 = 4 := by
      have : failM l1 0 4 = ([], 4) := by unfold failM; rw [if_neg (by decide)]
      rw [this] at hf2
      simp only [Prod.mk.injEq] at hf2
      exact ⟨hf2.1.symm, hf2.2.symm⟩
    have h4 : (4 : Int) ≠ 0 := by decide
    have hT1 : decM s.l = dec2 ([], 4) := by unfold decM; rw [hx1]; dsimp only; rw [k2]; rfl
    (repeat first | (refine And.intro ?_ ?_; first | exact rfl | ((exact fun h => absurd h (by first | decide)); intro yy; clear yy) | (rotate_left; (exact fun h => absurd h (by first | decide)); intro yy; clear yy) | decide | omega) | (with_reducible refine frc_bytesL (by first | omega | decide) ?_) | (with_reducible refine frc_bytesM (by first | omega | decide) ?_))
    refine call_same (fn_rleast A s2 hr2) [3, 2] rfl (by (repeat first | exact trivial | refine ent1 ?_)) (by first | exact eqC_btsM (by (repeat first | exact trivial | refine ent1 ?_)) | exact eqC_bts (by (repeat first | exact trivial | refine ent1 ?_))) (fun _ _ => trivial) ?_
    rintro x hs ⟨n, s8, l8, e8, hx8, hr8, rfl, rfl⟩
    have hl0 := hr2.ended h4
    rw [leastM_err h4, hl0] at hx8
    obtain ⟨rfl, rfl, rfl⟩ : 0#64 = n ∧ [] = l8 ∧ 4 = e8 := by simp only [Prod.mk.injEq] at hx8; exact hx8
    rw [hl0, dec2_err h4] at hT1
    (repeat first | (refine And.intro ?_ ?_; first | exact rfl | ((exact fun h => absurd h (by first | decide)); intro yy; clear yy) | (rotate_left; (exact fun h => absurd h (by first | decide)); intro yy; clear yy) | decide | omega) | (with_reducible refine frc_bytesL (by first | omega | decide) ?_) | (with_reducible refine frc_bytesM (by first | omega | decide) ?_))
    refine .inr ⟨1, ?_⟩
    (repeat first | (refine And.intro ?_ ?_; first | exact rfl | ((exact fun h => absurd h (by first | decide)); intro yy; clear yy) | (rotate_left; (exact fun h => absurd h (by first | decide)); intro yy; clear yy) | decide | omega) | (with_reducible refine frc_bytesL (by first | omega | decide) ?_) | (with_reducible refine frc_bytesM (by first | omega | decide) ?_))
    refine call_same (fn_rend A s8 hr8) [3, 2] rfl (by (repeat first | exact trivial | refine ent1 ?_)) (by first | exact eqC_btsM (by (repeat first | exact trivial | refine ent1 ?_)) | exact eqC_bts (by (repeat first | exact trivial | refine ent1 ?_))) (fun _ _ => trivial) ?_
    rintro x hs ⟨s9, l9, ez, hx9, hr9, rfl, rfl⟩
    obtain ⟨rfl, rfl⟩ : [] = l9 ∧ 4 = ez := by simp only [endM, List.length_nil, Nat.lt_irrefl, if_false, Prod.mk.injEq] at hx9; exact hx9
    have k9 : decide ((4 : Int) ≠ 0) = true := decide_eq_true h4
    (repeat first | (refine And.intro ?_ ?_; first | exact rfl | ((exact fun h => absurd h (by first | decide | (rw [k9]; decide))); intro yy; clear yy) | (rotate_left; (exact fun h => absurd h (by first | decide | (rw [k9]; decide))); intro yy; clear yy) | decide | omega) | (with_reducible refine frc_bytesL (by first | omega | decide) ?_) | (with_reducible refine frc_bytesM (by first | omega | decide) ?_))
    refine finW_frz [0, 1] rfl (Nat.zero_lt_succ 1) cx0_m rfl (fun W' ms' α hL hI => ?_)
    refine ⟨.tup [.c (.slc none 0 0), .c (.int .i64 4)], [svB s], ⟨⟨rfl, rfl, rfl⟩, ?_⟩, [], none, 0, 0, 4, W', ms', hT1, hL, EvsAt.nul, rfl, rfl⟩
    (repeat first | exact trivial | refine ent1 ?_)
    refine eqC_btsZ ?_
    (repeat first | exact trivial | refine ent1 ?_)
  have k2 : decide (U8 t.l ≠ [66, 73, 78, 49]) = false := decide_eq_false h2
  have hT1 : decM s.l = dec2 (l1, 0) := by unfold decM; rw [hx1]; dsimp only; rw [k2]; rfl
  have k2' : (!decide (U8 t.l = [66, 73, 78, 49])) = false := by rw [decide_eq_true (Decidable.not_not.1 h2)]; rfl
  refine And.intro (fun h => Bool.noConfusion (h.symm.trans k2')) (fun _ => ?_)
  (repeat first | (refine And.intro ?_ ?_; first | exact rfl | ((exact fun h => absurd h (by first | decide)); intro yy; clear yy) | (rotate_left; (exact fun h => absurd h (by first | decide)); intro yy; clear yy) | decide | omega) | (with_reducible refine frc_bytesL (by first | omega | decide) ?_) | (with_reducible refine frc_bytesM (by first | omega | decide) ?_))
  refine call_same (fn_rleast A s1 hr1) [3, 2] rfl (by (repeat first | exact trivial | refine ent1 ?_)) (by first | exact eqC_btsM (by (repeat first | exact trivial | refine ent1 ?_)) | exact eqC_bts (by (repeat first | exact trivial | refine ent1 ?_))) (fun _ _ => trivial) ?_
  rintro x hs ⟨m, s3, l3, e3, hx3, hr3, rfl, rfl⟩
  by_cases h3 : 2048#64 < m
  · have k3 : decide (2048#64 < m) = true := decide_eq_true h3
    (repeat first | (refine And.intro ?_ ?_; first | exact rfl | ((exact fun h => absurd h (by first | decide | (rw [k3]; decide))); intro yy; clear yy) | (rotate_left; (exact fun h => absurd h (by first | decide | (rw [k3]; decide))); intro yy; clear yy) | decide | omega) | (with_reducible refine frc_bytesL (by first | omega | decide) ?_) | (with_reducible refine frc_bytesM (by first | omega | decide) ?_))
    refine call_same (fn_rfail A s3 7 hr3) [3, 2] rfl (by (repeat first | exact trivial | refine ent1 ?_)) (by first | exact eqC_btsM (by (repeat first | exact trivial | refine ent1 ?_)) | exact eqC_bts (by (repeat first | exact trivial | refine ent1 ?_))) (fun _ _ => trivial) ?_
    rintro x hs ⟨s4, l4, e4, hf4, hr4, rfl, rfl⟩
    have h4 : e4 ≠ 0 := by
      unfold failM at hf4
      split at hf4 <;> simp only [Prod.mk.injEq] at hf4 <;> omega
    have hl4 := hr4.ended h4
    subst hl4
    have hT1 : decM s.l = ([], e4) := by rw [hT1]; unfold dec2 dec3; dsimp only; rw [hx3]; dsimp only; rw [k3]; show finD (evsR _ _ (failM l3 e3 7).1 (failM l3 e3 7).2) = _; rw [hf4]; rw [evsR_err h4]; exact finD_err h4
    (repeat first | (refine And.intro ?_ ?_; first | exact rfl | ((exact fun h => absurd h (by first | decide)); intro yy; clear yy) | (rotate_left; (exact fun h => absurd h (by first | decide)); intro yy; clear yy) | decide | omega) | (with_reducible refine frc_bytesL (by first | omega | decide) ?_) | (with_reducible refine frc_bytesM (by first | omega | decide) ?_))
    refine .inr ⟨1, ?_⟩
    have k5 : decide (0#64 < m) = true := decide_eq_true (by rw [BitVec.lt_def] at h3 ⊢; have : (2048#64).toNat = 2048 := rfl; have : (0#64).toNat = 0 := rfl; omega)
    (repeat first | (refine And.intro ?_ ?_; first | exact rfl | ((exact fun h => absurd h (by first | decide | (rw [k5]; decide))); intro yy; clear yy) | (rotate_left; (exact fun h => absurd h (by first | decide | (rw [k5]; decide))); intro yy; clear yy) | decide | omega) | (with_reducible refine frc_bytesL (by first | omega | decide) ?_) | (with_reducible refine frc_bytesM (by first | omega | decide) ?_))
    refine call_same (fn_rerr A s4 hr4) [3, 2] rfl (by (repeat first | exact trivial | refine ent1 ?_)) (by first | exact eqC_btsM (by (repeat first | exact trivial | refine ent1 ?_)) | exact eqC_bts (by (repeat first | exact trivial | refine ent1 ?_))) (fun _ _ => trivial) ?_
    rintro x hs ⟨rfl, rfl⟩
    have k6 : decide (e4 = 0) = false := decide_eq_false h4
    (repeat first | (refine And.intro ?_ ?_; first | exact rfl | ((exact fun h => absurd h (by first | decide | (rw [k5]; decide) | (rw [k6]; decide))); intro yy; clear yy) | (rotate_left; (exact fun h => absurd h (by first | decide | (rw [k5]; decide) | (rw [k6]; decide))); intro yy; clear yy) | decide | omega) | (with_reducible refine frc_bytesL (by first | omega | decide) ?_) | (with_reducible refine frc_bytesM (by first | omega | decide) ?_))
    refine call_same (fn_rend A s4 hr4) [3, 2] rfl (by (repeat first | exact trivial | refine ent1 ?_)) (by first | exact eqC_btsM (by (repeat first | exact trivial | refine ent1 ?_)) | exact eqC_bts (by (repeat first | exact trivial | refine ent1 ?_))) (fun _ _ => trivial) ?_
    rintro x hs ⟨s9, l9, ez, hx9, hr9, rfl, rfl⟩
    obtain ⟨rfl, rfl⟩ : [] = l9 ∧ e4 = ez := by simp only [endM, List.length_nil, Nat.lt_irrefl, if_false, Prod.mk.injEq] at hx9; exact hx9
    have k9 : decide ((e4 : Int) ≠ 0) = true := decide_eq_true h4
    (repeat first | (refine And.intro ?_ ?_; first | exact rfl | ((exact fun h => absurd h (by first | decide | (rw [k9]; decide))); intro yy; clear yy) | (rotate_left; (exact fun h => absurd h (by first | decide | (rw [k9]; decide))); intro yy; clear yy) | decide | omega) | (with_reducible refine frc_bytesL (by first | omega | decide) ?_) | (with_reducible refine frc_bytesM (by first | omega | decide) ?_))
    refine finW_frz [0, 1] rfl (Nat.zero_lt_succ 1) cx0_m rfl (fun W' ms' α hL hI => ?_)
    refine ⟨.tup [.c (.slc none 0 0), .c (.int .i64 e4)], [svB s], ⟨⟨rfl, rfl, rfl⟩, ?_⟩, [], none, 0, 0, e4, W', ms', hT1, hL, EvsAt.nul, rfl, rfl⟩
    (repeat first | exact trivial | refine ent1 ?_)
    refine eqC_btsZ ?_
    (repeat first | exact trivial | refine ent1 ?_)
  have k3 : decide (2048#64 < m) = false := decide_eq_false h3
  (repeat first | (refine And.intro ?_ ?_; first | exact rfl | ((exact fun h => absurd h (by first | decide | (rw [k3]; decide))); intro yy; clear yy) | (rotate_left; (exact fun h => absurd h (by first | decide | (rw [k3]; decide))); intro yy; clear yy) | decide | omega) | (with_reducible refine frc_bytesL (by first | omega | decide) ?_) | (with_reducible refine frc_bytesM (by first | omega | decide) ?_))
  have hm2 : m.toNat ≤ 2048 := by
    rw [BitVec.lt_def] at h3
    have : (2048#64).toNat = 2048 := rfl
    omega
  have hT2 : decM s.l = finD (evsR m.toNat 0#64 l3 e3) := by rw [hT1]; unfold dec2 dec3; dsimp only; rw [hx3]; dsimp only; rw [k3]; rfl
  clear hT1
  refine .inl ⟨Option (Nat × List Ev × List SC × Nat × RS × Bs × Int × BitVec 64 × World × List Nat), fun x => match x with
    | none => ⟨[.a (.c (svC 1 s)), .any, .any, .any, .a (.c (.p 2 0 0)), .any, .a (.c (.w64 (m))), .a (.c (.slc none 0 0)), .a (.c (.w64 ((0#64)))), .a (.c (.w64 ((0#64)))), .any, .any, .any, .any, .any, .any, .any, .any, .any, .any, .any, .any, .any, .any, .any, .any, .any, .any, .any, .any, .any, .any, .any, .any, .any, .any, .any, .any, .any, .any, .any, .any, .any, .any, .any, .any, .any, .any, .any, .any, .any, .any, .any, .any, .any, .any, .any, .any, .any, .any, .any, .any, .any, .any, .any, .any, .any, .any], [[.past W ms], svB s, rdCi 3 s3, svB A]⟩
    | some (i, done, cs, c', s', l', e', last, W', ms') => ⟨[.a (.c (svC 1 s)), .any, .any, .any, .a (.c (.p 2 0 0)), .any, .a (.c (.w64 (m))), .a (.c (.sl 4 0 0 i c')), .a (.c (.w64 (last))), .a (.c (.w64 ((BitVec.ofNat 64 i)))), .any, .any, .any, .any, .any, .any, .any, .any, .any, .any, .any, .any, .any, .any, .any, .any, .any, .any, .any, .any, .any, .any, .any, .any, .any, .any, .any, .any, .any, .any, .any, .any, .any, .any, .any, .any, .any, .any, .any, .any, .any, .any, .any, .any, .any, .any, .any, .any, .any, .any, .any, .any, .any, .any, .any, .any, .any, .any], [[.past W' ms'], svB s, rdCi 3 s', svB A, [.row (scale c' (3 + 1)) (nthC cs)]]⟩,
    fun x => match x with
    | none => True
    | some (i, done, cs, c', s', l', e', last, W', ms') => (1 ≤ i ∧ i ≤ m.toNat ∧ i ≤ c' ∧ done.length = i) ∧ Later W ms W' ms' ∧ RowAt W' ms' cs done ∧ RdI A s' l' e' ∧ evsR m.toNat 0#64 l3 e3 = (done ++ (evsR (m.toNat - i) last l' e').1, (evsR (m.toNat - i) last l' e').2),
    fun x => match x with
    | none => m.toNat + 1
    | some (i, _, _, _, _, _, _, _, _, _) => m.toNat - i, ⟨none, [0, 1, 2, 3], ⟨⟨rfl, rfl, rfl⟩, ?_⟩, trivial⟩, fun x hp => ?_⟩
  · (repeat first | exact trivial | refine ent1 ?_)
    refine eqC_bts ?_
    (repeat first | exact trivial | refine ent1 ?_)
    refine eqC_btsM ?_
    (repeat first | exact trivial | refine ent1 ?_)
  rcases x with _ | ⟨i, done, cs, c', s', l', e', last, W', ms'⟩
  · skip
    by_cases hi : 0 < m.toNat
    · have ki : decide ((0#64) < m) = true := (u64_lt (i := 0) (by omega)).trans (decide_eq_true hi)
      (repeat first | (refine And.intro ?_ ?_; first | exact rfl | ((exact fun h => absurd h (by first | decide | (rw [ki]; decide))); intro yy; clear yy) | (rotate_left; (exact fun h => absurd h (by first | decide | (rw [ki]; decide))); intro yy; clear yy) | decide | omega) | (with_reducible refine frc_bytesL (by first | omega | decide) ?_) | (with_reducible refine frc_bytesM (by first | omega | decide) ?_))
      refine call_same (fn_rerr A s3 hr3) [3, 2] rfl (by (repeat first | exact trivial | refine ent1 ?_)) (by first | exact eqC_btsM (by (repeat first | exact trivial | refine ent1 ?_)) | exact eqC_bts (by (repeat first | exact trivial | refine ent1 ?_))) (fun _ _ => trivial) ?_
      rintro x hs ⟨rfl, rfl⟩
      by_cases he0 : e3 = 0
      · have ke : decide (e3 = 0) = true := decide_eq_true he0
        (repeat first | (refine And.intro ?_ ?_; first | exact rfl | ((exact fun h => absurd h (by first | decide | (rw [ki]; decide) | (rw [ke]; decide))); intro yy; clear yy) | (rotate_left; (exact fun h => absurd h (by first | decide | (rw [ki]; decide) | (rw [ke]; decide))); intro yy; clear yy) | decide | omega) | (with_reducible refine frc_bytesL (by first | omega | decide) ?_) | (with_reducible refine frc_bytesM (by first | omega | decide) ?_))
        subst he0
        refine call_past (fn_btake (W := W) (ms := ms) A s3 hr3 0#64) 0 [3, 2] rfl rfl (by (repeat first | exact trivial | refine ent1 ?_)) ?_ (fun _ _ => trivial) (fun x hs hr => ?_) ?_
        · (repeat first | exact trivial | refine ent1 ?_)
          first | refine eqC_btsM ?_ | refine eqC_bts ?_
          (repeat first | exact trivial | refine ent1 ?_)
        · obtain ⟨ev, x, s5, l5, e5, W5, ms5, _, _, hL5, _, _, rfl⟩ := hr
          exact ⟨W5, ms5, rfl, hL5⟩
        rintro y hs' ⟨ev, x, s5, l5, e5, W5, ms5, hT5, hr5, hL5, hx5, rfl, rfl⟩
        obtain ⟨kk, hkk⟩ : ∃ kk, m.toNat - 0 = kk + 1 := ⟨m.toNat - 0 - 1, by omega⟩
        (repeat first | (refine And.intro ?_ ?_; first | exact rfl | ((exact fun h => absurd h (by first | decide)); intro yy; clear yy) | (rotate_left; (exact fun h => absurd h (by first | decide)); intro yy; clear yy) | decide | omega) | (with_reducible refine frc_bytesL (by first | omega | decide) ?_) | (with_reducible refine frc_bytesM (by first | omega | decide) ?_))
        by_cases h6 : ev.k = 19#8
        · have k6 : decide (ev.k = 19#8) = true := decide_eq_true h6
          by_cases h7 : 0 + 1 < m.toNat
          · have k7 : decide ((0#64) + 1#64 < m) = true := (u64_lt1 (i := 0) hi).trans (decide_eq_true h7)
            (repeat first | (refine And.intro ?_ ?_; first | exact rfl | ((exact fun h => absurd h (by first | decide | (rw [k6]; decide) | (rw [k7]; decide))); intro yy; clear yy) | (rotate_left; (exact fun h => absurd h (by first | decide | (rw [k6]; decide) | (rw [k7]; decide))); intro yy; clear yy) | decide | omega) | (with_reducible refine frc_bytesL (by first | omega | decide) ?_) | (with_reducible refine frc_bytesM (by first | omega | decide) ?_))
            refine call_same (fn_rfail A s5 10 hr5) [3, 2] rfl (by (repeat first | exact trivial | refine ent1 ?_)) (by first | exact eqC_btsM (by (repeat first | exact trivial | refine ent1 ?_)) | exact eqC_bts (by (repeat first | exact trivial | refine ent1 ?_))) (fun _ _ => trivial) ?_
            rintro x hs ⟨s6, l6, e6, hf6, hr6, rfl, rfl⟩
            have hf7 : failIf (decide (ev.k = 19#8) && decide (kk ≠ 0)) 10 (l5, e5) = (l6, e6) := by rw [k6, decide_eq_true (show kk ≠ 0 by omega)]; exact hf6
            have hstep := evsR_step (k := kk) hT5 hf7
            rw [show m.toNat = kk + 1 from hkk] at hT2
            have hnew : EvAt W5 ms5 x ev := hx5
            (repeat first | (refine And.intro ?_ ?_; first | exact rfl | ((exact fun h => absurd h (by first | decide)); intro yy; clear yy) | (rotate_left; (exact fun h => absurd h (by first | decide)); intro yy; clear yy) | decide | omega) | (with_reducible refine frc_bytesL (by first | omega | decide) ?_) | (with_reducible refine frc_bytesM (by first | omega | decide) ?_))
            refine And.intro (show 0 + 4 ≤ 4 by decide) ?_
            (repeat first | (refine And.intro ?_ ?_; first | exact rfl | ((exact fun h => absurd h (by first | decide)); intro yy; clear yy) | (rotate_left; (exact fun h => absurd h (by first | decide)); intro yy; clear yy) | decide | omega) | (with_reducible refine frc_bytesL (by first | omega | decide) ?_) | (with_reducible refine frc_bytesM (by first | omega | decide) ?_))
            intro c2 hc2
            (repeat first | (refine And.intro ?_ ?_; first | exact rfl | ((exact fun h => absurd h (by first | decide)); intro yy; clear yy) | (rotate_left; (exact fun h => absurd h (by first | decide)); intro yy; clear yy) | decide | omega) | (with_reducible refine frc_bytesL (by first | omega | decide) ?_) | (with_reducible refine frc_bytesM (by first | omega | decide) ?_))
            have hrw : RowAt W5 ms5 (flat (evS ev x)) [ev] := RowAt.nil.snoc hnew
            refine ⟨some (1, [ev], flat (evS ev x), c2, s6, l6, e6, ev.t, W5, ms5), [0, 1, 2, 3, 6], ⟨⟨rfl, rfl, rfl⟩, ?_⟩, ⟨⟨Nat.le_refl _, by omega, hc2, rfl⟩, hL5, hrw, hr6, ?_⟩, by dsimp only; omega⟩
            · (repeat first | exact trivial | refine ent1 ?_)
              refine eqC_bts ?_
              (repeat first | exact trivial | refine ent1 ?_)
              first | refine eqC_btsM ?_ | refine eqC_bts ?_
              (repeat first | exact trivial | refine ent1 ?_)
              exact ⟨fun j hj => eqC_cs hrw.raw (new_cs rfl fun j hj => updN_new hj) j, by (repeat first | exact trivial | refine ent1 ?_)⟩
            · rw [show m.toNat = kk + 1 from hkk, hstep]; rfl
          · have k7 : decide ((0#64) + 1#64 < m) = false := (u64_lt1 (i := 0) hi).trans (decide_eq_false h7)
            (repeat first | (refine And.intro ?_ ?_; first | exact rfl | ((exact fun h => absurd h (by first | decide | (rw [k6]; decide) | (rw [k7]; decide))); intro yy; clear yy) | (rotate_left; (exact fun h => absurd h (by first | decide | (rw [k6]; decide) | (rw [k7]; decide))); intro yy; clear yy) | decide | omega) | (with_reducible refine frc_bytesL (by first | omega | decide) ?_) | (with_reducible refine frc_bytesM (by first | omega | decide) ?_))
            have hf7 : failIf (decide (ev.k = 19#8) && decide (kk ≠ 0)) 10 (l5, e5) = (l5, e5) := by rw [k6, decide_eq_false (show ¬ kk ≠ 0 by omega)]; rfl
            have hstep := evsR_step (k := kk) hT5 hf7
            rw [show m.toNat = kk + 1 from hkk] at hT2
            have hnew : EvAt W5 ms5 x ev := hx5
            (repeat first | (refine And.intro ?_ ?_; first | exact rfl | ((exact fun h => absurd h (by first | decide)); intro yy; clear yy) | (rotate_left; (exact fun h => absurd h (by first | decide)); intro yy; clear yy) | decide | omega) | (with_reducible refine frc_bytesL (by first | omega | decide) ?_) | (with_reducible refine frc_bytesM (by first | omega | decide) ?_))
            refine And.intro (show 0 + 4 ≤ 4 by decide) ?_
            (repeat first | (refine And.intro ?_ ?_; first | exact rfl | ((exact fun h => absurd h (by first | decide)); intro yy; clear yy) | (rotate_left; (exact fun h => absurd h (by first | decide)); intro yy; clear yy) | decide | omega) | (with_reducible refine frc_bytesL (by first | omega | decide) ?_) | (with_reducible refine frc_bytesM (by first | omega | decide) ?_))
            intro c2 hc2
            (repeat first | (refine And.intro ?_ ?_; first | exact rfl | ((exact fun h => absurd h (by first | decide)); intro yy; clear yy) | (rotate_left; (exact fun h => absurd h (by first | decide)); intro yy; clear yy) | decide | omega) | (with_reducible refine frc_bytesL (by first | omega | decide) ?_) | (with_reducible refine frc_bytesM (by first | omega | decide) ?_))
            have hrw : RowAt W5 ms5 (flat (evS ev x)) [ev] := RowAt.nil.snoc hnew
            refine ⟨some (1, [ev], flat (evS ev x), c2, s5, l5, e5, ev.t, W5, ms5), [0, 1, 2, 3, 6], ⟨⟨rfl, rfl, rfl⟩, ?_⟩, ⟨⟨Nat.le_refl _, by omega, hc2, rfl⟩, hL5, hrw, hr5, ?_⟩, by dsimp only; omega⟩
            · (repeat first | exact trivial | refine ent1 ?_)
              refine eqC_bts ?_
              (repeat first | exact trivial | refine ent1 ?_)
              first | refine eqC_btsM ?_ | refine eqC_bts ?_
              (repeat first | exact trivial | refine ent1 ?_)
              exact ⟨fun j hj => eqC_cs hrw.raw (new_cs rfl fun j hj => updN_new hj) j, by (repeat first | exact trivial | refine ent1 ?_)⟩
            · rw [show m.toNat = kk + 1 from hkk, hstep]; rfl
        · have k6 : decide (ev.k = 19#8) = false := decide_eq_false h6
          (repeat first | (refine And.intro ?_ ?_; first | exact rfl | ((exact fun h => absurd h (by first | decide | (rw [k6]; decide))); intro yy; clear yy) | (rotate_left; (exact fun h => absurd h (by first | decide | (rw [k6]; decide))); intro yy; clear yy) | decide | omega) | (with_reducible refine frc_bytesL (by first | omega | decide) ?_) | (with_reducible refine frc_bytesM (by first | omega | decide) ?_))
          have hf7 : failIf (decide (ev.k = 19#8) && decide (kk ≠ 0)) 10 (l5, e5) = (l5, e5) := by rw [k6]; rfl
          have hstep := evsR_step (k := kk) hT5 hf7
          rw [show m.toNat = kk + 1 from hkk] at hT2
          have hnew : EvAt W5 ms5 x ev := hx5
          (repeat first | (refine And.intro ?_ ?_; first | exact rfl | ((exact fun h => absurd h (by first | decide)); intro yy; clear yy) | (rotate_left; (exact fun h => absurd h (by first | decide)); intro yy; clear yy) | decide | omega) | (with_reducible refine frc_bytesL (by first | omega | decide) ?_) | (with_reducible refine frc_bytesM (by first | omega | decide) ?_))
          refine And.intro (show 0 + 4 ≤ 4 by decide) ?_
          (repeat first | (refine And.intro ?_ ?_; first | exact rfl | ((exact fun h => absurd h (by first | decide)); intro yy; clear yy) | (rotate_left; (exact fun h => absurd h (by first | decide)); intro yy; clear yy) | decide | omega) | (with_reducible refine frc_bytesL (by first | omega | decide) ?_) | (with_reducible refine frc_bytesM (by first | omega | decide) ?_))
          intro c2 hc2
          (repeat first | (refine And.intro ?_ ?_; first | exact rfl | ((exact fun h => absurd h (by first | decide)); intro yy; clear yy) | (rotate_left; (exact fun h => absurd h (by first | decide)); intro yy; clear yy) | decide | omega) | (with_reducible refine frc_bytesL (by first | omega | decide) ?_) | (with_reducible refine frc_bytesM (by first | omega | decide) ?_))
          have hrw : RowAt W5 ms5 (flat (evS ev x)) [ev] := RowAt.nil.snoc hnew
          refine ⟨some (1, [ev], flat (evS ev x), c2, s5, l5, e5, ev.t, W5, ms5), [0, 1, 2, 3, 6], ⟨⟨rfl, rfl, rfl⟩, ?_⟩, ⟨⟨Nat.le_refl _, by omega, hc2, rfl⟩, hL5, hrw, hr5, ?_⟩, by dsimp only; omega⟩
          · (repeat first | exact trivial | refine ent1 ?_)
            refine eqC_bts ?_
            (repeat first | exact trivial | refine ent1 ?_)
            first | refine eqC_btsM ?_ | refine eqC_bts ?_
            (repeat first | exact trivial | refine ent1 ?_)
            exact ⟨fun j hj => eqC_cs hrw.raw (new_cs rfl fun j hj => updN_new hj) j, by (repeat first | exact trivial | refine ent1 ?_)⟩
          · rw [show m.toNat = kk + 1 from hkk, hstep]; rfl
      · have ke : decide (e3 = 0) = false := decide_eq_false he0
        (repeat first | (refine And.intro ?_ ?_; first | exact rfl | ((exact fun h => absurd h (by first | decide | (rw [ki]; decide) | (rw [ke]; decide))); intro yy; clear yy) | (rotate_left; (exact fun h => absurd h (by first | decide | (rw [ki]; decide) | (rw [ke]; decide))); intro yy; clear yy) | decide | omega) | (with_reducible refine frc_bytesL (by first | omega | decide) ?_) | (with_reducible refine frc_bytesM (by first | omega | decide) ?_))
        have hT3 : decM s.l = finD ([], l3, e3) := by rw [hT2, evsR_err he0]
        refine call_same (fn_rend A s3 hr3) [3, 2] rfl (by (repeat first | exact trivial | refine ent1 ?_)) (by first | exact eqC_btsM (by (repeat first | exact trivial | refine ent1 ?_)) | exact eqC_bts (by (repeat first | exact trivial | refine ent1 ?_))) (fun _ _ => trivial) ?_
        rintro x hs ⟨s9, l9, ez, hx9, hr9, rfl, rfl⟩
        rw [finD_nil hx9] at hT3
        by_cases h9 : ez ≠ 0
        · have k9 : decide (ez ≠ 0) = true := decide_eq_true h9
          rw [if_pos h9] at hT3
          (repeat first | (refine And.intro ?_ ?_; first | exact rfl | ((exact fun h => absurd h (by first | decide | (rw [k9]; decide))); intro yy; clear yy) | (rotate_left; (exact fun h => absurd h (by first | decide | (rw [k9]; decide))); intro yy; clear yy) | decide | omega) | (with_reducible refine frc_bytesL (by first | omega | decide) ?_) | (with_reducible refine frc_bytesM (by first | omega | decide) ?_))
          refine finW_frz [0, 1] rfl (Nat.zero_lt_succ 1) cx0_m rfl (fun W' ms' α hL hI => ?_)
          refine ⟨.tup [.c (.slc none 0 0), .c (.int .i64 ez)], [svB s], ⟨⟨rfl, rfl, rfl⟩, ?_⟩, [], none, 0, 0, ez, W', ms', hT3, hL, EvsAt.nul, rfl, rfl⟩
          (repeat first | exact trivial | refine ent1 ?_)
          refine eqC_btsZ ?_
          (repeat first | exact trivial | refine ent1 ?_)
        · have k9 : decide (ez ≠ 0) = false := decide_eq_false h9
          rw [if_neg h9] at hT3
          (repeat first | (refine And.intro ?_ ?_; first | exact rfl | ((exact fun h => absurd h (by first | decide | (rw [k9]; decide))); intro yy; clear yy) | (rotate_left; (exact fun h => absurd h (by first | decide | (rw [k9]; decide))); intro yy; clear yy) | decide | omega) | (with_reducible refine frc_bytesL (by first | omega | decide) ?_) | (with_reducible refine frc_bytesM (by first | omega | decide) ?_))
          refine finW_frz [0, 1] rfl (Nat.zero_lt_succ 1) cx0_m rfl (fun W' ms' α hL hI => ?_)
          refine ⟨.tup [.c (.slc none 0 0), .c (.int .i64 0)], [svB s], ⟨⟨rfl, rfl, rfl⟩, ?_⟩, [], none, 0, 0, 0, W', ms', hT3, hL, EvsAt.nul, rfl, rfl⟩
          (repeat first | exact trivial | refine ent1 ?_)
          refine eqC_btsZ ?_
          (repeat first | exact trivial | refine ent1 ?_)
    · have ki : decide ((0#64) < m) = false := (u64_lt (i := 0) (by omega)).trans (decide_eq_false hi)
      (repeat first | (refine And.intro ?_ ?_; first | exact rfl | ((exact fun h => absurd h (by first | decide | (rw [ki]; decide))); intro yy; clear yy) | (rotate_left; (exact fun h => absurd h (by first | decide | (rw [ki]; decide))); intro yy; clear yy) | decide | omega) | (with_reducible refine frc_bytesL (by first | omega | decide) ?_) | (with_reducible refine frc_bytesM (by first | omega | decide) ?_))
      have hT3 : decM s.l = finD ([], l3, e3) := by rw [hT2, show m.toNat = 0 by omega]; rfl
      refine call_same (fn_rend A s3 hr3) [3, 2] rfl (by (repeat first | exact trivial | refine ent1 ?_)) (by first | exact eqC_btsM (by (repeat first | exact trivial | refine ent1 ?_)) | exact eqC_bts (by (repeat first | exact trivial | refine ent1 ?_))) (fun _ _ => trivial) ?_
      rintro x hs ⟨s9, l9, ez, hx9, hr9, rfl, rfl⟩
      rw [finD_nil hx9] at hT3
      by_cases h9 : ez ≠ 0
      · have k9 : decide (ez ≠ 0) = true := decide_eq_true h9
        rw [if_pos h9] at hT3
        (repeat first | (refine And.intro ?_ ?_; first | exact rfl | ((exact fun h => absurd h (by first | decide | (rw [k9]; decide))); intro yy; clear yy) | (rotate_left; (exact fun h => absurd h (by first | decide | (rw [k9]; decide))); intro yy; clear yy) | decide | omega) | (with_reducible refine frc_bytesL (by first | omega | decide) ?_) | (with_reducible refine frc_bytesM (by first | omega | decide) ?_))
        refine finW_frz [0, 1] rfl (Nat.zero_lt_succ 1) cx0_m rfl (fun W' ms' α hL hI => ?_)
        refine ⟨.tup [.c (.slc none 0 0), .c (.int .i64 ez)], [svB s], ⟨⟨rfl, rfl, rfl⟩, ?_⟩, [], none, 0, 0, ez, W', ms', hT3, hL, EvsAt.nul, rfl, rfl⟩
        (repeat first | exact trivial | refine ent1 ?_)
        refine eqC_btsZ ?_
        (repeat first | exact trivial | refine ent1 ?_)
      · have k9 : decide (ez ≠ 0) = false := decide_eq_false h9
        rw [if_neg h9] at hT3
        (repeat first | (refine And.intro ?_ ?_; first | exact rfl | ((exact fun h => absurd h (by first | decide | (rw [k9]; decide))); intro yy; clear yy) | (rotate_left; (exact fun h => absurd h (by first | decide | (rw [k9]; decide))); intro yy; clear yy) | decide | omega) | (with_reducible refine frc_bytesL (by first | omega | decide) ?_) | (with_reducible refine frc_bytesM (by first | omega | decide) ?_))
        refine finW_frz [0, 1] rfl (Nat.zero_lt_succ 1) cx0_m rfl (fun W' ms' α hL hI => ?_)
        refine ⟨.tup [.c (.slc none 0 0), .c (.int .i64 0)], [svB s], ⟨⟨rfl, rfl, rfl⟩, ?_⟩, [], none, 0, 0, 0, W', ms', hT3, hL, EvsAt.nul, rfl, rfl⟩
        (repeat first | exact trivial | refine ent1 ?_)
        refine eqC_btsZ ?_
        (repeat first | exact trivial | refine ent1 ?_)
  · obtain ⟨⟨g1, g2, g3, g4⟩, hL, hrow, hr', hE⟩ := hp
    by_cases hi : i < m.toNat
    · have ki : decide ((BitVec.ofNat 64 i) < m) = true := (u64_lt (i := i) (by omega)).trans (decide_eq_true hi)
      (repeat first | (refine And.intro ?_ ?_; first | exact rfl | ((exact fun h => absurd h (by first | decide | (rw [ki]; decide))); intro yy; clear yy) | (rotate_left; (exact fun h => absurd h (by first | decide | (rw [ki]; decide))); intro yy; clear yy) | decide | omega) | (with_reducible refine frc_bytesL (by first | omega | decide) ?_) | (with_reducible refine frc_bytesM (by first | omega | decide) ?_))
      refine call_same (fn_rerr A s' hr') [3, 2] rfl (by (repeat first | exact trivial | refine ent1 ?_)) (by first | exact eqC_btsM (by (repeat first | exact trivial | refine ent1 ?_)) | exact eqC_bts (by (repeat first | exact trivial | refine ent1 ?_))) (fun _ _ => trivial) ?_
      rintro x hs ⟨rfl, rfl⟩
      by_cases he0 : e' = 0
      · have ke : decide (e' = 0) = true := decide_eq_true he0
        (repeat first | (refine And.intro ?_ ?_; first | exact rfl | ((exact fun h => absurd h (by first | decide | (rw [ki]; decide) | (rw [ke]; decide))); intro yy; clear yy) | (rotate_left; (exact fun h => absurd h (by first | decide | (rw [ki]; decide) | (rw [ke]; decide))); intro yy; clear yy) | decide | omega) | (with_reducible refine frc_bytesL (by first | omega | decide) ?_) | (with_reducible refine frc_bytesM (by first | omega | decide) ?_))
        subst he0
        refine call_past (fn_btake (W := W') (ms := ms') A s' hr' last) 0 [3, 2] rfl rfl (by (repeat first | exact trivial | refine ent1 ?_)) ?_ (fun _ _ => trivial) (fun x hs hr => ?_) ?_
        · (repeat first | exact trivial | refine ent1 ?_)
          first | refine eqC_btsM ?_ | refine eqC_bts ?_
          (repeat first | exact trivial | refine ent1 ?_)
        · obtain ⟨ev, x, s5, l5, e5, W5, ms5, _, _, hL5, _, _, rfl⟩ := hr
          exact ⟨W5, ms5, rfl, hL5⟩
        rintro y hs' ⟨ev, x, s5, l5, e5, W5, ms5, hT5, hr5, hL5, hx5, rfl, rfl⟩
        obtain ⟨kk, hkk⟩ : ∃ kk, m.toNat - i = kk + 1 := ⟨m.toNat - i - 1, by omega⟩
        (repeat first | (refine And.intro ?_ ?_; first | exact rfl | ((exact fun h => absurd h (by first | decide)); intro yy; clear yy) | (rotate_left; (exact fun h => absurd h (by first | decide)); intro yy; clear yy) | decide | omega) | (with_reducible refine frc_bytesL (by first | omega | decide) ?_) | (with_reducible refine frc_bytesM (by first | omega | decide) ?_))
        by_cases h6 : ev.k = 19#8
        · have k6 : decide (ev.k = 19#8) = true := decide_eq_true h6
          by_cases h7 : i + 1 < m.toNat
          · have k7 : decide ((BitVec.ofNat 64 i) + 1#64 < m) = true := (u64_lt1 (i := i) hi).trans (decide_eq_true h7)
            (repeat first | (refine And.intro ?_ ?_; first | exact rfl | ((exact fun h => absurd h (by first | decide | (rw [k6]; decide) | (rw [k7]; decide))); intro yy; clear yy) | (rotate_left; (exact fun h => absurd h (by first | decide | (rw [k6]; decide) | (rw [k7]; decide))); intro yy; clear yy) | decide | omega) | (with_reducible refine frc_bytesL (by first | omega | decide) ?_) | (with_reducible refine frc_bytesM (by first | omega | decide) ?_))
            refine call_same (fn_rfail A s5 10 hr5) [3, 2] rfl (by (repeat first | exact trivial | refine ent1 ?_)) (by first | exact eqC_btsM (by (repeat first | exact trivial | refine ent1 ?_)) | exact eqC_bts (by (repeat first | exact trivial | refine ent1 ?_))) (fun _ _ => trivial) ?_
            rintro x hs ⟨s6, l6, e6, hf6, hr6, rfl, rfl⟩
            have hf7 : failIf (decide (ev.k = 19#8) && decide (kk ≠ 0)) 10 (l5, e5) = (l6, e6) := by rw [k6, decide_eq_true (show kk ≠ 0 by omega)]; exact hf6
            have hstep := evsR_step (k := kk) hT5 hf7
            have hnew : EvAt W5 ms5 x ev := hx5
            (repeat first | (refine And.intro ?_ ?_; first | exact rfl | ((exact fun h => absurd h (by first | decide)); intro yy; clear yy) | (rotate_left; (exact fun h => absurd h (by first | decide)); intro yy; clear yy) | decide | omega) | (with_reducible refine frc_bytesL (by first | omega | decide) ?_) | (with_reducible refine frc_bytesM (by first | omega | decide) ?_))
            refine And.intro (show 0 + 4 ≤ 4 by decide) ?_
            refine And.intro (show 0 + scale 1 (3 + 1) ≤ 4 by decide) ?_
            refine And.intro ⟨g3, by first | omega | (rw [sc4]; omega), show (i + 1) * 64 ≤ 140737488355328 by omega⟩ ?_
            intro c2 hc2
            (repeat first | (refine And.intro ?_ ?_; first | exact rfl | ((exact fun h => absurd h (by first | decide)); intro yy; clear yy) | (rotate_left; (exact fun h => absurd h (by first | decide)); intro yy; clear yy) | decide | omega) | (with_reducible refine frc_bytesL (by first | omega | decide) ?_) | (with_reducible refine frc_bytesM (by first | omega | decide) ?_))
            have hrw : RowAt W5 ms5 (cs ++ flat (evS ev x)) (done ++ [ev]) := (hrow.later hL5).snoc hnew
            refine ⟨some (i + 1, done ++ [ev], cs ++ flat (evS ev x), c2, s6, l6, e6, ev.t, W5, ms5), [0, 1, 2, 3, 7], ⟨⟨rfl, rfl, rfl⟩, ?_⟩, ⟨⟨by omega, by omega, hc2, by rw [List.length_append, g4]; rfl⟩, hL.trans hL5, hrw, hr6, ?_⟩, by dsimp only; omega⟩
            · (repeat first | exact trivial | refine ent1 ?_)
              refine And.intro (ofNat_succ i) ?_
              (repeat first | exact trivial | refine ent1 ?_)
              refine eqC_bts ?_
              (repeat first | exact trivial | refine ent1 ?_)
              first | refine eqC_btsM ?_ | refine eqC_bts ?_
              (repeat first | exact trivial | refine ent1 ?_)
              exact ⟨fun j hj => eqC_cs hrw.raw (app_cs (by rw [hrow.len, g4]) (fun _ _ => rfl) rfl fun j hj => updN_new hj) j, by (repeat first | exact trivial | refine ent1 ?_)⟩
            · rw [hE, hkk, hstep, show m.toNat - (i + 1) = kk by omega, List.append_assoc]; rfl
          · have k7 : decide ((BitVec.ofNat 64 i) + 1#64 < m) = false := (u64_lt1 (i := i) hi).trans (decide_eq_false h7)
            (repeat first | (refine And.intro ?_ ?_; first | exact rfl | ((exact fun h => absurd h (by first | decide | (rw [k6]; decide) | (rw [k7]; decide))); intro yy; clear yy) | (rotate_left; (exact fun h => absurd h (by first | decide | (rw [k6]; decide) | (rw [k7]; decide))); intro yy; clear yy) | decide | omega) | (with_reducible refine frc_bytesL (by first | omega | decide) ?_) | (with_reducible refine frc_bytesM (by first | omega | decide) ?_))
            have hf7 : failIf (decide (ev.k = 19#8) && decide (kk ≠ 0)) 10 (l5, e5) = (l5, e5) := by rw [k6, decide_eq_false (show ¬ kk ≠ 0 by omega)]; rfl
            have hstep := evsR_step (k := kk) hT5 hf7
            have hnew : EvAt W5 ms5 x ev := hx5
            (repeat first | (refine And.intro ?_ ?_; first | exact rfl | ((exact fun h => absurd h (by first | decide)); intro yy; clear yy) | (rotate_left; (exact fun h => absurd h (by first | decide)); intro yy; clear yy) | decide | omega) | (with_reducible refine frc_bytesL (by first | omega | decide) ?_) | (with_reducible refine frc_bytesM (by first | omega | decide) ?_))
            refine And.intro (show 0 + 4 ≤ 4 by decide) ?_
            refine And.intro (show 0 + scale 1 (3 + 1) ≤ 4 by decide) ?_
            refine And.intro ⟨g3, by first | omega | (rw [sc4]; omega), show (i + 1) * 64 ≤ 140737488355328 by omega⟩ ?_
            intro c2 hc2
            (repeat first | (refine And.intro ?_ ?_; first | exact rfl | ((exact fun h => absurd h (by first | decide)); intro yy; clear yy) | (rotate_left; (exact fun h => absurd h (by first | decide)); intro yy; clear yy) | decide | omega) | (with_reducible refine frc_bytesL (by first | omega | decide) ?_) | (with_reducible refine frc_bytesM (by first | omega | decide) ?_))
            have hrw : RowAt W5 ms5 (cs ++ flat (evS ev x)) (done ++ [ev]) := (hrow.later hL5).snoc hnew
            refine ⟨some (i + 1, done ++ [ev], cs ++ flat (evS ev x), c2, s5, l5, e5, ev.t, W5, ms5), [0, 1, 2, 3, 7], ⟨⟨rfl, rfl, rfl⟩, ?_⟩, ⟨⟨by omega, by omega, hc2, by rw [List.length_append, g4]; rfl⟩, hL.trans hL5, hrw, hr5, ?_⟩, by dsimp only; omega⟩
            · (repeat first | exact trivial | refine ent1 ?_)
              refine And.intro (ofNat_succ i) ?_
              (repeat first | exact trivial | refine ent1 ?_)
              refine eqC_bts ?_
              (repeat first | exact trivial | refine ent1 ?_)
              first | refine eqC_btsM ?_ | refine eqC_bts ?_
              (repeat first | exact trivial | refine ent1 ?_)
              exact ⟨fun j hj => eqC_cs hrw.raw (app_cs (by rw [hrow.len, g4]) (fun _ _ => rfl) rfl fun j hj => updN_new hj) j, by (repeat first | exact trivial | refine ent1 ?_)⟩
            · rw [hE, hkk, hstep, show m.toNat - (i + 1) = kk by omega, List.append_assoc]; rfl
        · have k6 : decide (ev.k = 19#8) = false := decide_eq_false h6
          (repeat first | (refine And.intro ?_ ?_; first | exact rfl | ((exact fun h => absurd h (by first | decide | (rw [k6]; decide))); intro yy; clear yy) | (rotate_left; (exact fun h => absurd h (by first | decide | (rw [k6]; decide))); intro yy; clear yy) | decide | omega) | (with_reducible refine frc_bytesL (by first | omega | decide) ?_) | (with_reducible refine frc_bytesM (by first | omega | decide) ?_))
          have hf7 : failIf (decide (ev.k = 19#8) && decide (kk ≠ 0)) 10 (l5, e5) = (l5, e5) := by rw [k6]; rfl
          have hstep := evsR_step (k := kk) hT5 hf7
          have hnew : EvAt W5 ms5 x ev := hx5
          (repeat first | (refine And.intro ?_ ?_; first | exact rfl | ((exact fun h => absurd h (by first | decide)); intro yy; clear yy) | (rotate_left; (exact fun h => absurd h (by first | decide)); intro yy; clear yy) | decide | omega) | (with_reducible refine frc_bytesL (by first | omega | decide) ?_) | (with_reducible refine frc_bytesM (by first | omega | decide) ?_))
          refine And.intro (show 0 + 4 ≤ 4 by decide) ?_
          refine And.intro (show 0 + scale 1 (3 + 1) ≤ 4 by decide) ?_
          refine And.intro ⟨g3, by first | omega | (rw [sc4]; omega), show (i + 1) * 64 ≤ 140737488355328 by omega⟩ ?_
          intro c2 hc2
          (repeat first | (refine And.intro ?_ ?_; first | exact rfl | ((exact fun h => absurd h (by first | decide)); intro yy; clear yy) | (rotate_left; (exact fun h => absurd h (by first | decide)); intro yy; clear yy) | decide | omega) | (with_reducible refine frc_bytesL (by first | omega | decide) ?_) | (with_reducible refine frc_bytesM (by first | omega | decide) ?_))
          have hrw : RowAt W5 ms5 (cs ++ flat (evS ev x)) (done ++ [ev]) := (hrow.later hL5).snoc hnew
          refine ⟨some (i + 1, done ++ [ev], cs ++ flat (evS ev x), c2, s5, l5, e5, ev.t, W5, ms5), [0, 1, 2, 3, 7], ⟨⟨rfl, rfl, rfl⟩, ?_⟩, ⟨⟨by omega, by omega, hc2, by rw [List.length_append, g4]; rfl⟩, hL.trans hL5, hrw, hr5, ?_⟩, by dsimp only; omega⟩
          · (repeat first | exact trivial | refine ent1 ?_)
            refine And.intro (ofNat_succ i) ?_
            (repeat first | exact trivial | refine ent1 ?_)
            refine eqC_bts ?_
            (repeat first | exact trivial | refine ent1 ?_)
            first | refine eqC_btsM ?_ | refine eqC_bts ?_
            (repeat first | exact trivial | refine ent1 ?_)
            exact ⟨fun j hj => eqC_cs hrw.raw (app_cs (by rw [hrow.len, g4]) (fun _ _ => rfl) rfl fun j hj => updN_new hj) j, by (repeat first | exact trivial | refine ent1 ?_)⟩
          · rw [hE, hkk, hstep, show m.toNat - (i + 1) = kk by omega, List.append_assoc]; rfl
      · have ke : decide (e' = 0) = false := decide_eq_false he0
        (repeat first | (refine And.intro ?_ ?_; first | exact rfl | ((exact fun h => absurd h (by first | decide | (rw [ki]; decide) | (rw [ke]; decide))); intro yy; clear yy) | (rotate_left; (exact fun h => absurd h (by first | decide | (rw [ki]; decide) | (rw [ke]; decide))); intro yy; clear yy) | decide | omega) | (with_reducible refine frc_bytesL (by first | omega | decide) ?_) | (with_reducible refine frc_bytesM (by first | omega | decide) ?_))
        have hT3 : decM s.l = finD (done, l', e') := by rw [hT2, hE, evsR_err he0]; dsimp only; rw [List.append_nil]
        refine call_same (fn_rend A s' hr') [3, 2] rfl (by (repeat first | exact trivial | refine ent1 ?_)) (by first | exact eqC_btsM (by (repeat first | exact trivial | refine ent1 ?_)) | exact eqC_bts (by (repeat first | exact trivial | refine ent1 ?_))) (fun _ _ => trivial) ?_
        rintro x hs ⟨s9, l9, ez, hx9, hr9, rfl, rfl⟩
        rw [finD_nil hx9] at hT3
        by_cases h9 : ez ≠ 0
        · have k9 : decide (ez ≠ 0) = true := decide_eq_true h9
          rw [if_pos h9] at hT3
          (repeat first | (refine And.intro ?_ ?_; first | exact rfl | ((exact fun h => absurd h (by first | decide | (rw [k9]; decide))); intro yy; clear yy) | (rotate_left; (exact fun h => absurd h (by first | decide | (rw [k9]; decide))); intro yy; clear yy) | decide | omega) | (with_reducible refine frc_bytesL (by first | omega | decide) ?_) | (with_reducible refine frc_bytesM (by first | omega | decide) ?_))
          refine finW_frz [0, 1] rfl (Nat.zero_lt_succ 1) cx0_m rfl (fun W9 ms9 α hL9 hI => ?_)
          refine ⟨.tup [.c (.slc none 0 0), .c (.int .i64 ez)], [svB s], ⟨⟨rfl, rfl, rfl⟩, ?_⟩, [], none, 0, 0, ez, W9, ms9, hT3, hL.trans hL9, EvsAt.nul, rfl, rfl⟩
          (repeat first | exact trivial | refine ent1 ?_)
          refine eqC_btsZ ?_
          (repeat first | exact trivial | refine ent1 ?_)
        · have k9 : decide (ez ≠ 0) = false := decide_eq_false h9
          rw [if_neg h9] at hT3
          (repeat first | (refine And.intro ?_ ?_; first | exact rfl | ((exact fun h => absurd h (by first | decide | (rw [k9]; decide))); intro yy; clear yy) | (rotate_left; (exact fun h => absurd h (by first | decide | (rw [k9]; decide))); intro yy; clear yy) | decide | omega) | (with_reducible refine frc_bytesL (by first | omega | decide) ?_) | (with_reducible refine frc_bytesM (by first | omega | decide) ?_))
          refine finW_frz [0, 1] rfl (Nat.zero_lt_succ 1) cx0_m rfl (fun W9 ms9 α hL9 hI => ?_)
          refine ⟨.tup [.c (.slc (some ((α 4).add (0 + 0))) i c'), .c (.int .i64 0)], [svB s], ⟨⟨rfl, rfl, rfl⟩, ?_⟩, done, some ((α 4).add (0 + 0)), i, c', 0, W9, ms9, hT3, hL.trans hL9, hrow.frz (F := fun j => !memB j [0, 1]) hL9 (hI 4 rfl) g4 g3 (by omega), rfl, rfl⟩
          (repeat first | exact trivial | refine ent1 ?_)
          refine eqC_btsZ ?_
          (repeat first | exact trivial | refine ent1 ?_)
    · have ki : decide ((BitVec.ofNat 64 i) < m) = false := (u64_lt (i := i) (by omega)).trans (decide_eq_false hi)
      (repeat first | (refine And.intro ?_ ?_; first | exact rfl | ((exact fun h => absurd h (by first | decide | (rw [ki]; decide))); intro yy; clear yy) | (rotate_left; (exact fun h => absurd h (by first | decide | (rw [ki]; decide))); intro yy; clear yy) | decide | omega) | (with_reducible refine frc_bytesL (by first | omega | decide) ?_) | (with_reducible refine frc_bytesM (by first | omega | decide) ?_))
      have hT3 : decM s.l = finD (done, l', e') := by rw [hT2, hE, show m.toNat - i = 0 by omega]; show finD (done ++ [], l', e') = _; rw [List.append_nil]
      refine call_same (fn_rend A s' hr') [3, 2] rfl (by (repeat first | exact trivial | refine ent1 ?_)) (by first | exact eqC_btsM (by (repeat first | exact trivial | refine ent1 ?_)) | exact eqC_bts (by (repeat first | exact trivial | refine ent1 ?_))) (fun _ _ => trivial) ?_
      rintro x hs ⟨s9, l9, ez, hx9, hr9, rfl, rfl⟩
      rw [finD_nil hx9] at hT3
      by_cases h9 : ez ≠ 0
      · have k9 : decide (ez ≠ 0) = true := decide_eq_true h9
        rw [if_pos h9] at hT3
        (repeat first | (refine And.intro ?_ ?_; first | exact rfl | ((exact fun h => absurd h (by first | decide | (rw [k9]; decide))); intro yy; clear yy) | (rotate_left; (exact fun h => absurd h (by first | decide | (rw [k9]; decide))); intro yy; clear yy) | decide | omega) | (with_reducible refine frc_bytesL (by first | omega | decide) ?_) | (with_reducible refine frc_bytesM (by first | omega | decide) ?_))
        refine finW_frz [0, 1] rfl (Nat.zero_lt_succ 1) cx0_m rfl (fun W9 ms9 α hL9 hI => ?_)
        refine ⟨.tup [.c (.slc none 0 0), .c (.int .i64 ez)], [svB s], ⟨⟨rfl, rfl, rfl⟩, ?_⟩, [], none, 0, 0, ez, W9, ms9, hT3, hL.trans hL9, EvsAt.nul, rfl, rfl⟩
        (repeat first | exact trivial | refine ent1 ?_)
        refine eqC_btsZ ?_
        (repeat first | exact trivial | refine ent1 ?_)
      · have k9 : decide (ez ≠ 0) = false := decide_eq_false h9
        rw [if_neg h9] at hT3
        (repeat first | (refine And.intro ?_ ?_; first | exact rfl | ((exact fun h => absurd h (by first | decide | (rw [k9]; decide))); intro yy; clear yy) | (rotate_left; (exact fun h => absurd h (by first | decide | (rw [k9]; decide))); intro yy; clear yy) | decide | omega) | (with_reducible refine frc_bytesL (by first | omega | decide) ?_) | (with_reducible refine frc_bytesM (by first | omega | decide) ?_))
        refine finW_frz [0, 1] rfl (Nat.zero_lt_succ 1) cx0_m rfl (fun W9 ms9 α hL9 hI => ?_)
        refine ⟨.tup [.c (.slc (some ((α 4).add (0 + 0))) i c'), .c (.int .i64 0)], [svB s], ⟨⟨rfl, rfl, rfl⟩, ?_⟩, done, some ((α 4).add (0 + 0)), i, c', 0, W9, ms9, hT3, hL.trans hL9, hrow.frz (F := fun j => !memB j [0, 1]) hL9 (hI 4 rfl) g4 g3 (by omega), rfl, rfl⟩
        (repeat first | exact trivial | refine ent1 ?_)
        refine eqC_btsZ ?_
        (repeat first | exact trivial | refine ent1 ?_)
end Sx
end Go.Proofs.Ytdakmieapdpidaa
end

section
/-
  The program's writer: long ones, all of it; Wide. No condition.
-/
namespace Go.Proofs.Ytdakmieapdpidaa
set_option linter.unusedVariables false
namespace Vi
open Sha
/-- Some bytes, their number ahead. -/
def longL (l : Bs) : Bs := putL (BitVec.ofNat 64 l.length) ++ l
theorem lenN_of {n : Nat} (h : n ≤ 1000000) : lenN (BitVec.ofNat 64 n) ≠ 0 := by
  have := lenN_spec (BitVec.ofNat 64 n)
  rw [BitVec.toNat_ofNat, Nat.mod_eq_of_lt (by omega)] at this
  omega
theorem longL_len (l : Bs) : (longL l).length ≤ 8 + l.length := by
  have := lenN_le (BitVec.ofNat 64 l.length)
  simp only [longL, List.length_append, putL_len]
  omega
end Vi
namespace Sx
open Sha Vi

set_option maxRecDepth 20000 in
theorem fn_wlong (s : Sl) (hs : s.Ok) (b : Bs) (c : Nat) (hb : b.length ≤ 400000) (hc : b.length ≤ c) : FnR Try.prog tds 26 1 [svB s, wrC 2 b c, lsC b c] [.c (.p 1 0 0), .c (svC 0 s)] (fun _ => True)
    (fun y hs => ∃ c', (b ++ longL s.l).length ≤ c' ∧ y = .tup [] ∧ hs = [svB s, wrC 3 (b ++ longL s.l) c', [], lsC (b ++ longL s.l) c']) := by
  refine fn_of_body tds_ok follows_ Try.func26 rfl (t := .a (.c (.p 1 0 0)) :: .a (.c (svC 0 s)) :: anys (Try.f26.ntmps - 2)) rfl (fun w r0 hr0 _ => ?_)
  obtain ⟨x0, x1, x2, rfl⟩ := len3' hr0
  have hsm := hs.small
  have hne := lenN_of hsm
  (repeat first | refine And.intro (by omega) ?_ | refine And.intro (by decide) ?_ | (with_reducible refine frc_parts (by first | omega | decide) ?_) | (with_reducible refine frc_bytesL (by first | omega | decide) ?_) | refine And.intro rfl ?_)
  refine call_same (fn_wint [BitVec.ofNat 64 s.l.length] 1 1 b c (fun n hn => by simp at hn; rw [hn]; exact hne) (Nat.le_refl _) (by simp) (by omega) hc) [3, 1, 2] rfl (by (repeat first | exact trivial | refine ent1 ?_)) ?_ (fun _ _ => trivial) ?_
  · refine ⟨rfl, fun j hj => eqC_nums (fun i x h => ?_) j, ?_⟩
    · have hi : i = 0 := by
        have := (List.getElem?_eq_some_iff.1 h).1
        simp at this
        exact this
      subst hi
      simp at h
      subst h
      show SC.w64 (BitVec.ofInt 64 ((s.l.length : Nat) : Int)) = _
      rw [BitVec.ofInt_natCast]
    (repeat first | exact trivial | refine ent1 ?_)
  rintro x hs' ⟨-, hx⟩
  obtain ⟨c1, hc1, rfl, rfl⟩ := hx (by simp)
  clear hx
  obtain ⟨B, hB⟩ : ∃ B, b ++ putAll [BitVec.ofNat 64 s.l.length] = B := ⟨_, rfl⟩
  have hBl : B.length ≤ 400008 := by
    have := putAll_len [BitVec.ofNat 64 s.l.length]
    rw [← hB, List.length_append]
    simp only [List.length_cons, List.length_nil] at this
    omega
  rw [hB] at hc1 ⊢
  have hf : b ++ longL s.l = B ++ s.l := by rw [← hB]; simp [longL, putAll]
  rw [hf]
  (repeat first | refine And.intro (by omega) ?_ | refine And.intro (by decide) ?_ | (with_reducible refine frc_parts (by first | omega | decide) ?_) | (with_reducible refine frc_bytesL (by first | omega | decide) ?_) | refine And.intro rfl ?_)
  refine call_same (fn_wbytes s hs B c1 (by omega) hc1) [0, 1, 4] rfl (by (repeat first | exact trivial | refine ent1 ?_)) ?_ (fun _ _ => trivial) ?_
  · refine eqC_bts ?_
    (repeat first | exact trivial | refine ent1 ?_)
  rintro x hs' ⟨c2, hc2, rfl, rfl⟩
  refine ⟨.tup [], _, ⟨[0, 1, 2, 5], ⟨rfl, rfl, rfl⟩, ?_⟩, c2, hc2, rfl, rfl⟩
  refine eqC_bts ?_
  (repeat first | exact trivial | refine ent1 ?_)
set_option maxRecDepth 20000 in
theorem fn_wdone (b : Bs) (c : Nat) (hb : b.length ≤ 1000000) (hc : b.length ≤ c) (h0 : 0 < b.length) : FnR Try.prog tds 27 2 [wrC 1 b c, lsC b c] [.c (.p 0 0 0)] (fun _ => True)
    (fun y hs => ∃ c', b.length ≤ c' ∧ y = .tup [.c (.sl 2 0 0 b.length c'), .c (.int .i64 0)] ∧ hs = [wrC 1 b c, lsC b c, lsC b c']) := by
  refine fn_of_body tds_ok follows_ Try.func27 rfl (t := .a (.c (.p 0 0 0)) :: anys (Try.f27.ntmps - 1)) rfl (fun w r0 hr0 _ => ?_)
  obtain ⟨x0, x1, rfl⟩ := len2' hr0
  (repeat first | refine And.intro (by omega) ?_ | refine And.intro (by decide) ?_ | refine And.intro rfl ?_ | refine And.intro (fun _ => ?_) (fun h => Bool.noConfusion h) | refine And.intro (fun h => Bool.noConfusion h) (fun _ => ?_))
  refine ⟨by show 0 + b.length ≤ c; omega, ⟨rfl, rfl⟩, by show b.length * 1 ≤ 140737488355328; omega, fun hm0 => absurd hm0 (by omega), fun hm0 c' hc' => ?_⟩
  refine ⟨.tup [.c (.sl 2 0 0 b.length c'), .c (.int .i64 0)], _, ⟨[0, 1, 2], ⟨rfl, rfl, rfl⟩, ?_⟩, c', hc', rfl, rfl⟩
  (repeat first | exact trivial | refine ent1 ?_)
  exact ⟨fun j hj => eqC_bytes (fun i hi => new_row (m := b) (fun q hq => bytesF_lt hq) i hi) j, trivial⟩
end Sx
end Go.Proofs.Ytdakmieapdpidaa
end

section
/-
  Events as bytes: blog.Encode. No condition.
-/
namespace Go.Proofs.Ytdakmieapdpidaa
set_option linter.unusedVariables false
namespace Ev
open Vi Sha
/-- An event's bytes. -/
def evB (last : BitVec 64) (e : Ev) : Bs := putAll [BitVec.setWidth 64 e.k, e.t - last] ++ putAll e.N ++ (if evData e.k = true then longL e.D else [])
def encL : List Ev → BitVec 64 → Bs → Bs × Int
  | [], _, b => (b, 0)
  | e :: r, last, b => if checkM e ≠ 0 then ([], checkM e) else if e.t < last then ([], 21) else if e.k = 19#8 ∧ r ≠ [] then ([], 10) else encL r e.t (b ++ evB last e)
/-- What blog.Encode answers. -/
def encM (es : List Ev) : Bs × Int := if 2048 < es.length then ([], 7) else encL es 0#64 ([66#8, 73#8, 78#8, 49#8] ++ putAll [BitVec.ofNat 64 es.length])
theorem lenN_lt {n : BitVec 64} (h : n.toNat < 4611686018427387904) : lenN n ≠ 0 := by
  have := lenN_spec n
  omega
structure EvOk (e : Ev) : Prop where
  k : evOk e.k = true
  t : e.t.toNat ≤ 1125899906842624
  N : e.N.length ≤ 8
  D : e.D.length ≤ 20
  n : ∀ n ∈ e.N, lenN n ≠ 0
theorem check_ok {e : Ev} (h : checkM e = 0) : EvOk e := by
  unfold checkM at h
  cases h1 : evOk e.k
  · rw [h1, if_pos rfl] at h; cases h
  rw [h1, if_neg (by decide)] at h
  by_cases h2 : 1125899906842624#64 < e.t
  · rw [if_pos h2] at h; cases h
  rw [if_neg h2] at h
  by_cases h3 : e.N.length ≠ (evNames e.k).length
  · rw [if_pos h3] at h; cases h
  rw [if_neg h3] at h
  by_cases h4 : 20 < e.D.length
  · rw [if_pos h4] at h; cases h
  rw [if_neg h4] at h
  by_cases h5 : 0 < e.D.length ∧ evData e.k = false
  · rw [if_pos h5] at h; cases h
  rw [if_neg h5] at h
  by_cases h6 : ∃ n ∈ e.N, 4611686018427387903#64 < n
  · rw [if_pos h6] at h; cases h
  have hm := many_le e.k
  refine ⟨h1, ?_, by omega, by omega, fun n hn => lenN_lt ?_⟩
  · rw [BitVec.lt_def] at h2
    have : (1125899906842624#64).toNat = 1125899906842624 := rfl
    omega
  · have h7 : ¬ 4611686018427387903#64 < n := fun hc => h6 ⟨n, hn, hc⟩
    rw [BitVec.lt_def] at h7
    have : (4611686018427387903#64).toNat = 4611686018427387903 := rfl
    omega
theorem evB_len {last : BitVec 64} {e : Ev} (h : EvOk e) : (evB last e).length ≤ 140 := by
  have h1 := putAll_len [BitVec.setWidth 64 e.k, e.t - last]
  have h2 := putAll_len e.N
  have h3 := longL_len e.D
  have h4 := h.N
  have h5 := h.D
  unfold evB
  rw [List.length_append, List.length_append]
  simp only [List.length_cons, List.length_nil] at h1
  split
  · omega
  · simp only [List.length_nil]; omega
end Ev
namespace Sx
open Go.RowKit Sha Vi Ev

theorem lit_ok {l : Bs} (h : l.length ≤ 1000000) : Sl.Ok ⟨false, l.length, 0, l.length, l⟩ := ⟨by simp, Nat.le_refl _, fun h => Bool.noConfusion h, h⟩
theorem eqC_lit' {q : List Nat} {l : Bs} {f : Nat → SC} (h : ∀ j, j < l.length → f j = .w8 (L l j)) (j : Nat) : eqC q (f j) (winF 0 l.length (L l) j) True := eqC_win0 h j
theorem own_okE {l : Bs} {c : Nat} (h : l.length ≤ c) (hs : l.length ≤ 1000000) : Sl.Ok ⟨false, c, 0, c, l⟩ := ⟨by simpa using h, h, fun h => Bool.noConfusion h, hs⟩
theorem numsE1 (a : BitVec 64) : ∀ (j : Nat) (x : BitVec 64), [a][j]? = some x → nthC [.w64 a] j = .w64 x
  | 0, x, h => by simp at h; subst h; rfl
  | j + 1, x, h => by simp at h
theorem numsE2 (a b : BitVec 64) : ∀ (j : Nat) (x : BitVec 64), [a, b][j]? = some x → nthC [.w64 a, .w64 b] j = .w64 x
  | 0, x, h => by simp at h; subst h; rfl
  | 1, x, h => by simp at h; subst h; rfl
  | j + 2, x, h => by simp at h
theorem magic_row : ∀ j, j < 4 → nthC [.w8 66#8, .w8 73#8, .w8 78#8, .w8 49#8] j = .w8 (L [66#8, 73#8, 78#8, 49#8] j)
  | 0, _ => rfl
  | 1, _ => rfl
  | 2, _ => rfl
  | 3, _ => rfl
  | j + 4, h => by omega
theorem flat_nums (l : List (BitVec 64)) : flat [.row l.length (numsF l)] = l.map .w64 := by
  refine List.ext_getElem? fun j => ?_
  simp only [flat, List.append_nil, List.getElem?_map]
  by_cases hj : j < l.length
  · rw [List.getElem?_range hj, List.getElem?_eq_getElem hj]
    simp only [Option.map_some]
    rw [nums_get (List.getElem?_eq_getElem hj)]
  · rw [List.getElem?_eq_none (by simpa using hj), List.getElem?_eq_none (by omega)]; rfl
set_option maxRecDepth 20000 in
theorem fn_wintR {W : World} {ms : List Nat} {A : Addr} {cm : Nat} {l : List (BitVec 64)} (h : NsAt W ms (some A) l.length cm l) (hne : l ≠ []) (b : Bs) (c : Nat) (hl : ∀ n ∈ l, lenN n ≠ 0) (hlm : l.length ≤ 1000) (hb : b.length ≤ 500000) (hc : b.length ≤ c) :
    FnR Try.prog tds 25 1 [[.past W ms], wrC 2 b c, lsC b c] [.c (.p 1 0 0), .c (.slc (some A) l.length cm)] (fun _ => True)
    (fun y hs => ∃ c', (b ++ putAll l).length ≤ c' ∧ y = .tup [] ∧ hs = [[.past W ms], wrC 3 (b ++ putAll l) c', [], lsC (b ++ putAll l) c']) := by
  have hpos : 0 < l.length := List.length_pos_iff.2 hne
  have hle := h.le
  have hN := fn_wint l l.length cm b c hl (Nat.le_refl _) hlm hb hc
  refine (hN.unname 0 (by decide) (W := W) (ms := ms) (a := A) rfl (fun W ms h => by cases h) (by rw [flat_nums]; exact h.im A rfl (by omega)) (by rw [flat_nums]; exact map_w64_raw l) (fun i c hi hc => frH.free (k := 0) (j := 0) ?_ i c (by omega) hc) ?_).mono ?_
  · exact ⟨.inl rfl, .inr ⟨rfl, rfl, trivial⟩, .inr ⟨fun i => rz_bytesF _ _ i, trivial⟩, trivial⟩
  · exact ⟨⟨rfl, rfl⟩, ⟨rfl, rfl, rfl, rfl, rfl, rfl⟩, trivial⟩
  · rintro y hs ⟨x', hs', ⟨_, h2⟩, rfl, rfl⟩
    obtain ⟨c', g1, rfl, rfl⟩ := h2 hne
    refine ⟨c', g1, rfl, ?_⟩
    simp only [rzH, rzL, Seg.rz, rz_bytesF, List.set_cons_zero]
    rfl
set_option maxRecDepth 20000 in
theorem fn_wintR0 {W : World} {ms : List Nat} {a : Option Addr} {n cm : Nat} (hn : n = 0) (b : Bs) (c : Nat) :
    FnR Try.prog tds 25 1 [[.past W ms], wrC 2 b c, lsC b c] [.c (.p 1 0 0), .c (.slc a n cm)] (fun _ => True)
    (fun y hs => y = .tup [] ∧ hs = [[.past W ms], wrC 2 b c, lsC b c]) := by
  subst hn
  refine fn_of_body tds_ok follows_ Try.func25 rfl (t := .a (.c (.p 1 0 0)) :: .a (.c (.slc a 0 cm)) :: anys (Try.f25.ntmps - 2)) rfl (fun w r0 hr0 _ => ?_)
  obtain ⟨x0, x1, x2, rfl⟩ := len3' hr0
  (repeat first | (refine And.intro ?_ ?_; first | exact rfl | ((exact fun h => absurd h (by first | decide)); intro yy; clear yy) | (rotate_left; (exact fun h => absurd h (by first | decide)); intro yy; clear yy) | decide | omega) | (with_reducible refine frc_bytesL (by first | omega | decide) ?_) | (with_reducible refine frc_bytesM (by first | omega | decide) ?_))
  refine .inr ⟨1, ?_⟩
  (repeat first | (refine And.intro ?_ ?_; first | exact rfl | ((exact fun h => absurd h (by first | decide)); intro yy; clear yy) | (rotate_left; (exact fun h => absurd h (by first | decide)); intro yy; clear yy) | decide | omega) | (with_reducible refine frc_bytesL (by first | omega | decide) ?_) | (with_reducible refine frc_bytesM (by first | omega | decide) ?_))
  refine ⟨.tup [], _, ⟨[0, 1, 2], ⟨rfl, rfl, rfl⟩, ?_⟩, rfl, rfl⟩
  (repeat first | exact trivial | refine ent1 ?_)
set_option maxRecDepth 20000 in
theorem fn_wlongR {W : World} {ms : List Nat} {a : Option Addr} {n cm : Nat} {l : Bs} (h : BsAt W ms a n cm l) (hs : l.length ≤ 1000000) (b : Bs) (c : Nat) (hb : b.length ≤ 400000) (hc : b.length ≤ c) :
    FnR Try.prog tds 26 1 [[.past W ms], wrC 2 b c, lsC b c] [.c (.p 1 0 0), .c (.slc a n cm)] (fun _ => True)
    (fun y hs => ∃ c', (b ++ longL l).length ≤ c' ∧ y = .tup [] ∧ hs = [[.past W ms], wrC 3 (b ++ longL l) c', [], lsC (b ++ longL l) c']) := by
  have h1 := h.n1
  have h2 := h.le
  have hN := fn_wlong (slR a cm l) (h.okB hs) b c hb hc
  refine (hN.rawB 0 (by decide) h rfl (fun A i c hi hc => frH.free (k := 0) (j := 0) ?_ i c (by omega) hc) (fun A ha => ?_) (fun h0 => ?_) (fun y hs A hr => ?_)).mono ?_
  · exact ⟨.inl rfl, .inr ⟨rfl, rfl, trivial⟩, .inr ⟨fun i => rz_bytesF _ _ i, trivial⟩, trivial⟩
  · subst ha
    exact ⟨⟨rfl, rfl⟩, ⟨rfl, rfl, rfl, rfl, h1.symm, rfl, rfl⟩, trivial⟩
  · have hc : cm = 0 := by
      rcases h0 with rfl | h0
      · exact h.nil rfl
      · exact h0
    have hl : l.length = 0 := by omega
    refine ⟨rfl, ?_, trivial⟩
    cases a with
    | none => exact ⟨rfl, by omega, hc, hl, hc⟩
    | some A => exact ⟨rfl, by omega, hc, hl, hc⟩
  · obtain ⟨c', _, rfl, rfl⟩ := hr
    refine ⟨rfl, ?_⟩
    simp only [rzH, rzL, rzL_bts, Seg.rz, rz_bytesF, List.set_cons_zero]
    rfl
  · rintro y hs ⟨hs', ⟨c', g1, rfl, rfl⟩, rfl⟩
    exact ⟨c', g1, rfl, rfl⟩

set_option maxRecDepth 20000 in
set_option maxHeartbeats 16000000 in
theorem fn_bencode {W : World} {ms : List Nat} {a : Option Addr} {n c : Nat} {es : List Ev} (h : EvsAt W ms a n c es) : FnR Try.prog tds 12 1 [[.past W ms]] [.c (.slc a n c)] (fun _ => True)
    (fun y hs => (2048 < n → y = .tup [.c (.slc none 0 0), .c (.int .i64 7)] ∧ hs = [[.past W ms]]) ∧ (n ≤ 2048 → ∃ (t : Sl) (e : Int), encM es = (t.l, e) ∧ t.Ok ∧ y = .tup [.c (svC 1 t), .c (.int .i64 e)] ∧ hs = [[.past W ms], svB t])) := by
  have hlen := h.len
  have hcap := h.cap
  refine fn_of_body tds_ok follows_ Try.func12 rfl (t := .a (.c (.slc a n c)) :: anys (Try.f12.ntmps - 1)) rfl (fun w r0 hr0 _ => ?_)
  obtain ⟨x0, rfl⟩ := List.length_eq_one_iff.1 hr0
  (repeat first | (refine And.intro ?_ ?_; first | exact rfl | ((exact fun h => absurd h (by first | decide)); intro yy; clear yy) | (rotate_left; (exact fun h => absurd h (by first | decide)); intro yy; clear yy) | decide | omega) | (with_reducible refine frc_bytesL (by first | omega | decide) ?_) | (with_reducible refine frc_bytesM (by first | omega | decide) ?_))
  by_cases h1 : 2048 < n
  · have k1 : decide ((2048 : Int) < (n : Int)) = true := decide_eq_true (by omega)
    (repeat first | (refine And.intro ?_ ?_; first | exact rfl | ((exact fun h => absurd h (by first | decide | (rw [k1]; decide))); intro yy; clear yy) | (rotate_left; (exact fun h => absurd h (by first | decide | (rw [k1]; decide))); intro yy; clear yy) | decide | omega) | (with_reducible refine frc_bytesL (by first | omega | decide) ?_) | (with_reducible refine frc_bytesM (by first | omega | decide) ?_))
    refine ⟨.tup [.c (.slc none 0 0), .c (.int .i64 7)], _, ⟨[0], ⟨rfl, rfl, rfl⟩, ?_⟩, fun _ => ⟨rfl, rfl⟩, fun hc => absurd hc (by omega)⟩
    (repeat first | exact trivial | refine ent1 ?_)
  have k1 : decide ((2048 : Int) < (n : Int)) = false := decide_eq_false (by omega)
  (repeat first | (refine And.intro ?_ ?_; first | exact rfl | ((exact fun h => absurd h (by first | decide | (rw [k1]; decide))); intro yy; clear yy) | (rotate_left; (exact fun h => absurd h (by first | decide | (rw [k1]; decide))); intro yy; clear yy) | decide | omega) | (with_reducible refine frc_bytesL (by first | omega | decide) ?_) | (with_reducible refine frc_bytesM (by first | omega | decide) ?_))
  refine call_same (fn_wbytes0 _ (lit_ok (l := [66#8, 73#8, 78#8, 49#8]) (by simp)) (by simp)) [2, 1] rfl (by (repeat first | exact trivial | refine ent1 ?_)) ?_ (fun _ _ => trivial) ?_
  · refine ⟨rfl, fun j hj => eqC_lit' (l := [66#8, 73#8, 78#8, 49#8]) (fun j hj => magic_row j hj) j, ?_⟩
    (repeat first | exact trivial | refine ent1 ?_)
  rintro x hs' ⟨c1, hc1, rfl, rfl⟩
  (repeat first | (refine And.intro ?_ ?_; first | exact rfl | ((exact fun h => absurd h (by first | decide)); intro yy; clear yy) | (rotate_left; (exact fun h => absurd h (by first | decide)); intro yy; clear yy) | decide | omega) | (with_reducible refine frc_bytesL (by first | omega | decide) ?_) | (with_reducible refine frc_bytesM (by first | omega | decide) ?_))
  refine call_same (fn_wint [BitVec.ofInt 64 (n : Int)] 1 1 _ c1 (by intro x hx; simp at hx; subst hx; exact lenN_of (by omega)) (Nat.le_refl _) (by simp) (by simp) hc1) [4, 1, 3] rfl (by (repeat first | exact trivial | refine ent1 ?_)) ?_ (fun _ _ => trivial) ?_
  · (repeat first | exact trivial | refine ent1 ?_)
    refine ⟨fun j hj => eqC_nums (numsE1 _) j, ?_⟩
    (repeat first | exact trivial | refine ent1 ?_)
  rintro x hs' ⟨-, hk⟩
  obtain ⟨c2, hc2, rfl, rfl⟩ := hk (by simp)
  have hE0 : encM es = encL es 0#64 ([66#8, 73#8, 78#8, 49#8] ++ putAll [BitVec.ofInt 64 (n : Int)]) := by unfold encM; rw [if_neg (by omega), hlen, BitVec.ofInt_natCast]
  have hq := putAll_len [BitVec.ofInt 64 (n : Int)]
  have hq : ([66#8, 73#8, 78#8, 49#8] ++ putAll [BitVec.ofInt 64 (n : Int)]).length ≤ 12 := by rw [List.length_append]; simp only [List.length_cons, List.length_nil] at hq ⊢; omega
  have hq0 : 0 < ([66#8, 73#8, 78#8, 49#8] ++ putAll [BitVec.ofInt 64 (n : Int)]).length := by rw [List.length_append]; simp only [List.length_cons, List.length_nil]; omega
  generalize hB : [66#8, 73#8, 78#8, 49#8] ++ putAll [BitVec.ofInt 64 (n : Int)] = B0 at hE0 hc2 hq hq0 ⊢
  (repeat first | (refine And.intro ?_ ?_; first | exact rfl | ((exact fun h => absurd h (by first | decide)); intro yy; clear yy) | (rotate_left; (exact fun h => absurd h (by first | decide)); intro yy; clear yy) | decide | omega) | (with_reducible refine frc_bytesL (by first | omega | decide) ?_) | (with_reducible refine frc_bytesM (by first | omega | decide) ?_))

  refine .inl ⟨Nat × BitVec 64 × Bs × Nat, fun (i, last, B, cB) => ⟨[.a (.c (.slc a n c)), .any, .any, .any, .a (.c (.p 1 0 0)), .a (.c (.w64 (last))), .any, .any, .any, .any, .any, .any, .any, .any, .any, .any, .any, .any, .any, .any, .any, .any, .a (.c (.slc a n c)), .a (.c (.int .i64 (↑n))), .a (.c (.int .i64 (↑i))), .any, .any, .any, .any, .any, .any, .any, .any, .any, .any, .any, .any, .any, .any, .any, .any, .any, .any, .any, .any, .any, .any, .any, .any, .any, .any, .any, .any, .any, .any, .any, .any, .any, .any, .any, .any, .any, .any, .any, .any, .any, .any, .any, .any, .any, .any, .any, .any, .any, .any, .any, .any], [[.past W ms], wrC 2 B cB, lsC B cB]⟩,
    fun (i, last, B, cB) => (i ≤ n ∧ B.length ≤ 12 + 140 * i ∧ 0 < B.length ∧ B.length ≤ cB) ∧ encM es = encL (es.drop i) last B, fun (i, _, _, _) => n - i, ⟨(0, 0#64, B0, c2), [0, 1, 5], ⟨⟨rfl, rfl, rfl⟩, ?_⟩, ⟨Nat.zero_le _, hq, hq0, hc2⟩, hE0⟩, fun (i, last, B, cB) hp => ?_⟩
  · (repeat first | exact trivial | refine ent1 ?_)
  obtain ⟨⟨g1, g2, g3, g4⟩, hE⟩ := hp
  refine And.intro (fun hlt => ?_) (fun hge => ?_)
  · have hlt : i < n := by have : (i : Int) < (n : Int) := of_decide_eq_true hlt; omega
    obtain ⟨e, he⟩ : ∃ e, es[i]? = some e := ⟨_, List.getElem?_eq_getElem (by omega)⟩
    have hd : es.drop i = e :: es.drop (i + 1) := by
      have := List.drop_eq_getElem_cons (l := es) (i := i) (by omega)
      rw [List.getElem?_eq_getElem (by omega)] at he
      injection he with he
      rw [he] at this
      exact this
    rw [hd, encL] at hE
    cases ha : a with
    | none => have := h.nil ha; have := h.le; omega
    | some A =>
    obtain ⟨x, him, hx⟩ := h.elt A ha i e he
    have hnN := hx.nN
    have hnD := hx.nD
    have hxN := hx.N
    have hxD := hx.D
    have hck := fn_echeck hx
    obtain ⟨aN, nN, cN, aD, nD, cD⟩ := x
    dsimp only at hnN hnD hxN hxD hck
    subst hnN; subst hnD
    subst ha
    refine And.intro (show (0 : Int) ≤ (i : Int) ∧ (i : Int) < (n : Int) by omega) ?_
    refine ⟨evS e ⟨aN, e.N.length, cN, aD, e.D.length, cD⟩, ⟨RawAt.past (i := 0) rfl him, rfl⟩, ?_⟩
    (repeat first | (refine And.intro ?_ ?_; first | exact rfl | ((exact fun h => absurd h (by first | decide)); intro yy; clear yy) | (rotate_left; (exact fun h => absurd h (by first | decide)); intro yy; clear yy) | decide | omega) | (with_reducible refine frc_bytesL (by first | omega | decide) ?_) | (with_reducible refine frc_bytesM (by first | omega | decide) ?_))
    refine call_same hck [0] rfl (by (repeat first | exact trivial | refine ent1 ?_)) (by (repeat first | exact trivial | refine ent1 ?_)) (fun _ _ => trivial) ?_
    rintro y hs' ⟨rfl, rfl⟩
    by_cases h2 : checkM e ≠ 0
    · have k2 : decide (checkM e ≠ 0) = true := decide_eq_true h2
      rw [if_pos h2] at hE
      (repeat first | (refine And.intro ?_ ?_; first | exact rfl | ((exact fun h => absurd h (by first | decide | (rw [k2]; decide))); intro yy; clear yy) | (rotate_left; (exact fun h => absurd h (by first | decide | (rw [k2]; decide))); intro yy; clear yy) | decide | omega) | (with_reducible refine frc_bytesL (by first | omega | decide) ?_) | (with_reducible refine frc_bytesM (by first | omega | decide) ?_))
      refine ⟨.tup [.c (svC 1 ⟨true, 0, 0, 0, []⟩), .c (.int .i64 (checkM e))], _, ⟨[0, 1], ⟨rfl, rfl, rfl⟩, ?_⟩, fun hc => absurd hc h1, fun _ => ⟨⟨true, 0, 0, 0, []⟩, (checkM e), hE, ⟨Nat.le_refl _, Nat.le_refl _, fun _ => rfl, Nat.zero_le _⟩, rfl, rfl⟩⟩
      (repeat first | exact trivial | refine ent1 ?_)
    have k2 : decide (checkM e ≠ 0) = false := decide_eq_false h2
    rw [if_neg h2] at hE
    have hok := check_ok (e := e) (by omega)
    (repeat first | (refine And.intro ?_ ?_; first | exact rfl | ((exact fun h => absurd h (by first | decide | (rw [k2]; decide))); intro yy; clear yy) | (rotate_left; (exact fun h => absurd h (by first | decide | (rw [k2]; decide))); intro yy; clear yy) | decide | omega) | (with_reducible refine frc_bytesL (by first | omega | decide) ?_) | (with_reducible refine frc_bytesM (by first | omega | decide) ?_))
    by_cases h3 : e.t < last
    · have k3 : decide (e.t < last) = true := decide_eq_true h3
      rw [if_pos h3] at hE
      (repeat first | (refine And.intro ?_ ?_; first | exact rfl | ((exact fun h => absurd h (by first | decide | (rw [k3]; decide))); intro yy; clear yy) | (rotate_left; (exact fun h => absurd h (by first | decide | (rw [k3]; decide))); intro yy; clear yy) | decide | omega) | (with_reducible refine frc_bytesL (by first | omega | decide) ?_) | (with_reducible refine frc_bytesM (by first | omega | decide) ?_))
      refine ⟨.tup [.c (svC 1 ⟨true, 0, 0, 0, []⟩), .c (.int .i64 21)], _, ⟨[0, 1], ⟨rfl, rfl, rfl⟩, ?_⟩, fun hc => absurd hc h1, fun _ => ⟨⟨true, 0, 0, 0, []⟩, 21, hE, ⟨Nat.le_refl _, Nat.le_refl _, fun _ => rfl, Nat.zero_le _⟩, rfl, rfl⟩⟩
      (repeat first | exact trivial | refine ent1 ?_)
    have k3 : decide (e.t < last) = false := decide_eq_false h3
    rw [if_neg h3] at hE
    have hdl : (es.drop (i + 1)).length = n - (i + 1) := by rw [List.length_drop, hlen]
    have hwr : ∀ m ∈ [BitVec.setWidth 64 e.k, e.t - last], lenN m ≠ 0 := by
      intro m hm
      simp only [List.mem_cons, List.not_mem_nil, or_false] at hm
      rcases hm with rfl | rfl
      · refine lenN_lt ?_
        rw [BitVec.toNat_setWidth]
        have := e.k.isLt
        omega
      · refine lenN_lt ?_
        have h4 := hok.t
        rw [BitVec.lt_def] at h3
        rw [BitVec.toNat_sub]
        omega
    have hN8 := hok.N
    have hD20 := hok.D
    have hbl := evB_len (last := last) hok
    by_cases h5 : e.k = 19#8
    · have k5 : decide (e.k = 19#8) = true := decide_eq_true h5
      by_cases h6 : i + 1 < n
      · have k6 : decide ((i : Int) + 1 < (n : Int)) = true := decide_eq_true (by omega)
        rw [if_pos ⟨h5, fun hc => by rw [hc] at hdl; simp at hdl; omega⟩] at hE
        (repeat first | (refine And.intro ?_ ?_; first | exact rfl | ((exact fun h => absurd h (by first | decide | (rw [k3]; decide) | (rw [k5]; decide) | (rw [k6]; decide))); intro yy; clear yy) | (rotate_left; (exact fun h => absurd h (by first | decide | (rw [k3]; decide) | (rw [k5]; decide) | (rw [k6]; decide))); intro yy; clear yy) | decide | omega) | (with_reducible refine frc_bytesL (by first | omega | decide) ?_) | (with_reducible refine frc_bytesM (by first | omega | decide) ?_))
        refine ⟨.tup [.c (svC 1 ⟨true, 0, 0, 0, []⟩), .c (.int .i64 10)], _, ⟨[0, 1], ⟨rfl, rfl, rfl⟩, ?_⟩, fun hc => absurd hc h1, fun _ => ⟨⟨true, 0, 0, 0, []⟩, 10, hE, ⟨Nat.le_refl _, Nat.le_refl _, fun _ => rfl, Nat.zero_le _⟩, rfl, rfl⟩⟩
        (repeat first | exact trivial | refine ent1 ?_)
      have k6 : decide ((i : Int) + 1 < (n : Int)) = false := decide_eq_false (by omega)
      rw [if_neg (fun hc => hc.2 (List.eq_nil_of_length_eq_zero (by omega)))] at hE
      (repeat first | (refine And.intro ?_ ?_; first | exact rfl | ((exact fun h => absurd h (by first | decide | (rw [k3]; decide) | (rw [k5]; decide) | (rw [k6]; decide))); intro yy; clear yy) | (rotate_left; (exact fun h => absurd h (by first | decide | (rw [k3]; decide) | (rw [k5]; decide) | (rw [k6]; decide))); intro yy; clear yy) | decide | omega) | (with_reducible refine frc_bytesL (by first | omega | decide) ?_) | (with_reducible refine frc_bytesM (by first | omega | decide) ?_))
      refine call_same (fn_wint [BitVec.setWidth 64 e.k, e.t - last] 2 2 B cB hwr (Nat.le_refl _) (by simp) (by omega) g4) [4, 1, 2] rfl (by (repeat first | exact trivial | refine ent1 ?_)) ?_ (fun _ _ => trivial) ?_
      · (repeat first | exact trivial | refine ent1 ?_)
        refine ⟨fun j hj => eqC_nums (numsE2 _ _) j, ?_⟩
        (repeat first | exact trivial | refine ent1 ?_)
      rintro x hs' ⟨-, hk⟩
      obtain ⟨c3, hc3, rfl, rfl⟩ := hk (by simp)
      have hB1 : B ++ evB last e = (B ++ putAll [BitVec.setWidth 64 e.k, e.t - last]) ++ putAll e.N ++ (if evData e.k = true then longL e.D else []) := by unfold evB; simp only [List.append_assoc]
      have hBl : (B ++ evB last e).length ≤ 12 + 140 * (i + 1) := by rw [List.length_append]; omega
      have hBp : 0 < (B ++ evB last e).length := by rw [List.length_append]; omega
      have hS1 : (B ++ putAll [BitVec.setWidth 64 e.k, e.t - last]).length ≤ 300000 := by
        have := congrArg List.length hB1
        simp only [List.length_append] at this hBl ⊢
        omega
      have hS2 : (B ++ putAll [BitVec.setWidth 64 e.k, e.t - last] ++ putAll e.N).length ≤ 300000 := by
        have := congrArg List.length hB1
        simp only [List.length_append] at this hBl ⊢
        omega
      rw [hB1] at hE hBl hBp
      generalize hG1 : B ++ putAll [BitVec.setWidth 64 e.k, e.t - last] = B1 at hE hBl hBp hS1 hS2 hc3 ⊢
      (repeat first | (refine And.intro ?_ ?_; first | exact rfl | ((exact fun h => absurd h (by first | decide)); intro yy; clear yy) | (rotate_left; (exact fun h => absurd h (by first | decide)); intro yy; clear yy) | decide | omega) | (with_reducible refine frc_bytesL (by first | omega | decide) ?_) | (with_reducible refine frc_bytesM (by first | omega | decide) ?_))
      by_cases hz : e.N = []
      · have hz0 : e.N.length = 0 := by rw [hz]; rfl
        refine call_same (fn_wintR0 (a := aN) (cm := cN) hz0 B1 c3) [0, 1, 5] rfl (by (repeat first | exact trivial | refine ent1 ?_)) (by (repeat first | exact trivial | refine ent1 ?_)) (fun _ _ => trivial) ?_
        rintro x hs' ⟨rfl, rfl⟩
        have hB2 : B1 ++ putAll e.N = B1 := by rw [hz]; show B1 ++ [] = B1; rw [List.append_nil]
        rw [hB2] at hE hBl hBp hS2
        (repeat first | (refine And.intro ?_ ?_; first | exact rfl | ((exact fun h => absurd h (by first | decide)); intro yy; clear yy) | (rotate_left; (exact fun h => absurd h (by first | decide)); intro yy; clear yy) | decide | omega) | (with_reducible refine frc_bytesL (by first | omega | decide) ?_) | (with_reducible refine frc_bytesM (by first | omega | decide) ?_))
        refine call_same (fn_eof e.k) [] rfl (by (repeat first | exact trivial | refine ent1 ?_)) trivial (fun _ _ => trivial) ?_
        rintro y hs' ⟨rfl, rfl⟩
        cases hdt : evData e.k
        · rw [hdt, if_neg (by decide), List.append_nil] at hE hBl hBp
          (repeat first | (refine And.intro ?_ ?_; first | exact rfl | ((exact fun h => absurd h (by first | decide)); intro yy; clear yy) | (rotate_left; (exact fun h => absurd h (by first | decide)); intro yy; clear yy) | decide | omega) | (with_reducible refine frc_bytesL (by first | omega | decide) ?_) | (with_reducible refine frc_bytesM (by first | omega | decide) ?_))
          refine ⟨(i + 1, e.t, B1, c3), [0, 1, 5], ⟨⟨rfl, rfl, rfl⟩, ?_⟩, ⟨⟨by omega, hBl, hBp, hc3⟩, hE⟩, by dsimp only; omega⟩
          (repeat first | exact trivial | refine ent1 ?_)
        · rw [hdt, if_pos rfl] at hE hBl hBp
          (repeat first | (refine And.intro ?_ ?_; first | exact rfl | ((exact fun h => absurd h (by first | decide)); intro yy; clear yy) | (rotate_left; (exact fun h => absurd h (by first | decide)); intro yy; clear yy) | decide | omega) | (with_reducible refine frc_bytesL (by first | omega | decide) ?_) | (with_reducible refine frc_bytesM (by first | omega | decide) ?_))
          refine call_same (fn_wlongR hxD (by omega) B1 c3 (by omega) hc3) [0, 1, 5] rfl (by (repeat first | exact trivial | refine ent1 ?_)) (by (repeat first | exact trivial | refine ent1 ?_)) (fun _ _ => trivial) ?_
          rintro x hs' ⟨c5, hc5, rfl, rfl⟩
          generalize hG3 : B1 ++ longL e.D = B3 at hE hBl hBp hc5 ⊢
          (repeat first | (refine And.intro ?_ ?_; first | exact rfl | ((exact fun h => absurd h (by first | decide)); intro yy; clear yy) | (rotate_left; (exact fun h => absurd h (by first | decide)); intro yy; clear yy) | decide | omega) | (with_reducible refine frc_bytesL (by first | omega | decide) ?_) | (with_reducible refine frc_bytesM (by first | omega | decide) ?_))
          refine ⟨(i + 1, e.t, B3, c5), [0, 1, 8], ⟨⟨rfl, rfl, rfl⟩, ?_⟩, ⟨⟨by omega, hBl, hBp, hc5⟩, hE⟩, by dsimp only; omega⟩
          (repeat first | exact trivial | refine ent1 ?_)
      · cases haN : aN with
        | none => rw [haN] at hxN; exact absurd (List.eq_nil_of_length_eq_zero hxN.nil_.1) hz
        | some AN =>
        subst haN
        refine call_same (fn_wintR hxN hz B1 c3 hok.n (by omega) (by omega) hc3) [0, 1, 5] rfl (by (repeat first | exact trivial | refine ent1 ?_)) (by (repeat first | exact trivial | refine ent1 ?_)) (fun _ _ => trivial) ?_
        rintro x hs' ⟨c4, hc4, rfl, rfl⟩
        generalize hG2 : B1 ++ putAll e.N = B2 at hE hBl hBp hS2 hc4 ⊢
        (repeat first | (refine And.intro ?_ ?_; first | exact rfl | ((exact fun h => absurd h (by first | decide)); intro yy; clear yy) | (rotate_left; (exact fun h => absurd h (by first | decide)); intro yy; clear yy) | decide | omega) | (with_reducible refine frc_bytesL (by first | omega | decide) ?_) | (with_reducible refine frc_bytesM (by first | omega | decide) ?_))
        refine call_same (fn_eof e.k) [] rfl (by (repeat first | exact trivial | refine ent1 ?_)) trivial (fun _ _ => trivial) ?_
        rintro y hs' ⟨rfl, rfl⟩
        cases hdt : evData e.k
        · rw [hdt, if_neg (by decide), List.append_nil] at hE hBl hBp
          (repeat first | (refine And.intro ?_ ?_; first | exact rfl | ((exact fun h => absurd h (by first | decide)); intro yy; clear yy) | (rotate_left; (exact fun h => absurd h (by first | decide)); intro yy; clear yy) | decide | omega) | (with_reducible refine frc_bytesL (by first | omega | decide) ?_) | (with_reducible refine frc_bytesM (by first | omega | decide) ?_))
          refine ⟨(i + 1, e.t, B2, c4), [0, 1, 6], ⟨⟨rfl, rfl, rfl⟩, ?_⟩, ⟨⟨by omega, hBl, hBp, hc4⟩, hE⟩, by dsimp only; omega⟩
          (repeat first | exact trivial | refine ent1 ?_)
        · rw [hdt, if_pos rfl] at hE hBl hBp
          (repeat first | (refine And.intro ?_ ?_; first | exact rfl | ((exact fun h => absurd h (by first | decide)); intro yy; clear yy) | (rotate_left; (exact fun h => absurd h (by first | decide)); intro yy; clear yy) | decide | omega) | (with_reducible refine frc_bytesL (by first | omega | decide) ?_) | (with_reducible refine frc_bytesM (by first | omega | decide) ?_))
          refine call_same (fn_wlongR hxD (by omega) B2 c4 (by omega) hc4) [0, 1, 6] rfl (by (repeat first | exact trivial | refine ent1 ?_)) (by (repeat first | exact trivial | refine ent1 ?_)) (fun _ _ => trivial) ?_
          rintro x hs' ⟨c5, hc5, rfl, rfl⟩
          generalize hG3 : B2 ++ longL e.D = B3 at hE hBl hBp hc5 ⊢
          (repeat first | (refine And.intro ?_ ?_; first | exact rfl | ((exact fun h => absurd h (by first | decide)); intro yy; clear yy) | (rotate_left; (exact fun h => absurd h (by first | decide)); intro yy; clear yy) | decide | omega) | (with_reducible refine frc_bytesL (by first | omega | decide) ?_) | (with_reducible refine frc_bytesM (by first | omega | decide) ?_))
          refine ⟨(i + 1, e.t, B3, c5), [0, 1, 9], ⟨⟨rfl, rfl, rfl⟩, ?_⟩, ⟨⟨by omega, hBl, hBp, hc5⟩, hE⟩, by dsimp only; omega⟩
          (repeat first | exact trivial | refine ent1 ?_)
    · have k5 : decide (e.k = 19#8) = false := decide_eq_false h5
      rw [if_neg (fun hc => h5 hc.1)] at hE
      (repeat first | (refine And.intro ?_ ?_; first | exact rfl | ((exact fun h => absurd h (by first | decide | (rw [k3]; decide) | (rw [k5]; decide))); intro yy; clear yy) | (rotate_left; (exact fun h => absurd h (by first | decide | (rw [k3]; decide) | (rw [k5]; decide))); intro yy; clear yy) | decide | omega) | (with_reducible refine frc_bytesL (by first | omega | decide) ?_) | (with_reducible refine frc_bytesM (by first | omega | decide) ?_))
      refine call_same (fn_wint [BitVec.setWidth 64 e.k, e.t - last] 2 2 B cB hwr (Nat.le_refl _) (by simp) (by omega) g4) [4, 1, 2] rfl (by (repeat first | exact trivial | refine ent1 ?_)) ?_ (fun _ _ => trivial) ?_
      · (repeat first | exact trivial | refine ent1 ?_)
        refine ⟨fun j hj => eqC_nums (numsE2 _ _) j, ?_⟩
        (repeat first | exact trivial | refine ent1 ?_)
      rintro x hs' ⟨-, hk⟩
      obtain ⟨c3, hc3, rfl, rfl⟩ := hk (by simp)
      have hB1 : B ++ evB last e = (B ++ putAll [BitVec.setWidth 64 e.k, e.t - last]) ++ putAll e.N ++ (if evData e.k = true then longL e.D else []) := by unfold evB; simp only [List.append_assoc]
      have hBl : (B ++ evB last e).length ≤ 12 + 140 * (i + 1) := by rw [List.length_append]; omega
      have hBp : 0 < (B ++ evB last e).length := by rw [List.length_append]; omega
      have hS1 : (B ++ putAll [BitVec.setWidth 64 e.k, e.t - last]).length ≤ 300000 := by
        have := congrArg List.length hB1
        simp only [List.length_append] at this hBl ⊢
        omega
      have hS2 : (B ++ putAll [BitVec.setWidth 64 e.k, e.t - last] ++ putAll e.N).length ≤ 300000 := by
        have := congrArg List.length hB1
        simp only [List.length_append] at this hBl ⊢
        omega
      rw [hB1] at hE hBl hBp
      generalize hG1 : B ++ putAll [BitVec.setWidth 64 e.k, e.t - last] = B1 at hE hBl hBp hS1 hS2 hc3 ⊢
      (repeat first | (refine And.intro ?_ ?_; first | exact rfl | ((exact fun h => absurd h (by first | decide)); intro yy; clear yy) | (rotate_left; (exact fun h => absurd h (by first | decide)); intro yy; clear yy) | decide | omega) | (with_reducible refine frc_bytesL (by first | omega | decide) ?_) | (with_reducible refine frc_bytesM (by first | omega | decide) ?_))
      by_cases hz : e.N = []
      · have hz0 : e.N.length = 0 := by rw [hz]; rfl
        refine call_same (fn_wintR0 (a := aN) (cm := cN) hz0 B1 c3) [0, 1, 5] rfl (by (repeat first | exact trivial | refine ent1 ?_)) (by (repeat first | exact trivial | refine ent1 ?_)) (fun _ _ => trivial) ?_
        rintro x hs' ⟨rfl, rfl⟩
        have hB2 : B1 ++ putAll e.N = B1 := by rw [hz]; show B1 ++ [] = B1; rw [List.append_nil]
        rw [hB2] at hE hBl hBp hS2
        (repeat first | (refine And.intro ?_ ?_; first | exact rfl | ((exact fun h => absurd h (by first | decide)); intro yy; clear yy) | (rotate_left; (exact fun h => absurd h (by first | decide)); intro yy; clear yy) | decide | omega) | (with_reducible refine frc_bytesL (by first | omega | decide) ?_) | (with_reducible refine frc_bytesM (by first | omega | decide) ?_))
        refine call_same (fn_eof e.k) [] rfl (by (repeat first | exact trivial | refine ent1 ?_)) trivial (fun _ _ => trivial) ?_
        rintro y hs' ⟨rfl, rfl⟩
        cases hdt : evData e.k
        · rw [hdt, if_neg (by decide), List.append_nil] at hE hBl hBp
          (repeat first | (refine And.intro ?_ ?_; first | exact rfl | ((exact fun h => absurd h (by first | decide)); intro yy; clear yy) | (rotate_left; (exact fun h => absurd h (by first | decide)); intro yy; clear yy) | decide | omega) | (with_reducible refine frc_bytesL (by first | omega | decide) ?_) | (with_reducible refine frc_bytesM (by first | omega | decide) ?_))
          refine ⟨(i + 1, e.t, B1, c3), [0, 1, 5], ⟨⟨rfl, rfl, rfl⟩, ?_⟩, ⟨⟨by omega, hBl, hBp, hc3⟩, hE⟩, by dsimp only; omega⟩
          (repeat first | exact trivial | refine ent1 ?_)
        · rw [hdt, if_pos rfl] at hE hBl hBp
          (repeat first | (refine And.intro ?_ ?_; first | exact rfl | ((exact fun h => absurd h (by first | decide)); intro yy; clear yy) | (rotate_left; (exact fun h => absurd h (by first | decide)); intro yy; clear yy) | decide | omega) | (with_reducible refine frc_bytesL (by first | omega | decide) ?_) | (with_reducible refine frc_bytesM (by first | omega | decide) ?_))
          refine call_same (fn_wlongR hxD (by omega) B1 c3 (by omega) hc3) [0, 1, 5] rfl (by (repeat first | exact trivial | refine ent1 ?_)) (by (repeat first | exact trivial | refine ent1 ?_)) (fun _ _ => trivial) ?_
          rintro x hs' ⟨c5, hc5, rfl, rfl⟩
          generalize hG3 : B1 ++ longL e.D = B3 at hE hBl hBp hc5 ⊢
          (repeat first | (refine And.intro ?_ ?_; first | exact rfl | ((exact fun h => absurd h (by first | decide)); intro yy; clear yy) | (rotate_left; (exact fun h => absurd h (by first | decide)); intro yy; clear yy) | decide | omega) | (with_reducible refine frc_bytesL (by first | omega | decide) ?_) | (with_reducible refine frc_bytesM (by first | omega | decide) ?_))
          refine ⟨(i + 1, e.t, B3, c5), [0, 1, 8], ⟨⟨rfl, rfl, rfl⟩, ?_⟩, ⟨⟨by omega, hBl, hBp, hc5⟩, hE⟩, by dsimp only; omega⟩
          (repeat first | exact trivial | refine ent1 ?_)
      · cases haN : aN with
        | none => rw [haN] at hxN; exact absurd (List.eq_nil_of_length_eq_zero hxN.nil_.1) hz
        | some AN =>
        subst haN
        refine call_same (fn_wintR hxN hz B1 c3 hok.n (by omega) (by omega) hc3) [0, 1, 5] rfl (by (repeat first | exact trivial | refine ent1 ?_)) (by (repeat first | exact trivial | refine ent1 ?_)) (fun _ _ => trivial) ?_
        rintro x hs' ⟨c4, hc4, rfl, rfl⟩
        generalize hG2 : B1 ++ putAll e.N = B2 at hE hBl hBp hS2 hc4 ⊢
        (repeat first | (refine And.intro ?_ ?_; first | exact rfl | ((exact fun h => absurd h (by first | decide)); intro yy; clear yy) | (rotate_left; (exact fun h => absurd h (by first | decide)); intro yy; clear yy) | decide | omega) | (with_reducible refine frc_bytesL (by first | omega | decide) ?_) | (with_reducible refine frc_bytesM (by first | omega | decide) ?_))
        refine call_same (fn_eof e.k) [] rfl (by (repeat first | exact trivial | refine ent1 ?_)) trivial (fun _ _ => trivial) ?_
        rintro y hs' ⟨rfl, rfl⟩
        cases hdt : evData e.k
        · rw [hdt, if_neg (by decide), List.append_nil] at hE hBl hBp
          (repeat first | (refine And.intro ?_ ?_; first | exact rfl | ((exact fun h => absurd h (by first | decide)); intro yy; clear yy) | (rotate_left; (exact fun h => absurd h (by first | decide)); intro yy; clear yy) | decide | omega) | (with_reducible refine frc_bytesL (by first | omega | decide) ?_) | (with_reducible refine frc_bytesM (by first | omega | decide) ?_))
          refine ⟨(i + 1, e.t, B2, c4), [0, 1, 6], ⟨⟨rfl, rfl, rfl⟩, ?_⟩, ⟨⟨by omega, hBl, hBp, hc4⟩, hE⟩, by dsimp only; omega⟩
          (repeat first | exact trivial | refine ent1 ?_)
        · rw [hdt, if_pos rfl] at hE hBl hBp
          (repeat first | (refine And.intro ?_ ?_; first | exact rfl | ((exact fun h => absurd h (by first | decide)); intro yy; clear yy) | (rotate_left; (exact fun h => absurd h (by first | decide)); intro yy; clear yy) | decide | omega) | (with_reducible refine frc_bytesL (by first | omega | decide) ?_) | (with_reducible refine frc_bytesM (by first | omega | decide) ?_))
          refine call_same (fn_wlongR hxD (by omega) B2 c4 (by omega) hc4) [0, 1, 6] rfl (by (repeat first | exact trivial | refine ent1 ?_)) (by (repeat first | exact trivial | refine ent1 ?_)) (fun _ _ => trivial) ?_
          rintro x hs' ⟨c5, hc5, rfl, rfl⟩
          generalize hG3 : B2 ++ longL e.D = B3 at hE hBl hBp hc5 ⊢
          (repeat first | (refine And.intro ?_ ?_; first | exact rfl | ((exact fun h => absurd h (by first | decide)); intro yy; clear yy) | (rotate_left; (exact fun h => absurd h (by first | decide)); intro yy; clear yy) | decide | omega) | (with_reducible refine frc_bytesL (by first | omega | decide) ?_) | (with_reducible refine frc_bytesM (by first | omega | decide) ?_))
          refine ⟨(i + 1, e.t, B3, c5), [0, 1, 9], ⟨⟨rfl, rfl, rfl⟩, ?_⟩, ⟨⟨by omega, hBl, hBp, hc5⟩, hE⟩, by dsimp only; omega⟩
          (repeat first | exact trivial | refine ent1 ?_)
  · obtain rfl : i = n := by have : ¬ (i : Int) < (n : Int) := of_decide_eq_false hge; omega
    rw [List.drop_eq_nil_of_le (by omega), encL] at hE
    (repeat first | (refine And.intro ?_ ?_; first | exact rfl | ((exact fun h => absurd h (by first | decide)); intro yy; clear yy) | (rotate_left; (exact fun h => absurd h (by first | decide)); intro yy; clear yy) | decide | omega) | (with_reducible refine frc_bytesL (by first | omega | decide) ?_) | (with_reducible refine frc_bytesM (by first | omega | decide) ?_))
    refine call_same (fn_wdone B cB (by omega) g4 g3) [1, 2] rfl (by (repeat first | exact trivial | refine ent1 ?_)) (by (repeat first | exact trivial | refine ent1 ?_)) (fun _ _ => trivial) ?_
    rintro x hs' ⟨c9, hc9, rfl, rfl⟩
    (repeat first | (refine And.intro ?_ ?_; first | exact rfl | ((exact fun h => absurd h (by first | decide)); intro yy; clear yy) | (rotate_left; (exact fun h => absurd h (by first | decide)); intro yy; clear yy) | decide | omega) | (with_reducible refine frc_bytesL (by first | omega | decide) ?_) | (with_reducible refine frc_bytesM (by first | omega | decide) ?_))
    refine ⟨.tup [.c (svC 1 ⟨false, c9, 0, c9, B⟩), .c (.int .i64 0)], _, ⟨[0, 3], ⟨rfl, rfl, rfl⟩, ?_⟩, fun hc => absurd hc h1, fun _ => ⟨⟨false, c9, 0, c9, B⟩, 0, hE, own_okE hc9 (by omega), rfl, rfl⟩⟩
    (repeat first | exact trivial | refine ent1 ?_)
    refine ⟨fun j hj => eqC_winBM (Nat.le_refl _), ?_⟩
    (repeat first | exact trivial | refine ent1 ?_)
end Sx
end Go.Proofs.Ytdakmieapdpidaa
end
