/-
  Texts of this claim, part 7: EoF, EoG, EoH, EoI, VsB, VsC, EoJ. No condition of its own.
-/
import Derived.Test.YtdakmieapdpidaaG6
section
/-
  An event that may be, of any: binnaclelaw24.Fit. No condition.
-/
namespace Go.Proofs.Ytdakmieapdpidaa
set_option linter.unusedVariables false
namespace Sx
open Go.RowKit Sha Vi Ev

theorem eqC_numsM' {q : List Nat} {g : Nat → Nat} {l : List (BitVec 64)} {j : Nat} : eqC q (SC.mp g (numsF l j)) (numsF l j) True :=
  eqC_nums (f := fun j => SC.mp g (numsF l j)) (fun j x h => by unfold numsF; rw [h]; rfl) j
theorem mskN_zero (P : List (BitVec 64)) : mskN 0 P = P := by simp [mskN]
theorem app_nums {P : List (BitVec 64)} {v : BitVec 64} {n : Nat} (hn : P.length = n) {f g : Nat → SC} (hf : ∀ j x, P[j]? = some x → f j = .w64 x) (hg : g 0 = .w64 v) (j : Nat) (x : BitVec 64) (h : (P ++ [v])[j]? = some x) : appF f 0 (scale n (0 + 1)) (scale 1 (0 + 1)) g j = .w64 x := by
  have e1 : scale n (0 + 1) = n := by rw [scale_eq, Nat.zero_add, Nat.mul_one]
  have e2 : scale 1 (0 + 1) = 1 := by rw [scale_eq]
  unfold appF
  rw [e1, e2]
  by_cases hj : j < n
  · rw [if_pos hj, Nat.add_zero]
    rw [List.getElem?_append_left (by omega)] at h
    exact hf j x h
  · rw [List.getElem?_append_right (by omega)] at h
    have hj0 : j - P.length = 0 := by
      rcases Nat.eq_zero_or_pos (j - P.length) with h1 | h1
      · exact h1
      · rw [List.getElem?_eq_none (by simp; omega)] at h; cases h
    rw [hj0] at h
    injection h with h
    subst h
    rw [if_neg hj, if_pos (by omega), show j - n = 0 by omega, hg]
theorem new_nums {v : BitVec 64} {g : Nat → SC} (hg : g 0 = .w64 v) (j : Nat) (x : BitVec 64) (h : [v][j]? = some x) : newF (scale 1 (0 + 1)) g j = .w64 x := by
  have e2 : scale 1 (0 + 1) = 1 := by rw [scale_eq]
  cases j with
  | zero => simp at h; subst h; unfold newF; rw [e2, if_pos (by decide), hg]
  | succ j => simp at h
theorem padE_step {P : List (BitVec 64)} {m : Nat} (h : P.length < m) : padE P (m - P.length) = padE (P ++ [BitVec.ofNat 64 P.length * 7#64]) (m - (P ++ [BitVec.ofNat 64 P.length * 7#64]).length) := by
  obtain ⟨k, hk⟩ : ∃ k, m - P.length = k + 1 := ⟨m - P.length - 1, by omega⟩
  rw [hk, padE, List.length_append, List.length_singleton, show m - (P.length + 1) = k by omega]
theorem padE_done {P : List (BitVec 64)} {m : Nat} (h : m ≤ P.length) : padE P (m - P.length) = P := by
  rw [show m - P.length = 0 by omega]; rfl
theorem msk_step {i : Nat} {P : List (BitVec 64)} {y : BitVec 64} (hy : P[i]? = some y) (j : Nat) (x : BitVec 64) (h : (mskN (i + 1) P)[j]? = some x) : upd (numsF (mskN i P)) i (.w64 (mk62 y)) j = .w64 x := by
  have hj : j < P.length := by
    have := (List.getElem?_eq_some_iff.1 h).1
    rwa [mskN_len] at this
  have hp : P[j]? = some P[j] := List.getElem?_eq_getElem hj
  rw [mskN_get hp] at h
  injection h with h
  unfold upd
  by_cases hji : j = i
  · subst hji
    rw [if_pos rfl]
    rw [hp] at hy
    injection hy with hy
    rw [if_pos (by omega)] at h
    rw [← h, ← hy]
  · rw [if_neg hji]
    refine nums_get ?_
    rw [mskN_get hp]
    congr 1
    rw [← h]
    by_cases hlt : j < i
    · rw [if_pos hlt, if_pos (by omega)]
    · rw [if_neg hlt, if_neg (by omega)]
theorem take_fin {D : Bs} (j : Nat) (x : SC) (h : ((D.take 20).map SC.w8)[j]? = some x) : bytesF D.length (L D) j = x := by
  rw [List.getElem?_map, Option.map_eq_some_iff] at h
  obtain ⟨b, hb, rfl⟩ := h
  exact bytes_get hb (by rw [List.length_take]; omega) D rfl (fun i hi => by rw [L_take _ _ _ (by rw [List.length_take] at hi; omega)])
theorem mask_fin {P : List (BitVec 64)} {m : Nat} (j : Nat) (x : SC) (h : (((P.take m).map mk62).map SC.w64)[j]? = some x) : numsF (mskN m P) j = x := by
  rw [List.getElem?_map, Option.map_eq_some_iff] at h
  obtain ⟨b, hb, rfl⟩ := h
  rw [List.getElem?_map, Option.map_eq_some_iff] at hb
  obtain ⟨a, ha, rfl⟩ := hb
  rw [List.getElem?_take] at ha
  split at ha
  · rename_i hj
    refine nums_get ?_
    rw [mskN_get ha, if_pos hj]
  · cases ha
set_option maxRecDepth 20000 in
set_option maxHeartbeats 16000000 in
theorem fn_efit11 {W : World} {ms : List Nat} {x : EvC} {e : Ev} (h : EvAt W ms x e) (hn : e.N.length ≤ 1000) (hd : e.D.length ≤ 1000) (hz : 0 < e.N.length) (hy : 0 < e.D.length) (k : BitVec 8) : FnR Try.prog tds 17 1 [[.past W ms]] [.agg (evS e x), .c (.w8 k)] (fun _ => True)
    (fun y hs => ∃ W' ms' x', Later W ms W' ms' ∧ EvAt W' ms' x' (fitE e k) ∧ y = .a (.agg (evS (fitE e k) x')) ∧ hs = [[.past W' ms']]) := by
  refine fn_of_bodyW tds_ok follows_ Try.func17 rfl (t := .a (.agg (evS e x)) :: .a (.c (.w8 k)) :: anys (Try.f17.ntmps - 2)) rfl (fun w r0 hr _ => ?_)
  obtain ⟨x0, rfl⟩ := List.length_eq_one_iff.1 hr
  have hm8 := many_le (kindE k)
  (repeat first | (refine And.intro ?_ ?_; first | exact rfl | ((exact fun h => absurd h (by first | decide)); intro yy; clear yy) | (rotate_left; (exact fun h => absurd h (by first | decide)); intro yy; clear yy) | decide | omega) | (with_reducible refine frc_bytesL (by first | omega | decide) ?_) | (with_reducible refine frc_bytesM (by first | omega | decide) ?_))
  refine call_same (fn_ecl11 h (by omega) (by omega) hz hy) [0] rfl (by (repeat first | exact trivial | refine ent1 ?_)) (by (repeat first | exact trivial | refine ent1 ?_)) (fun _ _ => trivial) ?_
  rintro y hs' ⟨c1, c2, hc1, hc2, rfl, rfl⟩
  (repeat first | (refine And.intro ?_ ?_; first | exact rfl | ((exact fun h => absurd h (by first | decide)); intro yy; clear yy) | (rotate_left; (exact fun h => absurd h (by first | decide)); intro yy; clear yy) | decide | omega) | (with_reducible refine frc_bytesL (by first | omega | decide) ?_) | (with_reducible refine frc_bytesM (by first | omega | decide) ?_))
  refine call_same (fn_many (kindE k) (kindE_ok k)) [] rfl (by (repeat first | exact trivial | refine ent1 ?_)) trivial (fun _ _ => trivial) ?_
  rintro y hs' ⟨rfl, rfl⟩
  (repeat first | (refine And.intro ?_ ?_; first | exact rfl | ((exact fun h => absurd h (by first | decide)); intro yy; clear yy) | (rotate_left; (exact fun h => absurd h (by first | decide)); intro yy; clear yy) | decide | omega) | (with_reducible refine frc_bytesL (by first | omega | decide) ?_) | (with_reducible refine frc_bytesM (by first | omega | decide) ?_))
  refine .inl ⟨List (BitVec 64) × Nat, fun (P, c) => ⟨[.any, .a (.c (.w8 (k))), .a (.c (.p 1 0 0)), .any, .a (.c (.p 2 0 0)), .a (.c (.int .i64 (↑(evNames (kindE k)).length))), .a (.c (.bool ((evData (kindE k))))), .any, .any, .any, .any, .any, .any, .any, .any, .any, .any, .any, .any, .any, .any, .any, .any, .any, .any, .any, .any, .any, .any, .any, .any, .any, .any, .any, .any, .any, .any, .any, .any, .any, .any, .any, .any, .any, .any, .any, .any, .any, .any, .any, .any, .any, .any, .any, .any, .any, .any, .any, .any, .any, .any, .any, .any, .any, .any, .any, .any, .any, .any, .any], [[.past W ms], [.one (.w8 (kindE k)), .one (.w64 (e.t % 1125899906842625#64)), .one (.sl 4 0 0 P.length c), .one (.sl 3 0 0 e.D.length c2)], [.one (.w8 0), .one (.w64 0), .one (.slc none 0 0), .one (.slc none 0 0)], lsC e.D c2, [.row c (numsF P)]]⟩, fun (P, c) => P.length ≤ c ∧ P.length ≤ 1100 ∧ padE P ((evNames (kindE k)).length - P.length) = padE e.N ((evNames (kindE k)).length - e.N.length), fun (P, c) => (evNames (kindE k)).length - P.length, ⟨(e.N, c1), [0, 1, 2, 4, 3], ⟨⟨rfl, rfl, rfl⟩, ?_⟩, hc1, by omega, rfl⟩, fun (P, c) ⟨h1, h2, h3⟩ => ?_⟩
  · (repeat first | exact trivial | refine ent1 ?_)
    exact ⟨fun j hj => eqC_numsM', by (repeat first | exact trivial | refine ent1 ?_)⟩
  refine And.intro (fun hlt => ?_) (fun hge => ?_)
  · have hlt : P.length < (evNames (kindE k)).length := by have : (P.length : Int) < ((evNames (kindE k)).length : Int) := of_decide_eq_true hlt; omega
    (repeat first | (refine And.intro ?_ ?_; first | exact rfl | ((exact fun h => absurd h (by first | decide)); intro yy; clear yy) | (rotate_left; (exact fun h => absurd h (by first | decide)); intro yy; clear yy) | decide | omega) | (with_reducible refine frc_bytesL (by first | omega | decide) ?_) | (with_reducible refine frc_bytesM (by first | omega | decide) ?_))
    refine And.intro ⟨h1, by first | omega | (simp only [scale_eq]; omega), show (P.length + 1) * 8 ≤ 140737488355328 by omega⟩ ?_
    intro c' hc'
    (repeat first | (refine And.intro ?_ ?_; first | exact rfl | ((exact fun h => absurd h (by first | decide)); intro yy; clear yy) | (rotate_left; (exact fun h => absurd h (by first | decide)); intro yy; clear yy) | decide | omega) | (with_reducible refine frc_bytesL (by first | omega | decide) ?_) | (with_reducible refine frc_bytesM (by first | omega | decide) ?_))
    refine ⟨(P ++ [BitVec.ofNat 64 P.length * 7#64], c'), [0, 1, 2, 3, 6], ⟨⟨rfl, rfl, rfl⟩, ?_⟩, ⟨by rw [List.length_append, List.length_singleton]; exact hc', by rw [List.length_append, List.length_singleton]; omega, by rw [← h3]; exact (padE_step hlt).symm⟩, by dsimp only; rw [List.length_append, List.length_singleton]; omega⟩
    (repeat first | exact trivial | refine ent1 ?_)
    refine ⟨by rw [List.length_append, List.length_singleton], ?_⟩
    (repeat first | exact trivial | refine ent1 ?_)
    exact ⟨fun j hj => eqC_nums (app_nums rfl (fun j x h => nums_get h) (congrArg SC.w64 (by rw [BitVec.ofInt_natCast]))) j, by (repeat first | exact trivial | refine ent1 ?_)⟩
  · have hge : (evNames (kindE k)).length ≤ P.length := by have : ¬ (P.length : Int) < ((evNames (kindE k)).length : Int) := of_decide_eq_false hge; omega
    rw [padE_done hge] at h3
    have hT : ((padE e.N ((evNames (kindE k)).length - e.N.length)).take (evNames (kindE k)).length).map mk62 = (P.take (evNames (kindE k)).length).map mk62 := by rw [← h3]
    have hTl : ((P.take (evNames (kindE k)).length).map mk62).length = (evNames (kindE k)).length := by simp only [List.length_map, List.length_take]; omega
    refine And.intro (show (0 : Int) ≤ 0 ∧ (0 : Int) ≤ ((evNames (kindE k)).length : Int) ∧ ((evNames (kindE k)).length : Int) ≤ (c : Int) by omega) ?_
    refine frcN_of (m := 0) rfl ?_
    refine frcN_of (m := (evNames (kindE k)).length) (by omega) ?_
    refine frcN_of (m := 0) (by split <;> omega) ?_
    refine frcN_of (m := (evNames (kindE k)).length) (by omega) ?_
    refine frcN_of (m := c) (by omega) ?_
    (repeat first | (refine And.intro ?_ ?_; first | exact rfl | ((exact fun h => absurd h (by first | decide)); intro yy; clear yy) | (rotate_left; (exact fun h => absurd h (by first | decide)); intro yy; clear yy) | decide | omega) | (with_reducible refine frc_bytesL (by first | omega | decide) ?_) | (with_reducible refine frc_bytesM (by first | omega | decide) ?_))
    refine .inl ⟨Nat, fun i => ⟨[.any, .a (.c (.w8 (k))), .a (.c (.p 1 0 0)), .any, .a (.c (.p 2 0 0)), .a (.c (.int .i64 (↑(evNames (kindE k)).length))), .a (.c (.bool ((evData (kindE k))))), .any, .any, .any, .any, .any, .any, .any, .any, .any, .any, .any, .any, .any, .any, .any, .any, .any, .any, .any, .any, .any, .any, .any, .any, .any, .any, .any, .any, .any, .any, .any, .any, .any, .any, .any, .any, .any, .any, .any, .a (.c (.int .i64 (↑(evNames (kindE k)).length))), .a (.c (.int .i64 (↑i))), .any, .any, .any, .any, .any, .any, .any, .any, .any, .any, .any, .any, .any, .any, .any, .any, .any, .any, .any, .any, .any, .any], [[.past W ms], [.one (.w8 (kindE k)), .one (.w64 (e.t % 1125899906842625#64)), .one (.sl 4 0 0 (evNames (kindE k)).length c), .one (.sl 3 0 0 e.D.length c2)], [.one (.w8 0), .one (.w64 0), .one (.slc none 0 0), .one (.slc none 0 0)], lsC e.D c2, [.row c (numsF (mskN i P))]]⟩, fun i => i ≤ (evNames (kindE k)).length, fun i => (evNames (kindE k)).length - i, ⟨0, [0, 1, 2, 3, 4], ⟨⟨rfl, rfl, rfl⟩, ?_⟩, Nat.zero_le _⟩, fun i hi => And.intro (fun hlt => ?_) (fun hge2 => ?_)⟩
    · (repeat first | exact trivial | refine ent1 ?_)
      exact ⟨fun j hj => by rw [mskN_zero]; exact eqC_numsS, by (repeat first | exact trivial | refine ent1 ?_)⟩
    · have hlt : i < (evNames (kindE k)).length := by have : (i : Int) < ((evNames (kindE k)).length : Int) := of_decide_eq_true hlt; omega
      obtain ⟨y, hy⟩ : ∃ y, P[i]? = some y := ⟨_, List.getElem?_eq_getElem (by omega)⟩
      have hmy : (mskN i P)[(i : Int).toNat + 0]? = some y := by rw [show (i : Int).toNat + 0 = i by omega, mskN_get hy, if_neg (by omega)]
      refine And.intro (show (0 : Int) ≤ (i : Int) ∧ (i : Int) < ((evNames (kindE k)).length : Int) by omega) ?_
      refine And.intro (show (i : Int).toNat + 0 < c by omega) ?_
      refine frc_nums hmy ?_
      refine And.intro (show (0 : Int) ≤ (i : Int) ∧ (i : Int) < ((evNames (kindE k)).length : Int) by omega) ?_
      refine And.intro (show (i : Int).toNat + 0 < c by omega) ?_
      (repeat first | (refine And.intro ?_ ?_; first | exact rfl | ((exact fun h => absurd h (by first | decide)); intro yy; clear yy) | (rotate_left; (exact fun h => absurd h (by first | decide)); intro yy; clear yy) | decide | omega) | (with_reducible refine frc_bytesL (by first | omega | decide) ?_) | (with_reducible refine frc_bytesM (by first | omega | decide) ?_))
      refine ⟨i + 1, [0, 1, 2, 3, 4], ⟨⟨rfl, rfl, rfl⟩, ?_⟩, by omega, by dsimp only; omega⟩
      (repeat first | exact trivial | refine ent1 ?_)
      exact ⟨fun j hj => eqC_nums (fun j x h => by rw [show (i : Int).toNat + 0 = i by omega]; exact msk_step hy j x h) j, by (repeat first | exact trivial | refine ent1 ?_)⟩
    · obtain rfl : i = (evNames (kindE k)).length := by have : ¬ (i : Int) < ((evNames (kindE k)).length : Int) := of_decide_eq_false hge2; omega
      (repeat first | (refine And.intro ?_ ?_; first | exact rfl | ((exact fun h => absurd h (by first | decide)); intro yy; clear yy) | (rotate_left; (exact fun h => absurd h (by first | decide)); intro yy; clear yy) | decide | omega) | (with_reducible refine frc_bytesL (by first | omega | decide) ?_) | (with_reducible refine frc_bytesM (by first | omega | decide) ?_))
      cases hdt : evData (kindE k)
      · refine And.intro (fun _ => ?_) (fun h => absurd h (by decide))
        (repeat first | (refine And.intro ?_ ?_; first | exact rfl | ((exact fun h => absurd h (by first | decide)); intro yy; clear yy) | (rotate_left; (exact fun h => absurd h (by first | decide)); intro yy; clear yy) | decide | omega) | (with_reducible refine frc_bytesL (by first | omega | decide) ?_) | (with_reducible refine frc_bytesM (by first | omega | decide) ?_))
        have hDD : (if evData (kindE k) = true then e.D.take 20 else []) = [] := by rw [hdt]; rfl
        refine finW_frz [0] rfl (Nat.zero_lt_one) cx0_m rfl (fun W' ms' α hL hI => ?_)
        have hfe : fitE e k = ⟨kindE k, e.t % 1125899906842625#64, ((padE e.N ((evNames (kindE k)).length - e.N.length)).take (evNames (kindE k)).length).map mk62, if evData (kindE k) = true then e.D.take 20 else []⟩ := rfl
        refine ⟨.a (.agg (evS (fitE e k) ⟨some ((α 4).add (0 + 0)), (evNames (kindE k)).length, c, none, 0, 0⟩)), [], ⟨⟨rfl, rfl, rfl⟩, ?_⟩, W', ms', ⟨some ((α 4).add (0 + 0)), (evNames (kindE k)).length, c, none, 0, 0⟩, hL, ⟨(by rw [show (fitE e k).N = _ from hT]; exact SlAt.frz (F := fun j => !memB j [0]) (hI 4 rfl) rfl (show (evNames (kindE k)).length ≤ c by omega) (show (evNames (kindE k)).length ≤ 9223372036854775807 by omega) (by decide) (by rw [List.length_map, hTl, Nat.mul_one]) mask_fin (rz_w64 _)), (by rw [show (fitE e k).D = [] from hDD]; exact SlAt.nul)⟩, rfl, rfl⟩
        (repeat first | exact trivial | refine ent1 ?_)
      · refine And.intro (fun h => absurd h (by decide)) (fun _ => ?_)
        have hmin : (if (20 : Int) < (e.D.length : Int) then (20 : Int) else (e.D.length : Int)) = ((e.D.take 20).length : Int) := by rw [List.length_take]; split <;> omega
        have hmle : (e.D.take 20).length ≤ c2 := by rw [List.length_take]; omega
        refine And.intro (show (0 : Int) ≤ 0 ∧ (0 : Int) ≤ (if (20 : Int) < (e.D.length : Int) then (20 : Int) else (e.D.length : Int)) ∧ (if (20 : Int) < (e.D.length : Int) then (20 : Int) else (e.D.length : Int)) ≤ (c2 : Int) by rw [hmin]; omega) ?_
        refine frcN_of (m := 0) rfl ?_
        refine frcN_of (m := (e.D.take 20).length) (by rw [hmin]; rfl) ?_
        refine frcN_of (m := 0) (by split <;> omega) ?_
        refine frcN_of (m := (e.D.take 20).length) (by omega) ?_
        refine frcN_of (m := c2) (by omega) ?_
        (repeat first | (refine And.intro ?_ ?_; first | exact rfl | ((exact fun h => absurd h (by first | decide)); intro yy; clear yy) | (rotate_left; (exact fun h => absurd h (by first | decide)); intro yy; clear yy) | decide | omega) | (with_reducible refine frc_bytesL (by first | omega | decide) ?_) | (with_reducible refine frc_bytesM (by first | omega | decide) ?_))
        have hDD : (if evData (kindE k) = true then e.D.take 20 else []) = e.D.take 20 := by rw [hdt]; rfl
        refine finW_frz [0] rfl (Nat.zero_lt_one) cx0_m rfl (fun W' ms' α hL hI => ?_)
        have hfe : fitE e k = ⟨kindE k, e.t % 1125899906842625#64, ((padE e.N ((evNames (kindE k)).length - e.N.length)).take (evNames (kindE k)).length).map mk62, if evData (kindE k) = true then e.D.take 20 else []⟩ := rfl
        refine ⟨.a (.agg (evS (fitE e k) ⟨some ((α 4).add (0 + 0)), (evNames (kindE k)).length, c, some ((α 3).add (0 + 0)), (e.D.take 20).length, c2⟩)), [], ⟨⟨rfl, rfl, rfl⟩, ?_⟩, W', ms', ⟨some ((α 4).add (0 + 0)), (evNames (kindE k)).length, c, some ((α 3).add (0 + 0)), (e.D.take 20).length, c2⟩, hL, ⟨(by rw [show (fitE e k).N = _ from hT]; exact SlAt.frz (F := fun j => !memB j [0]) (hI 4 rfl) rfl (show (evNames (kindE k)).length ≤ c by omega) (show (evNames (kindE k)).length ≤ 9223372036854775807 by omega) (by decide) (by rw [List.length_map, hTl, Nat.mul_one]) mask_fin (rz_w64 _)), (by rw [show (fitE e k).D = _ from hDD]; exact SlAt.frz (F := fun j => !memB j [0]) (hI 3 rfl) rfl (show (e.D.take 20).length ≤ c2 from hmle) (show (e.D.take 20).length ≤ 9223372036854775807 by rw [List.length_take]; omega) (by decide) (by rw [List.length_map, Nat.mul_one]) take_fin (rz_w8 _))⟩, rfl, rfl⟩
        (repeat first | exact trivial | refine ent1 ?_)
set_option maxRecDepth 20000 in
set_option maxHeartbeats 16000000 in
theorem fn_efit10 {W : World} {ms : List Nat} {x : EvC} {e : Ev} (h : EvAt W ms x e) (hn : e.N.length ≤ 1000) (hd : e.D.length ≤ 1000) (hz : 0 < e.N.length) (hy : e.D.length = 0) (k : BitVec 8) : FnR Try.prog tds 17 1 [[.past W ms]] [.agg (evS e x), .c (.w8 k)] (fun _ => True)
    (fun y hs => ∃ W' ms' x', Later W ms W' ms' ∧ EvAt W' ms' x' (fitE e k) ∧ y = .a (.agg (evS (fitE e k) x')) ∧ hs = [[.past W' ms']]) := by
  refine fn_of_bodyW tds_ok follows_ Try.func17 rfl (t := .a (.agg (evS e x)) :: .a (.c (.w8 k)) :: anys (Try.f17.ntmps - 2)) rfl (fun w r0 hr _ => ?_)
  obtain ⟨x0, rfl⟩ := List.length_eq_one_iff.1 hr
  have hm8 := many_le (kindE k)
  (repeat first | (refine And.intro ?_ ?_; first | exact rfl | ((exact fun h => absurd h (by first | decide)); intro yy; clear yy) | (rotate_left; (exact fun h => absurd h (by first | decide)); intro yy; clear yy) | decide | omega) | (with_reducible refine frc_bytesL (by first | omega | decide) ?_) | (with_reducible refine frc_bytesM (by first | omega | decide) ?_))
  refine call_same (fn_ecl10 h (by omega) (by omega) hz hy) [0] rfl (by (repeat first | exact trivial | refine ent1 ?_)) (by (repeat first | exact trivial | refine ent1 ?_)) (fun _ _ => trivial) ?_
  rintro y hs' ⟨c1, hc1, rfl, rfl⟩
  (repeat first | (refine And.intro ?_ ?_; first | exact rfl | ((exact fun h => absurd h (by first | decide)); intro yy; clear yy) | (rotate_left; (exact fun h => absurd h (by first | decide)); intro yy; clear yy) | decide | omega) | (with_reducible refine frc_bytesL (by first | omega | decide) ?_) | (with_reducible refine frc_bytesM (by first | omega | decide) ?_))
  refine call_same (fn_many (kindE k) (kindE_ok k)) [] rfl (by (repeat first | exact trivial | refine ent1 ?_)) trivial (fun _ _ => trivial) ?_
  rintro y hs' ⟨rfl, rfl⟩
  (repeat first | (refine And.intro ?_ ?_; first | exact rfl | ((exact fun h => absurd h (by first | decide)); intro yy; clear yy) | (rotate_left; (exact fun h => absurd h (by first | decide)); intro yy; clear yy) | decide | omega) | (with_reducible refine frc_bytesL (by first | omega | decide) ?_) | (with_reducible refine frc_bytesM (by first | omega | decide) ?_))
  refine .inl ⟨List (BitVec 64) × Nat, fun (P, c) => ⟨[.any, .a (.c (.w8 (k))), .a (.c (.p 1 0 0)), .any, .a (.c (.p 2 0 0)), .a (.c (.int .i64 (↑(evNames (kindE k)).length))), .a (.c (.bool ((evData (kindE k))))), .any, .any, .any, .any, .any, .any, .any, .any, .any, .any, .any, .any, .any, .any, .any, .any, .any, .any, .any, .any, .any, .any, .any, .any, .any, .any, .any, .any, .any, .any, .any, .any, .any, .any, .any, .any, .any, .any, .any, .any, .any, .any, .any, .any, .any, .any, .any, .any, .any, .any, .any, .any, .any, .any, .any, .any, .any, .any, .any, .any, .any, .any, .any], [[.past W ms], [.one (.w8 (kindE k)), .one (.w64 (e.t % 1125899906842625#64)), .one (.sl 3 0 0 P.length c), .one (.slc none 0 0)], [.one (.w8 0), .one (.w64 0), .one (.slc none 0 0), .one (.slc none 0 0)], [.row c (numsF P)]]⟩, fun (P, c) => P.length ≤ c ∧ P.length ≤ 1100 ∧ padE P ((evNames (kindE k)).length - P.length) = padE e.N ((evNames (kindE k)).length - e.N.length), fun (P, c) => (evNames (kindE k)).length - P.length, ⟨(e.N, c1), [0, 1, 2, 3], ⟨⟨rfl, rfl, rfl⟩, ?_⟩, hc1, by omega, rfl⟩, fun (P, c) ⟨h1, h2, h3⟩ => ?_⟩
  · (repeat first | exact trivial | refine ent1 ?_)
    exact ⟨fun j hj => eqC_numsM', by (repeat first | exact trivial | refine ent1 ?_)⟩
  refine And.intro (fun hlt => ?_) (fun hge => ?_)
  · have hlt : P.length < (evNames (kindE k)).length := by have : (P.length : Int) < ((evNames (kindE k)).length : Int) := of_decide_eq_true hlt; omega
    (repeat first | (refine And.intro ?_ ?_; first | exact rfl | ((exact fun h => absurd h (by first | decide)); intro yy; clear yy) | (rotate_left; (exact fun h => absurd h (by first | decide)); intro yy; clear yy) | decide | omega) | (with_reducible refine frc_bytesL (by first | omega | decide) ?_) | (with_reducible refine frc_bytesM (by first | omega | decide) ?_))
    refine And.intro ⟨h1, by first | omega | (simp only [scale_eq]; omega), show (P.length + 1) * 8 ≤ 140737488355328 by omega⟩ ?_
    intro c' hc'
    (repeat first | (refine And.intro ?_ ?_; first | exact rfl | ((exact fun h => absurd h (by first | decide)); intro yy; clear yy) | (rotate_left; (exact fun h => absurd h (by first | decide)); intro yy; clear yy) | decide | omega) | (with_reducible refine frc_bytesL (by first | omega | decide) ?_) | (with_reducible refine frc_bytesM (by first | omega | decide) ?_))
    refine ⟨(P ++ [BitVec.ofNat 64 P.length * 7#64], c'), [0, 1, 2, 5], ⟨⟨rfl, rfl, rfl⟩, ?_⟩, ⟨by rw [List.length_append, List.length_singleton]; exact hc', by rw [List.length_append, List.length_singleton]; omega, by rw [← h3]; exact (padE_step hlt).symm⟩, by dsimp only; rw [List.length_append, List.length_singleton]; omega⟩
    (repeat first | exact trivial | refine ent1 ?_)
    refine ⟨by rw [List.length_append, List.length_singleton], ?_⟩
    (repeat first | exact trivial | refine ent1 ?_)
    exact ⟨fun j hj => eqC_nums (app_nums rfl (fun j x h => nums_get h) (congrArg SC.w64 (by rw [BitVec.ofInt_natCast]))) j, by (repeat first | exact trivial | refine ent1 ?_)⟩
  · have hge : (evNames (kindE k)).length ≤ P.length := by have : ¬ (P.length : Int) < ((evNames (kindE k)).length : Int) := of_decide_eq_false hge; omega
    rw [padE_done hge] at h3
    have hT : ((padE e.N ((evNames (kindE k)).length - e.N.length)).take (evNames (kindE k)).length).map mk62 = (P.take (evNames (kindE k)).length).map mk62 := by rw [← h3]
    have hTl : ((P.take (evNames (kindE k)).length).map mk62).length = (evNames (kindE k)).length := by simp only [List.length_map, List.length_take]; omega
    refine And.intro (show (0 : Int) ≤ 0 ∧ (0 : Int) ≤ ((evNames (kindE k)).length : Int) ∧ ((evNames (kindE k)).length : Int) ≤ (c : Int) by omega) ?_
    refine frcN_of (m := 0) rfl ?_
    refine frcN_of (m := (evNames (kindE k)).length) (by omega) ?_
    refine frcN_of (m := 0) (by split <;> omega) ?_
    refine frcN_of (m := (evNames (kindE k)).length) (by omega) ?_
    refine frcN_of (m := c) (by omega) ?_
    (repeat first | (refine And.intro ?_ ?_; first | exact rfl | ((exact fun h => absurd h (by first | decide)); intro yy; clear yy) | (rotate_left; (exact fun h => absurd h (by first | decide)); intro yy; clear yy) | decide | omega) | (with_reducible refine frc_bytesL (by first | omega | decide) ?_) | (with_reducible refine frc_bytesM (by first | omega | decide) ?_))
    refine .inl ⟨Nat, fun i => ⟨[.any, .a (.c (.w8 (k))), .a (.c (.p 1 0 0)), .any, .a (.c (.p 2 0 0)), .a (.c (.int .i64 (↑(evNames (kindE k)).length))), .a (.c (.bool ((evData (kindE k))))), .any, .any, .any, .any, .any, .any, .any, .any, .any, .any, .any, .any, .any, .any, .any, .any, .any, .any, .any, .any, .any, .any, .any, .any, .any, .any, .any, .any, .any, .any, .any, .any, .any, .any, .any, .any, .any, .any, .any, .a (.c (.int .i64 (↑(evNames (kindE k)).length))), .a (.c (.int .i64 (↑i))), .any, .any, .any, .any, .any, .any, .any, .any, .any, .any, .any, .any, .any, .any, .any, .any, .any, .any, .any, .any, .any, .any], [[.past W ms], [.one (.w8 (kindE k)), .one (.w64 (e.t % 1125899906842625#64)), .one (.sl 3 0 0 (evNames (kindE k)).length c), .one (.slc none 0 0)], [.one (.w8 0), .one (.w64 0), .one (.slc none 0 0), .one (.slc none 0 0)], [.row c (numsF (mskN i P))]]⟩, fun i => i ≤ (evNames (kindE k)).length, fun i => (evNames (kindE k)).length - i, ⟨0, [0, 1, 2, 3], ⟨⟨rfl, rfl, rfl⟩, ?_⟩, Nat.zero_le _⟩, fun i hi => And.intro (fun hlt => ?_) (fun hge2 => ?_)⟩
    · (repeat first | exact trivial | refine ent1 ?_)
      exact ⟨fun j hj => by rw [mskN_zero]; exact eqC_numsS, by (repeat first | exact trivial | refine ent1 ?_)⟩
    · have hlt : i < (evNames (kindE k)).length := by have : (i : Int) < ((evNames (kindE k)).length : Int) := of_decide_eq_true hlt; omega
      obtain ⟨y, hy⟩ : ∃ y, P[i]? = some y := ⟨_, List.getElem?_eq_getElem (by omega)⟩
      have hmy : (mskN i P)[(i : Int).toNat + 0]? = some y := by rw [show (i : Int).toNat + 0 = i by omega, mskN_get hy, if_neg (by omega)]
      refine And.intro (show (0 : Int) ≤ (i : Int) ∧ (i : Int) < ((evNames (kindE k)).length : Int) by omega) ?_
      refine And.intro (show (i : Int).toNat + 0 < c by omega) ?_
      refine frc_nums hmy ?_
      refine And.intro (show (0 : Int) ≤ (i : Int) ∧ (i : Int) < ((evNames (kindE k)).length : Int) by omega) ?_
      refine And.intro (show (i : Int).toNat + 0 < c by omega) ?_
      (repeat first | (refine And.intro ?_ ?_; first | exact rfl | ((exact fun h => absurd h (by first | decide)); intro yy; clear yy) | (rotate_left; (exact fun h => absurd h (by first | decide)); intro yy; clear yy) | decide | omega) | (with_reducible refine frc_bytesL (by first | omega | decide) ?_) | (with_reducible refine frc_bytesM (by first | omega | decide) ?_))
      refine ⟨i + 1, [0, 1, 2, 3], ⟨⟨rfl, rfl, rfl⟩, ?_⟩, by omega, by dsimp only; omega⟩
      (repeat first | exact trivial | refine ent1 ?_)
      exact ⟨fun j hj => eqC_nums (fun j x h => by rw [show (i : Int).toNat + 0 = i by omega]; exact msk_step hy j x h) j, by (repeat first | exact trivial | refine ent1 ?_)⟩
    · obtain rfl : i = (evNames (kindE k)).length := by have : ¬ (i : Int) < ((evNames (kindE k)).length : Int) := of_decide_eq_false hge2; omega
      (repeat first | (refine And.intro ?_ ?_; first | exact rfl | ((exact fun h => absurd h (by first | decide)); intro yy; clear yy) | (rotate_left; (exact fun h => absurd h (by first | decide)); intro yy; clear yy) | decide | omega) | (with_reducible refine frc_bytesL (by first | omega | decide) ?_) | (with_reducible refine frc_bytesM (by first | omega | decide) ?_))
      cases hdt : evData (kindE k)
      · refine And.intro (fun _ => ?_) (fun h => absurd h (by decide))
        (repeat first | (refine And.intro ?_ ?_; first | exact rfl | ((exact fun h => absurd h (by first | decide)); intro yy; clear yy) | (rotate_left; (exact fun h => absurd h (by first | decide)); intro yy; clear yy) | decide | omega) | (with_reducible refine frc_bytesL (by first | omega | decide) ?_) | (with_reducible refine frc_bytesM (by first | omega | decide) ?_))
        have hDD : (if evData (kindE k) = true then e.D.take 20 else []) = [] := by rw [hdt]; rfl
        refine finW_frz [0] rfl (Nat.zero_lt_one) cx0_m rfl (fun W' ms' α hL hI => ?_)
        have hfe : fitE e k = ⟨kindE k, e.t % 1125899906842625#64, ((padE e.N ((evNames (kindE k)).length - e.N.length)).take (evNames (kindE k)).length).map mk62, if evData (kindE k) = true then e.D.take 20 else []⟩ := rfl
        refine ⟨.a (.agg (evS (fitE e k) ⟨some ((α 3).add (0 + 0)), (evNames (kindE k)).length, c, none, 0, 0⟩)), [], ⟨⟨rfl, rfl, rfl⟩, ?_⟩, W', ms', ⟨some ((α 3).add (0 + 0)), (evNames (kindE k)).length, c, none, 0, 0⟩, hL, ⟨(by rw [show (fitE e k).N = _ from hT]; exact SlAt.frz (F := fun j => !memB j [0]) (hI 3 rfl) rfl (show (evNames (kindE k)).length ≤ c by omega) (show (evNames (kindE k)).length ≤ 9223372036854775807 by omega) (by decide) (by rw [List.length_map, hTl, Nat.mul_one]) mask_fin (rz_w64 _)), (by rw [show (fitE e k).D = [] from hDD]; exact SlAt.nul)⟩, rfl, rfl⟩
        (repeat first | exact trivial | refine ent1 ?_)
      · refine And.intro (fun h => absurd h (by decide)) (fun _ => ?_)
        (repeat first | (refine And.intro ?_ ?_; first | exact rfl | ((exact fun h => absurd h (by first | decide)); intro yy; clear yy) | (rotate_left; (exact fun h => absurd h (by first | decide)); intro yy; clear yy) | decide | omega) | (with_reducible refine frc_bytesL (by first | omega | decide) ?_) | (with_reducible refine frc_bytesM (by first | omega | decide) ?_))
        have hDD : (if evData (kindE k) = true then e.D.take 20 else []) = [] := by rw [hdt, List.eq_nil_of_length_eq_zero hy]; rfl
        refine finW_frz [0] rfl (Nat.zero_lt_one) cx0_m rfl (fun W' ms' α hL hI => ?_)
        have hfe : fitE e k = ⟨kindE k, e.t % 1125899906842625#64, ((padE e.N ((evNames (kindE k)).length - e.N.length)).take (evNames (kindE k)).length).map mk62, if evData (kindE k) = true then e.D.take 20 else []⟩ := rfl
        refine ⟨.a (.agg (evS (fitE e k) ⟨some ((α 3).add (0 + 0)), (evNames (kindE k)).length, c, none, 0, 0⟩)), [], ⟨⟨rfl, rfl, rfl⟩, ?_⟩, W', ms', ⟨some ((α 3).add (0 + 0)), (evNames (kindE k)).length, c, none, 0, 0⟩, hL, ⟨(by rw [show (fitE e k).N = _ from hT]; exact SlAt.frz (F := fun j => !memB j [0]) (hI 3 rfl) rfl (show (evNames (kindE k)).length ≤ c by omega) (show (evNames (kindE k)).length ≤ 9223372036854775807 by omega) (by decide) (by rw [List.length_map, hTl, Nat.mul_one]) mask_fin (rz_w64 _)), (by rw [show (fitE e k).D = [] from hDD]; exact SlAt.nul)⟩, rfl, rfl⟩
        (repeat first | exact trivial | refine ent1 ?_)
set_option maxRecDepth 20000 in
set_option maxHeartbeats 16000000 in
theorem fn_efit01 {W : World} {ms : List Nat} {x : EvC} {e : Ev} (h : EvAt W ms x e) (hn : e.N.length ≤ 1000) (hd : e.D.length ≤ 1000) (hz : e.N.length = 0) (hy : 0 < e.D.length) (k : BitVec 8) : FnR Try.prog tds 17 1 [[.past W ms]] [.agg (evS e x), .c (.w8 k)] (fun _ => True)
    (fun y hs => ∃ W' ms' x', Later W ms W' ms' ∧ EvAt W' ms' x' (fitE e k) ∧ y = .a (.agg (evS (fitE e k) x')) ∧ hs = [[.past W' ms']]) := by
  refine fn_of_bodyW tds_ok follows_ Try.func17 rfl (t := .a (.agg (evS e x)) :: .a (.c (.w8 k)) :: anys (Try.f17.ntmps - 2)) rfl (fun w r0 hr _ => ?_)
  obtain ⟨x0, rfl⟩ := List.length_eq_one_iff.1 hr
  have hm8 := many_le (kindE k)
  (repeat first | (refine And.intro ?_ ?_; first | exact rfl | ((exact fun h => absurd h (by first | decide)); intro yy; clear yy) | (rotate_left; (exact fun h => absurd h (by first | decide)); intro yy; clear yy) | decide | omega) | (with_reducible refine frc_bytesL (by first | omega | decide) ?_) | (with_reducible refine frc_bytesM (by first | omega | decide) ?_))
  refine call_same (fn_ecl01 h (by omega) (by omega) hz hy) [0] rfl (by (repeat first | exact trivial | refine ent1 ?_)) (by (repeat first | exact trivial | refine ent1 ?_)) (fun _ _ => trivial) ?_
  rintro y hs' ⟨c2, hc2, rfl, rfl⟩
  (repeat first | (refine And.intro ?_ ?_; first | exact rfl | ((exact fun h => absurd h (by first | decide)); intro yy; clear yy) | (rotate_left; (exact fun h => absurd h (by first | decide)); intro yy; clear yy) | decide | omega) | (with_reducible refine frc_bytesL (by first | omega | decide) ?_) | (with_reducible refine frc_bytesM (by first | omega | decide) ?_))
  refine call_same (fn_many (kindE k) (kindE_ok k)) [] rfl (by (repeat first | exact trivial | refine ent1 ?_)) trivial (fun _ _ => trivial) ?_
  rintro y hs' ⟨rfl, rfl⟩
  (repeat first | (refine And.intro ?_ ?_; first | exact rfl | ((exact fun h => absurd h (by first | decide)); intro yy; clear yy) | (rotate_left; (exact fun h => absurd h (by first | decide)); intro yy; clear yy) | decide | omega) | (with_reducible refine frc_bytesL (by first | omega | decide) ?_) | (with_reducible refine frc_bytesM (by first | omega | decide) ?_))
  refine .inl ⟨Option (List (BitVec 64) × Nat), fun x => match x with
    | none => ⟨[.any, .a (.c (.w8 (k))), .a (.c (.p 1 0 0)), .any, .a (.c (.p 2 0 0)), .a (.c (.int .i64 (↑(evNames (kindE k)).length))), .a (.c (.bool ((evData (kindE k))))), .any, .any, .any, .any, .any, .any, .any, .any, .any, .any, .any, .any, .any, .any, .any, .any, .any, .any, .any, .any, .any, .any, .any, .any, .any, .any, .any, .any, .any, .any, .any, .any, .any, .any, .any, .any, .any, .any, .any, .any, .any, .any, .any, .any, .any, .any, .any, .any, .any, .any, .any, .any, .any, .any, .any, .any, .any, .any, .any, .any, .any, .any, .any], [[.past W ms], [.one (.w8 (kindE k)), .one (.w64 (e.t % 1125899906842625#64)), .one (.slc none 0 0), .one (.sl 3 0 0 e.D.length c2)], [.one (.w8 0), .one (.w64 0), .one (.slc none 0 0), .one (.slc none 0 0)], lsC e.D c2]⟩
    | some (P, c) => ⟨[.any, .a (.c (.w8 (k))), .a (.c (.p 1 0 0)), .any, .a (.c (.p 2 0 0)), .a (.c (.int .i64 (↑(evNames (kindE k)).length))), .a (.c (.bool ((evData (kindE k))))), .any, .any, .any, .any, .any, .any, .any, .any, .any, .any, .any, .any, .any, .any, .any, .any, .any, .any, .any, .any, .any, .any, .any, .any, .any, .any, .any, .any, .any, .any, .any, .any, .any, .any, .any, .any, .any, .any, .any, .any, .any, .any, .any, .any, .any, .any, .any, .any, .any, .any, .any, .any, .any, .any, .any, .any, .any, .any, .any, .any, .any, .any, .any], [[.past W ms], [.one (.w8 (kindE k)), .one (.w64 (e.t % 1125899906842625#64)), .one (.sl 4 0 0 P.length c), .one (.sl 3 0 0 e.D.length c2)], [.one (.w8 0), .one (.w64 0), .one (.slc none 0 0), .one (.slc none 0 0)], lsC e.D c2, [.row c (numsF P)]]⟩,
    fun x => match x with
    | none => True
    | some (P, c) => P.length ≤ c ∧ P.length ≤ 1100 ∧ padE P ((evNames (kindE k)).length - P.length) = padE e.N ((evNames (kindE k)).length - e.N.length),
    fun x => match x with
    | none => (evNames (kindE k)).length + 1
    | some (P, c) => (evNames (kindE k)).length - P.length, ⟨none, [0, 1, 2, 3], ⟨⟨rfl, rfl, rfl⟩, by (repeat first | exact trivial | refine ent1 ?_)⟩, trivial⟩, fun x hx => ?_⟩
  have hN0 : e.N = [] := List.eq_nil_of_length_eq_zero hz
  rcases x with _ | ⟨P, c⟩
  · refine And.intro (fun hlt => ?_) (fun hge => ?_)
    · have hlt : 0 < (evNames (kindE k)).length := by have : (0 : Int) < ((evNames (kindE k)).length : Int) := of_decide_eq_true hlt; omega
      (repeat first | (refine And.intro ?_ ?_; first | exact rfl | ((exact fun h => absurd h (by first | decide)); intro yy; clear yy) | (rotate_left; (exact fun h => absurd h (by first | decide)); intro yy; clear yy) | decide | omega) | (with_reducible refine frc_bytesL (by first | omega | decide) ?_) | (with_reducible refine frc_bytesM (by first | omega | decide) ?_))
      intro c' hc'
      (repeat first | (refine And.intro ?_ ?_; first | exact rfl | ((exact fun h => absurd h (by first | decide)); intro yy; clear yy) | (rotate_left; (exact fun h => absurd h (by first | decide)); intro yy; clear yy) | decide | omega) | (with_reducible refine frc_bytesL (by first | omega | decide) ?_) | (with_reducible refine frc_bytesM (by first | omega | decide) ?_))
      refine ⟨some ([BitVec.ofNat 64 0 * 7#64], c'), [0, 1, 2, 3, 5], ⟨⟨rfl, rfl, rfl⟩, ?_⟩, ⟨hc', by decide, ?_⟩, by dsimp only; simp only [List.length_singleton]; omega⟩
      · (repeat first | exact trivial | refine ent1 ?_)
        exact ⟨fun j hj => eqC_nums (new_nums rfl) j, by (repeat first | exact trivial | refine ent1 ?_)⟩
      · have := padE_step (P := []) (m := (evNames (kindE k)).length) hlt
        rw [hN0]
        exact this.symm
    · have hge : (evNames (kindE k)).length = 0 := by have : ¬ (0 : Int) < ((evNames (kindE k)).length : Int) := of_decide_eq_false hge; omega
      have hT : ((padE e.N ((evNames (kindE k)).length - e.N.length)).take (evNames (kindE k)).length).map mk62 = [] := by rw [hge]; simp
      refine And.intro (show (0 : Int) ≤ 0 ∧ (0 : Int) ≤ ((evNames (kindE k)).length : Int) ∧ ((evNames (kindE k)).length : Int) ≤ ((0 : Nat) : Int) by omega) ?_
      refine frcN_of (m := 0) rfl ?_
      refine frcN_of (m := 0) (by omega) ?_
      refine frcN_of (m := 0) rfl ?_
      refine frcN_of (m := 0) rfl ?_
      (repeat first | (refine And.intro ?_ ?_; first | exact rfl | ((exact fun h => absurd h (by first | decide)); intro yy; clear yy) | (rotate_left; (exact fun h => absurd h (by first | decide)); intro yy; clear yy) | decide | omega) | (with_reducible refine frc_bytesL (by first | omega | decide) ?_) | (with_reducible refine frc_bytesM (by first | omega | decide) ?_))
      refine .inr ⟨1, ?_⟩
      refine And.intro (fun h => absurd h (by decide)) (fun _ => ?_)
      cases hdt : evData (kindE k)
      · refine And.intro (fun _ => ?_) (fun h => absurd h (by decide))
        (repeat first | (refine And.intro ?_ ?_; first | exact rfl | ((exact fun h => absurd h (by first | decide)); intro yy; clear yy) | (rotate_left; (exact fun h => absurd h (by first | decide)); intro yy; clear yy) | decide | omega) | (with_reducible refine frc_bytesL (by first | omega | decide) ?_) | (with_reducible refine frc_bytesM (by first | omega | decide) ?_))
        have hDD : (if evData (kindE k) = true then e.D.take 20 else []) = [] := by rw [hdt]; rfl
        refine finW_frz [0] rfl (Nat.zero_lt_one) cx0_m rfl (fun W' ms' α hL hI => ?_)
        have hfe : fitE e k = ⟨kindE k, e.t % 1125899906842625#64, ((padE e.N ((evNames (kindE k)).length - e.N.length)).take (evNames (kindE k)).length).map mk62, if evData (kindE k) = true then e.D.take 20 else []⟩ := rfl
        refine ⟨.a (.agg (evS (fitE e k) ⟨none, 0, 0, none, 0, 0⟩)), [], ⟨⟨rfl, rfl, rfl⟩, ?_⟩, W', ms', ⟨none, 0, 0, none, 0, 0⟩, hL, ⟨(by rw [show (fitE e k).N = [] from hT]; exact SlAt.nul), (by rw [show (fitE e k).D = [] from hDD]; exact SlAt.nul)⟩, rfl, rfl⟩
        (repeat first | exact trivial | refine ent1 ?_)
      · refine And.intro (fun h => absurd h (by decide)) (fun _ => ?_)
        have hmin : (if (20 : Int) < (e.D.length : Int) then (20 : Int) else (e.D.length : Int)) = ((e.D.take 20).length : Int) := by rw [List.length_take]; split <;> omega
        have hmle : (e.D.take 20).length ≤ c2 := by rw [List.length_take]; omega
        refine And.intro (show (0 : Int) ≤ 0 ∧ (0 : Int) ≤ (if (20 : Int) < (e.D.length : Int) then (20 : Int) else (e.D.length : Int)) ∧ (if (20 : Int) < (e.D.length : Int) then (20 : Int) else (e.D.length : Int)) ≤ (c2 : Int) by rw [hmin]; omega) ?_
        refine frcN_of (m := 0) rfl ?_
        refine frcN_of (m := (e.D.take 20).length) (by rw [hmin]; rfl) ?_
        refine frcN_of (m := 0) (by split <;> omega) ?_
        refine frcN_of (m := (e.D.take 20).length) (by omega) ?_
        refine frcN_of (m := c2) (by omega) ?_
        (repeat first | (refine And.intro ?_ ?_; first | exact rfl | ((exact fun h => absurd h (by first | decide)); intro yy; clear yy) | (rotate_left; (exact fun h => absurd h (by first | decide)); intro yy; clear yy) | decide | omega) | (with_reducible refine frc_bytesL (by first | omega | decide) ?_) | (with_reducible refine frc_bytesM (by first | omega | decide) ?_))
        have hDD : (if evData (kindE k) = true then e.D.take 20 else []) = e.D.take 20 := by rw [hdt]; rfl
        refine finW_frz [0] rfl (Nat.zero_lt_one) cx0_m rfl (fun W' ms' α hL hI => ?_)
        have hfe : fitE e k = ⟨kindE k, e.t % 1125899906842625#64, ((padE e.N ((evNames (kindE k)).length - e.N.length)).take (evNames (kindE k)).length).map mk62, if evData (kindE k) = true then e.D.take 20 else []⟩ := rfl
        refine ⟨.a (.agg (evS (fitE e k) ⟨none, 0, 0, some ((α 3).add (0 + 0)), (e.D.take 20).length, c2⟩)), [], ⟨⟨rfl, rfl, rfl⟩, ?_⟩, W', ms', ⟨none, 0, 0, some ((α 3).add (0 + 0)), (e.D.take 20).length, c2⟩, hL, ⟨(by rw [show (fitE e k).N = [] from hT]; exact SlAt.nul), (by rw [show (fitE e k).D = _ from hDD]; exact SlAt.frz (F := fun j => !memB j [0]) (hI 3 rfl) rfl (show (e.D.take 20).length ≤ c2 from hmle) (show (e.D.take 20).length ≤ 9223372036854775807 by rw [List.length_take]; omega) (by decide) (by rw [List.length_map, Nat.mul_one]) take_fin (rz_w8 _))⟩, rfl, rfl⟩
        (repeat first | exact trivial | refine ent1 ?_)
  · obtain ⟨h1, h2, h3⟩ := hx
    refine And.intro (fun hlt => ?_) (fun hge => ?_)
    · have hlt : P.length < (evNames (kindE k)).length := by have : (P.length : Int) < ((evNames (kindE k)).length : Int) := of_decide_eq_true hlt; omega
      (repeat first | (refine And.intro ?_ ?_; first | exact rfl | ((exact fun h => absurd h (by first | decide)); intro yy; clear yy) | (rotate_left; (exact fun h => absurd h (by first | decide)); intro yy; clear yy) | decide | omega) | (with_reducible refine frc_bytesL (by first | omega | decide) ?_) | (with_reducible refine frc_bytesM (by first | omega | decide) ?_))
      refine And.intro ⟨h1, by first | omega | (simp only [scale_eq]; omega), show (P.length + 1) * 8 ≤ 140737488355328 by omega⟩ ?_
      intro c' hc'
      (repeat first | (refine And.intro ?_ ?_; first | exact rfl | ((exact fun h => absurd h (by first | decide)); intro yy; clear yy) | (rotate_left; (exact fun h => absurd h (by first | decide)); intro yy; clear yy) | decide | omega) | (with_reducible refine frc_bytesL (by first | omega | decide) ?_) | (with_reducible refine frc_bytesM (by first | omega | decide) ?_))
      refine ⟨some (P ++ [BitVec.ofNat 64 P.length * 7#64], c'), [0, 1, 2, 3, 6], ⟨⟨rfl, rfl, rfl⟩, ?_⟩, ⟨by rw [List.length_append, List.length_singleton]; exact hc', by rw [List.length_append, List.length_singleton]; omega, by rw [← h3]; exact (padE_step hlt).symm⟩, by dsimp only; rw [List.length_append, List.length_singleton]; omega⟩
      (repeat first | exact trivial | refine ent1 ?_)
      refine ⟨by rw [List.length_append, List.length_singleton], ?_⟩
      (repeat first | exact trivial | refine ent1 ?_)
      exact ⟨fun j hj => eqC_nums (app_nums rfl (fun j x h => nums_get h) (congrArg SC.w64 (by rw [BitVec.ofInt_natCast]))) j, by (repeat first | exact trivial | refine ent1 ?_)⟩
    · have hge : (evNames (kindE k)).length ≤ P.length := by have : ¬ (P.length : Int) < ((evNames (kindE k)).length : Int) := of_decide_eq_false hge; omega
      rw [padE_done hge] at h3
      have hT : ((padE e.N ((evNames (kindE k)).length - e.N.length)).take (evNames (kindE k)).length).map mk62 = (P.take (evNames (kindE k)).length).map mk62 := by rw [← h3]
      have hTl : ((P.take (evNames (kindE k)).length).map mk62).length = (evNames (kindE k)).length := by simp only [List.length_map, List.length_take]; omega
      refine And.intro (show (0 : Int) ≤ 0 ∧ (0 : Int) ≤ ((evNames (kindE k)).length : Int) ∧ ((evNames (kindE k)).length : Int) ≤ (c : Int) by omega) ?_
      refine frcN_of (m := 0) rfl ?_
      refine frcN_of (m := (evNames (kindE k)).length) (by omega) ?_
      refine frcN_of (m := 0) (by split <;> omega) ?_
      refine frcN_of (m := (evNames (kindE k)).length) (by omega) ?_
      refine frcN_of (m := c) (by omega) ?_
      (repeat first | (refine And.intro ?_ ?_; first | exact rfl | ((exact fun h => absurd h (by first | decide)); intro yy; clear yy) | (rotate_left; (exact fun h => absurd h (by first | decide)); intro yy; clear yy) | decide | omega) | (with_reducible refine frc_bytesL (by first | omega | decide) ?_) | (with_reducible refine frc_bytesM (by first | omega | decide) ?_))
      refine .inl ⟨Nat, fun i => ⟨[.any, .a (.c (.w8 (k))), .a (.c (.p 1 0 0)), .any, .a (.c (.p 2 0 0)), .a (.c (.int .i64 (↑(evNames (kindE k)).length))), .a (.c (.bool ((evData (kindE k))))), .any, .any, .any, .any, .any, .any, .any, .any, .any, .any, .any, .any, .any, .any, .any, .any, .any, .any, .any, .any, .any, .any, .any, .any, .any, .any, .any, .any, .any, .any, .any, .any, .any, .any, .any, .any, .any, .any, .any, .a (.c (.int .i64 (↑(evNames (kindE k)).length))), .a (.c (.int .i64 (↑i))), .any, .any, .any, .any, .any, .any, .any, .any, .any, .any, .any, .any, .any, .any, .any, .any, .any, .any, .any, .any, .any, .any], [[.past W ms], [.one (.w8 (kindE k)), .one (.w64 (e.t % 1125899906842625#64)), .one (.sl 4 0 0 (evNames (kindE k)).length c), .one (.sl 3 0 0 e.D.length c2)], [.one (.w8 0), .one (.w64 0), .one (.slc none 0 0), .one (.slc none 0 0)], lsC e.D c2, [.row c (numsF (mskN i P))]]⟩, fun i => i ≤ (evNames (kindE k)).length, fun i => (evNames (kindE k)).length - i, ⟨0, [0, 1, 2, 3, 4], ⟨⟨rfl, rfl, rfl⟩, ?_⟩, Nat.zero_le _⟩, fun i hi => And.intro (fun hlt => ?_) (fun hge2 => ?_)⟩
      · (repeat first | exact trivial | refine ent1 ?_)
        exact ⟨fun j hj => by rw [mskN_zero]; exact eqC_numsS, by (repeat first | exact trivial | refine ent1 ?_)⟩
      · have hlt : i < (evNames (kindE k)).length := by have : (i : Int) < ((evNames (kindE k)).length : Int) := of_decide_eq_true hlt; omega
        obtain ⟨y, hy⟩ : ∃ y, P[i]? = some y := ⟨_, List.getElem?_eq_getElem (by omega)⟩
        have hmy : (mskN i P)[(i : Int).toNat + 0]? = some y := by rw [show (i : Int).toNat + 0 = i by omega, mskN_get hy, if_neg (by omega)]
        refine And.intro (show (0 : Int) ≤ (i : Int) ∧ (i : Int) < ((evNames (kindE k)).length : Int) by omega) ?_
        refine And.intro (show (i : Int).toNat + 0 < c by omega) ?_
        refine frc_nums hmy ?_
        refine And.intro (show (0 : Int) ≤ (i : Int) ∧ (i : Int) < ((evNames (kindE k)).length : Int) by omega) ?_
        refine And.intro (show (i : Int).toNat + 0 < c by omega) ?_
        (repeat first | (refine And.intro ?_ ?_; first | exact rfl | ((exact fun h => absurd h (by first | decide)); intro yy; clear yy) | (rotate_left; (exact fun h => absurd h (by first | decide)); intro yy; clear yy) | decide | omega) | (with_reducible refine frc_bytesL (by first | omega | decide) ?_) | (with_reducible refine frc_bytesM (by first | omega | decide) ?_))
        refine ⟨i + 1, [0, 1, 2, 3, 4], ⟨⟨rfl, rfl, rfl⟩, ?_⟩, by omega, by dsimp only; omega⟩
        (repeat first | exact trivial | refine ent1 ?_)
        exact ⟨fun j hj => eqC_nums (fun j x h => by rw [show (i : Int).toNat + 0 = i by omega]; exact msk_step hy j x h) j, by (repeat first | exact trivial | refine ent1 ?_)⟩
      · obtain rfl : i = (evNames (kindE k)).length := by have : ¬ (i : Int) < ((evNames (kindE k)).length : Int) := of_decide_eq_false hge2; omega
        (repeat first | (refine And.intro ?_ ?_; first | exact rfl | ((exact fun h => absurd h (by first | decide)); intro yy; clear yy) | (rotate_left; (exact fun h => absurd h (by first | decide)); intro yy; clear yy) | decide | omega) | (with_reducible refine frc_bytesL (by first | omega | decide) ?_) | (with_reducible refine frc_bytesM (by first | omega | decide) ?_))
        cases hdt : evData (kindE k)
        · refine And.intro (fun _ => ?_) (fun h => absurd h (by decide))
          (repeat first | (refine And.intro ?_ ?_; first | exact rfl | ((exact fun h => absurd h (by first | decide)); intro yy; clear yy) | (rotate_left; (exact fun h => absurd h (by first | decide)); intro yy; clear yy) | decide | omega) | (with_reducible refine frc_bytesL (by first | omega | decide) ?_) | (with_reducible refine frc_bytesM (by first | omega | decide) ?_))
          have hDD : (if evData (kindE k) = true then e.D.take 20 else []) = [] := by rw [hdt]; rfl
          refine finW_frz [0] rfl (Nat.zero_lt_one) cx0_m rfl (fun W' ms' α hL hI => ?_)
          have hfe : fitE e k = ⟨kindE k, e.t % 1125899906842625#64, ((padE e.N ((evNames (kindE k)).length - e.N.length)).take (evNames (kindE k)).length).map mk62, if evData (kindE k) = true then e.D.take 20 else []⟩ := rfl
          refine ⟨.a (.agg (evS (fitE e k) ⟨some ((α 4).add (0 + 0)), (evNames (kindE k)).length, c, none, 0, 0⟩)), [], ⟨⟨rfl, rfl, rfl⟩, ?_⟩, W', ms', ⟨some ((α 4).add (0 + 0)), (evNames (kindE k)).length, c, none, 0, 0⟩, hL, ⟨(by rw [show (fitE e k).N = _ from hT]; exact SlAt.frz (F := fun j => !memB j [0]) (hI 4 rfl) rfl (show (evNames (kindE k)).length ≤ c by omega) (show (evNames (kindE k)).length ≤ 9223372036854775807 by omega) (by decide) (by rw [List.length_map, hTl, Nat.mul_one]) mask_fin (rz_w64 _)), (by rw [show (fitE e k).D = [] from hDD]; exact SlAt.nul)⟩, rfl, rfl⟩
          (repeat first | exact trivial | refine ent1 ?_)
        · refine And.intro (fun h => absurd h (by decide)) (fun _ => ?_)
          have hmin : (if (20 : Int) < (e.D.length : Int) then (20 : Int) else (e.D.length : Int)) = ((e.D.take 20).length : Int) := by rw [List.length_take]; split <;> omega
          have hmle : (e.D.take 20).length ≤ c2 := by rw [List.length_take]; omega
          refine And.intro (show (0 : Int) ≤ 0 ∧ (0 : Int) ≤ (if (20 : Int) < (e.D.length : Int) then (20 : Int) else (e.D.length : Int)) ∧ (if (20 : Int) < (e.D.length : Int) then (20 : Int) else (e.D.length : Int)) ≤ (c2 : Int) by rw [hmin]; omega) ?_
          refine frcN_of (m := 0) rfl ?_
          refine frcN_of (m := (e.D.take 20).length) (by rw [hmin]; rfl) ?_
          refine frcN_of (m := 0) (by split <;> omega) ?_
          refine frcN_of (m := (e.D.take 20).length) (by omega) ?_
          refine frcN_of (m := c2) (by omega) ?_
          (repeat first | (refine And.intro ?_ ?_; first | exact rfl | ((exact fun h => absurd h (by first | decide)); intro yy; clear yy) | (rotate_left; (exact fun h => absurd h (by first | decide)); intro yy; clear yy) | decide | omega) | (with_reducible refine frc_bytesL (by first | omega | decide) ?_) | (with_reducible refine frc_bytesM (by first | omega | decide) ?_))
          have hDD : (if evData (kindE k) = true then e.D.take 20 else []) = e.D.take 20 := by rw [hdt]; rfl
          refine finW_frz [0] rfl (Nat.zero_lt_one) cx0_m rfl (fun W' ms' α hL hI => ?_)
          have hfe : fitE e k = ⟨kindE k, e.t % 1125899906842625#64, ((padE e.N ((evNames (kindE k)).length - e.N.length)).take (evNames (kindE k)).length).map mk62, if evData (kindE k) = true then e.D.take 20 else []⟩ := rfl
          refine ⟨.a (.agg (evS (fitE e k) ⟨some ((α 4).add (0 + 0)), (evNames (kindE k)).length, c, some ((α 3).add (0 + 0)), (e.D.take 20).length, c2⟩)), [], ⟨⟨rfl, rfl, rfl⟩, ?_⟩, W', ms', ⟨some ((α 4).add (0 + 0)), (evNames (kindE k)).length, c, some ((α 3).add (0 + 0)), (e.D.take 20).length, c2⟩, hL, ⟨(by rw [show (fitE e k).N = _ from hT]; exact SlAt.frz (F := fun j => !memB j [0]) (hI 4 rfl) rfl (show (evNames (kindE k)).length ≤ c by omega) (show (evNames (kindE k)).length ≤ 9223372036854775807 by omega) (by decide) (by rw [List.length_map, hTl, Nat.mul_one]) mask_fin (rz_w64 _)), (by rw [show (fitE e k).D = _ from hDD]; exact SlAt.frz (F := fun j => !memB j [0]) (hI 3 rfl) rfl (show (e.D.take 20).length ≤ c2 from hmle) (show (e.D.take 20).length ≤ 9223372036854775807 by rw [List.length_take]; omega) (by decide) (by rw [List.length_map, Nat.mul_one]) take_fin (rz_w8 _))⟩, rfl, rfl⟩
          (repeat first | exact trivial | refine ent1 ?_)
set_option maxRecDepth 20000 in
set_option maxHeartbeats 16000000 in
theorem fn_efit00 {W : World} {ms : List Nat} {x : EvC} {e : Ev} (h : EvAt W ms x e) (hn : e.N.length ≤ 1000) (hd : e.D.length ≤ 1000) (hz : e.N.length = 0) (hy : e.D.length = 0) (k : BitVec 8) : FnR Try.prog tds 17 1 [[.past W ms]] [.agg (evS e x), .c (.w8 k)] (fun _ => True)
    (fun y hs => ∃ W' ms' x', Later W ms W' ms' ∧ EvAt W' ms' x' (fitE e k) ∧ y = .a (.agg (evS (fitE e k) x')) ∧ hs = [[.past W' ms']]) := by
  refine fn_of_bodyW tds_ok follows_ Try.func17 rfl (t := .a (.agg (evS e x)) :: .a (.c (.w8 k)) :: anys (Try.f17.ntmps - 2)) rfl (fun w r0 hr _ => ?_)
  obtain ⟨x0, rfl⟩ := List.length_eq_one_iff.1 hr
  have hm8 := many_le (kindE k)
  (repeat first | (refine And.intro ?_ ?_; first | exact rfl | ((exact fun h => absurd h (by first | decide)); intro yy; clear yy) | (rotate_left; (exact fun h => absurd h (by first | decide)); intro yy; clear yy) | decide | omega) | (with_reducible refine frc_bytesL (by first | omega | decide) ?_) | (with_reducible refine frc_bytesM (by first | omega | decide) ?_))
  refine call_same (fn_ecl00 h (by omega) (by omega) hz hy) [0] rfl (by (repeat first | exact trivial | refine ent1 ?_)) (by (repeat first | exact trivial | refine ent1 ?_)) (fun _ _ => trivial) ?_
  rintro y hs' ⟨rfl, rfl⟩
  (repeat first | (refine And.intro ?_ ?_; first | exact rfl | ((exact fun h => absurd h (by first | decide)); intro yy; clear yy) | (rotate_left; (exact fun h => absurd h (by first | decide)); intro yy; clear yy) | decide | omega) | (with_reducible refine frc_bytesL (by first | omega | decide) ?_) | (with_reducible refine frc_bytesM (by first | omega | decide) ?_))
  refine call_same (fn_many (kindE k) (kindE_ok k)) [] rfl (by (repeat first | exact trivial | refine ent1 ?_)) trivial (fun _ _ => trivial) ?_
  rintro y hs' ⟨rfl, rfl⟩
  (repeat first | (refine And.intro ?_ ?_; first | exact rfl | ((exact fun h => absurd h (by first | decide)); intro yy; clear yy) | (rotate_left; (exact fun h => absurd h (by first | decide)); intro yy; clear yy) | decide | omega) | (with_reducible refine frc_bytesL (by first | omega | decide) ?_) | (with_reducible refine frc_bytesM (by first | omega | decide) ?_))
  refine .inl ⟨Option (List (BitVec 64) × Nat), fun x => match x with
    | none => ⟨[.any, .a (.c (.w8 (k))), .a (.c (.p 1 0 0)), .any, .a (.c (.p 2 0 0)), .a (.c (.int .i64 (↑(evNames (kindE k)).length))), .a (.c (.bool ((evData (kindE k))))), .any, .any, .any, .any, .any, .any, .any, .any, .any, .any, .any, .any, .any, .any, .any, .any, .any, .any, .any, .any, .any, .any, .any, .any, .any, .any, .any, .any, .any, .any, .any, .any, .any, .any, .any, .any, .any, .any, .any, .any, .any, .any, .any, .any, .any, .any, .any, .any, .any, .any, .any, .any, .any, .any, .any, .any, .any, .any, .any, .any, .any, .any, .any], [[.past W ms], [.one (.w8 (kindE k)), .one (.w64 (e.t % 1125899906842625#64)), .one (.slc none 0 0), .one (.slc none 0 0)], [.one (.w8 0), .one (.w64 0), .one (.slc none 0 0), .one (.slc none 0 0)]]⟩
    | some (P, c) => ⟨[.any, .a (.c (.w8 (k))), .a (.c (.p 1 0 0)), .any, .a (.c (.p 2 0 0)), .a (.c (.int .i64 (↑(evNames (kindE k)).length))), .a (.c (.bool ((evData (kindE k))))), .any, .any, .any, .any, .any, .any, .any, .any, .any, .any, .any, .any, .any, .any, .any, .any, .any, .any, .any, .any, .any, .any, .any, .any, .any, .any, .any, .any, .any, .any, .any, .any, .any, .any, .any, .any, .any, .any, .any, .any, .any, .any, .any, .any, .any, .any, .any, .any, .any, .any, .any, .any, .any, .any, .any, .any, .any, .any, .any, .any, .any, .any, .any], [[.past W ms], [.one (.w8 (kindE k)), .one (.w64 (e.t % 1125899906842625#64)), .one (.sl 3 0 0 P.length c), .one (.slc none 0 0)], [.one (.w8 0), .one (.w64 0), .one (.slc none 0 0), .one (.slc none 0 0)], [.row c (numsF P)]]⟩,
    fun x => match x with
    | none => True
    | some (P, c) => P.length ≤ c ∧ P.length ≤ 1100 ∧ padE P ((evNames (kindE k)).length - P.length) = padE e.N ((evNames (kindE k)).length - e.N.length),
    fun x => match x with
    | none => (evNames (kindE k)).length + 1
    | some (P, c) => (evNames (kindE k)).length - P.length, ⟨none, [0, 1, 2], ⟨⟨rfl, rfl, rfl⟩, by (repeat first | exact trivial | refine ent1 ?_)⟩, trivial⟩, fun x hx => ?_⟩
  have hN0 : e.N = [] := List.eq_nil_of_length_eq_zero hz
  rcases x with _ | ⟨P, c⟩
  · refine And.intro (fun hlt => ?_) (fun hge => ?_)
    · have hlt : 0 < (evNames (kindE k)).length := by have : (0 : Int) < ((evNames (kindE k)).length : Int) := of_decide_eq_true hlt; omega
      (repeat first | (refine And.intro ?_ ?_; first | exact rfl | ((exact fun h => absurd h (by first | decide)); intro yy; clear yy) | (rotate_left; (exact fun h => absurd h (by first | decide)); intro yy; clear yy) | decide | omega) | (with_reducible refine frc_bytesL (by first | omega | decide) ?_) | (with_reducible refine frc_bytesM (by first | omega | decide) ?_))
      intro c' hc'
      (repeat first | (refine And.intro ?_ ?_; first | exact rfl | ((exact fun h => absurd h (by first | decide)); intro yy; clear yy) | (rotate_left; (exact fun h => absurd h (by first | decide)); intro yy; clear yy) | decide | omega) | (with_reducible refine frc_bytesL (by first | omega | decide) ?_) | (with_reducible refine frc_bytesM (by first | omega | decide) ?_))
      refine ⟨some ([BitVec.ofNat 64 0 * 7#64], c'), [0, 1, 2, 4], ⟨⟨rfl, rfl, rfl⟩, ?_⟩, ⟨hc', by decide, ?_⟩, by dsimp only; simp only [List.length_singleton]; omega⟩
      · (repeat first | exact trivial | refine ent1 ?_)
        exact ⟨fun j hj => eqC_nums (new_nums rfl) j, by (repeat first | exact trivial | refine ent1 ?_)⟩
      · have := padE_step (P := []) (m := (evNames (kindE k)).length) hlt
        rw [hN0]
        exact this.symm
    · have hge : (evNames (kindE k)).length = 0 := by have : ¬ (0 : Int) < ((evNames (kindE k)).length : Int) := of_decide_eq_false hge; omega
      have hT : ((padE e.N ((evNames (kindE k)).length - e.N.length)).take (evNames (kindE k)).length).map mk62 = [] := by rw [hge]; simp
      refine And.intro (show (0 : Int) ≤ 0 ∧ (0 : Int) ≤ ((evNames (kindE k)).length : Int) ∧ ((evNames (kindE k)).length : Int) ≤ ((0 : Nat) : Int) by omega) ?_
      refine frcN_of (m := 0) rfl ?_
      refine frcN_of (m := 0) (by omega) ?_
      refine frcN_of (m := 0) rfl ?_
      refine frcN_of (m := 0) rfl ?_
      (repeat first | (refine And.intro ?_ ?_; first | exact rfl | ((exact fun h => absurd h (by first | decide)); intro yy; clear yy) | (rotate_left; (exact fun h => absurd h (by first | decide)); intro yy; clear yy) | decide | omega) | (with_reducible refine frc_bytesL (by first | omega | decide) ?_) | (with_reducible refine frc_bytesM (by first | omega | decide) ?_))
      refine .inr ⟨1, ?_⟩
      refine And.intro (fun h => absurd h (by decide)) (fun _ => ?_)
      cases hdt : evData (kindE k)
      · refine And.intro (fun _ => ?_) (fun h => absurd h (by decide))
        (repeat first | (refine And.intro ?_ ?_; first | exact rfl | ((exact fun h => absurd h (by first | decide)); intro yy; clear yy) | (rotate_left; (exact fun h => absurd h (by first | decide)); intro yy; clear yy) | decide | omega) | (with_reducible refine frc_bytesL (by first | omega | decide) ?_) | (with_reducible refine frc_bytesM (by first | omega | decide) ?_))
        have hDD : (if evData (kindE k) = true then e.D.take 20 else []) = [] := by rw [hdt]; rfl
        refine finW_frz [0] rfl (Nat.zero_lt_one) cx0_m rfl (fun W' ms' α hL hI => ?_)
        have hfe : fitE e k = ⟨kindE k, e.t % 1125899906842625#64, ((padE e.N ((evNames (kindE k)).length - e.N.length)).take (evNames (kindE k)).length).map mk62, if evData (kindE k) = true then e.D.take 20 else []⟩ := rfl
        refine ⟨.a (.agg (evS (fitE e k) ⟨none, 0, 0, none, 0, 0⟩)), [], ⟨⟨rfl, rfl, rfl⟩, ?_⟩, W', ms', ⟨none, 0, 0, none, 0, 0⟩, hL, ⟨(by rw [show (fitE e k).N = [] from hT]; exact SlAt.nul), (by rw [show (fitE e k).D = [] from hDD]; exact SlAt.nul)⟩, rfl, rfl⟩
        (repeat first | exact trivial | refine ent1 ?_)
      · refine And.intro (fun h => absurd h (by decide)) (fun _ => ?_)
        (repeat first | (refine And.intro ?_ ?_; first | exact rfl | ((exact fun h => absurd h (by first | decide)); intro yy; clear yy) | (rotate_left; (exact fun h => absurd h (by first | decide)); intro yy; clear yy) | decide | omega) | (with_reducible refine frc_bytesL (by first | omega | decide) ?_) | (with_reducible refine frc_bytesM (by first | omega | decide) ?_))
        have hDD : (if evData (kindE k) = true then e.D.take 20 else []) = [] := by rw [hdt, List.eq_nil_of_length_eq_zero hy]; rfl
        refine finW_frz [0] rfl (Nat.zero_lt_one) cx0_m rfl (fun W' ms' α hL hI => ?_)
        have hfe : fitE e k = ⟨kindE k, e.t % 1125899906842625#64, ((padE e.N ((evNames (kindE k)).length - e.N.length)).take (evNames (kindE k)).length).map mk62, if evData (kindE k) = true then e.D.take 20 else []⟩ := rfl
        refine ⟨.a (.agg (evS (fitE e k) ⟨none, 0, 0, none, 0, 0⟩)), [], ⟨⟨rfl, rfl, rfl⟩, ?_⟩, W', ms', ⟨none, 0, 0, none, 0, 0⟩, hL, ⟨(by rw [show (fitE e k).N = [] from hT]; exact SlAt.nul), (by rw [show (fitE e k).D = [] from hDD]; exact SlAt.nul)⟩, rfl, rfl⟩
        (repeat first | exact trivial | refine ent1 ?_)
  · obtain ⟨h1, h2, h3⟩ := hx
    refine And.intro (fun hlt => ?_) (fun hge => ?_)
    · have hlt : P.length < (evNames (kindE k)).length := by have : (P.length : Int) < ((evNames (kindE k)).length : Int) := of_decide_eq_true hlt; omega
      (repeat first | (refine And.intro ?_ ?_; first | exact rfl | ((exact fun h => absurd h (by first | decide)); intro yy; clear yy) | (rotate_left; (exact fun h => absurd h (by first | decide)); intro yy; clear yy) | decide | omega) | (with_reducible refine frc_bytesL (by first | omega | decide) ?_) | (with_reducible refine frc_bytesM (by first | omega | decide) ?_))
      refine And.intro ⟨h1, by first | omega | (simp only [scale_eq]; omega), show (P.length + 1) * 8 ≤ 140737488355328 by omega⟩ ?_
      intro c' hc'
      (repeat first | (refine And.intro ?_ ?_; first | exact rfl | ((exact fun h => absurd h (by first | decide)); intro yy; clear yy) | (rotate_left; (exact fun h => absurd h (by first | decide)); intro yy; clear yy) | decide | omega) | (with_reducible refine frc_bytesL (by first | omega | decide) ?_) | (with_reducible refine frc_bytesM (by first | omega | decide) ?_))
      refine ⟨some (P ++ [BitVec.ofNat 64 P.length * 7#64], c'), [0, 1, 2, 5], ⟨⟨rfl, rfl, rfl⟩, ?_⟩, ⟨by rw [List.length_append, List.length_singleton]; exact hc', by rw [List.length_append, List.length_singleton]; omega, by rw [← h3]; exact (padE_step hlt).symm⟩, by dsimp only; rw [List.length_append, List.length_singleton]; omega⟩
      (repeat first | exact trivial | refine ent1 ?_)
      refine ⟨by rw [List.length_append, List.length_singleton], ?_⟩
      (repeat first | exact trivial | refine ent1 ?_)
      exact ⟨fun j hj => eqC_nums (app_nums rfl (fun j x h => nums_get h) (congrArg SC.w64 (by rw [BitVec.ofInt_natCast]))) j, by (repeat first | exact trivial | refine ent1 ?_)⟩
    · have hge : (evNames (kindE k)).length ≤ P.length := by have : ¬ (P.length : Int) < ((evNames (kindE k)).length : Int) := of_decide_eq_false hge; omega
      rw [padE_done hge] at h3
      have hT : ((padE e.N ((evNames (kindE k)).length - e.N.length)).take (evNames (kindE k)).length).map mk62 = (P.take (evNames (kindE k)).length).map mk62 := by rw [← h3]
      have hTl : ((P.take (evNames (kindE k)).length).map mk62).length = (evNames (kindE k)).length := by simp only [List.length_map, List.length_take]; omega
      refine And.intro (show (0 : Int) ≤ 0 ∧ (0 : Int) ≤ ((evNames (kindE k)).length : Int) ∧ ((evNames (kindE k)).length : Int) ≤ (c : Int) by omega) ?_
      refine frcN_of (m := 0) rfl ?_
      refine frcN_of (m := (evNames (kindE k)).length) (by omega) ?_
      refine frcN_of (m := 0) (by split <;> omega) ?_
      refine frcN_of (m := (evNames (kindE k)).length) (by omega) ?_
      refine frcN_of (m := c) (by omega) ?_
      (repeat first | (refine And.intro ?_ ?_; first | exact rfl | ((exact fun h => absurd h (by first | decide)); intro yy; clear yy) | (rotate_left; (exact fun h => absurd h (by first | decide)); intro yy; clear yy) | decide | omega) | (with_reducible refine frc_bytesL (by first | omega | decide) ?_) | (with_reducible refine frc_bytesM (by first | omega | decide) ?_))
      refine .inl ⟨Nat, fun i => ⟨[.any, .a (.c (.w8 (k))), .a (.c (.p 1 0 0)), .any, .a (.c (.p 2 0 0)), .a (.c (.int .i64 (↑(evNames (kindE k)).length))), .a (.c (.bool ((evData (kindE k))))), .any, .any, .any, .any, .any, .any, .any, .any, .any, .any, .any, .any, .any, .any, .any, .any, .any, .any, .any, .any, .any, .any, .any, .any, .any, .any, .any, .any, .any, .any, .any, .any, .any, .any, .any, .any, .any, .any, .any, .a (.c (.int .i64 (↑(evNames (kindE k)).length))), .a (.c (.int .i64 (↑i))), .any, .any, .any, .any, .any, .any, .any, .any, .any, .any, .any, .any, .any, .any, .any, .any, .any, .any, .any, .any, .any, .any], [[.past W ms], [.one (.w8 (kindE k)), .one (.w64 (e.t % 1125899906842625#64)), .one (.sl 3 0 0 (evNames (kindE k)).length c), .one (.slc none 0 0)], [.one (.w8 0), .one (.w64 0), .one (.slc none 0 0), .one (.slc none 0 0)], [.row c (numsF (mskN i P))]]⟩, fun i => i ≤ (evNames (kindE k)).length, fun i => (evNames (kindE k)).length - i, ⟨0, [0, 1, 2, 3], ⟨⟨rfl, rfl, rfl⟩, ?_⟩, Nat.zero_le _⟩, fun i hi => And.intro (fun hlt => ?_) (fun hge2 => ?_)⟩
      · (repeat first | exact trivial | refine ent1 ?_)
        exact ⟨fun j hj => by rw [mskN_zero]; exact eqC_numsS, by (repeat first | exact trivial | refine ent1 ?_)⟩
      · have hlt : i < (evNames (kindE k)).length := by have : (i : Int) < ((evNames (kindE k)).length : Int) := of_decide_eq_true hlt; omega
        obtain ⟨y, hy⟩ : ∃ y, P[i]? = some y := ⟨_, List.getElem?_eq_getElem (by omega)⟩
        have hmy : (mskN i P)[(i : Int).toNat + 0]? = some y := by rw [show (i : Int).toNat + 0 = i by omega, mskN_get hy, if_neg (by omega)]
        refine And.intro (show (0 : Int) ≤ (i : Int) ∧ (i : Int) < ((evNames (kindE k)).length : Int) by omega) ?_
        refine And.intro (show (i : Int).toNat + 0 < c by omega) ?_
        refine frc_nums hmy ?_
        refine And.intro (show (0 : Int) ≤ (i : Int) ∧ (i : Int) < ((evNames (kindE k)).length : Int) by omega) ?_
        refine And.intro (show (i : Int).toNat + 0 < c by omega) ?_
        (repeat first | (refine And.intro ?_ ?_; first | exact rfl | ((exact fun h => absurd h (by first | decide)); intro yy; clear yy) | (rotate_left; (exact fun h => absurd h (by first | decide)); intro yy; clear yy) | decide | omega) | (with_reducible refine frc_bytesL (by first | omega | decide) ?_) | (with_reducible refine frc_bytesM (by first | omega | decide) ?_))
        refine ⟨i + 1, [0, 1, 2, 3], ⟨⟨rfl, rfl, rfl⟩, ?_⟩, by omega, by dsimp only; omega⟩
        (repeat first | exact trivial | refine ent1 ?_)
        exact ⟨fun j hj => eqC_nums (fun j x h => by rw [show (i : Int).toNat + 0 = i by omega]; exact msk_step hy j x h) j, by (repeat first | exact trivial | refine ent1 ?_)⟩
      · obtain rfl : i = (evNames (kindE k)).length := by have : ¬ (i : Int) < ((evNames (kindE k)).length : Int) := of_decide_eq_false hge2; omega
        (repeat first | (refine And.intro ?_ ?_; first | exact rfl | ((exact fun h => absurd h (by first | decide)); intro yy; clear yy) | (rotate_left; (exact fun h => absurd h (by first | decide)); intro yy; clear yy) | decide | omega) | (with_reducible refine frc_bytesL (by first | omega | decide) ?_) | (with_reducible refine frc_bytesM (by first | omega | decide) ?_))
        cases hdt : evData (kindE k)
        · refine And.intro (fun _ => ?_) (fun h => absurd h (by decide))
          (repeat first | (refine And.intro ?_ ?_; first | exact rfl | ((exact fun h => absurd h (by first | decide)); intro yy; clear yy) | (rotate_left; (exact fun h => absurd h (by first | decide)); intro yy; clear yy) | decide | omega) | (with_reducible refine frc_bytesL (by first | omega | decide) ?_) | (with_reducible refine frc_bytesM (by first | omega | decide) ?_))
          have hDD : (if evData (kindE k) = true then e.D.take 20 else []) = [] := by rw [hdt]; rfl
          refine finW_frz [0] rfl (Nat.zero_lt_one) cx0_m rfl (fun W' ms' α hL hI => ?_)
          have hfe : fitE e k = ⟨kindE k, e.t % 1125899906842625#64, ((padE e.N ((evNames (kindE k)).length - e.N.length)).take (evNames (kindE k)).length).map mk62, if evData (kindE k) = true then e.D.take 20 else []⟩ := rfl
          refine ⟨.a (.agg (evS (fitE e k) ⟨some ((α 3).add (0 + 0)), (evNames (kindE k)).length, c, none, 0, 0⟩)), [], ⟨⟨rfl, rfl, rfl⟩, ?_⟩, W', ms', ⟨some ((α 3).add (0 + 0)), (evNames (kindE k)).length, c, none, 0, 0⟩, hL, ⟨(by rw [show (fitE e k).N = _ from hT]; exact SlAt.frz (F := fun j => !memB j [0]) (hI 3 rfl) rfl (show (evNames (kindE k)).length ≤ c by omega) (show (evNames (kindE k)).length ≤ 9223372036854775807 by omega) (by decide) (by rw [List.length_map, hTl, Nat.mul_one]) mask_fin (rz_w64 _)), (by rw [show (fitE e k).D = [] from hDD]; exact SlAt.nul)⟩, rfl, rfl⟩
          (repeat first | exact trivial | refine ent1 ?_)
        · refine And.intro (fun h => absurd h (by decide)) (fun _ => ?_)
          (repeat first | (refine And.intro ?_ ?_; first | exact rfl | ((exact fun h => absurd h (by first | decide)); intro yy; clear yy) | (rotate_left; (exact fun h => absurd h (by first | decide)); intro yy; clear yy) | decide | omega) | (with_reducible refine frc_bytesL (by first | omega | decide) ?_) | (with_reducible refine frc_bytesM (by first | omega | decide) ?_))
          have hDD : (if evData (kindE k) = true then e.D.take 20 else []) = [] := by rw [hdt, List.eq_nil_of_length_eq_zero hy]; rfl
          refine finW_frz [0] rfl (Nat.zero_lt_one) cx0_m rfl (fun W' ms' α hL hI => ?_)
          have hfe : fitE e k = ⟨kindE k, e.t % 1125899906842625#64, ((padE e.N ((evNames (kindE k)).length - e.N.length)).take (evNames (kindE k)).length).map mk62, if evData (kindE k) = true then e.D.take 20 else []⟩ := rfl
          refine ⟨.a (.agg (evS (fitE e k) ⟨some ((α 3).add (0 + 0)), (evNames (kindE k)).length, c, none, 0, 0⟩)), [], ⟨⟨rfl, rfl, rfl⟩, ?_⟩, W', ms', ⟨some ((α 3).add (0 + 0)), (evNames (kindE k)).length, c, none, 0, 0⟩, hL, ⟨(by rw [show (fitE e k).N = _ from hT]; exact SlAt.frz (F := fun j => !memB j [0]) (hI 3 rfl) rfl (show (evNames (kindE k)).length ≤ c by omega) (show (evNames (kindE k)).length ≤ 9223372036854775807 by omega) (by decide) (by rw [List.length_map, hTl, Nat.mul_one]) mask_fin (rz_w64 _)), (by rw [show (fitE e k).D = [] from hDD]; exact SlAt.nul)⟩, rfl, rfl⟩
          (repeat first | exact trivial | refine ent1 ?_)
end Sx
end Go.Proofs.Ytdakmieapdpidaa
end

section
/-
  Events that may be, of any: Fit in one; whether events are short (Light). No condition.
-/
namespace Go.Proofs.Ytdakmieapdpidaa
set_option linter.unusedVariables false
namespace Sx
open Go.RowKit Sha Vi Ev

theorem fn_efit {W : World} {ms : List Nat} {x : EvC} {e : Ev} (h : EvAt W ms x e) (hn : e.N.length ≤ 1000) (hd : e.D.length ≤ 1000) (k : BitVec 8) : FnR Try.prog tds 17 1 [[.past W ms]] [.agg (evS e x), .c (.w8 k)] (fun _ => True)
    (fun y hs => ∃ W' ms' x', Later W ms W' ms' ∧ EvAt W' ms' x' (fitE e k) ∧ y = .a (.agg (evS (fitE e k) x')) ∧ hs = [[.past W' ms']]) := by
  rcases Nat.eq_zero_or_pos e.N.length with hz | hz <;> rcases Nat.eq_zero_or_pos e.D.length with hy | hy
  · exact fn_efit00 h hn hd hz hy k
  · exact fn_efit01 h hn hd hz hy k
  · exact fn_efit10 h hn hd hz hy k
  · exact fn_efit11 h hn hd hz hy k
/-- Events in a row that nobody turns. -/
structure EvsAt (W : World) (ms : List Nat) (a : Option Addr) (n c : Nat) (es : List Ev) : Prop where
  len : es.length = n
  le : n ≤ c
  cap : n ≤ 9223372036854775807
  nil : a = none → c = 0
  elt : ∀ A, a = some A → ∀ k e, es[k]? = some e → ∃ x, ImAt W ms (A.add (k * 4)) (flat (evS e x)) ∧ EvAt W ms x e
theorem EvsAt.later {W W' : World} {ms ms' : List Nat} {a : Option Addr} {n c : Nat} {es : List Ev} (h : EvsAt W ms a n c es) (k : Later W ms W' ms') : EvsAt W' ms' a n c es :=
  ⟨h.len, h.le, h.cap, h.nil, fun A ha j e he => let ⟨x, h1, h2⟩ := h.elt A ha j e he; ⟨x, h1.later k, h2.later k⟩⟩
def lightE (es : List Ev) : Bool := decide (∀ e ∈ es, e.N.length ≤ 30 ∧ e.D.length ≤ 100) && decide (es.length ≤ 60)
set_option maxRecDepth 20000 in
set_option maxHeartbeats 8000000 in
theorem fn_light {W : World} {ms : List Nat} {a : Option Addr} {n c : Nat} {es : List Ev} (h : EvsAt W ms a n c es) : FnR Try.prog tds 8 1 [[.past W ms]] [.c (.slc a n c)] (fun _ => True)
    (fun y hs => y = .a (.c (.bool (lightE es))) ∧ hs = [[.past W ms]]) := by
  have hl := h.len
  have hcap := h.cap
  refine fn_of_body tds_ok follows_ Try.func8 rfl (t := .a (.c (.slc a n c)) :: anys (Try.f8.ntmps - 1)) rfl (fun w r0 hr _ => ?_)
  obtain ⟨x0, rfl⟩ := List.length_eq_one_iff.1 hr
  (repeat first | (refine And.intro ?_ ?_; first | exact rfl | ((exact fun h => absurd h (by first | decide)); intro yy; clear yy) | (rotate_left; (exact fun h => absurd h (by first | decide)); intro yy; clear yy) | decide | omega) | (with_reducible refine frc_bytesL (by first | omega | decide) ?_) | (with_reducible refine frc_bytesM (by first | omega | decide) ?_))
  refine .inl ⟨Nat, fun i => ⟨[.a (.c (.slc a n c)), .any, .any, .any, .any, .a (.c (.slc a n c)), .a (.c (.int .i64 (↑n))), .a (.c (.int .i64 (↑i))), .any, .any, .any, .any, .any, .any, .any, .any, .any, .any, .any, .any, .any, .any, .any, .any, .any], [[.past W ms]]⟩, fun i => i ≤ n ∧ ∀ j e, j < i → es[j]? = some e → e.N.length ≤ 30 ∧ e.D.length ≤ 100, fun i => n - i, ⟨0, [0], ⟨⟨rfl, rfl, rfl⟩, by (repeat first | exact trivial | refine ent1 ?_)⟩, Nat.zero_le _, fun j e hj => absurd hj (Nat.not_lt_zero _)⟩, fun i ⟨hi, hall⟩ => And.intro (fun hlt => ?_) (fun hge => ?_)⟩
  · have hlt : i < n := by have : (i : Int) < (n : Int) := of_decide_eq_true hlt; omega
    obtain ⟨e, he⟩ : ∃ e, es[i]? = some e := ⟨_, List.getElem?_eq_getElem (by omega)⟩
    cases ha : a with
    | none => have := h.nil ha; have := h.le; omega
    | some A =>
    obtain ⟨x, him, hx⟩ := h.elt A ha i e he
    have hnN := hx.nN
    have hnD := hx.nD
    obtain ⟨aN, nN, cN, aD, nD, cD⟩ := x
    dsimp only at hnN hnD
    subst hnN; subst hnD
    subst ha
    refine And.intro (show (0 : Int) ≤ (i : Int) ∧ (i : Int) < (n : Int) by omega) ?_
    refine ⟨evS e ⟨aN, e.N.length, cN, aD, e.D.length, cD⟩, ⟨RawAt.past (i := 0) rfl him, rfl⟩, ?_⟩
    by_cases h1 : 30 < e.N.length
    · have e1 : decide ((30 : Int) < (e.N.length : Int)) = true := decide_eq_true (by omega)
      (repeat first | (refine And.intro ?_ ?_; first | exact rfl | ((exact fun h => absurd h (by first | decide | (rw [e1]; decide))); intro yy; clear yy) | (rotate_left; (exact fun h => absurd h (by first | decide | (rw [e1]; decide))); intro yy; clear yy) | decide | omega) | (with_reducible refine frc_bytesL (by first | omega | decide) ?_) | (with_reducible refine frc_bytesM (by first | omega | decide) ?_))
      refine ⟨.a (.c (.bool (lightE es))), [[.past W ms]], ⟨[0], ⟨rfl, rfl, rfl⟩, ?_⟩, rfl, rfl⟩
      have : lightE es = false := by
        unfold lightE
        rw [decide_eq_false (fun hc => by have := (hc e (List.mem_of_getElem? he)).1; omega)]; rfl
      rw [this]
      (repeat first | exact trivial | refine ent1 ?_)
    have e1 : decide ((30 : Int) < (e.N.length : Int)) = false := decide_eq_false (by omega)
    by_cases h2 : 100 < e.D.length
    · have e2 : decide ((100 : Int) < (e.D.length : Int)) = true := decide_eq_true (by omega)
      (repeat first | (refine And.intro ?_ ?_; first | exact rfl | ((exact fun h => absurd h (by first | decide | (rw [e1]; decide) | (rw [e2]; decide))); intro yy; clear yy) | (rotate_left; (exact fun h => absurd h (by first | decide | (rw [e1]; decide) | (rw [e2]; decide))); intro yy; clear yy) | decide | omega) | (with_reducible refine frc_bytesL (by first | omega | decide) ?_) | (with_reducible refine frc_bytesM (by first | omega | decide) ?_))
      refine ⟨.a (.c (.bool (lightE es))), [[.past W ms]], ⟨[0], ⟨rfl, rfl, rfl⟩, ?_⟩, rfl, rfl⟩
      have : lightE es = false := by
        unfold lightE
        rw [decide_eq_false (fun hc => by have := (hc e (List.mem_of_getElem? he)).2; omega)]; rfl
      rw [this]
      (repeat first | exact trivial | refine ent1 ?_)
    have e2 : decide ((100 : Int) < (e.D.length : Int)) = false := decide_eq_false (by omega)
    (repeat first | (refine And.intro ?_ ?_; first | exact rfl | ((exact fun h => absurd h (by first | decide | (rw [e1]; decide) | (rw [e2]; decide))); intro yy; clear yy) | (rotate_left; (exact fun h => absurd h (by first | decide | (rw [e1]; decide) | (rw [e2]; decide))); intro yy; clear yy) | decide | omega) | (with_reducible refine frc_bytesL (by first | omega | decide) ?_) | (with_reducible refine frc_bytesM (by first | omega | decide) ?_))
    refine ⟨i + 1, [0], ⟨⟨rfl, rfl, rfl⟩, by (repeat first | exact trivial | refine ent1 ?_)⟩, ⟨by omega, fun j e' hj he' => ?_⟩, by dsimp only; omega⟩
    by_cases hji : j = i
    · subst hji; rw [he] at he'; injection he' with he'; subst he'; omega
    · exact hall j e' (by omega) he'
  · have hge : i = n := by have : ¬ (i : Int) < (n : Int) := of_decide_eq_false hge; omega
    subst hge
    have h1 : lightE es = decide (es.length ≤ 60) := by
      unfold lightE
      rw [decide_eq_true (fun e he => by
        obtain ⟨j, hj, rfl⟩ := List.mem_iff_getElem.1 he
        exact hall j _ (by omega) (List.getElem?_eq_getElem hj))]
      rfl
    have h2 : decide (es.length ≤ 60) = decide ((i : Int) ≤ 60) := by
      rw [hl]
      exact decide_eq_decide.2 (by omega)
    (repeat first | (refine And.intro ?_ ?_; first | exact rfl | ((exact fun h => absurd h (by first | decide)); intro yy; clear yy) | (rotate_left; (exact fun h => absurd h (by first | decide)); intro yy; clear yy) | decide | omega) | (with_reducible refine frc_bytesL (by first | omega | decide) ?_) | (with_reducible refine frc_bytesM (by first | omega | decide) ?_))
    refine ⟨.a (.c (.bool (lightE es))), [[.past W ms]], ⟨[0], ⟨rfl, rfl, rfl⟩, ?_⟩, rfl, rfl⟩
    rw [h1, h2]
    (repeat first | exact trivial | refine ent1 ?_)
end Sx
end Go.Proofs.Ytdakmieapdpidaa
end

section
/-
  Events that may be, times rising, of any: binnaclelaw24.Row. No condition.
-/
namespace Go.Proofs.Ytdakmieapdpidaa
set_option linter.unusedVariables false
namespace Ev
theorem fitE_short (e : Ev) (k : BitVec 8) (hd : e.D.length ≤ 1000) : (fitE e k).N.length ≤ 8 ∧ (fitE e k).D.length ≤ 20 := by
  have := many_le (kindE k)
  refine ⟨?_, ?_⟩
  · show (((padE e.N _).take _).map mk62).length ≤ 8
    rw [List.length_map, List.length_take]; omega
  · show (if evData (kindE k) = true then e.D.take 20 else []).length ≤ 20
    split
    · rw [List.length_take]; omega
    · decide
end Ev
namespace Sx
open Go.RowKit Sha Vi Ev

theorem eqC_raw {q : List Nat} : ∀ {x : SC}, x.raw = x → eqC q x x True
  | .any, _ => trivial
  | .int k n, _ => by cases k <;> exact ⟨rfl, trivial⟩
  | .w8 _, _ => ⟨rfl, trivial⟩
  | .w16 _, _ => ⟨rfl, trivial⟩
  | .w32 _, _ => ⟨rfl, trivial⟩
  | .w64 _, _ => ⟨rfl, trivial⟩
  | .bool _, _ => ⟨rfl, trivial⟩
  | .str _, _ => ⟨rfl, trivial⟩
  | .p .., h => by cases h
  | .sl .., h => by cases h
  | .ptr _, _ => ⟨rfl, trivial⟩
  | .slc .., _ => ⟨rfl, trivial⟩
  | .ifc .., _ => ⟨rfl, trivial⟩
  | .nilIfc, _ => trivial
  | .fnv .., _ => ⟨rfl, trivial⟩
  | .clo .., h => by cases h
  | .nilFn, _ => trivial
  | .nilMap, _ => trivial
  | .sn .., h => by cases h
  | .mh _, h => by cases h
  | .cap .., h => by cases h
/-- The cells of events that a row of one's own holds. -/
structure RowAt (W : World) (ms : List Nat) (cs : List SC) (es : List Ev) : Prop where
  len : cs.length = es.length * 4
  raw : ∀ x ∈ cs, x.raw = x
  elt : ∀ k e, es[k]? = some e → ∃ x, (∀ i y, (flat (evS e x))[i]? = some y → cs[k * 4 + i]? = some y) ∧ EvAt W ms x e
theorem RowAt.later {W W' : World} {ms ms' : List Nat} {cs : List SC} {es : List Ev} (h : RowAt W ms cs es) (k : Later W ms W' ms') : RowAt W' ms' cs es :=
  ⟨h.len, h.raw, fun j e he => let ⟨x, h1, h2⟩ := h.elt j e he; ⟨x, h1, h2.later k⟩⟩
theorem RowAt.nil {W : World} {ms : List Nat} : RowAt W ms [] [] := ⟨rfl, (fun x hx => nomatch hx), fun k e h => by simp at h⟩
theorem RowAt.snoc {W : World} {ms : List Nat} {cs : List SC} {es : List Ev} {e : Ev} {x : EvC} (h : RowAt W ms cs es) (hx : EvAt W ms x e) : RowAt W ms (cs ++ flat (evS e x)) (es ++ [e]) := by
  have hl := h.len
  refine ⟨by rw [List.length_append, hl, List.length_append, List.length_singleton]; show _ + 4 = _; omega, fun y hy => ?_, fun k e' he => ?_⟩
  · rcases List.mem_append.1 hy with hy | hy
    · exact h.raw y hy
    · simp only [flat, List.mem_cons, List.not_mem_nil, or_false] at hy
      rcases hy with rfl | rfl | rfl | rfl <;> rfl
  · rcases Nat.lt_or_ge k es.length with hk | hk
    · rw [List.getElem?_append_left hk] at he
      obtain ⟨z, h1, h2⟩ := h.elt k e' he
      refine ⟨z, fun i y hy => ?_, h2⟩
      have hi := (List.getElem?_eq_some_iff.1 hy).1
      have h4 : (flat (evS e' z)).length = 4 := rfl
      rw [List.getElem?_append_left (by omega)]
      exact h1 i y hy
    · rw [List.getElem?_append_right hk] at he
      have hk0 : k - es.length = 0 := by
        rcases Nat.eq_zero_or_pos (k - es.length) with h1 | h1
        · exact h1
        · rw [List.getElem?_eq_none (by simp; omega)] at he; cases he
      rw [hk0] at he
      injection he with he
      subst he
      refine ⟨x, fun i y hy => ?_, hx⟩
      rw [List.getElem?_append_right (by omega), show k * 4 + i - cs.length = i by omega]
      exact hy
theorem sc4 (n : Nat) : scale n (3 + 1) = n * 4 := scale_eq _ _
theorem nthC_app_l {l m : List SC} {j : Nat} (h : j < l.length) : nthC (l ++ m) j = nthC l j := nthC_get? (by
  rw [List.getElem?_append_left h]
  have : ∀ (l : List SC) (j : Nat), j < l.length → l[j]? = some (nthC l j) := by
    intro l
    induction l with
    | nil => intro j h; simp at h
    | cons x l ih => intro j h; cases j with
      | zero => rfl
      | succ j => rw [List.getElem?_cons_succ]; exact ih j (by simpa using h)
  exact this l j h)
theorem nthC_app_r {l m : List SC} {j : Nat} (h : l.length ≤ j) : nthC (l ++ m) j = nthC m (j - l.length) := by
  induction l generalizing j with
  | nil => rfl
  | cons x l ih =>
    cases j with
    | zero => simp at h
    | succ j =>
      show nthC (l ++ m) j = _
      rw [ih (by simpa using h), List.length_cons, show j + 1 - (l.length + 1) = j - l.length by omega]
theorem nthC_out {l : List SC} {j : Nat} (h : l.length ≤ j) : nthC l j = .any := by
  induction l generalizing j with
  | nil => rfl
  | cons x l ih => cases j with
    | zero => simp at h
    | succ j => exact ih (by simpa using h)
theorem nthC_mem {l : List SC} {j : Nat} (h : j < l.length) : nthC l j ∈ l := by
  induction l generalizing j with
  | nil => simp at h
  | cons x l ih => cases j with
    | zero => exact List.mem_cons_self ..
    | succ j => exact List.mem_cons_of_mem _ (ih (by simpa using h))
/-- A row of raw cells. -/
theorem eqC_cs {q : List Nat} {cs : List SC} (h : ∀ x ∈ cs, x.raw = x) {f : Nat → SC} (hf : ∀ j, j < cs.length → f j = nthC cs j) (j : Nat) : eqC q (f j) (nthC cs j) True := by
  rcases Nat.lt_or_ge j cs.length with hj | hj
  · rw [hf j hj]; exact eqC_raw (h _ (nthC_mem hj))
  · rw [nthC_out hj]; trivial
theorem mp_raw {g : Nat → Nat} {x : SC} (h : x.raw = x) : SC.mp g x = x := by
  cases x <;> simp only [SC.raw] at h <;> first | rfl | cases h
theorem app_cs {cs new : List SC} {n : Nat} {f g : Nat → SC} (hn : cs.length = n * 4) (hf : ∀ j, j < cs.length → f j = nthC cs j) (hw : new.length = 4) (hg : ∀ j, j < 4 → g j = nthC new j) (j : Nat) (hj : j < (cs ++ new).length) : appF f 0 (scale n (3 + 1)) (scale 1 (3 + 1)) g j = nthC (cs ++ new) j := by
  rw [List.length_append] at hj
  unfold appF
  rw [sc4, sc4]
  by_cases h : j < n * 4
  · rw [if_pos h, Nat.add_zero, hf j (by omega), nthC_app_l (by omega)]
  · rw [if_neg h, if_pos (by omega), hg _ (by omega), nthC_app_r (by omega), hn]
theorem new_cs {new : List SC} {g : Nat → SC} (hw : new.length = 4) (hg : ∀ j, j < 4 → g j = nthC new j) (j : Nat) (hj : j < new.length) : newF (scale 1 (3 + 1)) g j = nthC new j := by
  rw [newF_lt (by rw [sc4]; omega), hg j (by omega)]
theorem updN_new {f : Nat → SC} {new : List SC} {j : Nat} (hj : j < 4) : updN f 0 4 (nthC new) (j + 0) = nthC new j := by
  unfold updN
  rw [if_pos ⟨Nat.zero_le _, by omega⟩]; rfl
end Sx
end Go.Proofs.Ytdakmieapdpidaa
end

section
/-
  Events that nobody turns: whether two are the same. No condition.
-/
namespace Go.Proofs.Ytdakmieapdpidaa
set_option linter.unusedVariables false
namespace Ev
def sameE (a b : Ev) : Prop := a.k = b.k ∧ a.t = b.t ∧ a.N = b.N ∧ a.D = b.D
instance (a b : Ev) : Decidable (sameE a b) := by unfold sameE; infer_instance
end Ev
namespace Sx
open Go.RowKit Sha Vi Ev

theorem strR {C : Cx} {h : List (List Seg)} {i : Nat} {W : World} {ms : List Nat} (hp : h[i]? = some [.past W ms]) {a : Addr} {n c : Nat} {l : Bs} (k : BsAt W ms (some a) n c l) {K : List UInt8 → Prop} (hk : K (U8 l)) :
    ∃ f, (n = 0 ∨ RawAt C h a ((List.range (n * 1)).map f)) ∧ ∃ s : List UInt8, (s.length = n ∧ ∀ q, q < n → f q = .w8 (s.getD q 0).toBitVec) ∧ K s := by
  have hn := k.n1
  refine ⟨nthC (l.map .w8), ?_, U8 l, ⟨by rw [U8_len, hn], fun q hq => ?_⟩, hk⟩
  · rcases Nat.eq_zero_or_pos n with h0 | h0
    · exact .inl h0
    · exact .inr (by rw [← k.len, range_nthC]; exact .past hp (k.im a rfl (by have := k.le; omega)))
  · rw [nthC_w8 l q (by omega), U8_get l q (by omega)]
set_option maxRecDepth 20000 in
set_option maxHeartbeats 8000000 in
theorem fn_bequal {W : World} {ms : List Nat} {a b : Option Addr} {n c m d : Nat} {l l2 : Bs} (h1 : BsAt W ms a n c l) (h2 : BsAt W ms b m d l2) : FnR Try.prog tds 49 1 [[.past W ms]] [.c (.slc a n c), .c (.slc b m d)] (fun _ => True)
    (fun y hs => y = .a (.c (.bool (decide (l = l2)))) ∧ hs = [[.past W ms]]) := by
  refine fn_of_body tds_ok follows_ Try.func49 rfl (t := .a (.c (.slc a n c)) :: .a (.c (.slc b m d)) :: anys (Try.f49.ntmps - 2)) rfl (fun w r0 hr _ => ?_)
  obtain ⟨x0, rfl⟩ := List.length_eq_one_iff.1 hr
  have fin : decide (U8 l = U8 l2) = decide (l = l2) := decide_eq_decide.2 ⟨U8_inj, fun h => by rw [h]⟩
  cases a with
  | none =>
    obtain ⟨rfl, rfl, hl⟩ := h1.nil_
    obtain rfl : l = [] := by simpa using hl
    refine And.intro rfl ?_
    refine ⟨[], ⟨rfl, fun q hq => absurd hq (Nat.not_lt_zero _)⟩, ?_⟩
    cases b with
    | none =>
      obtain ⟨rfl, rfl, hl2⟩ := h2.nil_
      obtain rfl : l2 = [] := by simpa using hl2
      refine And.intro rfl ?_
      refine ⟨[], ⟨rfl, fun q hq => absurd hq (Nat.not_lt_zero _)⟩, ?_⟩
      exact ⟨.a (.c (.bool (decide (([] : Bs) = [])))), [[.past W ms]], ⟨[0], ⟨rfl, rfl, rfl⟩, by (repeat first | exact trivial | refine ent1 ?_)⟩, rfl, rfl⟩
    | some B =>
      refine strR (i := 0) rfl h2 ?_
      refine ⟨.a (.c (.bool (decide ([] = l2)))), [[.past W ms]], ⟨[0], ⟨rfl, rfl, rfl⟩, ?_⟩, rfl, rfl⟩
      rw [← fin]
      (repeat first | exact trivial | refine ent1 ?_)
  | some A =>
    refine strR (i := 0) rfl h1 ?_
    cases b with
    | none =>
      obtain ⟨rfl, rfl, hl2⟩ := h2.nil_
      obtain rfl : l2 = [] := by simpa using hl2
      refine And.intro rfl ?_
      refine ⟨[], ⟨rfl, fun q hq => absurd hq (Nat.not_lt_zero _)⟩, ?_⟩
      refine ⟨.a (.c (.bool (decide (l = [])))), [[.past W ms]], ⟨[0], ⟨rfl, rfl, rfl⟩, ?_⟩, rfl, rfl⟩
      rw [← fin]
      (repeat first | exact trivial | refine ent1 ?_)
    | some B =>
      refine strR (i := 0) rfl h2 ?_
      refine ⟨.a (.c (.bool (decide (l = l2)))), [[.past W ms]], ⟨[0], ⟨rfl, rfl, rfl⟩, ?_⟩, rfl, rfl⟩
      rw [← fin]
      (repeat first | exact trivial | refine ent1 ?_)
set_option maxRecDepth 20000 in
set_option maxHeartbeats 8000000 in
theorem fn_nequal {W : World} {ms : List Nat} {a b : Option Addr} {n c m d : Nat} {l l2 : List (BitVec 64)} (h1 : NsAt W ms a n c l) (h2 : NsAt W ms b m d l2) : FnR Try.prog tds 48 1 [[.past W ms]] [.c (.slc a n c), .c (.slc b m d)] (fun _ => True)
    (fun y hs => y = .a (.c (.bool (decide (l = l2)))) ∧ hs = [[.past W ms]]) := by
  refine fn_of_body tds_ok follows_ Try.func48 rfl (t := .a (.c (.slc a n c)) :: .a (.c (.slc b m d)) :: anys (Try.f48.ntmps - 2)) rfl (fun w r0 hr _ => ?_)
  obtain ⟨x0, rfl⟩ := List.length_eq_one_iff.1 hr
  have hn := h1.n1
  have hm := h2.n1
  have hcap := h1.cap
  have hle1 := h1.le
  have hle2 := h2.le
  by_cases h0 : n = m
  rotate_left
  · have e0 : decide ((n : Int) ≠ (m : Int)) = true := decide_eq_true (by omega)
    rw [show decide (l = l2) = false from decide_eq_false fun h => h0 (by rw [← hn, ← hm, h])]
    (repeat first | (refine And.intro ?_ ?_; first | exact rfl | ((exact fun h => absurd h (by first | decide | (rw [e0]; decide))); intro yy; clear yy) | (rotate_left; (exact fun h => absurd h (by first | decide | (rw [e0]; decide))); intro yy; clear yy) | decide | omega) | (with_reducible refine frc_bytesL (by first | omega | decide) ?_) | (with_reducible refine frc_bytesM (by first | omega | decide) ?_))
    exact ⟨.a (.c (.bool false)), [[.past W ms]], ⟨[0], ⟨rfl, rfl, rfl⟩, by (repeat first | exact trivial | refine ent1 ?_)⟩, rfl, rfl⟩
  have e0 : decide ((n : Int) ≠ (m : Int)) = false := decide_eq_false (by omega)
  (repeat first | (refine And.intro ?_ ?_; first | exact rfl | ((exact fun h => absurd h (by first | decide | (rw [e0]; decide))); intro yy; clear yy) | (rotate_left; (exact fun h => absurd h (by first | decide | (rw [e0]; decide))); intro yy; clear yy) | decide | omega) | (with_reducible refine frc_bytesL (by first | omega | decide) ?_) | (with_reducible refine frc_bytesM (by first | omega | decide) ?_))
  refine .inl ⟨Nat, fun i => ⟨[.a (.c (.slc a n c)), .a (.c (.slc b m d)), .any, .any, .any, .any, .any, .any, .any, .any, .any, .any, .a (.c (.int .i64 (↑n))), .a (.c (.int .i64 (↑i))), .any, .any, .any, .any, .any, .any, .any, .any, .any, .any, .any, .any], [[.past W ms]]⟩, fun i => i ≤ n ∧ ∀ j, j < i → l[j]? = l2[j]?, fun i => n - i, ⟨0, [0], ⟨⟨rfl, rfl, rfl⟩, by (repeat first | exact trivial | refine ent1 ?_)⟩, Nat.zero_le _, fun j hj => absurd hj (Nat.not_lt_zero _)⟩, fun i ⟨hi, hall⟩ => And.intro (fun hlt => ?_) (fun hge => ?_)⟩
  · have hlt : i < n := by have : (i : Int) < (n : Int) := of_decide_eq_true hlt; omega
    obtain ⟨x, hx⟩ : ∃ x, l[i]? = some x := ⟨_, List.getElem?_eq_getElem (by omega)⟩
    obtain ⟨y, hy⟩ : ∃ y, l2[i]? = some y := ⟨_, List.getElem?_eq_getElem (by omega)⟩
    cases a with
    | none => have := h1.nil_.1; omega
    | some A =>
    cases b with
    | none => have := h2.nil_.1; omega
    | some B =>
    refine ⟨none, [], [(0, true), (1, true), (2, true), (3, true), (4, true), (5, true), (6, true), (7, true), (8, true)], [], by kernel_rfl, ?_⟩
    refine And.intro (show (0 : Int) ≤ (i : Int) ∧ (i : Int) < (n : Int) by omega) ?_
    refine loadR (i := 0) rfl (h1.im A rfl (by omega)) (j := i * 1) (map_get? (by rw [Nat.mul_one]; exact hx)) ?_
    refine And.intro (show (0 : Int) ≤ (i : Int) ∧ (i : Int) < (m : Int) by omega) ?_
    refine loadR (i := 0) rfl (h2.im B rfl (by omega)) (j := i * 1) (map_get? (by rw [Nat.mul_one]; exact hy)) ?_
    by_cases hxy : x = y
    · have e1 : decide (x ≠ y) = false := decide_eq_false fun h => h hxy
      (repeat first | (refine And.intro ?_ ?_; first | exact rfl | ((exact fun h => absurd h (by first | decide | (rw [e1]; decide))); intro yy; clear yy) | (rotate_left; (exact fun h => absurd h (by first | decide | (rw [e1]; decide))); intro yy; clear yy) | decide | omega) | (with_reducible refine frc_bytesL (by first | omega | decide) ?_) | (with_reducible refine frc_bytesM (by first | omega | decide) ?_))
      refine ⟨i + 1, [0], ⟨⟨rfl, rfl, rfl⟩, by (repeat first | exact trivial | refine ent1 ?_)⟩, ⟨by omega, fun j hj => ?_⟩, by dsimp only; omega⟩
      by_cases hji : j = i
      · subst hji; rw [hx, hy, hxy]
      · exact hall j (by omega)
    · have e1 : decide (x ≠ y) = true := decide_eq_true hxy
      rw [show decide (l = l2) = false from decide_eq_false fun h => hxy (by rw [h, hy] at hx; injection hx with hx; exact hx.symm)]
      (repeat first | (refine And.intro ?_ ?_; first | exact rfl | ((exact fun h => absurd h (by first | decide | (rw [e1]; decide))); intro yy; clear yy) | (rotate_left; (exact fun h => absurd h (by first | decide | (rw [e1]; decide))); intro yy; clear yy) | decide | omega) | (with_reducible refine frc_bytesL (by first | omega | decide) ?_) | (with_reducible refine frc_bytesM (by first | omega | decide) ?_))
      exact ⟨.a (.c (.bool false)), [[.past W ms]], ⟨[0], ⟨rfl, rfl, rfl⟩, by (repeat first | exact trivial | refine ent1 ?_)⟩, rfl, rfl⟩
  · have hge : i = n := by have : ¬ (i : Int) < (n : Int) := of_decide_eq_false hge; omega
    have heq : l = l2 := by
      apply List.ext_getElem?
      intro j
      rcases Nat.lt_or_ge j n with hj | hj
      · exact hall j (by omega)
      · rw [List.getElem?_eq_none (by omega), List.getElem?_eq_none (by omega)]
    rw [show decide (l = l2) = true from decide_eq_true heq]
    (repeat first | (refine And.intro ?_ ?_; first | exact rfl | ((exact fun h => absurd h (by first | decide)); intro yy; clear yy) | (rotate_left; (exact fun h => absurd h (by first | decide)); intro yy; clear yy) | decide | omega) | (with_reducible refine frc_bytesL (by first | omega | decide) ?_) | (with_reducible refine frc_bytesM (by first | omega | decide) ?_))
    exact ⟨.a (.c (.bool true)), [[.past W ms]], ⟨[0], ⟨rfl, rfl, rfl⟩, by (repeat first | exact trivial | refine ent1 ?_)⟩, rfl, rfl⟩
set_option maxRecDepth 20000 in
set_option maxHeartbeats 8000000 in
theorem fn_esame {W : World} {ms : List Nat} {x y : EvC} {e f : Ev} (hx : EvAt W ms x e) (hy : EvAt W ms y f) : FnR Try.prog tds 37 1 [[.past W ms]] [.agg (evS e x), .agg (evS f y)] (fun _ => True)
    (fun y hs => y = .a (.c (.bool (decide (sameE e f)))) ∧ hs = [[.past W ms]]) := by
  refine fn_of_body tds_ok follows_ Try.func37 rfl (t := .a (.agg (evS e x)) :: .a (.agg (evS f y)) :: anys (Try.f37.ntmps - 2)) rfl (fun w r0 hr _ => ?_)
  obtain ⟨x0, rfl⟩ := List.length_eq_one_iff.1 hr
  by_cases h1 : e.k = f.k
  rotate_left
  · have e1 : decide (e.k = f.k) = false := decide_eq_false h1
    rw [show decide (sameE e f) = false from decide_eq_false fun h => h1 h.1]
    (repeat first | (refine And.intro ?_ ?_; first | exact rfl | ((exact fun h => absurd h (by first | decide | (rw [e1]; decide))); intro yy; clear yy) | (rotate_left; (exact fun h => absurd h (by first | decide | (rw [e1]; decide))); intro yy; clear yy) | decide | omega) | (with_reducible refine frc_bytesL (by first | omega | decide) ?_) | (with_reducible refine frc_bytesM (by first | omega | decide) ?_))
    exact ⟨.a (.c (.bool false)), [[.past W ms]], ⟨[0], ⟨rfl, rfl, rfl⟩, by (repeat first | exact trivial | refine ent1 ?_)⟩, rfl, rfl⟩
  have e1 : decide (e.k = f.k) = true := decide_eq_true h1
  by_cases h2 : e.t = f.t
  rotate_left
  · have e2 : decide (e.t = f.t) = false := decide_eq_false h2
    rw [show decide (sameE e f) = false from decide_eq_false fun h => h2 h.2.1]
    (repeat first | (refine And.intro ?_ ?_; first | exact rfl | ((exact fun h => absurd h (by first | decide | (rw [e1]; decide) | (rw [e2]; decide))); intro yy; clear yy) | (rotate_left; (exact fun h => absurd h (by first | decide | (rw [e1]; decide) | (rw [e2]; decide))); intro yy; clear yy) | decide | omega) | (with_reducible refine frc_bytesL (by first | omega | decide) ?_) | (with_reducible refine frc_bytesM (by first | omega | decide) ?_))
    exact ⟨.a (.c (.bool false)), [[.past W ms]], ⟨[0], ⟨rfl, rfl, rfl⟩, by (repeat first | exact trivial | refine ent1 ?_)⟩, rfl, rfl⟩
  have e2 : decide (e.t = f.t) = true := decide_eq_true h2
  (repeat first | (refine And.intro ?_ ?_; first | exact rfl | ((exact fun h => absurd h (by first | decide | (rw [e1]; decide) | (rw [e2]; decide))); intro yy; clear yy) | (rotate_left; (exact fun h => absurd h (by first | decide | (rw [e1]; decide) | (rw [e2]; decide))); intro yy; clear yy) | decide | omega) | (with_reducible refine frc_bytesL (by first | omega | decide) ?_) | (with_reducible refine frc_bytesM (by first | omega | decide) ?_))
  refine call_same (fn_nequal hx.N hy.N) [0] rfl (by (repeat first | exact trivial | refine ent1 ?_)) (by (repeat first | exact trivial | refine ent1 ?_)) (fun _ _ => trivial) ?_
  rintro y' hs' ⟨rfl, rfl⟩
  by_cases h3 : e.N = f.N
  rotate_left
  · have e3 : decide (e.N = f.N) = false := decide_eq_false h3
    rw [show decide (sameE e f) = false from decide_eq_false fun h => h3 h.2.2.1]
    (repeat first | (refine And.intro ?_ ?_; first | exact rfl | ((exact fun h => absurd h (by first | decide | (rw [e2]; decide) | (rw [e3]; decide))); intro yy; clear yy) | (rotate_left; (exact fun h => absurd h (by first | decide | (rw [e2]; decide) | (rw [e3]; decide))); intro yy; clear yy) | decide | omega) | (with_reducible refine frc_bytesL (by first | omega | decide) ?_) | (with_reducible refine frc_bytesM (by first | omega | decide) ?_))
    exact ⟨.a (.c (.bool false)), [[.past W ms]], ⟨[0], ⟨rfl, rfl, rfl⟩, by (repeat first | exact trivial | refine ent1 ?_)⟩, rfl, rfl⟩
  have e3 : decide (e.N = f.N) = true := decide_eq_true h3
  (repeat first | (refine And.intro ?_ ?_; first | exact rfl | ((exact fun h => absurd h (by first | decide | (rw [e2]; decide) | (rw [e3]; decide))); intro yy; clear yy) | (rotate_left; (exact fun h => absurd h (by first | decide | (rw [e2]; decide) | (rw [e3]; decide))); intro yy; clear yy) | decide | omega) | (with_reducible refine frc_bytesL (by first | omega | decide) ?_) | (with_reducible refine frc_bytesM (by first | omega | decide) ?_))
  refine call_same (fn_bequal hx.D hy.D) [0] rfl (by (repeat first | exact trivial | refine ent1 ?_)) (by (repeat first | exact trivial | refine ent1 ?_)) (fun _ _ => trivial) ?_
  rintro y' hs' ⟨rfl, rfl⟩
  rw [show decide (sameE e f) = decide (e.D = f.D) from decide_eq_decide.2 ⟨fun h => h.2.2.2, fun h => ⟨h1, h2, h3, h⟩⟩]
  (repeat first | (refine And.intro ?_ ?_; first | exact rfl | ((exact fun h => absurd h (by first | decide | (rw [e3]; decide))); intro yy; clear yy) | (rotate_left; (exact fun h => absurd h (by first | decide | (rw [e3]; decide))); intro yy; clear yy) | decide | omega) | (with_reducible refine frc_bytesL (by first | omega | decide) ?_) | (with_reducible refine frc_bytesM (by first | omega | decide) ?_))
  exact ⟨.a (.c (.bool (decide (e.D = f.D)))), [[.past W ms]], ⟨[0], ⟨rfl, rfl, rfl⟩, by (repeat first | exact trivial | refine ent1 ?_)⟩, rfl, rfl⟩
end Sx
end Go.Proofs.Ytdakmieapdpidaa
end

section
/-
  The program's reader of numbers and bytes. No condition.
-/
namespace Go.Proofs.Ytdakmieapdpidaa
set_option linter.unusedVariables false
namespace Vi
open Sha
def failM (l : Bs) (e x : Int) : Bs × Int := if x = 0 ∨ e ≠ 0 then (l, e) else ([], x)
/-- The next number; what is left. -/
def nextM (l : Bs) (e : Int) : (BitVec 64 × Nat × Bool) × Bs × Int :=
  if e ≠ 0 then ((0#64, 0, false), l, e) else
  if (takeM l).2.2 ≠ 0 then ((0#64, 0, false), [], (takeM l).2.2) else (((takeM l).1, (takeM l).2.1, true), l.drop (takeM l).2.1, 0)
def bytesM (l : Bs) (e many : Int) : Bs × Bs × Int :=
  if e ≠ 0 then ([], l, e) else if many < 0 ∨ (l.length : Int) < many then ([], [], 3) else (l.take many.toNat, l.drop many.toNat, 0)
theorem takeM_le {l : Bs} {n : BitVec 64} {k : Nat} {e : Int} (h : takeM l = (n, k, e)) : k ≤ l.length ∧ (e = 0 → 1 ≤ k) := by
  have := sizeT_le (L l 0)
  unfold takeM at h
  split at h
  · simp only [Prod.mk.injEq] at h
    obtain ⟨_, rfl, rfl⟩ := h
    exact ⟨Nat.zero_le _, fun h => by omega⟩
  · simp only [Prod.mk.injEq] at h
    obtain ⟨_, rfl, rfl⟩ := h
    exact ⟨by omega, fun _ => by omega⟩
end Vi
namespace Sx
open Sha Vi

/-- A reader: what is left of its bytes, how it ended. -/
structure RS where
  z : Bool
  o : Nat
  n : Nat
  c : Nat
  e : Int
abbrev rdCi (i : Nat) (s : RS) : List Seg := [.one (.sn s.z i 0 s.o s.n s.c), .one (.int .i64 s.e)]
abbrev rdC (s : RS) : List Seg := rdCi 0 s
/-- A reader of the bytes A of which l are left, ended by e. -/
structure RdI (A : Sl) (s : RS) (l : Bs) (e : Int) : Prop where
  ok : A.Ok
  o0 : A.o = 0
  len : s.n = l.length
  at_ : ∀ i, i < l.length → s.o + i < A.l.length ∧ L A.l (s.o + i) = L l i
  fit : s.o + l.length ≤ A.l.length
  cap : s.n ≤ s.c
  nil : s.z = true → l = []
  z0 : s.z = false → A.z = false
  err : s.e = e
  ended : e ≠ 0 → l = []
theorem RdI.drop {A : Sl} {s : RS} {l : Bs} {e : Int} (h : RdI A s l e) {k : Nat} (hk : k ≤ l.length) : RdI A ⟨s.z, if s.c = k then s.o else s.o + k, s.n - k, s.c - k, s.e⟩ (l.drop k) e := by
  have hl := h.len
  have hc := h.cap
  have hf := h.fit
  refine ⟨h.ok, h.o0, ?_, fun i hi => ?_, ?_, ?_, fun hz => ?_, h.z0, h.err, fun he => ?_⟩
  · simp [hl]
  · simp at hi
    have h1 := h.at_ (k + i) (by omega)
    have e1 : (if s.c = k then s.o else s.o + k) = s.o + k := if_neg (by omega)
    show (if s.c = k then s.o else s.o + k) + i < _ ∧ L A.l ((if s.c = k then s.o else s.o + k) + i) = _
    rw [e1, L_drop, Nat.add_assoc]
    exact h1
  · show (if s.c = k then s.o else s.o + k) + _ ≤ _
    simp
    split <;> omega
  · show s.n - k ≤ s.c - k
    omega
  · rw [h.nil hz, List.drop_nil]
  · rw [h.ended he, List.drop_nil]
theorem RdI.gone {A : Sl} {s : RS} {l : Bs} {e : Int} (h : RdI A s l e) (x : Int) : RdI A ⟨true, 0, 0, 0, x⟩ [] x :=
  ⟨h.ok, h.o0, rfl, fun i hi => by simp at hi, by simp, Nat.le_refl _, fun _ => rfl, fun h => Bool.noConfusion h, rfl, fun _ => rfl⟩
/-- The bytes that are left, as a slice of their own. -/
theorem RdI.sl {A : Sl} {s : RS} {l : Bs} {e : Int} (h : RdI A s l e) : Sl.Ok ⟨s.z, A.N, s.o, s.c, l⟩ :=
  ⟨by have h1 := h.ok.fit; have h2 := h.fit; have h3 := h.o0; show s.o + l.length ≤ A.N; omega, by have h1 := h.len; have h2 := h.cap; show l.length ≤ s.c; omega, h.nil, by have h1 := h.ok.small; have h2 := h.fit; show l.length ≤ _; omega⟩
theorem RdI.ent {A : Sl} {s : RS} {l : Bs} {e : Int} (h : RdI A s l e) {q : List Nat} {k : Prop} (hk : k) : eqSegs q (svB A) (svB ⟨s.z, A.N, s.o, s.c, l⟩) k := by
  have h0 := h.o0
  show eqSegs q (bts A.z A.N A.o A.l.length (L A.l)) _ k
  rw [h0]
  exact eqSegs_sub (fun hz => ⟨h.z0 hz, h.at_⟩) hk
theorem RdI.sn {A : Sl} {s : RS} {l : Bs} {e : Int} (h : RdI A s l e) {hp : List (List Seg)} {j m : Nat} {k : (Nat → SC) → Prop} (hj : getH hp j = svB A) (hm : m ≤ l.length)
    (hk : ∀ g : Nat → SC, (∀ i, i < m → g i = .w8 (L l i)) → k g) : ∃ f : Nat → SC, ((s.z = true → m = 0) ∧ (s.z = false → SnAt hp j 0 s.o m 1 f)) ∧ k f := by
  refine ⟨fun i => .w8 (L l i), ⟨fun hz => ?_, fun hz => ?_⟩, hk _ fun _ _ => rfl⟩
  · have := h.nil hz; subst this; simpa using hm
  · have hz' := h.z0 hz
    have hf := h.fit
    have hN := h.ok.fit
    have ho := h.o0
    refine ⟨A.N, winF A.o A.l.length (L A.l), [], by rw [hj]; unfold svB; rw [hz']; rfl, by show s.o + m ≤ A.N; omega, fun q hq => ?_⟩
    have hq : q < m := hq
    have h1 := h.at_ q (by omega)
    show SC.w8 (L l q) = _
    rw [ho, ← h1.2, Nat.add_comm q s.o]
    have := winF_at 0 A.l.length (L A.l) h1.1
    rw [Nat.zero_add] at this
    exact this.symm
set_option maxRecDepth 20000 in
theorem fn_rfail (A : Sl) (s : RS) (x : Int) {l : Bs} {e : Int} (hr : RdI A s l e) : FnR Try.prog tds 31 1 [svB A, rdC s] [.c (.p 1 0 0), .c (.int .i64 x)] (fun _ => True)
    (fun y hs => ∃ s' l' e', failM l e x = (l', e') ∧ RdI A s' l' e' ∧ y = .tup [] ∧ hs = [svB A, rdC s']) := by
  refine fn_of_body tds_ok follows_ Try.func31 rfl (t := .a (.c (.p 1 0 0)) :: .a (.c (.int .i64 x)) :: anys (Try.f31.ntmps - 2)) rfl (fun w r0 hr0 _ => ?_)
  obtain ⟨x0, x1, rfl⟩ := len2' hr0
  have he := hr.err
  by_cases h1 : x = 0
  · have e1 : decide (x = 0) = true := decide_eq_true h1
    (repeat first | refine And.intro (by omega) ?_ | refine And.intro (by decide) ?_ | refine And.intro rfl ?_ | refine And.intro (fun _ => ?_) (fun h => Bool.noConfusion h) | refine And.intro (fun h => Bool.noConfusion h) (fun _ => ?_) | refine And.intro (fun _ => ?_) (fun h => absurd h (by rw [e1]; decide)) | refine And.intro (fun h => absurd h (by rw [e1]; decide)) (fun _ => ?_))
    refine ⟨.tup [], _, ⟨[0, 1], ⟨rfl, rfl, rfl⟩, ?_⟩, s, l, e, by unfold failM; rw [if_pos (.inl h1)], hr, rfl, rfl⟩
    refine eqC_bts ?_
    (repeat first | exact trivial | refine ent1 ?_)
  have e1 : decide (x = 0) = false := decide_eq_false h1
  by_cases h2 : s.e = 0
  · have e2 : decide (s.e ≠ 0) = false := decide_eq_false (by omega)
    (repeat first | refine And.intro (by omega) ?_ | refine And.intro (by decide) ?_ | refine And.intro rfl ?_ | refine And.intro (fun _ => ?_) (fun h => Bool.noConfusion h) | refine And.intro (fun h => Bool.noConfusion h) (fun _ => ?_) | refine And.intro (fun _ => ?_) (fun h => absurd h (by rw [e1]; decide)) | refine And.intro (fun h => absurd h (by rw [e1]; decide)) (fun _ => ?_) | refine And.intro (fun _ => ?_) (fun h => absurd h (by rw [e2]; decide)) | refine And.intro (fun h => absurd h (by rw [e2]; decide)) (fun _ => ?_))
    refine ⟨.tup [], _, ⟨[0, 1], ⟨rfl, rfl, rfl⟩, ?_⟩, _, [], x, by unfold failM; rw [if_neg (by omega)], hr.gone x, rfl, rfl⟩
    refine eqC_bts ?_
    (repeat first | exact trivial | refine ent1 ?_)
  · have e2 : decide (s.e ≠ 0) = true := decide_eq_true h2
    (repeat first | refine And.intro (by omega) ?_ | refine And.intro (by decide) ?_ | refine And.intro rfl ?_ | refine And.intro (fun _ => ?_) (fun h => Bool.noConfusion h) | refine And.intro (fun h => Bool.noConfusion h) (fun _ => ?_) | refine And.intro (fun _ => ?_) (fun h => absurd h (by rw [e1]; decide)) | refine And.intro (fun h => absurd h (by rw [e1]; decide)) (fun _ => ?_) | refine And.intro (fun _ => ?_) (fun h => absurd h (by rw [e2]; decide)) | refine And.intro (fun h => absurd h (by rw [e2]; decide)) (fun _ => ?_))
    refine ⟨.tup [], _, ⟨[0, 1], ⟨rfl, rfl, rfl⟩, ?_⟩, s, l, e, by unfold failM; rw [if_pos (.inr (by omega))], hr, rfl, rfl⟩
    refine eqC_bts ?_
    (repeat first | exact trivial | refine ent1 ?_)
theorem fn_rerr (A : Sl) (s : RS) {l : Bs} {e : Int} (hr : RdI A s l e) : FnR Try.prog tds 30 1 [svB A, rdC s] [.c (.p 1 0 0)] (fun _ => True)
    (fun y hs => y = .a (.c (.int .i64 e)) ∧ hs = [svB A, rdC s]) := by
  refine fn_of_body tds_ok follows_ Try.func30 rfl (t := .a (.c (.p 1 0 0)) :: anys (Try.f30.ntmps - 1)) rfl (fun w r0 hr0 _ => ?_)
  obtain ⟨x0, x1, rfl⟩ := len2' hr0
  (repeat first | refine And.intro (by omega) ?_ | refine And.intro (by decide) ?_ | refine And.intro rfl ?_ | refine And.intro (fun _ => ?_) (fun h => Bool.noConfusion h) | refine And.intro (fun h => Bool.noConfusion h) (fun _ => ?_))
  refine ⟨.a (.c (.int .i64 e)), _, ⟨[0, 1], ⟨rfl, rfl, rfl⟩, ?_⟩, rfl, rfl⟩
  refine ⟨hr.err, ?_⟩
  refine eqC_bts ?_
  (repeat first | exact trivial | refine ent1 ?_)
theorem fn_rleft (A : Sl) (s : RS) {l : Bs} {e : Int} (hr : RdI A s l e) : FnR Try.prog tds 44 1 [svB A, rdC s] [.c (.p 1 0 0)] (fun _ => True)
    (fun y hs => y = .a (.c (.int .i64 (l.length : Nat))) ∧ hs = [svB A, rdC s]) := by
  refine fn_of_body tds_ok follows_ Try.func44 rfl (t := .a (.c (.p 1 0 0)) :: anys (Try.f44.ntmps - 1)) rfl (fun w r0 hr0 _ => ?_)
  obtain ⟨x0, x1, rfl⟩ := len2' hr0
  (repeat first | refine And.intro (by omega) ?_ | refine And.intro (by decide) ?_ | refine And.intro rfl ?_ | refine And.intro (fun _ => ?_) (fun h => Bool.noConfusion h) | refine And.intro (fun h => Bool.noConfusion h) (fun _ => ?_))
  refine ⟨.a (.c (.int .i64 (l.length : Nat))), _, ⟨[0, 1], ⟨rfl, rfl, rfl⟩, ?_⟩, rfl, rfl⟩
  refine ⟨congrArg (fun n : Nat => (n : Int)) hr.len, ?_⟩
  refine eqC_bts ?_
  (repeat first | exact trivial | refine ent1 ?_)
set_option maxRecDepth 20000 in
theorem fn_rnext (A : Sl) (s : RS) {l : Bs} {e : Int} (hr : RdI A s l e) : FnR Try.prog tds 42 1 [svB A, rdC s] [.c (.p 1 0 0)] (fun _ => True)
    (fun y hs => ∃ n k b s' l' e', nextM l e = ((n, k, b), l', e') ∧ RdI A s' l' e' ∧ y = .tup [.c (.w64 n), .c (.int .i64 (k : Nat)), .c (.bool b)] ∧ hs = [svB A, rdC s']) := by
  refine fn_of_body tds_ok follows_ Try.func42 rfl (t := .a (.c (.p 1 0 0)) :: anys (Try.f42.ntmps - 1)) rfl (fun w r0 hr0 _ => ?_)
  obtain ⟨x0, x1, rfl⟩ := len2' hr0
  have he := hr.err
  by_cases h2 : s.e = 0
  · have e2 : decide (s.e ≠ 0) = false := decide_eq_false (by omega)
    (repeat first | refine And.intro (by omega) ?_ | refine And.intro (by decide) ?_ | refine And.intro rfl ?_ | refine And.intro (fun _ => ?_) (fun h => Bool.noConfusion h) | refine And.intro (fun h => Bool.noConfusion h) (fun _ => ?_) | refine And.intro (fun _ => ?_) (fun h => absurd h (by rw [e2]; decide)) | refine And.intro (fun h => absurd h (by rw [e2]; decide)) (fun _ => ?_))
    have hlen := hr.len
    have hcap := hr.cap
    refine call_same (fn_vtake _ hr.sl) [0] rfl ⟨rfl, rfl, hlen, rfl, trivial⟩ (hr.ent trivial) (fun _ _ => trivial) ?_
    rintro x hs ⟨n, k, f, ht, rfl, rfl⟩
    have ht : takeM l = (n, k, f) := ht
    have hk := takeM_le ht
    by_cases h3 : f = 0
    · have e3 : decide (f ≠ 0) = false := decide_eq_false (by omega)
      (repeat first | refine And.intro (by omega) ?_ | refine And.intro (by decide) ?_ | refine And.intro rfl ?_ | refine And.intro (fun _ => ?_) (fun h => Bool.noConfusion h) | refine And.intro (fun h => Bool.noConfusion h) (fun _ => ?_) | refine And.intro (fun _ => ?_) (fun h => absurd h (by rw [e3]; decide)) | refine And.intro (fun h => absurd h (by rw [e3]; decide)) (fun _ => ?_))
      refine ⟨.tup [.c (.w64 n), .c (.int .i64 (k : Nat)), .c (.bool true)], _, ⟨[0, 1], ⟨rfl, rfl, rfl⟩, ?_⟩, n, k, true, _, l.drop k, e, ?_, hr.drop hk.1, rfl, rfl⟩
      · (repeat first | exact trivial | refine ent1 ?_)
        refine eqC_bts ?_
        refine ⟨rfl, ?_, ?_⟩
        rotate_left
        · (repeat first | exact trivial | refine ent1 ?_)
        show (if s.c = k then s.o else s.o + k * 1) = (if s.c = k then s.o else s.o + k)
        rw [Nat.mul_one]
      · unfold nextM
        rw [if_neg (by omega), ht, if_neg (by simpa using h3)]
        simp; omega
    have e3 : decide (f ≠ 0) = true := decide_eq_true h3
    (repeat first | refine And.intro (by omega) ?_ | refine And.intro (by decide) ?_ | refine And.intro rfl ?_ | refine And.intro (fun _ => ?_) (fun h => Bool.noConfusion h) | refine And.intro (fun h => Bool.noConfusion h) (fun _ => ?_) | refine And.intro (fun _ => ?_) (fun h => absurd h (by rw [e3]; decide)) | refine And.intro (fun h => absurd h (by rw [e3]; decide)) (fun _ => ?_))
    refine call_same (fn_rfail A s f hr) [0, 1] rfl (by (repeat first | exact trivial | refine ent1 ?_)) ?_ (fun _ _ => trivial) ?_
    · refine eqC_bts ?_
      (repeat first | exact trivial | refine ent1 ?_)
    rintro x hs ⟨s', l', e', hf, hr', rfl, rfl⟩
    refine ⟨.tup [.c (.w64 0#64), .c (.int .i64 0), .c (.bool false)], _, ⟨[0, 1], ⟨rfl, rfl, rfl⟩, ?_⟩, 0#64, 0, false, s', l', e', ?_, hr', rfl, rfl⟩
    · (repeat first | exact trivial | refine ent1 ?_)
      refine eqC_bts ?_
      (repeat first | exact trivial | refine ent1 ?_)
    · unfold failM at hf
      rw [if_neg (by omega)] at hf
      unfold nextM
      rw [if_neg (by omega), ht, if_pos h3]
      simp only [Prod.mk.injEq] at hf
      obtain ⟨rfl, rfl⟩ := hf
      rfl
  · have e2 : decide (s.e ≠ 0) = true := decide_eq_true h2
    (repeat first | refine And.intro (by omega) ?_ | refine And.intro (by decide) ?_ | refine And.intro rfl ?_ | refine And.intro (fun _ => ?_) (fun h => Bool.noConfusion h) | refine And.intro (fun h => Bool.noConfusion h) (fun _ => ?_) | refine And.intro (fun _ => ?_) (fun h => absurd h (by rw [e2]; decide)) | refine And.intro (fun h => absurd h (by rw [e2]; decide)) (fun _ => ?_))
    refine ⟨.tup [.c (.w64 0#64), .c (.int .i64 0), .c (.bool false)], _, ⟨[0, 1], ⟨rfl, rfl, rfl⟩, ?_⟩, 0#64, 0, false, s, l, e, by unfold nextM; rw [if_pos (by omega)], hr, rfl, rfl⟩
    (repeat first | exact trivial | refine ent1 ?_)
    refine eqC_bts ?_
    (repeat first | exact trivial | refine ent1 ?_)
set_option maxRecDepth 20000 in
theorem fn_rbytes (A : Sl) (s : RS) (many : Int) {l : Bs} {e : Int} (hr : RdI A s l e) : FnR Try.prog tds 29 1 [svB A, rdC s] [.c (.p 1 0 0), .c (.int .i64 many)] (fun _ => True)
    (fun y hs => ∃ t s' l' e', bytesM l e many = (t.l, l', e') ∧ RdI A s' l' e' ∧ t.Ok ∧ y = .a (.c (svC 2 t)) ∧ hs = [svB A, rdC s', svB t]) := by
  refine fn_of_body tds_ok follows_ Try.func29 rfl (t := .a (.c (.p 1 0 0)) :: .a (.c (.int .i64 many)) :: anys (Try.f29.ntmps - 2)) rfl (fun w r0 hr0 _ => ?_)
  obtain ⟨x0, x1, rfl⟩ := len2' hr0
  have he := hr.err
  by_cases h2 : s.e = 0
  · have e2 : decide (s.e ≠ 0) = false := decide_eq_false (by omega)
    have hlen := hr.len
    have hcap := hr.cap
    by_cases h3 : many < 0
    · have e3 : decide (many < 0) = true := decide_eq_true h3
      (repeat first | refine And.intro (by omega) ?_ | refine And.intro (by decide) ?_ | refine And.intro rfl ?_ | refine And.intro (fun _ => ?_) (fun h => Bool.noConfusion h) | refine And.intro (fun h => Bool.noConfusion h) (fun _ => ?_) | refine And.intro (fun _ => ?_) (fun h => absurd h (by rw [e2]; decide)) | refine And.intro (fun h => absurd h (by rw [e2]; decide)) (fun _ => ?_) | refine And.intro (fun _ => ?_) (fun h => absurd h (by rw [e3]; decide)) | refine And.intro (fun h => absurd h (by rw [e3]; decide)) (fun _ => ?_))
      refine call_same (fn_rfail A s 3 hr) [0, 1] rfl (by (repeat first | exact trivial | refine ent1 ?_)) ?_ (fun _ _ => trivial) ?_
      · refine eqC_bts ?_
        (repeat first | exact trivial | refine ent1 ?_)
      rintro x hs ⟨s', l', e', hf, hr', rfl, rfl⟩
      refine ⟨.a (.c (svC 2 ⟨true, 0, 0, 0, []⟩)), _, ⟨[0, 1, 1], ⟨rfl, rfl, rfl⟩, ?_⟩, ⟨true, 0, 0, 0, []⟩, s', l', e', ?_, hr', ⟨Nat.le_refl _, Nat.le_refl _, fun _ => rfl, Nat.zero_le _⟩, rfl, rfl⟩
      · (repeat first | exact trivial | refine ent1 ?_)
        refine eqC_bts ?_
        (repeat first | exact trivial | refine ent1 ?_)
      · unfold failM at hf
        rw [if_neg (by omega)] at hf
        simp only [Prod.mk.injEq] at hf
        obtain ⟨rfl, rfl⟩ := hf
        unfold bytesM
        rw [if_neg (by omega), if_pos (by omega)]
    have e3 : decide (many < 0) = false := decide_eq_false h3
    by_cases h4 : (s.n : Int) < many
    · have e4 : decide ((s.n : Int) < many) = true := decide_eq_true h4
      (repeat first | refine And.intro (by omega) ?_ | refine And.intro (by decide) ?_ | refine And.intro rfl ?_ | refine And.intro (fun _ => ?_) (fun h => Bool.noConfusion h) | refine And.intro (fun h => Bool.noConfusion h) (fun _ => ?_) | refine And.intro (fun _ => ?_) (fun h => absurd h (by rw [e2]; decide)) | refine And.intro (fun h => absurd h (by rw [e2]; decide)) (fun _ => ?_) | refine And.intro (fun _ => ?_) (fun h => absurd h (by rw [e3]; decide)) | refine And.intro (fun h => absurd h (by rw [e3]; decide)) (fun _ => ?_) | refine And.intro (fun _ => ?_) (fun h => absurd h (by rw [e4]; decide)) | refine And.intro (fun h => absurd h (by rw [e4]; decide)) (fun _ => ?_))
      refine call_same (fn_rfail A s 3 hr) [0, 1] rfl (by (repeat first | exact trivial | refine ent1 ?_)) ?_ (fun _ _ => trivial) ?_
      · refine eqC_bts ?_
        (repeat first | exact trivial | refine ent1 ?_)
      rintro x hs ⟨s', l', e', hf, hr', rfl, rfl⟩
      refine ⟨.a (.c (svC 2 ⟨true, 0, 0, 0, []⟩)), _, ⟨[0, 1, 1], ⟨rfl, rfl, rfl⟩, ?_⟩, ⟨true, 0, 0, 0, []⟩, s', l', e', ?_, hr', ⟨Nat.le_refl _, Nat.le_refl _, fun _ => rfl, Nat.zero_le _⟩, rfl, rfl⟩
      · (repeat first | exact trivial | refine ent1 ?_)
        refine eqC_bts ?_
        (repeat first | exact trivial | refine ent1 ?_)
      · unfold failM at hf
        rw [if_neg (by omega)] at hf
        simp only [Prod.mk.injEq] at hf
        obtain ⟨rfl, rfl⟩ := hf
        unfold bytesM
        rw [if_neg (by omega), if_pos (by omega)]
    have e4 : decide ((s.n : Int) < many) = false := decide_eq_false h4
    obtain ⟨m, rfl⟩ : ∃ m : Nat, many = m := ⟨many.toNat, by omega⟩
    (repeat first | refine And.intro (by omega) ?_ | refine And.intro (by decide) ?_ | refine And.intro rfl ?_ | refine And.intro (fun _ => ?_) (fun h => Bool.noConfusion h) | refine And.intro (fun h => Bool.noConfusion h) (fun _ => ?_) | refine And.intro (fun _ => ?_) (fun h => absurd h (by rw [e2]; decide)) | refine And.intro (fun h => absurd h (by rw [e2]; decide)) (fun _ => ?_) | refine And.intro (fun _ => ?_) (fun h => absurd h (by rw [e3]; decide)) | refine And.intro (fun h => absurd h (by rw [e3]; decide)) (fun _ => ?_) | refine And.intro (fun _ => ?_) (fun h => absurd h (by rw [e4]; decide)) | refine And.intro (fun h => absurd h (by rw [e4]; decide)) (fun _ => ?_))
    refine frcN_of (m := 0) rfl ?_
    refine frcN_of (m := m) rfl ?_
    refine frcN_of (m := s.o) (by split <;> simp) ?_
    refine frcN_of (m := m) rfl ?_
    refine frcN_of (m := s.c) rfl ?_
    refine hr.sn rfl (by omega) (fun g hg => ?_)
    have hsm := hr.ok.small
    have hft := hr.fit
    refine ⟨⟨rfl, rfl⟩, by show m * 1 ≤ 140737488355328; omega, fun hm0 => ?_, fun hm0 c' hc' => ?_⟩
    · subst hm0
      (repeat first | refine And.intro (by omega) ?_ | refine And.intro (by decide) ?_ | refine And.intro rfl ?_ | refine And.intro (fun _ => ?_) (fun h => Bool.noConfusion h) | refine And.intro (fun h => Bool.noConfusion h) (fun _ => ?_))
      refine ⟨.a (.c (svC 2 ⟨true, 0, 0, 0, []⟩)), _, ⟨[0, 1, 1], ⟨rfl, rfl, rfl⟩, ?_⟩, ⟨true, 0, 0, 0, []⟩, _, l.drop 0, e, ?_, hr.drop (Nat.zero_le _), ⟨Nat.le_refl _, Nat.le_refl _, fun _ => rfl, Nat.zero_le _⟩, rfl, rfl⟩
      · (repeat first | exact trivial | refine ent1 ?_)
        refine eqC_bts ?_
        (repeat first | exact trivial | refine ent1 ?_)
      · unfold bytesM
        rw [if_neg (by omega), if_neg (by omega)]
        simp; omega
    · (repeat first | refine And.intro (by omega) ?_ | refine And.intro (by decide) ?_ | refine And.intro rfl ?_ | refine And.intro (fun _ => ?_) (fun h => Bool.noConfusion h) | refine And.intro (fun h => Bool.noConfusion h) (fun _ => ?_))
      refine ⟨.a (.c (svC 2 ⟨false, c', 0, c', l.take m⟩)), _, ⟨[0, 1, 2], ⟨rfl, rfl, rfl⟩, ?_⟩, ⟨false, c', 0, c', l.take m⟩, _, l.drop m, e, ?_, hr.drop (by omega), ⟨by simp; omega, by simp; omega, fun h => Bool.noConfusion h, by simp; omega⟩, rfl, rfl⟩
      · (repeat first | exact trivial | refine ent1 ?_)
        refine ⟨by simp; omega, rfl, ?_⟩
        refine eqC_bts ?_
        refine ⟨rfl, ?_, ?_⟩
        · show (if s.c = m then s.o else s.o + m * 1) = (if s.c = m then s.o else s.o + m)
          rw [Nat.mul_one]
        (repeat first | exact trivial | refine ent1 ?_)
        refine ⟨fun j hj => eqC_win0 (fun i hi => ?_) j, trivial⟩
        have hi : i < m := by have : i < (l.take m).length := hi; simp at this; omega
        exact new_row (fun i hi => by rw [hg i hi, L_take _ _ _ hi]) i hi
      · unfold bytesM
        rw [if_neg (by omega), if_neg (by omega)]
        simp; omega
  · have e2 : decide (s.e ≠ 0) = true := decide_eq_true h2
    (repeat first | refine And.intro (by omega) ?_ | refine And.intro (by decide) ?_ | refine And.intro rfl ?_ | refine And.intro (fun _ => ?_) (fun h => Bool.noConfusion h) | refine And.intro (fun h => Bool.noConfusion h) (fun _ => ?_) | refine And.intro (fun _ => ?_) (fun h => absurd h (by rw [e2]; decide)) | refine And.intro (fun h => absurd h (by rw [e2]; decide)) (fun _ => ?_))
    refine ⟨.a (.c (svC 2 ⟨true, 0, 0, 0, []⟩)), _, ⟨[0, 1, 1], ⟨rfl, rfl, rfl⟩, ?_⟩, ⟨true, 0, 0, 0, []⟩, s, l, e, by unfold bytesM; rw [if_pos (by omega)], hr, ⟨Nat.le_refl _, Nat.le_refl _, fun _ => rfl, Nat.zero_le _⟩, rfl, rfl⟩
    (repeat first | exact trivial | refine ent1 ?_)
    refine eqC_bts ?_
    (repeat first | exact trivial | refine ent1 ?_)
end Sx
end Go.Proofs.Ytdakmieapdpidaa
end

section
/-
  The program's reader of numbers and bytes: made; counts, single bytes, its end. No condition.
-/
namespace Go.Proofs.Ytdakmieapdpidaa
set_option linter.unusedVariables false
namespace Vi
open Sha
def endM (l : Bs) (e : Int) : Bs × Int := if 0 < l.length then failM l e 24 else (l, e)
theorem nextM_e {l l' : Bs} {e e' : Int} {n : BitVec 64} {k : Nat} {b : Bool} (h : nextM l e = ((n, k, b), l', e')) : (b = true → e' = 0) ∧ (b = false → e' ≠ 0 ∧ n = 0#64) := by
  unfold nextM at h
  split at h
  · simp only [Prod.mk.injEq] at h
    obtain ⟨⟨rfl, rfl, rfl⟩, rfl, rfl⟩ := h
    exact ⟨fun h => Bool.noConfusion h, fun _ => ⟨by assumption, rfl⟩⟩
  · split at h
    · simp only [Prod.mk.injEq] at h
      obtain ⟨⟨rfl, rfl, rfl⟩, rfl, rfl⟩ := h
      exact ⟨fun h => Bool.noConfusion h, fun _ => ⟨by assumption, rfl⟩⟩
    · simp only [Prod.mk.injEq] at h
      obtain ⟨⟨rfl, rfl, rfl⟩, rfl, rfl⟩ := h
      exact ⟨fun _ => rfl, fun h => Bool.noConfusion h⟩
end Vi
namespace Sx
open Sha Vi

set_option maxRecDepth 20000 in
theorem fn_vread (s : Sl) (hs : s.Ok) : FnR Try.prog tds 28 1 [svB s] [.c (svC 0 s)] (fun _ => True)
    (fun y hs => ∃ A r, A.l = s.l ∧ RdI A r s.l 0 ∧ y = .a (.c (.p 1 0 0)) ∧ hs = [svB s, rdCi 2 r, svB A]) := by
  obtain ⟨z, N, o, c, l⟩ := s
  obtain ⟨hN, hc, hz, hsm⟩ := hs
  dsimp only at hN hc hz hsm
  show FnR _ _ _ 1 [bts z N o l.length (L l)] [.c (.sn z 0 0 o l.length c)] _ (fun y hs => ∃ A r, A.l = l ∧ RdI A r l 0 ∧ y = .a (.c (.p 1 0 0)) ∧ hs = [bts z N o l.length (L l), rdCi 2 r, svB A])
  refine fn_of_body tds_ok follows_ Try.func28 rfl (t := .a (.c (.sn z 0 0 o l.length c)) :: anys (Try.f28.ntmps - 1)) rfl (fun w r0 hr _ => ?_)
  obtain ⟨x0, rfl⟩ := List.length_eq_one_iff.1 hr
  refine sn_bts rfl hN (fun h => by rw [hz h]; rfl) (fun g hg => ?_)
  refine ⟨⟨rfl, rfl⟩, by show l.length * 1 ≤ 140737488355328; omega, fun hm0 => ?_, fun hm0 c' hc' => ?_⟩
  · obtain rfl : l = [] := List.eq_nil_of_length_eq_zero hm0
    (repeat first | refine And.intro (by omega) ?_ | refine And.intro (by decide) ?_ | refine And.intro rfl ?_ | refine And.intro (fun _ => ?_) (fun h => Bool.noConfusion h) | refine And.intro (fun h => Bool.noConfusion h) (fun _ => ?_))
    refine ⟨.a (.c (.p 1 0 0)), _, ⟨[0, 1, 1], ⟨rfl, rfl, rfl⟩, ?_⟩, ⟨true, 0, 0, 0, []⟩, ⟨true, 0, 0, 0, 0⟩, rfl, ⟨⟨Nat.le_refl _, Nat.le_refl _, fun _ => rfl, Nat.zero_le _⟩, rfl, rfl, fun i hi => by simp at hi, Nat.le_refl _, Nat.le_refl _, fun _ => rfl, fun h => Bool.noConfusion h, rfl, fun _ => rfl⟩, rfl, rfl⟩
    (repeat first | exact trivial | refine ent1 ?_)
    refine eqC_bts ?_
    (repeat first | exact trivial | refine ent1 ?_)
  · (repeat first | refine And.intro (by omega) ?_ | refine And.intro (by decide) ?_ | refine And.intro rfl ?_ | refine And.intro (fun _ => ?_) (fun h => Bool.noConfusion h) | refine And.intro (fun h => Bool.noConfusion h) (fun _ => ?_))
    refine ⟨.a (.c (.p 1 0 0)), _, ⟨[0, 2, 1], ⟨rfl, rfl, rfl⟩, ?_⟩, ⟨false, c', 0, c', l⟩, ⟨false, 0, l.length, c', 0⟩, rfl, ⟨⟨by dsimp only; omega, hc', fun h => Bool.noConfusion h, hsm⟩, rfl, rfl, fun i hi => by simp; omega, by simp, hc', fun h => Bool.noConfusion h, fun _ => rfl, rfl, fun h => absurd rfl h⟩, rfl, rfl⟩
    (repeat first | exact trivial | refine ent1 ?_)
    refine eqC_bts ?_
    (repeat first | exact trivial | refine ent1 ?_)
    exact ⟨fun j hj => eqC_win0 (fun i hi => new_row hg i hi) j, trivial⟩
set_option maxRecDepth 20000 in
theorem fn_rend (A : Sl) (s : RS) {l : Bs} {e : Int} (hr : RdI A s l e) : FnR Try.prog tds 34 1 [svB A, rdC s] [.c (.p 1 0 0)] (fun _ => True)
    (fun y hs => ∃ s' l' e', endM l e = (l', e') ∧ RdI A s' l' e' ∧ y = .a (.c (.int .i64 e')) ∧ hs = [svB A, rdC s']) := by
  refine fn_of_body tds_ok follows_ Try.func34 rfl (t := .a (.c (.p 1 0 0)) :: anys (Try.f34.ntmps - 1)) rfl (fun w r0 hr0 _ => ?_)
  obtain ⟨x0, x1, rfl⟩ := len2' hr0
  (repeat first | refine And.intro (by omega) ?_ | refine And.intro (by decide) ?_ | (with_reducible refine frc_parts (by first | omega | decide) ?_) | (with_reducible refine frc_bytesL (by first | omega | decide) ?_) | refine And.intro rfl ?_)
  refine call_same (fn_rleft A s hr) [0, 1] rfl (by (repeat first | exact trivial | refine ent1 ?_)) ?_ (fun _ _ => trivial) ?_
  · refine eqC_bts ?_
    (repeat first | exact trivial | refine ent1 ?_)
  rintro x hs ⟨rfl, rfl⟩
  by_cases h1 : 0 < l.length
  · have e1 : decide ((0 : Int) < (l.length : Int)) = true := decide_eq_true (by omega)
    (repeat first | refine And.intro (by omega) ?_ | refine And.intro (by decide) ?_ | refine And.intro rfl ?_ | refine And.intro (fun _ => ?_) (fun h => Bool.noConfusion h) | refine And.intro (fun h => Bool.noConfusion h) (fun _ => ?_) | refine And.intro (fun _ => ?_) (fun h => absurd h (by rw [e1]; decide)) | refine And.intro (fun h => absurd h (by rw [e1]; decide)) (fun _ => ?_))
    refine call_same (fn_rfail A s 24 hr) [0, 1] rfl (by (repeat first | exact trivial | refine ent1 ?_)) ?_ (fun _ _ => trivial) ?_
    · refine eqC_bts ?_
      (repeat first | exact trivial | refine ent1 ?_)
    rintro x hs ⟨s', l', e', hx, hr', rfl, rfl⟩
    (repeat first | refine And.intro (by omega) ?_ | refine And.intro (by decide) ?_ | (with_reducible refine frc_parts (by first | omega | decide) ?_) | (with_reducible refine frc_bytesL (by first | omega | decide) ?_) | refine And.intro rfl ?_)
    refine call_same (fn_rerr A s' hr') [0, 1] rfl (by (repeat first | exact trivial | refine ent1 ?_)) ?_ (fun _ _ => trivial) ?_
    · refine eqC_bts ?_
      (repeat first | exact trivial | refine ent1 ?_)
    rintro x hs ⟨rfl, rfl⟩
    refine ⟨.a (.c (.int .i64 e')), _, ⟨[0, 1], ⟨rfl, rfl, rfl⟩, ?_⟩, s', l', e', by unfold endM; rw [if_pos h1]; exact hx, hr', rfl, rfl⟩
    (repeat first | exact trivial | refine ent1 ?_)
    refine eqC_bts ?_
    (repeat first | exact trivial | refine ent1 ?_)
  · have e1 : decide ((0 : Int) < (l.length : Int)) = false := decide_eq_false (by omega)
    (repeat first | refine And.intro (by omega) ?_ | refine And.intro (by decide) ?_ | refine And.intro rfl ?_ | refine And.intro (fun _ => ?_) (fun h => Bool.noConfusion h) | refine And.intro (fun h => Bool.noConfusion h) (fun _ => ?_) | refine And.intro (fun _ => ?_) (fun h => absurd h (by rw [e1]; decide)) | refine And.intro (fun h => absurd h (by rw [e1]; decide)) (fun _ => ?_))
    refine call_same (fn_rerr A s hr) [0, 1] rfl (by (repeat first | exact trivial | refine ent1 ?_)) ?_ (fun _ _ => trivial) ?_
    · refine eqC_bts ?_
      (repeat first | exact trivial | refine ent1 ?_)
    rintro x hs ⟨rfl, rfl⟩
    refine ⟨.a (.c (.int .i64 e)), _, ⟨[0, 1], ⟨rfl, rfl, rfl⟩, ?_⟩, s, l, e, by unfold endM; rw [if_neg h1], hr, rfl, rfl⟩
    (repeat first | exact trivial | refine ent1 ?_)
    refine eqC_bts ?_
    (repeat first | exact trivial | refine ent1 ?_)
end Sx
end Go.Proofs.Ytdakmieapdpidaa
end

section
/-
  The program's reader: a number that has to have the fewest bytes. No condition.
-/
namespace Go.Proofs.Ytdakmieapdpidaa
set_option linter.unusedVariables false
namespace Vi
open Sha
/-- The next number, which has to have the fewest bytes. -/
def leastM (l : Bs) (e : Int) : BitVec 64 × Bs × Int := match nextM l e with
  | ((n, k, b), l', e') => if b = false then (0#64, l', e') else if k ≠ lenN n then (0#64, failM l' e' 4) else (n, l', e')
end Vi
namespace Sx
open Go.RowKit Sha Vi Ev

set_option maxRecDepth 20000 in
theorem fn_rleast (A : Sl) (s : RS) {l : Bs} {e : Int} (hr : RdI A s l e) : FnR Try.prog tds 32 1 [svB A, rdC s] [.c (.p 1 0 0)] (fun _ => True)
    (fun y hs => ∃ n s' l' e', leastM l e = (n, l', e') ∧ RdI A s' l' e' ∧ y = .a (.c (.w64 n)) ∧ hs = [svB A, rdC s']) := by
  refine fn_of_body tds_ok follows_ Try.func32 rfl (t := .a (.c (.p 1 0 0)) :: anys (Try.f32.ntmps - 1)) rfl (fun w r0 hr0 _ => ?_)
  obtain ⟨x0, x1, rfl⟩ := len2' hr0
  (repeat first | refine And.intro (by omega) ?_ | refine And.intro (by decide) ?_ | (with_reducible refine frc_parts (by first | omega | decide) ?_) | (with_reducible refine frc_bytesL (by first | omega | decide) ?_) | refine And.intro rfl ?_)
  refine call_same (fn_rnext A s hr) [0, 1] rfl (by (repeat first | exact trivial | refine ent1 ?_)) ?_ (fun _ _ => trivial) ?_
  · refine eqC_bts ?_
    (repeat first | exact trivial | refine ent1 ?_)
  rintro x hs ⟨n, k, b, s', l', e', hx, hr', rfl, rfl⟩
  have he := nextM_e hx
  cases b with
  | false =>
    (repeat first | refine And.intro (by omega) ?_ | refine And.intro (by decide) ?_ | refine And.intro rfl ?_ | refine And.intro (fun _ => ?_) (fun h => Bool.noConfusion h) | refine And.intro (fun h => Bool.noConfusion h) (fun _ => ?_))
    refine ⟨.a (.c (.w64 0#64)), _, ⟨[0, 1], ⟨rfl, rfl, rfl⟩, ?_⟩, 0#64, s', l', e', by unfold leastM; rw [hx]; rfl, hr', rfl, rfl⟩
    (repeat first | exact trivial | refine ent1 ?_)
    refine eqC_bts ?_
    (repeat first | exact trivial | refine ent1 ?_)
  | true =>
  (repeat first | refine And.intro (by omega) ?_ | refine And.intro (by decide) ?_ | refine And.intro rfl ?_ | refine And.intro (fun _ => ?_) (fun h => Bool.noConfusion h) | refine And.intro (fun h => Bool.noConfusion h) (fun _ => ?_))
  refine call_same (fn_vlen n) [] rfl (by (repeat first | exact trivial | refine ent1 ?_)) trivial (fun _ _ => trivial) ?_
  rintro y hs ⟨rfl, rfl⟩
  by_cases h1 : k ≠ lenN n
  · have e1 : decide ((k : Int) ≠ (lenN n : Int)) = true := decide_eq_true (by omega)
    (repeat first | refine And.intro (by omega) ?_ | refine And.intro (by decide) ?_ | refine And.intro rfl ?_ | refine And.intro (fun _ => ?_) (fun h => Bool.noConfusion h) | refine And.intro (fun h => Bool.noConfusion h) (fun _ => ?_) | refine And.intro (fun _ => ?_) (fun h => absurd h (by rw [e1]; decide)) | refine And.intro (fun h => absurd h (by rw [e1]; decide)) (fun _ => ?_))
    refine call_same (fn_rfail A s' 4 hr') [0, 1] rfl (by (repeat first | exact trivial | refine ent1 ?_)) ?_ (fun _ _ => trivial) ?_
    · refine eqC_bts ?_
      (repeat first | exact trivial | refine ent1 ?_)
    rintro x hs ⟨s2, l2, e2, hf, hr2, rfl, rfl⟩
    refine ⟨.a (.c (.w64 0#64)), _, ⟨[0, 1], ⟨rfl, rfl, rfl⟩, ?_⟩, 0#64, s2, l2, e2, ?_, hr2, rfl, rfl⟩
    · (repeat first | exact trivial | refine ent1 ?_)
      refine eqC_bts ?_
      (repeat first | exact trivial | refine ent1 ?_)
    · unfold leastM
      rw [hx]
      show (if true = false then _ else if k ≠ lenN n then _ else _) = _
      rw [if_neg (by decide), if_pos h1, hf]
  · have e1 : decide ((k : Int) ≠ (lenN n : Int)) = false := decide_eq_false (by omega)
    (repeat first | refine And.intro (by omega) ?_ | refine And.intro (by decide) ?_ | refine And.intro rfl ?_ | refine And.intro (fun _ => ?_) (fun h => Bool.noConfusion h) | refine And.intro (fun h => Bool.noConfusion h) (fun _ => ?_) | refine And.intro (fun _ => ?_) (fun h => absurd h (by rw [e1]; decide)) | refine And.intro (fun h => absurd h (by rw [e1]; decide)) (fun _ => ?_))
    refine ⟨.a (.c (.w64 n)), _, ⟨[0, 1], ⟨rfl, rfl, rfl⟩, ?_⟩, n, s', l', e', ?_, hr', rfl, rfl⟩
    · (repeat first | exact trivial | refine ent1 ?_)
      refine eqC_bts ?_
      (repeat first | exact trivial | refine ent1 ?_)
    · unfold leastM
      rw [hx]
      show (if true = false then _ else if k ≠ lenN n then _ else _) = _
      rw [if_neg (by decide), if_neg h1]
end Sx
end Go.Proofs.Ytdakmieapdpidaa
end
