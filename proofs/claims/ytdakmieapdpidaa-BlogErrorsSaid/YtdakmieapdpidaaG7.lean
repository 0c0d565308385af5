/-
  Texts of this claim, part 7: EoF, EoG, EoH, EoI, VsB, VsC, EoJ, EoK, EoL, VwC, EoM, EoN, EoP, EoQ, EoR, EoS, VrA, EoT, EoU, EoV, EoW, EoX, EoY, Sxw, Sxw2, Sxv. No condition of its own.
-/
import Derived.OpenShut
import Derived.Test.YtdakmieapdpidaaG6
section
/-
  An event that may be, of any: binnaclelaw24.Fit. No condition.
-/
namespace Go.Proofs.Ytdakmieapdpidaa
set_option linter.unusedVariables false
namespace Sx
open Go.RowKit Sha Vi Ev

theorem eqC_numsM' {q : List Nat} {g : Nat → Nat} {l : List (BitVec 64)} {j : Nat} : eqC q (SC.mp g (numsF l j)) (numsF l j) True :=
  eqC_nums (f := fun j => SC.mp g (numsF l j)) (fun j x h => by unfold numsF; rw [h]; rfl) j
theorem mskN_zero (P : List (BitVec 64)) : mskN 0 P = P := by simp [mskN]
theorem app_nums {P : List (BitVec 64)} {v : BitVec 64} {n : Nat} (hn : P.length = n) {f g : Nat → SC} (hf : ∀ j x, P[j]? = some x → f j = .w64 x) (hg : g 0 = .w64 v) (j : Nat) (x : BitVec 64) (h : (P ++ [v])[j]? = some x) : appF f 0 (scale n (0 + 1)) (scale 1 (0 + 1)) g j = .w64 x := by
  have e1 : scale n (0 + 1) = n := by rw [scale_eq, Nat.zero_add, Nat.mul_one]
  have e2 : scale 1 (0 + 1) = 1 := by rw [scale_eq]
  unfold appF
  rw [e1, e2]
  by_cases hj : j < n
  · rw [if_pos hj, Nat.add_zero]
    rw [List.getElem?_append_left (by omega)] at h
    exact hf j x h
  · rw [List.getElem?_append_right (by omega)] at h
    have hj0 : j - P.length = 0 := by
      rcases Nat.eq_zero_or_pos (j - P.length) with h1 | h1
      · exact h1
      · rw [List.getElem?_eq_none (by simp; omega)] at h; cases h
    rw [hj0] at h
    injection h with h
    subst h
    rw [if_neg hj, if_pos (by omega), show j - n = 0 by omega, hg]
theorem new_nums {v : BitVec 64} {g : Nat → SC} (hg : g 0 = .w64 v) (j : Nat) (x : BitVec 64) (h : [v][j]? = some x) : newF (scale 1 (0 + 1)) g j = .w64 x := by
  have e2 : scale 1 (0 + 1) = 1 := by rw [scale_eq]
  cases j with
  | zero => simp at h; subst h; unfold newF; rw [e2, if_pos (by decide), hg]
  | succ j => simp at h
theorem padE_step {P : List (BitVec 64)} {m : Nat} (h : P.length < m) : padE P (m - P.length) = padE (P ++ [BitVec.ofNat 64 P.length * 7#64]) (m - (P ++ [BitVec.ofNat 64 P.length * 7#64]).length) := by
  obtain ⟨k, hk⟩ : ∃ k, m - P.length = k + 1 := ⟨m - P.length - 1, by omega⟩
  rw [hk, padE, List.length_append, List.length_singleton, show m - (P.length + 1) = k by omega]
theorem padE_done {P : List (BitVec 64)} {m : Nat} (h : m ≤ P.length) : padE P (m - P.length) = P := by
  rw [show m - P.length = 0 by omega]; rfl
theorem msk_step {i : Nat} {P : List (BitVec 64)} {y : BitVec 64} (hy : P[i]? = some y) (j : Nat) (x : BitVec 64) (h : (mskN (i + 1) P)[j]? = some x) : upd (numsF (mskN i P)) i (.w64 (mk62 y)) j = .w64 x := by
  have hj : j < P.length := by
    have := (List.getElem?_eq_some_iff.1 h).1
    rwa [mskN_len] at this
  have hp : P[j]? = some P[j] := List.getElem?_eq_getElem hj
  rw [mskN_get hp] at h
  injection h with h
  unfold upd
  by_cases hji : j = i
  · subst hji
    rw [if_pos rfl]
    rw [hp] at hy
    injection hy with hy
    rw [if_pos (by omega)] at h
    rw [← h, ← hy]
  · rw [if_neg hji]
    refine nums_get ?_
    rw [mskN_get hp]
    congr 1
    rw [← h]
    by_cases hlt : j < i
    · rw [if_pos hlt, if_pos (by omega)]
    · rw [if_neg hlt, if_neg (by omega)]
theorem take_fin {D : Bs} (j : Nat) (x : SC) (h : ((D.take 20).map SC.w8)[j]? = some x) : bytesF D.length (L D) j = x := by
  rw [List.getElem?_map, Option.map_eq_some_iff] at h
  obtain ⟨b, hb, rfl⟩ := h
  exact bytes_get hb (by rw [List.length_take]; omega) D rfl (fun i hi => by rw [L_take _ _ _ (by rw [List.length_take] at hi; omega)])
theorem mask_fin {P : List (BitVec 64)} {m : Nat} (j : Nat) (x : SC) (h : (((P.take m).map mk62).map SC.w64)[j]? = some x) : numsF (mskN m P) j = x := by
  rw [List.getElem?_map, Option.map_eq_some_iff] at h
  obtain ⟨b, hb, rfl⟩ := h
  rw [List.getElem?_map, Option.map_eq_some_iff] at hb
  obtain ⟨a, ha, rfl⟩ := hb
  rw [List.getElem?_take] at ha
  split at ha
  · rename_i hj
    refine nums_get ?_
    rw [mskN_get ha, if_pos hj]
  · cases ha
set_option maxRecDepth 20000 in
set_option maxHeartbeats 16000000 in
theorem fn_efit11 {W : World} {ms : List Nat} {x : EvC} {e : Ev} (h : EvAt W ms x e) (hn : e.N.length ≤ 1000) (hd : e.D.length ≤ 1000) (hz : 0 < e.N.length) (hy : 0 < e.D.length) (k : BitVec 8) : FnR Try.prog tds 17 1 [[.past W ms]] [.agg (evS e x), .c (.w8 k)] (fun _ => True)
    (fun y hs => ∃ W' ms' x', Later W ms W' ms' ∧ EvAt W' ms' x' (fitE e k) ∧ y = .a (.agg (evS (fitE e k) x')) ∧ hs = [[.past W' ms']]) := by
  refine fn_of_bodyW tds_ok follows_ Try.func17 rfl (t := .a (.agg (evS e x)) :: .a (.c (.w8 k)) :: anys (Try.f17.ntmps - 2)) rfl (fun w r0 hr _ => ?_)
  obtain ⟨x0, rfl⟩ := List.length_eq_one_iff.1 hr
  have hm8 := many_le (kindE k)
  (repeat first | (refine And.intro ?_ ?_; first | exact rfl | ((exact fun h => absurd h (by first | decide)); intro yy; clear yy) | (rotate_left; (exact fun h => absurd h (by first | decide)); intro yy; clear yy) | decide | omega) | (with_reducible refine frc_bytesL (by first | omega | decide) ?_) | (with_reducible refine frc_bytesM (by first | omega | decide) ?_))
  refine call_same (fn_ecl11 h (by omega) (by omega) hz hy) [0] rfl (by (repeat first | exact trivial | refine ent1 ?_)) (by (repeat first | exact trivial | refine ent1 ?_)) (fun _ _ => trivial) ?_
  rintro y hs' ⟨c1, c2, hc1, hc2, rfl, rfl⟩
  (repeat first | (refine And.intro ?_ ?_; first | exact rfl | ((exact fun h => absurd h (by first | decide)); intro yy; clear yy) | (rotate_left; (exact fun h => absurd h (by first | decide)); intro yy; clear yy) | decide | omega) | (with_reducible refine frc_bytesL (by first | omega | decide) ?_) | (with_reducible refine frc_bytesM (by first | omega | decide) ?_))
  refine call_same (fn_many (kindE k) (kindE_ok k)) [] rfl (by (repeat first | exact trivial | refine ent1 ?_)) trivial (fun _ _ => trivial) ?_
  rintro y hs' ⟨rfl, rfl⟩
  (repeat first | (refine And.intro ?_ ?_; first | exact rfl | ((exact fun h => absurd h (by first | decide)); intro yy; clear yy) | (rotate_left; (exact fun h => absurd h (by first | decide)); intro yy; clear yy) | decide | omega) | (with_reducible refine frc_bytesL (by first | omega | decide) ?_) | (with_reducible refine frc_bytesM (by first | omega | decide) ?_))
  refine .inl ⟨List (BitVec 64) × Nat, fun (P, c) => ⟨[.any, .a (.c (.w8 (k))), .a (.c (.p 1 0 0)), .any, .a (.c (.p 2 0 0)), .a (.c (.int .i64 (↑(evNames (kindE k)).length))), .a (.c (.bool ((evData (kindE k))))), .any, .any, .any, .any, .any, .any, .any, .any, .any, .any, .any, .any, .any, .any, .any, .any, .any, .any, .any, .any, .any, .any, .any, .any, .any, .any, .any, .any, .any, .any, .any, .any, .any, .any, .any, .any, .any, .any, .any, .any, .any, .any, .any, .any, .any, .any, .any, .any, .any, .any, .any, .any, .any, .any, .any, .any, .any, .any, .any, .any, .any, .any, .any], [[.past W ms], [.one (.w8 (kindE k)), .one (.w64 (e.t % 1125899906842625#64)), .one (.sl 4 0 0 P.length c), .one (.sl 3 0 0 e.D.length c2)], [.one (.w8 0), .one (.w64 0), .one (.slc none 0 0), .one (.slc none 0 0)], lsC e.D c2, [.row c (numsF P)]]⟩, fun (P, c) => P.length ≤ c ∧ P.length ≤ 1100 ∧ padE P ((evNames (kindE k)).length - P.length) = padE e.N ((evNames (kindE k)).length - e.N.length), fun (P, c) => (evNames (kindE k)).length - P.length, ⟨(e.N, c1), [0, 1, 2, 4, 3], ⟨⟨rfl, rfl, rfl⟩, ?_⟩, hc1, by omega, rfl⟩, fun (P, c) ⟨h1, h2, h3⟩ => ?_⟩
  · (repeat first | exact trivial | refine ent1 ?_)
    exact ⟨fun j hj => eqC_numsM', by (repeat first | exact trivial | refine ent1 ?_)⟩
  refine And.intro (fun hlt => ?_) (fun hge => ?_)
  · have hlt : P.length < (evNames (kindE k)).length := by have : (P.length : Int) < ((evNames (kindE k)).length : Int) := of_decide_eq_true hlt; omega
    (repeat first | (refine And.intro ?_ ?_; first | exact rfl | ((exact fun h => absurd h (by first | decide)); intro yy; clear yy) | (rotate_left; (exact fun h => absurd h (by first | decide)); intro yy; clear yy) | decide | omega) | (with_reducible refine frc_bytesL (by first | omega | decide) ?_) | (with_reducible refine frc_bytesM (by first | omega | decide) ?_))
    refine And.intro ⟨h1, by first | omega | (simp only [scale_eq]; omega), show (P.length + 1) * 8 ≤ 140737488355328 by omega⟩ ?_
    intro c' hc'
    (repeat first | (refine And.intro ?_ ?_; first | exact rfl | ((exact fun h => absurd h (by first | decide)); intro yy; clear yy) | (rotate_left; (exact fun h => absurd h (by first | decide)); intro yy; clear yy) | decide | omega) | (with_reducible refine frc_bytesL (by first | omega | decide) ?_) | (with_reducible refine frc_bytesM (by first | omega | decide) ?_))
    refine ⟨(P ++ [BitVec.ofNat 64 P.length * 7#64], c'), [0, 1, 2, 3, 6], ⟨⟨rfl, rfl, rfl⟩, ?_⟩, ⟨by rw [List.length_append, List.length_singleton]; exact hc', by rw [List.length_append, List.length_singleton]; omega, by rw [← h3]; exact (padE_step hlt).symm⟩, by dsimp only; rw [List.length_append, List.length_singleton]; omega⟩
    (repeat first | exact trivial | refine ent1 ?_)
    refine ⟨by rw [List.length_append, List.length_singleton], ?_⟩
    (repeat first | exact trivial | refine ent1 ?_)
    exact ⟨fun j hj => eqC_nums (app_nums rfl (fun j x h => nums_get h) (congrArg SC.w64 (by rw [BitVec.ofInt_natCast]))) j, by (repeat first | exact trivial | refine ent1 ?_)⟩
  · have hge : (evNames (kindE k)).length ≤ P.length := by have : ¬ (P.length : Int) < ((evNames (kindE k)).length : Int) := of_decide_eq_false hge; omega
    rw [padE_done hge] at h3
    have hT : ((padE e.N ((evNames (kindE k)).length - e.N.length)).take (evNames (kindE k)).length).map mk62 = (P.take (evNames (kindE k)).length).map mk62 := by rw [← h3]
    have hTl : ((P.take (evNames (kindE k)).length).map mk62).length = (evNames (kindE k)).length := by simp only [List.length_map, List.length_take]; omega
    refine And.intro (show (0 : Int) ≤ 0 ∧ (0 : Int) ≤ ((evNames (kindE k)).length : Int) ∧ ((evNames (kindE k)).length : Int) ≤ (c : Int) by omega) ?_
    refine frcN_of (m := 0) rfl ?_
    refine frcN_of (m := (evNames (kindE k)).length) (by omega) ?_
    refine frcN_of (m := 0) (by split <;> omega) ?_
    refine frcN_of (m := (evNames (kindE k)).length) (by omega) ?_
    refine frcN_of (m := c) (by omega) ?_
    (repeat first | (refine And.intro ?_ ?_; first | exact rfl | ((exact fun h => absurd h (by first | decide)); intro yy; clear yy) | (rotate_left; (exact fun h => absurd h (by first | decide)); intro yy; clear yy) | decide | omega) | (with_reducible refine frc_bytesL (by first | omega | decide) ?_) | (with_reducible refine frc_bytesM (by first | omega | decide) ?_))
    refine .inl ⟨Nat, fun i => ⟨[.any, .a (.c (.w8 (k))), .a (.c (.p 1 0 0)), .any, .a (.c (.p 2 0 0)), .a (.c (.int .i64 (↑(evNames (kindE k)).length))), .a (.c (.bool ((evData (kindE k))))), .any, .any, .any, .any, .any, .any, .any, .any, .any, .any, .any, .any, .any, .any, .any, .any, .any, .any, .any, .any, .any, .any, .any, .any, .any, .any, .any, .any, .any, .any, .any, .any, .any, .any, .any, .any, .any, .any, .any, .a (.c (.int .i64 (↑(evNames (kindE k)).length))), .a (.c (.int .i64 (↑i))), .any, .any, .any, .any, .any, .any, .any, .any, .any, .any, .any, .any, .any, .any, .any, .any, .any, .any, .any, .any, .any, .any], [[.past W ms], [.one (.w8 (kindE k)), .one (.w64 (e.t % 1125899906842625#64)), .one (.sl 4 0 0 (evNames (kindE k)).length c), .one (.sl 3 0 0 e.D.length c2)], [.one (.w8 0), .one (.w64 0), .one (.slc none 0 0), .one (.slc none 0 0)], lsC e.D c2, [.row c (numsF (mskN i P))]]⟩, fun i => i ≤ (evNames (kindE k)).length, fun i => (evNames (kindE k)).length - i, ⟨0, [0, 1, 2, 3, 4], ⟨⟨rfl, rfl, rfl⟩, ?_⟩, Nat.zero_le _⟩, fun i hi => And.intro (fun hlt => ?_) (fun hge2 => ?_)⟩
    · (repeat first | exact trivial | refine ent1 ?_)
      exact ⟨fun j hj => by rw [mskN_zero]; exact eqC_numsS, by (repeat first | exact trivial | refine ent1 ?_)⟩
    · have hlt : i < (evNames (kindE k)).length := by have : (i : Int) < ((evNames (kindE k)).length : Int) := of_decide_eq_true hlt; omega
      obtain ⟨y, hy⟩ : ∃ y, P[i]? = some y := ⟨_, List.getElem?_eq_getElem (by omega)⟩
      have hmy : (mskN i P)[(i : Int).toNat + 0]? = some y := by rw [show (i : Int).toNat + 0 = i by omega, mskN_get hy, if_neg (by omega)]
      refine And.intro (show (0 : Int) ≤ (i : Int) ∧ (i : Int) < ((evNames (kindE k)).length : Int) by omega) ?_
      refine And.intro (show (i : Int).toNat + 0 < c by omega) ?_
      refine frc_nums hmy ?_
      refine And.intro (show (0 : Int) ≤ (i : Int) ∧ (i : Int) < ((evNames (kindE k)).length : Int) by omega) ?_
      refine And.intro (show (i : Int).toNat + 0 < c by omega) ?_
      (repeat first | (refine And.intro ?_ ?_; first | exact rfl | ((exact fun h => absurd h (by first | decide)); intro yy; clear yy) | (rotate_left; (exact fun h => absurd h (by first | decide)); intro yy; clear yy) | decide | omega) | (with_reducible refine frc_bytesL (by first | omega | decide) ?_) | (with_reducible refine frc_bytesM (by first | omega | decide) ?_))
      refine ⟨i + 1, [0, 1, 2, 3, 4], ⟨⟨rfl, rfl, rfl⟩, ?_⟩, by omega, by dsimp only; omega⟩
      (repeat first | exact trivial | refine ent1 ?_)
      exact ⟨fun j hj => eqC_nums (fun j x h => by rw [show (i : Int).toNat + 0 = i by omega]; exact msk_step hy j x h) j, by (repeat first | exact trivial | refine ent1 ?_)⟩
    · obtain rfl : i = (evNames (kindE k)).length := by have : ¬ (i : Int) < ((evNames (kindE k)).length : Int) := of_decide_eq_false hge2; omega
      (repeat first | (refine And.intro ?_ ?_; first | exact rfl | ((exact fun h => absurd h (by first | decide)); intro yy; clear yy) | (rotate_left; (exact fun h => absurd h (by first | decide)); intro yy; clear yy) | decide | omega) | (with_reducible refine frc_bytesL (by first | omega | decide) ?_) | (with_reducible refine frc_bytesM (by first | omega | decide) ?_))
      cases hdt : evData (kindE k)
      · refine And.intro (fun _ => ?_) (fun h => absurd h (by decide))
        (repeat first | (refine And.intro ?_ ?_; first | exact rfl | ((exact fun h => absurd h (by first | decide)); intro yy; clear yy) | (rotate_left; (exact fun h => absurd h (by first | decide)); intro yy; clear yy) | decide | omega) | (with_reducible refine frc_bytesL (by first | omega | decide) ?_) | (with_reducible refine frc_bytesM (by first | omega | decide) ?_))
        have hDD : (if evData (kindE k) = true then e.D.take 20 else []) = [] := by rw [hdt]; rfl
        refine finW_frz [0] rfl (Nat.zero_lt_one) cx0_m rfl (fun W' ms' α hL hI => ?_)
        have hfe : fitE e k = ⟨kindE k, e.t % 1125899906842625#64, ((padE e.N ((evNames (kindE k)).length - e.N.length)).take (evNames (kindE k)).length).map mk62, if evData (kindE k) = true then e.D.take 20 else []⟩ := rfl
        refine ⟨.a (.agg (evS (fitE e k) ⟨some ((α 4).add (0 + 0)), (evNames (kindE k)).length, c, none, 0, 0⟩)), [], ⟨⟨rfl, rfl, rfl⟩, ?_⟩, W', ms', ⟨some ((α 4).add (0 + 0)), (evNames (kindE k)).length, c, none, 0, 0⟩, hL, ⟨(by rw [show (fitE e k).N = _ from hT]; exact SlAt.frz (F := fun j => !memB j [0]) (hI 4 rfl) rfl (show (evNames (kindE k)).length ≤ c by omega) (show (evNames (kindE k)).length ≤ 9223372036854775807 by omega) (by decide) (by rw [List.length_map, hTl, Nat.mul_one]) mask_fin (rz_w64 _)), (by rw [show (fitE e k).D = [] from hDD]; exact SlAt.nul)⟩, rfl, rfl⟩
        (repeat first | exact trivial | refine ent1 ?_)
      · refine And.intro (fun h => absurd h (by decide)) (fun _ => ?_)
        have hmin : (if (20 : Int) < (e.D.length : Int) then (20 : Int) else (e.D.length : Int)) = ((e.D.take 20).length : Int) := by rw [List.length_take]; split <;> omega
        have hmle : (e.D.take 20).length ≤ c2 := by rw [List.length_take]; omega
        refine And.intro (show (0 : Int) ≤ 0 ∧ (0 : Int) ≤ (if (20 : Int) < (e.D.length : Int) then (20 : Int) else (e.D.length : Int)) ∧ (if (20 : Int) < (e.D.length : Int) then (20 : Int) else (e.D.length : Int)) ≤ (c2 : Int) by rw [hmin]; omega) ?_
        refine frcN_of (m := 0) rfl ?_
        refine frcN_of (m := (e.D.take 20).length) (by rw [hmin]; rfl) ?_
        refine frcN_of (m := 0) (by split <;> omega) ?_
        refine frcN_of (m := (e.D.take 20).length) (by omega) ?_
        refine frcN_of (m := c2) (by omega) ?_
        (repeat first | (refine And.intro ?_ ?_; first | exact rfl | ((exact fun h => absurd h (by first | decide)); intro yy; clear yy) | (rotate_left; (exact fun h => absurd h (by first | decide)); intro yy; clear yy) | decide | omega) | (with_reducible refine frc_bytesL (by first | omega | decide) ?_) | (with_reducible refine frc_bytesM (by first | omega | decide) ?_))
        have hDD : (if evData (kindE k) = true then e.D.take 20 else []) = e.D.take 20 := by rw [hdt]; rfl
        refine finW_frz [0] rfl (Nat.zero_lt_one) cx0_m rfl (fun W' ms' α hL hI => ?_)
        have hfe : fitE e k = ⟨kindE k, e.t % 1125899906842625#64, ((padE e.N ((evNames (kindE k)).length - e.N.length)).take (evNames (kindE k)).length).map mk62, if evData (kindE k) = true then e.D.take 20 else []⟩ := rfl
        refine ⟨.a (.agg (evS (fitE e k) ⟨some ((α 4).add (0 + 0)), (evNames (kindE k)).length, c, some ((α 3).add (0 + 0)), (e.D.take 20).length, c2⟩)), [], ⟨⟨rfl, rfl, rfl⟩, ?_⟩, W', ms', ⟨some ((α 4).add (0 + 0)), (evNames (kindE k)).length, c, some ((α 3).add (0 + 0)), (e.D.take 20).length, c2⟩, hL, ⟨(by rw [show (fitE e k).N = _ from hT]; exact SlAt.frz (F := fun j => !memB j [0]) (hI 4 rfl) rfl (show (evNames (kindE k)).length ≤ c by omega) (show (evNames (kindE k)).length ≤ 9223372036854775807 by omega) (by decide) (by rw [List.length_map, hTl, Nat.mul_one]) mask_fin (rz_w64 _)), (by rw [show (fitE e k).D = _ from hDD]; exact SlAt.frz (F := fun j => !memB j [0]) (hI 3 rfl) rfl (show (e.D.take 20).length ≤ c2 from hmle) (show (e.D.take 20).length ≤ 9223372036854775807 by rw [List.length_take]; omega) (by decide) (by rw [List.length_map, Nat.mul_one]) take_fin (rz_w8 _))⟩, rfl, rfl⟩
        (repeat first | exact trivial | refine ent1 ?_)
set_option maxRecDepth 20000 in
set_option maxHeartbeats 16000000 in
theorem fn_efit10 {W : World} {ms : List Nat} {x : EvC} {e : Ev} (h : EvAt W ms x e) (hn : e.N.length ≤ 1000) (hd : e.D.length ≤ 1000) (hz : 0 < e.N.length) (hy : e.D.length = 0) (k : BitVec 8) : FnR Try.prog tds 17 1 [[.past W ms]] [.agg (evS e x), .c (.w8 k)] (fun _ => True)
    (fun y hs => ∃ W' ms' x', Later W ms W' ms' ∧ EvAt W' ms' x' (fitE e k) ∧ y = .a (.agg (evS (fitE e k) x')) ∧ hs = [[.past W' ms']]) := by
  refine fn_of_bodyW tds_ok follows_ Try.func17 rfl (t := .a (.agg (evS e x)) :: .a (.c (.w8 k)) :: anys (Try.f17.ntmps - 2)) rfl (fun w r0 hr _ => ?_)
  obtain ⟨x0, rfl⟩ := List.length_eq_one_iff.1 hr
  have hm8 := many_le (kindE k)
  (repeat first | (refine And.intro ?_ ?_; first | exact rfl | ((exact fun h => absurd h (by first | decide)); intro yy; clear yy) | (rotate_left; (exact fun h => absurd h (by first | decide)); intro yy; clear yy) | decide | omega) | (with_reducible refine frc_bytesL (by first | omega | decide) ?_) | (with_reducible refine frc_bytesM (by first | omega | decide) ?_))
  refine call_same (fn_ecl10 h (by omega) (by omega) hz hy) [0] rfl (by (repeat first | exact trivial | refine ent1 ?_)) (by (repeat first | exact trivial | refine ent1 ?_)) (fun _ _ => trivial) ?_
  rintro y hs' ⟨c1, hc1, rfl, rfl⟩
  (repeat first | (refine And.intro ?_ ?_; first | exact rfl | ((exact fun h => absurd h (by first | decide)); intro yy; clear yy) | (rotate_left; (exact fun h => absurd h (by first | decide)); intro yy; clear yy) | decide | omega) | (with_reducible refine frc_bytesL (by first | omega | decide) ?_) | (with_reducible refine frc_bytesM (by first | omega | decide) ?_))
  refine call_same (fn_many (kindE k) (kindE_ok k)) [] rfl (by (repeat first | exact trivial | refine ent1 ?_)) trivial (fun _ _ => trivial) ?_
  rintro y hs' ⟨rfl, rfl⟩
  (repeat first | (refine And.intro ?_ ?_; first | exact rfl | ((exact fun h => absurd h (by first | decide)); intro yy; clear yy) | (rotate_left; (exact fun h => absurd h (by first | decide)); intro yy; clear yy) | decide | omega) | (with_reducible refine frc_bytesL (by first | omega | decide) ?_) | (with_reducible refine frc_bytesM (by first | omega | decide) ?_))
  refine .inl ⟨List (BitVec 64) × Nat, fun (P, c) => ⟨[.any, .a (.c (.w8 (k))), .a (.c (.p 1 0 0)), .any, .a (.c (.p 2 0 0)), .a (.c (.int .i64 (↑(evNames (kindE k)).length))), .a (.c (.bool ((evData (kindE k))))), .any, .any, .any, .any, .any, .any, .any, .any, .any, .any, .any, .any, .any, .any, .any, .any, .any, .any, .any, .any, .any, .any, .any, .any, .any, .any, .any, .any, .any, .any, .any, .any, .any, .any, .any, .any, .any, .any, .any, .any, .any, .any, .any, .any, .any, .any, .any, .any, .any, .any, .any, .any, .any, .any, .any, .any, .any, .any, .any, .any, .any, .any, .any], [[.past W ms], [.one (.w8 (kindE k)), .one (.w64 (e.t % 1125899906842625#64)), .one (.sl 3 0 0 P.length c), .one (.slc none 0 0)], [.one (.w8 0), .one (.w64 0), .one (.slc none 0 0), .one (.slc none 0 0)], [.row c (numsF P)]]⟩, fun (P, c) => P.length ≤ c ∧ P.length ≤ 1100 ∧ padE P ((evNames (kindE k)).length - P.length) = padE e.N ((evNames (kindE k)).length - e.N.length), fun (P, c) => (evNames (kindE k)).length - P.length, ⟨(e.N, c1), [0, 1, 2, 3], ⟨⟨rfl, rfl, rfl⟩, ?_⟩, hc1, by omega, rfl⟩, fun (P, c) ⟨h1, h2, h3⟩ => ?_⟩
  · (repeat first | exact trivial | refine ent1 ?_)
    exact ⟨fun j hj => eqC_numsM', by (repeat first | exact trivial | refine ent1 ?_)⟩
  refine And.intro (fun hlt => ?_) (fun hge => ?_)
  · have hlt : P.length < (evNames (kindE k)).length := by have : (P.length : Int) < ((evNames (kindE k)).length : Int) := of_decide_eq_true hlt; omega
    (repeat first | (refine And.intro ?_ ?_; first | exact rfl | ((exact fun h => absurd h (by first | decide)); intro yy; clear yy) | (rotate_left; (exact fun h => absurd h (by first | decide)); intro yy; clear yy) | decide | omega) | (with_reducible refine frc_bytesL (by first | omega | decide) ?_) | (with_reducible refine frc_bytesM (by first | omega | decide) ?_))
    refine And.intro ⟨h1, by first | omega | (simp only [scale_eq]; omega), show (P.length + 1) * 8 ≤ 140737488355328 by omega⟩ ?_
    intro c' hc'
    (repeat first | (refine And.intro ?_ ?_; first | exact rfl | ((exact fun h => absurd h (by first | decide)); intro yy; clear yy) | (rotate_left; (exact fun h => absurd h (by first | decide)); intro yy; clear yy) | decide | omega) | (with_reducible refine frc_bytesL (by first | omega | decide) ?_) | (with_reducible refine frc_bytesM (by first | omega | decide) ?_))
    refine ⟨(P ++ [BitVec.ofNat 64 P.length * 7#64], c'), [0, 1, 2, 5], ⟨⟨rfl, rfl, rfl⟩, ?_⟩, ⟨by rw [List.length_append, List.length_singleton]; exact hc', by rw [List.length_append, List.length_singleton]; omega, by rw [← h3]; exact (padE_step hlt).symm⟩, by dsimp only; rw [List.length_append, List.length_singleton]; omega⟩
    (repeat first | exact trivial | refine ent1 ?_)
    refine ⟨by rw [List.length_append, List.length_singleton], ?_⟩
    (repeat first | exact trivial | refine ent1 ?_)
    exact ⟨fun j hj => eqC_nums (app_nums rfl (fun j x h => nums_get h) (congrArg SC.w64 (by rw [BitVec.ofInt_natCast]))) j, by (repeat first | exact trivial | refine ent1 ?_)⟩
  · have hge : (evNames (kindE k)).length ≤ P.length := by have : ¬ (P.length : Int) < ((evNames (kindE k)).length : Int) := of_decide_eq_false hge; omega
    rw [padE_done hge] at h3
    have hT : ((padE e.N ((evNames (kindE k)).length - e.N.length)).take (evNames (kindE k)).length).map mk62 = (P.take (evNames (kindE k)).length).map mk62 := by rw [← h3]
    have hTl : ((P.take (evNames (kindE k)).length).map mk62).length = (evNames (kindE k)).length := by simp only [List.length_map, List.length_take]; omega
    refine And.intro (show (0 : Int) ≤ 0 ∧ (0 : Int) ≤ ((evNames (kindE k)).length : Int) ∧ ((evNames (kindE k)).length : Int) ≤ (c : Int) by omega) ?_
    refine frcN_of (m := 0) rfl ?_
    refine frcN_of (m := (evNames (kindE k)).length) (by omega) ?_
    refine frcN_of (m := 0) (by split <;> omega) ?_
    refine frcN_of (m := (evNames (kindE k)).length) (by omega) ?_
    refine frcN_of (m := c) (by omega) ?_
    (repeat first | (refine And.intro ?_ ?_; first | exact rfl | ((exact fun h => absurd h (by first | decide)); intro yy; clear yy) | (rotate_left; (exact fun h => absurd h (by first | decide)); intro yy; clear yy) | decide | omega) | (with_reducible refine frc_bytesL (by first | omega | decide) ?_) | (with_reducible refine frc_bytesM (by first | omega | decide) ?_))
    refine .inl ⟨Nat, fun i => ⟨[.any, .a (.c (.w8 (k))), .a (.c (.p 1 0 0)), .any, .a (.c (.p 2 0 0)), .a (.c (.int .i64 (↑(evNames (kindE k)).length))), .a (.c (.bool ((evData (kindE k))))), .any, .any, .any, .any, .any, .any, .any, .any, .any, .any, .any, .any, .any, .any, .any, .any, .any, .any, .any, .any, .any, .any, .any, .any, .any, .any, .any, .any, .any, .any, .any, .any, .any, .any, .any, .any, .any, .any, .any, .a (.c (.int .i64 (↑(evNames (kindE k)).length))), .a (.c (.int .i64 (↑i))), .any, .any, .any, .any, .any, .any, .any, .any, .any, .any, .any, .any, .any, .any, .any, .any, .any, .any, .any, .any, .any, .any], [[.past W ms], [.one (.w8 (kindE k)), .one (.w64 (e.t % 1125899906842625#64)), .one (.sl 3 0 0 (evNames (kindE k)).length c), .one (.slc none 0 0)], [.one (.w8 0), .one (.w64 0), .one (.slc none 0 0), .one (.slc none 0 0)], [.row c (numsF (mskN i P))]]⟩, fun i => i ≤ (evNames (kindE k)).length, fun i => (evNames (kindE k)).length - i, ⟨0, [0, 1, 2, 3], ⟨⟨rfl, rfl, rfl⟩, ?_⟩, Nat.zero_le _⟩, fun i hi => And.intro (fun hlt => ?_) (fun hge2 => ?_)⟩
    · (repeat first | exact trivial | refine ent1 ?_)
      exact ⟨fun j hj => by rw [mskN_zero]; exact eqC_numsS, by (repeat first | exact trivial | refine ent1 ?_)⟩
    · have hlt : i < (evNames (kindE k)).length := by have : (i : Int) < ((evNames (kindE k)).length : Int) := of_decide_eq_true hlt; omega
      obtain ⟨y, hy⟩ : ∃ y, P[i]? = some y := ⟨_, List.getElem?_eq_getElem (by omega)⟩
      have hmy : (mskN i P)[(i : Int).toNat + 0]? = some y := by rw [show (i : Int).toNat + 0 = i by omega, mskN_get hy, if_neg (by omega)]
      refine And.intro (show (0 : Int) ≤ (i : Int) ∧ (i : Int) < ((evNames (kindE k)).length : Int) by omega) ?_
      refine And.intro (show (i : Int).toNat + 0 < c by omega) ?_
      refine frc_nums hmy ?_
      refine And.intro (show (0 : Int) ≤ (i : Int) ∧ (i : Int) < ((evNames (kindE k)).length : Int) by omega) ?_
      refine And.intro (show (i : Int).toNat + 0 < c by omega) ?_
      (repeat first | (refine And.intro ?_ ?_; first | exact rfl | ((exact fun h => absurd h (by first | decide)); intro yy; clear yy) | (rotate_left; (exact fun h => absurd h (by first | decide)); intro yy; clear yy) | decide | omega) | (with_reducible refine frc_bytesL (by first | omega | decide) ?_) | (with_reducible refine frc_bytesM (by first | omega | decide) ?_))
      refine ⟨i + 1, [0, 1, 2, 3], ⟨⟨rfl, rfl, rfl⟩, ?_⟩, by omega, by dsimp only; omega⟩
      (repeat first | exact trivial | refine ent1 ?_)
      exact ⟨fun j hj => eqC_nums (fun j x h => by rw [show (i : Int).toNat + 0 = i by omega]; exact msk_step hy j x h) j, by (repeat first | exact trivial | refine ent1 ?_)⟩
    · obtain rfl : i = (evNames (kindE k)).length := by have : ¬ (i : Int) < ((evNames (kindE k)).length : Int) := of_decide_eq_false hge2; omega
      (repeat first | (refine And.intro ?_ ?_; first | exact rfl | ((exact fun h => absurd h (by first | decide)); intro yy; clear yy) | (rotate_left; (exact fun h => absurd h (by first | decide)); intro yy; clear yy) | decide | omega) | (with_reducible refine frc_bytesL (by first | omega | decide) ?_) | (with_reducible refine frc_bytesM (by first | omega | decide) ?_))
      cases hdt : evData (kindE k)
      · refine And.intro (fun _ => ?_) (fun h => absurd h (by decide))
        (repeat first | (refine And.intro ?_ ?_; first | exact rfl | ((exact fun h => absurd h (by first | decide)); intro yy; clear yy) | (rotate_left; (exact fun h => absurd h (by first | decide)); intro yy; clear yy) | decide | omega) | (with_reducible refine frc_bytesL (by first | omega | decide) ?_) | (with_reducible refine frc_bytesM (by first | omega | decide) ?_))
        have hDD : (if evData (kindE k) = true then e.D.take 20 else []) = [] := by rw [hdt]; rfl
        refine finW_frz [0] rfl (Nat.zero_lt_one) cx0_m rfl (fun W' ms' α hL hI => ?_)
        have hfe : fitE e k = ⟨kindE k, e.t % 1125899906842625#64, ((padE e.N ((evNames (kindE k)).length - e.N.length)).take (evNames (kindE k)).length).map mk62, if evData (kindE k) = true then e.D.take 20 else []⟩ := rfl
        refine ⟨.a (.agg (evS (fitE e k) ⟨some ((α 3).add (0 + 0)), (evNames (kindE k)).length, c, none, 0, 0⟩)), [], ⟨⟨rfl, rfl, rfl⟩, ?_⟩, W', ms', ⟨some ((α 3).add (0 + 0)), (evNames (kindE k)).length, c, none, 0, 0⟩, hL, ⟨(by rw [show (fitE e k).N = _ from hT]; exact SlAt.frz (F := fun j => !memB j [0]) (hI 3 rfl) rfl (show (evNames (kindE k)).length ≤ c by omega) (show (evNames (kindE k)).length ≤ 9223372036854775807 by omega) (by decide) (by rw [List.length_map, hTl, Nat.mul_one]) mask_fin (rz_w64 _)), (by rw [show (fitE e k).D = [] from hDD]; exact SlAt.nul)⟩, rfl, rfl⟩
        (repeat first | exact trivial | refine ent1 ?_)
      · refine And.intro (fun h => absurd h (by decide)) (fun _ => ?_)
        (repeat first | (refine And.intro ?_ ?_; first | exact rfl | ((exact fun h => absurd h (by first | decide)); intro yy; clear yy) | (rotate_left; (exact fun h => absurd h (by first | decide)); intro yy; clear yy) | decide | omega) | (with_reducible refine frc_bytesL (by first | omega | decide) ?_) | (with_reducible refine frc_bytesM (by first | omega | decide) ?_))
        have hDD : (if evData (kindE k) = true then e.D.take 20 else []) = [] := by rw [hdt, List.eq_nil_of_length_eq_zero hy]; rfl
        refine finW_frz [0] rfl (Nat.zero_lt_one) cx0_m rfl (fun W' ms' α hL hI => ?_)
        have hfe : fitE e k = ⟨kindE k, e.t % 1125899906842625#64, ((padE e.N ((evNames (kindE k)).length - e.N.length)).take (evNames (kindE k)).length).map mk62, if evData (kindE k) = true then e.D.take 20 else []⟩ := rfl
        refine ⟨.a (.agg (evS (fitE e k) ⟨some ((α 3).add (0 + 0)), (evNames (kindE k)).length, c, none, 0, 0⟩)), [], ⟨⟨rfl, rfl, rfl⟩, ?_⟩, W', ms', ⟨some ((α 3).add (0 + 0)), (evNames (kindE k)).length, c, none, 0, 0⟩, hL, ⟨(by rw [show (fitE e k).N = _ from hT]; exact SlAt.frz (F := fun j => !memB j [0]) (hI 3 rfl) rfl (show (evNames (kindE k)).length ≤ c by omega) (show (evNames (kindE k)).length ≤ 9223372036854775807 by omega) (by decide) (by rw [List.length_map, hTl, Nat.mul_one]) mask_fin (rz_w64 _)), (by rw [show (fitE e k).D = [] from hDD]; exact SlAt.nul)⟩, rfl, rfl⟩
        (repeat first | exact trivial | refine ent1 ?_)
set_option maxRecDepth 20000 in
set_option maxHeartbeats 16000000 in
theorem fn_efit01 {W : World} {ms : List Nat} {x : EvC} {e : Ev} (h : EvAt W ms x e) (hn : e.N.length ≤ 1000) (hd : e.D.length ≤ 1000) (hz : e.N.length = 0) (hy : 0 < e.D.length) (k : BitVec 8) : FnR Try.prog tds 17 1 [[.past W ms]] [.agg (evS e x), .c (.w8 k)] (fun _ => True)
    (fun y hs => ∃ W' ms' x', Later W ms W' ms' ∧ EvAt W' ms' x' (fitE e k) ∧ y = .a (.agg (evS (fitE e k) x')) ∧ hs = [[.past W' ms']]) := by
  refine fn_of_bodyW tds_ok follows_ Try.func17 rfl (t := .a (.agg (evS e x)) :: .a (.c (.w8 k)) :: anys (Try.f17.ntmps - 2)) rfl (fun w r0 hr _ => ?_)
  obtain ⟨x0, rfl⟩ := List.length_eq_one_iff.1 hr
  have hm8 := many_le (kindE k)
  (repeat first | (refine And.intro ?_ ?_; first | exact rfl | ((exact fun h => absurd h (by first | decide)); intro yy; clear yy) | (rotate_left; (exact fun h => absurd h (by first | decide)); intro yy; clear yy) | decide | omega) | (with_reducible refine frc_bytesL (by first | omega | decide) ?_) | (with_reducible refine frc_bytesM (by first | omega | decide) ?_))
  refine call_same (fn_ecl01 h (by omega) (by omega) hz hy) [0] rfl (by (repeat first | exact trivial | refine ent1 ?_)) (by (repeat first | exact trivial | refine ent1 ?_)) (fun _ _ => trivial) ?_
  rintro y hs' ⟨c2, hc2, rfl, rfl⟩
  (repeat first | (refine And.intro ?_ ?_; first | exact rfl | ((exact fun h => absurd h (by first | decide)); intro yy; clear yy) | (rotate_left; (exact fun h => absurd h (by first | decide)); intro yy; clear yy) | decide | omega) | (with_reducible refine frc_bytesL (by first | omega | decide) ?_) | (with_reducible refine frc_bytesM (by first | omega | decide) ?_))
  refine call_same (fn_many (kindE k) (kindE_ok k)) [] rfl (by (repeat first | exact trivial | refine ent1 ?_)) trivial (fun _ _ => trivial) ?_
  rintro y hs' ⟨rfl, rfl⟩
  (repeat first | (refine And.intro ?_ ?_; first | exact rfl | ((exact fun h => absurd h (by first | decide)); intro yy; clear yy) | (rotate_left; (exact fun h => absurd h (by first | decide)); intro yy; clear yy) | decide | omega) | (with_reducible refine frc_bytesL (by first | omega | decide) ?_) | (with_reducible refine frc_bytesM (by first | omega | decide) ?_))
  refine .inl ⟨Option (List (BitVec 64) × Nat), fun x => match x with
    | none => ⟨[.any, .a (.c (.w8 (k))), .a (.c (.p 1 0 0)), .any, .a (.c (.p 2 0 0)), .a (.c (.int .i64 (↑(evNames (kindE k)).length))), .a (.c (.bool ((evData (kindE k))))), .any, .any, .any, .any, .any, .any, .any, .any, .any, .any, .any, .any, .any, .any, .any, .any, .any, .any, .any, .any, .any, .any, .any, .any, .any, .any, .any, .any, .any, .any, .any, .any, .any, .any, .any, .any, .any, .any, .any, .any, .any, .any, .any, .any, .any, .any, .any, .any, .any, .any, .any, .any, .any, .any, .any, .any, .any, .any, .any, .any, .any, .any, .any], [[.past W ms], [.one (.w8 (kindE k)), .one (.w64 (e.t % 1125899906842625#64)), .one (.slc none 0 0), .one (.sl 3 0 0 e.D.length c2)], [.one (.w8 0), .one (.w64 0), .one (.slc none 0 0), .one (.slc none 0 0)], lsC e.D c2]⟩
    | some (P, c) => ⟨[.any, .a (.c (.w8 (k))), .a (.c (.p 1 0 0)), .any, .a (.c (.p 2 0 0)), .a (.c (.int .i64 (↑(evNames (kindE k)).length))), .a (.c (.bool ((evData (kindE k))))), .any, .any, .any, .any, .any, .any, .any, .any, .any, .any, .any, .any, .any, .any, .any, .any, .any, .any, .any, .any, .any, .any, .any, .any, .any, .any, .any, .any, .any, .any, .any, .any, .any, .any, .any, .any, .any, .any, .any, .any, .any, .any, .any, .any, .any, .any, .any, .any, .any, .any, .any, .any, .any, .any, .any, .any, .any, .any, .any, .any, .any, .any, .any], [[.past W ms], [.one (.w8 (kindE k)), .one (.w64 (e.t % 1125899906842625#64)), .one (.sl 4 0 0 P.length c), .one (.sl 3 0 0 e.D.length c2)], [.one (.w8 0), .one (.w64 0), .one (.slc none 0 0), .one (.slc none 0 0)], lsC e.D c2, [.row c (numsF P)]]⟩,
    fun x => match x with
    | none => True
    | some (P, c) => P.length ≤ c ∧ P.length ≤ 1100 ∧ padE P ((evNames (kindE k)).length - P.length) = padE e.N ((evNames (kindE k)).length - e.N.length),
    fun x => match x with
    | none => (evNames (kindE k)).length + 1
    | some (P, c) => (evNames (kindE k)).length - P.length, ⟨none, [0, 1, 2, 3], ⟨⟨rfl, rfl, rfl⟩, by (repeat first | exact trivial | refine ent1 ?_)⟩, trivial⟩, fun x hx => ?_⟩
  have hN0 : e.N = [] := List.eq_nil_of_length_eq_zero hz
  rcases x with _ | ⟨P, c⟩
  · refine And.intro (fun hlt => ?_) (fun hge => ?_)
    · have hlt : 0 < (evNames (kindE k)).length := by have : (0 : Int) < ((evNames (kindE k)).length : Int) := of_decide_eq_true hlt; omega
      (repeat first | (refine And.intro ?_ ?_; first | exact rfl | ((exact fun h => absurd h (by first | decide)); intro yy; clear yy) | (rotate_left; (exact fun h => absurd h (by first | decide)); intro yy; clear yy) | decide | omega) | (with_reducible refine frc_bytesL (by first | omega | decide) ?_) | (with_reducible refine frc_bytesM (by first | omega | decide) ?_))
      intro c' hc'
      (repeat first | (refine And.intro ?_ ?_; first | exact rfl | ((exact fun h => absurd h (by first | decide)); intro yy; clear yy) | (rotate_left; (exact fun h => absurd h (by first | decide)); intro yy; clear yy) | decide | omega) | (with_reducible refine frc_bytesL (by first | omega | decide) ?_) | (with_reducible refine frc_bytesM (by first | omega | decide) ?_))
      refine ⟨some ([BitVec.ofNat 64 0 * 7#64], c'), [0, 1, 2, 3, 5], ⟨⟨rfl, rfl, rfl⟩, ?_⟩, ⟨hc', by decide, ?_⟩, by dsimp only; simp only [List.length_singleton]; omega⟩
      · (repeat first | exact trivial | refine ent1 ?_)
        exact ⟨fun j hj => eqC_nums (new_nums rfl) j, by (repeat first | exact trivial | refine ent1 ?_)⟩
      · have := padE_step (P := []) (m := (evNames (kindE k)).length) hlt
        rw [hN0]
        exact this.symm
    · have hge : (evNames (kindE k)).length = 0 := by have : ¬ (0 : Int) < ((evNames (kindE k)).length : Int) := of_decide_eq_false hge; omega
      have hT : ((padE e.N ((evNames (kindE k)).length - e.N.length)).take (evNames (kindE k)).length).map mk62 = [] := by rw [hge]; simp
      refine And.intro (show (0 : Int) ≤ 0 ∧ (0 : Int) ≤ ((evNames (kindE k)).length : Int) ∧ ((evNames (kindE k)).length : Int) ≤ ((0 : Nat) : Int) by omega) ?_
      refine frcN_of (m := 0) rfl ?_
      refine frcN_of (m := 0) (by omega) ?_
      refine frcN_of (m := 0) rfl ?_
      refine frcN_of (m := 0) rfl ?_
      (repeat first | (refine And.intro ?_ ?_; first | exact rfl | ((exact fun h => absurd h (by first | decide)); intro yy; clear yy) | (rotate_left; (exact fun h => absurd h (by first | decide)); intro yy; clear yy) | decide | omega) | (with_reducible refine frc_bytesL (by first | omega | decide) ?_) | (with_reducible refine frc_bytesM (by first | omega | decide) ?_))
      refine .inr ⟨1, ?_⟩
      refine And.intro (fun h => absurd h (by decide)) (fun _ => ?_)
      cases hdt : evData (kindE k)
      · refine And.intro (fun _ => ?_) (fun h => absurd h (by decide))
        (repeat first | (refine And.intro ?_ ?_; first | exact rfl | ((exact fun h => absurd h (by first | decide)); intro yy; clear yy) | (rotate_left; (exact fun h => absurd h (by first | decide)); intro yy; clear yy) | decide | omega) | (with_reducible refine frc_bytesL (by first | omega | decide) ?_) | (with_reducible refine frc_bytesM (by first | omega | decide) ?_))
        have hDD : (if evData (kindE k) = true then e.D.take 20 else []) = [] := by rw [hdt]; rfl
        refine finW_frz [0] rfl (Nat.zero_lt_one) cx0_m rfl (fun W' ms' α hL hI => ?_)
        have hfe : fitE e k = ⟨kindE k, e.t % 1125899906842625#64, ((padE e.N ((evNames (kindE k)).length - e.N.length)).take (evNames (kindE k)).length).map mk62, if evData (kindE k) = true then e.D.take 20 else []⟩ := rfl
        refine ⟨.a (.agg (evS (fitE e k) ⟨none, 0, 0, none, 0, 0⟩)), [], ⟨⟨rfl, rfl, rfl⟩, ?_⟩, W', ms', ⟨none, 0, 0, none, 0, 0⟩, hL, ⟨(by rw [show (fitE e k).N = [] from hT]; exact SlAt.nul), (by rw [show (fitE e k).D = [] from hDD]; exact SlAt.nul)⟩, rfl, rfl⟩
        (repeat first | exact trivial | refine ent1 ?_)
      · refine And.intro (fun h => absurd h (by decide)) (fun _ => ?_)
        have hmin : (if (20 : Int) < (e.D.length : Int) then (20 : Int) else (e.D.length : Int)) = ((e.D.take 20).length : Int) := by rw [List.length_take]; split <;> omega
        have hmle : (e.D.take 20).length ≤ c2 := by rw [List.length_take]; omega
        refine And.intro (show (0 : Int) ≤ 0 ∧ (0 : Int) ≤ (if (20 : Int) < (e.D.length : Int) then (20 : Int) else (e.D.length : Int)) ∧ (if (20 : Int) < (e.D.length : Int) then (20 : Int) else (e.D.length : Int)) ≤ (c2 : Int) by rw [hmin]; omega) ?_
        refine frcN_of (m := 0) rfl ?_
        refine frcN_of (m := (e.D.take 20).length) (by rw [hmin]; rfl) ?_
        refine frcN_of (m := 0) (by split <;> omega) ?_
        refine frcN_of (m := (e.D.take 20).length) (by omega) ?_
        refine frcN_of (m := c2) (by omega) ?_
        (repeat first | (refine And.intro ?_ ?_; first | exact rfl | ((exact fun h => absurd h (by first | decide)); intro yy; clear yy) | (rotate_left; (exact fun h => absurd h (by first | decide)); intro yy; clear yy) | decide | omega) | (with_reducible refine frc_bytesL (by first | omega | decide) ?_) | (with_reducible refine frc_bytesM (by first | omega | decide) ?_))
        have hDD : (if evData (kindE k) = true then e.D.take 20 else []) = e.D.take 20 := by rw [hdt]; rfl
        refine finW_frz [0] rfl (Nat.zero_lt_one) cx0_m rfl (fun W' ms' α hL hI => ?_)
        have hfe : fitE e k = ⟨kindE k, e.t % 1125899906842625#64, ((padE e.N ((evNames (kindE k)).length - e.N.length)).take (evNames (kindE k)).length).map mk62, if evData (kindE k) = true then e.D.take 20 else []⟩ := rfl
        refine ⟨.a (.agg (evS (fitE e k) ⟨none, 0, 0, some ((α 3).add (0 + 0)), (e.D.take 20).length, c2⟩)), [], ⟨⟨rfl, rfl, rfl⟩, ?_⟩, W', ms', ⟨none, 0, 0, some ((α 3).add (0 + 0)), (e.D.take 20).length, c2⟩, hL, ⟨(by rw [show (fitE e k).N = [] from hT]; exact SlAt.nul), (by rw [show (fitE e k).D = _ from hDD]; exact SlAt.frz (F := fun j => !memB j [0]) (hI 3 rfl) rfl (show (e.D.take 20).length ≤ c2 from hmle) (show (e.D.take 20).length ≤ 9223372036854775807 by rw [List.length_take]; omega) (by decide) (by rw [List.length_map, Nat.mul_one]) take_fin (rz_w8 _))⟩, rfl, rfl⟩
        (repeat first | exact trivial | refine ent1 ?_)
  · obtain ⟨h1, h2, h3⟩ := hx
    refine And.intro (fun hlt => ?_) (fun hge => ?_)
    · have hlt : P.length < (evNames (kindE k)).length := by have : (P.length : Int) < ((evNames (kindE k)).length : Int) := of_decide_eq_true hlt; omega
      (repeat first | (refine And.intro ?_ ?_; first | exact rfl | ((exact fun h => absurd h (by first | decide)); intro yy; clear yy) | (rotate_left; (exact fun h => absurd h (by first | decide)); intro yy; clear yy) | decide | omega) | (with_reducible refine frc_bytesL (by first | omega | decide) ?_) | (with_reducible refine frc_bytesM (by first | omega | decide) ?_))
      refine And.intro ⟨h1, by first | omega | (simp only [scale_eq]; omega), show (P.length + 1) * 8 ≤ 140737488355328 by omega⟩ ?_
      intro c' hc'
      (repeat first | (refine And.intro ?_ ?_; first | exact rfl | ((exact fun h => absurd h (by first | decide)); intro yy; clear yy) | (rotate_left; (exact fun h => absurd h (by first | decide)); intro yy; clear yy) | decide | omega) | (with_reducible refine frc_bytesL (by first | omega | decide) ?_) | (with_reducible refine frc_bytesM (by first | omega | decide) ?_))
      refine ⟨some (P ++ [BitVec.ofNat 64 P.length * 7#64], c'), [0, 1, 2, 3, 6], ⟨⟨rfl, rfl, rfl⟩, ?_⟩, ⟨by rw [List.length_append, List.length_singleton]; exact hc', by rw [List.length_append, List.length_singleton]; omega, by rw [← h3]; exact (padE_step hlt).symm⟩, by dsimp only; rw [List.length_append, List.length_singleton]; omega⟩
      (repeat first | exact trivial | refine ent1 ?_)
      refine ⟨by rw [List.length_append, List.length_singleton], ?_⟩
      (repeat first | exact trivial | refine ent1 ?_)
      exact ⟨fun j hj => eqC_nums (app_nums rfl (fun j x h => nums_get h) (congrArg SC.w64 (by rw [BitVec.ofInt_natCast]))) j, by (repeat first | exact trivial | refine ent1 ?_)⟩
    · have hge : (evNames (kindE k)).length ≤ P.length := by have : ¬ (P.length : Int) < ((evNames (kindE k)).length : Int) := of_decide_eq_false hge; omega
      rw [padE_done hge] at h3
      have hT : ((padE e.N ((evNames (kindE k)).length - e.N.length)).take (evNames (kindE k)).length).map mk62 = (P.take (evNames (kindE k)).length).map mk62 := by rw [← h3]
      have hTl : ((P.take (evNames (kindE k)).length).map mk62).length = (evNames (kindE k)).length := by simp only [List.length_map, List.length_take]; omega
      refine And.intro (show (0 : Int) ≤ 0 ∧ (0 : Int) ≤ ((evNames (kindE k)).length : Int) ∧ ((evNames (kindE k)).length : Int) ≤ (c : Int) by omega) ?_
      refine frcN_of (m := 0) rfl ?_
      refine frcN_of (m := (evNames (kindE k)).length) (by omega) ?_
      refine frcN_of (m := 0) (by split <;> omega) ?_
      refine frcN_of (m := (evNames (kindE k)).length) (by omega) ?_
      refine frcN_of (m := c) (by omega) ?_
      (repeat first | (refine And.intro ?_ ?_; first | exact rfl | ((exact fun h => absurd h (by first | decide)); intro yy; clear yy) | (rotate_left; (exact fun h => absurd h (by first | decide)); intro yy; clear yy) | decide | omega) | (with_reducible refine frc_bytesL (by first | omega | decide) ?_) | (with_reducible refine frc_bytesM (by first | omega | decide) ?_))
      refine .inl ⟨Nat, fun i => ⟨[.any, .a (.c (.w8 (k))), .a (.c (.p 1 0 0)), .any, .a (.c (.p 2 0 0)), .a (.c (.int .i64 (↑(evNames (kindE k)).length))), .a (.c (.bool ((evData (kindE k))))), .any, .any, .any, .any, .any, .any, .any, .any, .any, .any, .any, .any, .any, .any, .any, .any, .any, .any, .any, .any, .any, .any, .any, .any, .any, .any, .any, .any, .any, .any, .any, .any, .any, .any, .any, .any, .any, .any, .any, .a (.c (.int .i64 (↑(evNames (kindE k)).length))), .a (.c (.int .i64 (↑i))), .any, .any, .any, .any, .any, .any, .any, .any, .any, .any, .any, .any, .any, .any, .any, .any, .any, .any, .any, .any, .any, .any], [[.past W ms], [.one (.w8 (kindE k)), .one (.w64 (e.t % 1125899906842625#64)), .one (.sl 4 0 0 (evNames (kindE k)).length c), .one (.sl 3 0 0 e.D.length c2)], [.one (.w8 0), .one (.w64 0), .one (.slc none 0 0), .one (.slc none 0 0)], lsC e.D c2, [.row c (numsF (mskN i P))]]⟩, fun i => i ≤ (evNames (kindE k)).length, fun i => (evNames (kindE k)).length - i, ⟨0, [0, 1, 2, 3, 4], ⟨⟨rfl, rfl, rfl⟩, ?_⟩, Nat.zero_le _⟩, fun i hi => And.intro (fun hlt => ?_) (fun hge2 => ?_)⟩
      · (repeat first | exact trivial | refine ent1 ?_)
        exact ⟨fun j hj => by rw [mskN_zero]; exact eqC_numsS, by (repeat first | exact trivial | refine ent1 ?_)⟩
      · have hlt : i < (evNames (kindE k)).length := by have : (i : Int) < ((evNames (kindE k)).length : Int) := of_decide_eq_true hlt; omega
        obtain ⟨y, hy⟩ : ∃ y, P[i]? = some y := ⟨_, List.getElem?_eq_getElem (by omega)⟩
        have hmy : (mskN i P)[(i : Int).toNat + 0]? = some y := by rw [show (i : Int).toNat + 0 = i by omega, mskN_get hy, if_neg (by omega)]
        refine And.intro (show (0 : Int) ≤ (i : Int) ∧ (i : Int) < ((evNames (kindE k)).length : Int) by omega) ?_
        refine And.intro (show (i : Int).toNat + 0 < c by omega) ?_
        refine frc_nums hmy ?_
        refine And.intro (show (0 : Int) ≤ (i : Int) ∧ (i : Int) < ((evNames (kindE k)).length : Int) by omega) ?_
        refine And.intro (show (i : Int).toNat + 0 < c by omega) ?_
        (repeat first | (refine And.intro ?_ ?_; first | exact rfl | ((exact fun h => absurd h (by first | decide)); intro yy; clear yy) | (rotate_left; (exact fun h => absurd h (by first | decide)); intro yy; clear yy) | decide | omega) | (with_reducible refine frc_bytesL (by first | omega | decide) ?_) | (with_reducible refine frc_bytesM (by first | omega | decide) ?_))
        refine ⟨i + 1, [0, 1, 2, 3, 4], ⟨⟨rfl, rfl, rfl⟩, ?_⟩, by omega, by dsimp only; omega⟩
        (repeat first | exact trivial | refine ent1 ?_)
        exact ⟨fun j hj => eqC_nums (fun j x h => by rw [show (i : Int).toNat + 0 = i by omega]; exact msk_step hy j x h) j, by (repeat first | exact trivial | refine ent1 ?_)⟩
      · obtain rfl : i = (evNames (kindE k)).length := by have : ¬ (i : Int) < ((evNames (kindE k)).length : Int) := of_decide_eq_false hge2; omega
        (repeat first | (refine And.intro ?_ ?_; first | exact rfl | ((exact fun h => absurd h (by first | decide)); intro yy; clear yy) | (rotate_left; (exact fun h => absurd h (by first | decide)); intro yy; clear yy) | decide | omega) | (with_reducible refine frc_bytesL (by first | omega | decide) ?_) | (with_reducible refine frc_bytesM (by first | omega | decide) ?_))
        cases hdt : evData (kindE k)
        · refine And.intro (fun _ => ?_) (fun h => absurd h (by decide))
          (repeat first | (refine And.intro ?_ ?_; first | exact rfl | ((exact fun h => absurd h (by first | decide)); intro yy; clear yy) | (rotate_left; (exact fun h => absurd h (by first | decide)); intro yy; clear yy) | decide | omega) | (with_reducible refine frc_bytesL (by first | omega | decide) ?_) | (with_reducible refine frc_bytesM (by first | omega | decide) ?_))
          have hDD : (if evData (kindE k) = true then e.D.take 20 else []) = [] := by rw [hdt]; rfl
          refine finW_frz [0] rfl (Nat.zero_lt_one) cx0_m rfl (fun W' ms' α hL hI => ?_)
          have hfe : fitE e k = ⟨kindE k, e.t % 1125899906842625#64, ((padE e.N ((evNames (kindE k)).length - e.N.length)).take (evNames (kindE k)).length).map mk62, if evData (kindE k) = true then e.D.take 20 else []⟩ := rfl
          refine ⟨.a (.agg (evS (fitE e k) ⟨some ((α 4).add (0 + 0)), (evNames (kindE k)).length, c, none, 0, 0⟩)), [], ⟨⟨rfl, rfl, rfl⟩, ?_⟩, W', ms', ⟨some ((α 4).add (0 + 0)), (evNames (kindE k)).length, c, none, 0, 0⟩, hL, ⟨(by rw [show (fitE e k).N = _ from hT]; exact SlAt.frz (F := fun j => !memB j [0]) (hI 4 rfl) rfl (show (evNames (kindE k)).length ≤ c by omega) (show (evNames (kindE k)).length ≤ 9223372036854775807 by omega) (by decide) (by rw [List.length_map, hTl, Nat.mul_one]) mask_fin (rz_w64 _)), (by rw [show (fitE e k).D = [] from hDD]; exact SlAt.nul)⟩, rfl, rfl⟩
          (repeat first | exact trivial | refine ent1 ?_)
        · refine And.intro (fun h => absurd h (by decide)) (fun _ => ?_)
          have hmin : (if (20 : Int) < (e.D.length : Int) then (20 : Int) else (e.D.length : Int)) = ((e.D.take 20).length : Int) := by rw [List.length_take]; split <;> omega
          have hmle : (e.D.take 20).length ≤ c2 := by rw [List.length_take]; omega
          refine And.intro (show (0 : Int) ≤ 0 ∧ (0 : Int) ≤ (if (20 : Int) < (e.D.length : Int) then (20 : Int) else (e.D.length : Int)) ∧ (if (20 : Int) < (e.D.length : Int) then (20 : Int) else (e.D.length : Int)) ≤ (c2 : Int) by rw [hmin]; omega) ?_
          refine frcN_of (m := 0) rfl ?_
          refine frcN_of (m := (e.D.take 20).length) (by rw [hmin]; rfl) ?_
          refine frcN_of (m := 0) (by split <;> omega) ?_
          refine frcN_of (m := (e.D.take 20).length) (by omega) ?_
          refine frcN_of (m := c2) (by omega) ?_
          (repeat first | (refine And.intro ?_ ?_; first | exact rfl | ((exact fun h => absurd h (by first | decide)); intro yy; clear yy) | (rotate_left; (exact fun h => absurd h (by first | decide)); intro yy; clear yy) | decide | omega) | (with_reducible refine frc_bytesL (by first | omega | decide) ?_) | (with_reducible refine frc_bytesM (by first | omega | decide) ?_))
          have hDD : (if evData (kindE k) = true then e.D.take 20 else []) = e.D.take 20 := by rw [hdt]; rfl
          refine finW_frz [0] rfl (Nat.zero_lt_one) cx0_m rfl (fun W' ms' α hL hI => ?_)
          have hfe : fitE e k = ⟨kindE k, e.t % 1125899906842625#64, ((padE e.N ((evNames (kindE k)).length - e.N.length)).take (evNames (kindE k)).length).map mk62, if evData (kindE k) = true then e.D.take 20 else []⟩ := rfl
          refine ⟨.a (.agg (evS (fitE e k) ⟨some ((α 4).add (0 + 0)), (evNames (kindE k)).length, c, some ((α 3).add (0 + 0)), (e.D.take 20).length, c2⟩)), [], ⟨⟨rfl, rfl, rfl⟩, ?_⟩, W', ms', ⟨some ((α 4).add (0 + 0)), (evNames (kindE k)).length, c, some ((α 3).add (0 + 0)), (e.D.take 20).length, c2⟩, hL, ⟨(by rw [show (fitE e k).N = _ from hT]; exact SlAt.frz (F := fun j => !memB j [0]) (hI 4 rfl) rfl (show (evNames (kindE k)).length ≤ c by omega) (show (evNames (kindE k)).length ≤ 9223372036854775807 by omega) (by decide) (by rw [List.length_map, hTl, Nat.mul_one]) mask_fin (rz_w64 _)), (by rw [show (fitE e k).D = _ from hDD]; exact SlAt.frz (F := fun j => !memB j [0]) (hI 3 rfl) rfl (show (e.D.take 20).length ≤ c2 from hmle) (show (e.D.take 20).length ≤ 9223372036854775807 by rw [List.length_take]; omega) (by decide) (by rw [List.length_map, Nat.mul_one]) take_fin (rz_w8 _))⟩, rfl, rfl⟩
          (repeat first | exact trivial | refine ent1 ?_)
set_option maxRecDepth 20000 in
set_option maxHeartbeats 16000000 in
theorem fn_efit00 {W : World} {ms : List Nat} {x : EvC} {e : Ev} (h : EvAt W ms x e) (hn : e.N.length ≤ 1000) (hd : e.D.length ≤ 1000) (hz : e.N.length = 0) (hy : e.D.length = 0) (k : BitVec 8) : FnR Try.prog tds 17 1 [[.past W ms]] [.agg (evS e x), .c (.w8 k)] (fun _ => True)
    (fun y hs => ∃ W' ms' x', Later W ms W' ms' ∧ EvAt W' ms' x' (fitE e k) ∧ y = .a (.agg (evS (fitE e k) x')) ∧ hs = [[.past W' ms']]) := by
  refine fn_of_bodyW tds_ok follows_ Try.func17 rfl (t := .a (.agg (evS e x)) :: .a (.c (.w8 k)) :: anys (Try.f17.ntmps - 2)) rfl (fun w r0 hr _ => ?_)
  obtain ⟨x0, rfl⟩ := List.length_eq_one_iff.1 hr
  have hm8 := many_le (kindE k)
  (repeat first | (refine And.intro ?_ ?_; first | exact rfl | ((exact fun h => absurd h (by first | decide)); intro yy; clear yy) | (rotate_left; (exact fun h => absurd h (by first | decide)); intro yy; clear yy) | decide | omega) | (with_reducible refine frc_bytesL (by first | omega | decide) ?_) | (with_reducible refine frc_bytesM (by first | omega | decide) ?_))
  refine call_same (fn_ecl00 h (by omega) (by omega) hz hy) [0] rfl (by (repeat first | exact trivial | refine ent1 ?_)) (by (repeat first | exact trivial | refine ent1 ?_)) (fun _ _ => trivial) ?_
  rintro y hs' ⟨rfl, rfl⟩
  (repeat first | (refine And.intro ?_ ?_; first | exact rfl | ((exact fun h => absurd h (by first | decide)); intro yy; clear yy) | (rotate_left; (exact fun h => absurd h (by first | decide)); intro yy; clear yy) | decide | omega) | (with_reducible refine frc_bytesL (by first | omega | decide) ?_) | (with_reducible refine frc_bytesM (by first | omega | decide) ?_))
  refine call_same (fn_many (kindE k) (kindE_ok k)) [] rfl (by (repeat first | exact trivial | refine ent1 ?_)) trivial (fun _ _ => trivial) ?_
  rintro y hs' ⟨rfl, rfl⟩
  (repeat first | (refine And.intro ?_ ?_; first | exact rfl | ((exact fun h => absurd h (by first | decide)); intro yy; clear yy) | (rotate_left; (exact fun h => absurd h (by first | decide)); intro yy; clear yy) | decide | omega) | (with_reducible refine frc_bytesL (by first | omega | decide) ?_) | (with_reducible refine frc_bytesM (by first | omega | decide) ?_))
  refine .inl ⟨Option (List (BitVec 64) × Nat), fun x => match x with
    | none => ⟨[.any, .a (.c (.w8 (k))), .a (.c (.p 1 0 0)), .any, .a (.c (.p 2 0 0)), .a (.c (.int .i64 (↑(evNames (kindE k)).length))), .a (.c (.bool ((evData (kindE k))))), .any, .any, .any, .any, .any, .any, .any, .any, .any, .any, .any, .any, .any, .any, .any, .any, .any, .any, .any, .any, .any, .any, .any, .any, .any, .any, .any, .any, .any, .any, .any, .any, .any, .any, .any, .any, .any, .any, .any, .any, .any, .any, .any, .any, .any, .any, .any, .any, .any, .any, .any, .any, .any, .any, .any, .any, .any, .any, .any, .any, .any, .any, .any], [[.past W ms], [.one (.w8 (kindE k)), .one (.w64 (e.t % 1125899906842625#64)), .one (.slc none 0 0), .one (.slc none 0 0)], [.one (.w8 0), .one (.w64 0), .one (.slc none 0 0), .one (.slc none 0 0)]]⟩
    | some (P, c) => ⟨[.any, .a (.c (.w8 (k))), .a (.c (.p 1 0 0)), .any, .a (.c (.p 2 0 0)), .a (.c (.int .i64 (↑(evNames (kindE k)).length))), .a (.c (.bool ((evData (kindE k))))), .any, .any, .any, .any, .any, .any, .any, .any, .any, .any, .any, .any, .any, .any, .any, .any, .any, .any, .any, .any, .any, .any, .any, .any, .any, .any, .any, .any, .any, .any, .any, .any, .any, .any, .any, .any, .any, .any, .any, .any, .any, .any, .any, .any, .any, .any, .any, .any, .any, .any, .any, .any, .any, .any, .any, .any, .any, .any, .any, .any, .any, .any, .any], [[.past W ms], [.one (.w8 (kindE k)), .one (.w64 (e.t % 1125899906842625#64)), .one (.sl 3 0 0 P.length c), .one (.slc none 0 0)], [.one (.w8 0), .one (.w64 0), .one (.slc none 0 0), .one (.slc none 0 0)], [.row c (numsF P)]]⟩,
    fun x => match x with
    | none => True
    | some (P, c) => P.length ≤ c ∧ P.length ≤ 1100 ∧ padE P ((evNames (kindE k)).length - P.length) = padE e.N ((evNames (kindE k)).length - e.N.length),
    fun x => match x with
    | none => (evNames (kindE k)).length + 1
    | some (P, c) => (evNames (kindE k)).length - P.length, ⟨none, [0, 1, 2], ⟨⟨rfl, rfl, rfl⟩, by (repeat first | exact trivial | refine ent1 ?_)⟩, trivial⟩, fun x hx => ?_⟩
  have hN0 : e.N = [] := List.eq_nil_of_length_eq_zero hz
  rcases x with _ | ⟨P, c⟩
  · refine And.intro (fun hlt => ?_) (fun hge => ?_)
    · have hlt : 0 < (evNames (kindE k)).length := by have : (0 : Int) < ((evNames (kindE k)).length : Int) := of_decide_eq_true hlt; omega
      (repeat first | (refine And.intro ?_ ?_; first | exact rfl | ((exact fun h => absurd h (by first | decide)); intro yy; clear yy) | (rotate_left; (exact fun h => absurd h (by first | decide)); intro yy; clear yy) | decide | omega) | (with_reducible refine frc_bytesL (by first | omega | decide) ?_) | (with_reducible refine frc_bytesM (by first | omega | decide) ?_))
      intro c' hc'
      (repeat first | (refine And.intro ?_ ?_; first | exact rfl | ((exact fun h => absurd h (by first | decide)); intro yy; clear yy) | (rotate_left; (exact fun h => absurd h (by first | decide)); intro yy; clear yy) | decide | omega) | (with_reducible refine frc_bytesL (by first | omega | decide) ?_) | (with_reducible refine frc_bytesM (by first | omega | decide) ?_))
      refine ⟨some ([BitVec.ofNat 64 0 * 7#64], c'), [0, 1, 2, 4], ⟨⟨rfl, rfl, rfl⟩, ?_⟩, ⟨hc', by decide, ?_⟩, by dsimp only; simp only [List.length_singleton]; omega⟩
      · (repeat first | exact trivial | refine ent1 ?_)
        exact ⟨fun j hj => eqC_nums (new_nums rfl) j, by (repeat first | exact trivial | refine ent1 ?_)⟩
      · have := padE_step (P := []) (m := (evNames (kindE k)).length) hlt
        rw [hN0]
        exact this.symm
    · have hge : (evNames (kindE k)).length = 0 := by have : ¬ (0 : Int) < ((evNames (kindE k)).length : Int) := of_decide_eq_false hge; omega
      have hT : ((padE e.N ((evNames (kindE k)).length - e.N.length)).take (evNames (kindE k)).length).map mk62 = [] := by rw [hge]; simp
      refine And.intro (show (0 : Int) ≤ 0 ∧ (0 : Int) ≤ ((evNames (kindE k)).length : Int) ∧ ((evNames (kindE k)).length : Int) ≤ ((0 : Nat) : Int) by omega) ?_
      refine frcN_of (m := 0) rfl ?_
      refine frcN_of (m := 0) (by omega) ?_
      refine frcN_of (m := 0) rfl ?_
      refine frcN_of (m := 0) rfl ?_
      (repeat first | (refine And.intro ?_ ?_; first | exact rfl | ((exact fun h => absurd h (by first | decide)); intro yy; clear yy) | (rotate_left; (exact fun h => absurd h (by first | decide)); intro yy; clear yy) | decide | omega) | (with_reducible refine frc_bytesL (by first | omega | decide) ?_) | (with_reducible refine frc_bytesM (by first | omega | decide) ?_))
      refine .inr ⟨1, ?_⟩
      refine And.intro (fun h => absurd h (by decide)) (fun _ => ?_)
      cases hdt : evData (kindE k)
      · refine And.intro (fun _ => ?_) (fun h => absurd h (by decide))
        (repeat first | (refine And.intro ?_ ?_; first | exact rfl | ((exact fun h => absurd h (by first | decide)); intro yy; clear yy) | (rotate_left; (exact fun h => absurd h (by first | decide)); intro yy; clear yy) | decide | omega) | (with_reducible refine frc_bytesL (by first | omega | decide) ?_) | (with_reducible refine frc_bytesM (by first | omega | decide) ?_))
        have hDD : (if evData (kindE k) = true then e.D.take 20 else []) = [] := by rw [hdt]; rfl
        refine finW_frz [0] rfl (Nat.zero_lt_one) cx0_m rfl (fun W' ms' α hL hI => ?_)
        have hfe : fitE e k = ⟨kindE k, e.t % 1125899906842625#64, ((padE e.N ((evNames (kindE k)).length - e.N.length)).take (evNames (kindE k)).length).map mk62, if evData (kindE k) = true then e.D.take 20 else []⟩ := rfl
        refine ⟨.a (.agg (evS (fitE e k) ⟨none, 0, 0, none, 0, 0⟩)), [], ⟨⟨rfl, rfl, rfl⟩, ?_⟩, W', ms', ⟨none, 0, 0, none, 0, 0⟩, hL, ⟨(by rw [show (fitE e k).N = [] from hT]; exact SlAt.nul), (by rw [show (fitE e k).D = [] from hDD]; exact SlAt.nul)⟩, rfl, rfl⟩
        (repeat first | exact trivial | refine ent1 ?_)
      · refine And.intro (fun h => absurd h (by decide)) (fun _ => ?_)
        (repeat first | (refine And.intro ?_ ?_; first | exact rfl | ((exact fun h => absurd h (by first | decide)); intro yy; clear yy) | (rotate_left; (exact fun h => absurd h (by first | decide)); intro yy; clear yy) | decide | omega) | (with_reducible refine frc_bytesL (by first | omega | decide) ?_) | (with_reducible refine frc_bytesM (by first | omega | decide) ?_))
        have hDD : (if evData (kindE k) = true then e.D.take 20 else []) = [] := by rw [hdt, List.eq_nil_of_length_eq_zero hy]; rfl
        refine finW_frz [0] rfl (Nat.zero_lt_one) cx0_m rfl (fun W' ms' α hL hI => ?_)
        have hfe : fitE e k = ⟨kindE k, e.t % 1125899906842625#64, ((padE e.N ((evNames (kindE k)).length - e.N.length)).take (evNames (kindE k)).length).map mk62, if evData (kindE k) = true then e.D.take 20 else []⟩ := rfl
        refine ⟨.a (.agg (evS (fitE e k) ⟨none, 0, 0, none, 0, 0⟩)), [], ⟨⟨rfl, rfl, rfl⟩, ?_⟩, W', ms', ⟨none, 0, 0, none, 0, 0⟩, hL, ⟨(by rw [show (fitE e k).N = [] from hT]; exact SlAt.nul), (by rw [show (fitE e k).D = [] from hDD]; exact SlAt.nul)⟩, rfl, rfl⟩
        (repeat first | exact trivial | refine ent1 ?_)
  · obtain ⟨h1, h2, h3⟩ := hx
    refine And.intro (fun hlt => ?_) (fun hge => ?_)
    · have hlt : P.length < (evNames (kindE k)).length := by have : (P.length : Int) < ((evNames (kindE k)).length : Int) := of_decide_eq_true hlt; omega
      (repeat first | (refine And.intro ?_ ?_; first | exact rfl | ((exact fun h => absurd h (by first | decide)); intro yy; clear yy) | (rotate_left; (exact fun h => absurd h (by first | decide)); intro yy; clear yy) | decide | omega) | (with_reducible refine frc_bytesL (by first | omega | decide) ?_) | (with_reducible refine frc_bytesM (by first | omega | decide) ?_))
      refine And.intro ⟨h1, by first | omega | (simp only [scale_eq]; omega), show (P.length + 1) * 8 ≤ 140737488355328 by omega⟩ ?_
      intro c' hc'
      (repeat first | (refine And.intro ?_ ?_; first | exact rfl | ((exact fun h => absurd h (by first | decide)); intro yy; clear yy) | (rotate_left; (exact fun h => absurd h (by first | decide)); intro yy; clear yy) | decide | omega) | (with_reducible refine frc_bytesL (by first | omega | decide) ?_) | (with_reducible refine frc_bytesM (by first | omega | decide) ?_))
      refine ⟨some (P ++ [BitVec.ofNat 64 P.length * 7#64], c'), [0, 1, 2, 5], ⟨⟨rfl, rfl, rfl⟩, ?_⟩, ⟨by rw [List.length_append, List.length_singleton]; exact hc', by rw [List.length_append, List.length_singleton]; omega, by rw [← h3]; exact (padE_step hlt).symm⟩, by dsimp only; rw [List.length_append, List.length_singleton]; omega⟩
      (repeat first | exact trivial | refine ent1 ?_)
      refine ⟨by rw [List.length_append, List.length_singleton], ?_⟩
      (repeat first | exact trivial | refine ent1 ?_)
      exact ⟨fun j hj => eqC_nums (app_nums rfl (fun j x h => nums_get h) (congrArg SC.w64 (by rw [BitVec.ofInt_natCast]))) j, by (repeat first | exact trivial | refine ent1 ?_)⟩
    · have hge : (evNames (kindE k)).length ≤ P.length := by have : ¬ (P.length : Int) < ((evNames (kindE k)).length : Int) := of_decide_eq_false hge; omega
      rw [padE_done hge] at h3
      have hT : ((padE e.N ((evNames (kindE k)).length - e.N.length)).take (evNames (kindE k)).length).map mk62 = (P.take (evNames (kindE k)).length).map mk62 := by rw [← h3]
      have hTl : ((P.take (evNames (kindE k)).length).map mk62).length = (evNames (kindE k)).length := by simp only [List.length_map, List.length_take]; omega
      refine And.intro (show (0 : Int) ≤ 0 ∧ (0 : Int) ≤ ((evNames (kindE k)).length : Int) ∧ ((evNames (kindE k)).length : Int) ≤ (c : Int) by omega) ?_
      refine frcN_of (m := 0) rfl ?_
      refine frcN_of (m := (evNames (kindE k)).length) (by omega) ?_
      refine frcN_of (m := 0) (by split <;> omega) ?_
      refine frcN_of (m := (evNames (kindE k)).length) (by omega) ?_
      refine frcN_of (m := c) (by omega) ?_
      (repeat first | (refine And.intro ?_ ?_; first | exact rfl | ((exact fun h => absurd h (by first | decide)); intro yy; clear yy) | (rotate_left; (exact fun h => absurd h (by first | decide)); intro yy; clear yy) | decide | omega) | (with_reducible refine frc_bytesL (by first | omega | decide) ?_) | (with_reducible refine frc_bytesM (by first | omega | decide) ?_))
      refine .inl ⟨Nat, fun i => ⟨[.any, .a (.c (.w8 (k))), .a (.c (.p 1 0 0)), .any, .a (.c (.p 2 0 0)), .a (.c (.int .i64 (↑(evNames (kindE k)).length))), .a (.c (.bool ((evData (kindE k))))), .any, .any, .any, .any, .any, .any, .any, .any, .any, .any, .any, .any, .any, .any, .any, .any, .any, .any, .any, .any, .any, .any, .any, .any, .any, .any, .any, .any, .any, .any, .any, .any, .any, .any, .any, .any, .any, .any, .any, .a (.c (.int .i64 (↑(evNames (kindE k)).length))), .a (.c (.int .i64 (↑i))), .any, .any, .any, .any, .any, .any, .any, .any, .any, .any, .any, .any, .any, .any, .any, .any, .any, .any, .any, .any, .any, .any], [[.past W ms], [.one (.w8 (kindE k)), .one (.w64 (e.t % 1125899906842625#64)), .one (.sl 3 0 0 (evNames (kindE k)).length c), .one (.slc none 0 0)], [.one (.w8 0), .one (.w64 0), .one (.slc none 0 0), .one (.slc none 0 0)], [.row c (numsF (mskN i P))]]⟩, fun i => i ≤ (evNames (kindE k)).length, fun i => (evNames (kindE k)).length - i, ⟨0, [0, 1, 2, 3], ⟨⟨rfl, rfl, rfl⟩, ?_⟩, Nat.zero_le _⟩, fun i hi => And.intro (fun hlt => ?_) (fun hge2 => ?_)⟩
      · (repeat first | exact trivial | refine ent1 ?_)
        exact ⟨fun j hj => by rw [mskN_zero]; exact eqC_numsS, by (repeat first | exact trivial | refine ent1 ?_)⟩
      · have hlt : i < (evNames (kindE k)).length := by have : (i : Int) < ((evNames (kindE k)).length : Int) := of_decide_eq_true hlt; omega
        obtain ⟨y, hy⟩ : ∃ y, P[i]? = some y := ⟨_, List.getElem?_eq_getElem (by omega)⟩
        have hmy : (mskN i P)[(i : Int).toNat + 0]? = some y := by rw [show (i : Int).toNat + 0 = i by omega, mskN_get hy, if_neg (by omega)]
        refine And.intro (show (0 : Int) ≤ (i : Int) ∧ (i : Int) < ((evNames (kindE k)).length : Int) by omega) ?_
        refine And.intro (show (i : Int).toNat + 0 < c by omega) ?_
        refine frc_nums hmy ?_
        refine And.intro (show (0 : Int) ≤ (i : Int) ∧ (i : Int) < ((evNames (kindE k)).length : Int) by omega) ?_
        refine And.intro (show (i : Int).toNat + 0 < c by omega) ?_
        (repeat first | (refine And.intro ?_ ?_; first | exact rfl | ((exact fun h => absurd h (by first | decide)); intro yy; clear yy) | (rotate_left; (exact fun h => absurd h (by first | decide)); intro yy; clear yy) | decide | omega) | (with_reducible refine frc_bytesL (by first | omega | decide) ?_) | (with_reducible refine frc_bytesM (by first | omega | decide) ?_))
        refine ⟨i + 1, [0, 1, 2, 3], ⟨⟨rfl, rfl, rfl⟩, ?_⟩, by omega, by dsimp only; omega⟩
        (repeat first | exact trivial | refine ent1 ?_)
        exact ⟨fun j hj => eqC_nums (fun j x h => by rw [show (i : Int).toNat + 0 = i by omega]; exact msk_step hy j x h) j, by (repeat first | exact trivial | refine ent1 ?_)⟩
      · obtain rfl : i = (evNames (kindE k)).length := by have : ¬ (i : Int) < ((evNames (kindE k)).length : Int) := of_decide_eq_false hge2; omega
        (repeat first | (refine And.intro ?_ ?_; first | exact rfl | ((exact fun h => absurd h (by first | decide)); intro yy; clear yy) | (rotate_left; (exact fun h => absurd h (by first | decide)); intro yy; clear yy) | decide | omega) | (with_reducible refine frc_bytesL (by first | omega | decide) ?_) | (with_reducible refine frc_bytesM (by first | omega | decide) ?_))
        cases hdt : evData (kindE k)
        · refine And.intro (fun _ => ?_) (fun h => absurd h (by decide))
          (repeat first | (refine And.intro ?_ ?_; first | exact rfl | ((exact fun h => absurd h (by first | decide)); intro yy; clear yy) | (rotate_left; (exact fun h => absurd h (by first | decide)); intro yy; clear yy) | decide | omega) | (with_reducible refine frc_bytesL (by first | omega | decide) ?_) | (with_reducible refine frc_bytesM (by first | omega | decide) ?_))
          have hDD : (if evData (kindE k) = true then e.D.take 20 else []) = [] := by rw [hdt]; rfl
          refine finW_frz [0] rfl (Nat.zero_lt_one) cx0_m rfl (fun W' ms' α hL hI => ?_)
          have hfe : fitE e k = ⟨kindE k, e.t % 1125899906842625#64, ((padE e.N ((evNames (kindE k)).length - e.N.length)).take (evNames (kindE k)).length).map mk62, if evData (kindE k) = true then e.D.take 20 else []⟩ := rfl
          refine ⟨.a (.agg (evS (fitE e k) ⟨some ((α 3).add (0 + 0)), (evNames (kindE k)).length, c, none, 0, 0⟩)), [], ⟨⟨rfl, rfl, rfl⟩, ?_⟩, W', ms', ⟨some ((α 3).add (0 + 0)), (evNames (kindE k)).length, c, none, 0, 0⟩, hL, ⟨(by rw [show (fitE e k).N = _ from hT]; exact SlAt.frz (F := fun j => !memB j [0]) (hI 3 rfl) rfl (show (evNames (kindE k)).length ≤ c by omega) (show (evNames (kindE k)).length ≤ 9223372036854775807 by omega) (by decide) (by rw [List.length_map, hTl, Nat.mul_one]) mask_fin (rz_w64 _)), (by rw [show (fitE e k).D = [] from hDD]; exact SlAt.nul)⟩, rfl, rfl⟩
          (repeat first | exact trivial | refine ent1 ?_)
        · refine And.intro (fun h => absurd h (by decide)) (fun _ => ?_)
          (repeat first | (refine And.intro ?_ ?_; first | exact rfl | ((exact fun h => absurd h (by first | decide)); intro yy; clear yy) | (rotate_left; (exact fun h => absurd h (by first | decide)); intro yy; clear yy) | decide | omega) | (with_reducible refine frc_bytesL (by first | omega | decide) ?_) | (with_reducible refine frc_bytesM (by first | omega | decide) ?_))
          have hDD : (if evData (kindE k) = true then e.D.take 20 else []) = [] := by rw [hdt, List.eq_nil_of_length_eq_zero hy]; rfl
          refine finW_frz [0] rfl (Nat.zero_lt_one) cx0_m rfl (fun W' ms' α hL hI => ?_)
          have hfe : fitE e k = ⟨kindE k, e.t % 1125899906842625#64, ((padE e.N ((evNames (kindE k)).length - e.N.length)).take (evNames (kindE k)).length).map mk62, if evData (kindE k) = true then e.D.take 20 else []⟩ := rfl
          refine ⟨.a (.agg (evS (fitE e k) ⟨some ((α 3).add (0 + 0)), (evNames (kindE k)).length, c, none, 0, 0⟩)), [], ⟨⟨rfl, rfl, rfl⟩, ?_⟩, W', ms', ⟨some ((α 3).add (0 + 0)), (evNames (kindE k)).length, c, none, 0, 0⟩, hL, ⟨(by rw [show (fitE e k).N = _ from hT]; exact SlAt.frz (F := fun j => !memB j [0]) (hI 3 rfl) rfl (show (evNames (kindE k)).length ≤ c by omega) (show (evNames (kindE k)).length ≤ 9223372036854775807 by omega) (by decide) (by rw [List.length_map, hTl, Nat.mul_one]) mask_fin (rz_w64 _)), (by rw [show (fitE e k).D = [] from hDD]; exact SlAt.nul)⟩, rfl, rfl⟩
          (repeat first | exact trivial | refine ent1 ?_)
end Sx
end Go.Proofs.Ytdakmieapdpidaa
end

section
/-
  Events that may be, of any: Fit in one; whether events are short (Light). No condition.
-/
namespace Go.Proofs.Ytdakmieapdpidaa
set_option linter.unusedVariables false
namespace Sx
open Go.RowKit Sha Vi Ev

theorem fn_efit {W : World} {ms : List Nat} {x : EvC} {e : Ev} (h : EvAt W ms x e) (hn : e.N.length ≤ 1000) (hd : e.D.length ≤ 1000) (k : BitVec 8) : FnR Try.prog tds 17 1 [[.past W ms]] [.agg (evS e x), .c (.w8 k)] (fun _ => True)
    (fun y hs => ∃ W' ms' x', Later W ms W' ms' ∧ EvAt W' ms' x' (fitE e k) ∧ y = .a (.agg (evS (fitE e k) x')) ∧ hs = [[.past W' ms']]) := by
  rcases Nat.eq_zero_or_pos e.N.length with hz | hz <;> rcases Nat.eq_zero_or_pos e.D.length with hy | hy
  · exact fn_efit00 h hn hd hz hy k
  · exact fn_efit01 h hn hd hz hy k
  · exact fn_efit10 h hn hd hz hy k
  · exact fn_efit11 h hn hd hz hy k
/-- Events in a row that nobody turns. -/
structure EvsAt (W : World) (ms : List Nat) (a : Option Addr) (n c : Nat) (es : List Ev) : Prop where
  len : es.length = n
  le : n ≤ c
  cap : n ≤ 9223372036854775807
  nil : a = none → c = 0
  elt : ∀ A, a = some A → ∀ k e, es[k]? = some e → ∃ x, ImAt W ms (A.add (k * 4)) (flat (evS e x)) ∧ EvAt W ms x e
theorem EvsAt.later {W W' : World} {ms ms' : List Nat} {a : Option Addr} {n c : Nat} {es : List Ev} (h : EvsAt W ms a n c es) (k : Later W ms W' ms') : EvsAt W' ms' a n c es :=
  ⟨h.len, h.le, h.cap, h.nil, fun A ha j e he => let ⟨x, h1, h2⟩ := h.elt A ha j e he; ⟨x, h1.later k, h2.later k⟩⟩
def lightE (es : List Ev) : Bool := decide (∀ e ∈ es, e.N.length ≤ 30 ∧ e.D.length ≤ 100) && decide (es.length ≤ 60)
set_option maxRecDepth 20000 in
set_option maxHeartbeats 8000000 in
theorem fn_light {W : World} {ms : List Nat} {a : Option Addr} {n c : Nat} {es : List Ev} (h : EvsAt W ms a n c es) : FnR Try.prog tds 8 1 [[.past W ms]] [.c (.slc a n c)] (fun _ => True)
    (fun y hs => y = .a (.c (.bool (lightE es))) ∧ hs = [[.past W ms]]) := by
  have hl := h.len
  have hcap := h.cap
  refine fn_of_body tds_ok follows_ Try.func8 rfl (t := .a (.c (.slc a n c)) :: anys (Try.f8.ntmps - 1)) rfl (fun w r0 hr _ => ?_)
  obtain ⟨x0, rfl⟩ := List.length_eq_one_iff.1 hr
  (repeat first | (refine And.intro ?_ ?_; first | exact rfl | ((exact fun h => absurd h (by first | decide)); intro yy; clear yy) | (rotate_left; (exact fun h => absurd h (by first | decide)); intro yy; clear yy) | decide | omega) | (with_reducible refine frc_bytesL (by first | omega | decide) ?_) | (with_reducible refine frc_bytesM (by first | omega | decide) ?_))
  refine .inl ⟨Nat, fun i => ⟨[.a (.c (.slc a n c)), .any, .any, .any, .any, .a (.c (.slc a n c)), .a (.c (.int .i64 (↑n))), .a (.c (.int .i64 (↑i))), .any, .any, .any, .any, .any, .any, .any, .any, .any, .any, .any, .any, .any, .any, .any, .any, .any], [[.past W ms]]⟩, fun i => i ≤ n ∧ ∀ j e, j < i → es[j]? = some e → e.N.length ≤ 30 ∧ e.D.length ≤ 100, fun i => n - i, ⟨0, [0], ⟨⟨rfl, rfl, rfl⟩, by (repeat first | exact trivial | refine ent1 ?_)⟩, Nat.zero_le _, fun j e hj => absurd hj (Nat.not_lt_zero _)⟩, fun i ⟨hi, hall⟩ => And.intro (fun hlt => ?_) (fun hge => ?_)⟩
  · have hlt : i < n := by have : (i : Int) < (n : Int) := of_decide_eq_true hlt; omega
    obtain ⟨e, he⟩ : ∃ e, es[i]? = some e := ⟨_, List.getElem?_eq_getElem (by omega)⟩
    cases ha : a with
    | none => have := h.nil ha; have := h.le; omega
    | some A =>
    obtain ⟨x, him, hx⟩ := h.elt A ha i e he
    have hnN := hx.nN
    have hnD := hx.nD
    obtain ⟨aN, nN, cN, aD, nD, cD⟩ := x
    dsimp only at hnN hnD
    subst hnN; subst hnD
    subst ha
    refine And.intro (show (0 : Int) ≤ (i : Int) ∧ (i : Int) < (n : Int) by omega) ?_
    refine ⟨evS e ⟨aN, e.N.length, cN, aD, e.D.length, cD⟩, ⟨RawAt.past (i := 0) rfl him, rfl⟩, ?_⟩
    by_cases h1 : 30 < e.N.length
    · have e1 : decide ((30 : Int) < (e.N.length : Int)) = true := decide_eq_true (by omega)
      (repeat first | (refine And.intro ?_ ?_; first | exact rfl | ((exact fun h => absurd h (by first | decide | (rw [e1]; decide))); intro yy; clear yy) | (rotate_left; (exact fun h => absurd h (by first | decide | (rw [e1]; decide))); intro yy; clear yy) | decide | omega) | (with_reducible refine frc_bytesL (by first | omega | decide) ?_) | (with_reducible refine frc_bytesM (by first | omega | decide) ?_))
      refine ⟨.a (.c (.bool (lightE es))), [[.past W ms]], ⟨[0], ⟨rfl, rfl, rfl⟩, ?_⟩, rfl, rfl⟩
      have : lightE es = false := by
        unfold lightE
        rw [decide_eq_false (fun hc => by have := (hc e (List.mem_of_getElem? he)).1; omega)]; rfl
      rw [this]
      (repeat first | exact trivial | refine ent1 ?_)
    have e1 : decide ((30 : Int) < (e.N.length : Int)) = false := decide_eq_false (by omega)
    by_cases h2 : 100 < e.D.length
    · have e2 : decide ((100 : Int) < (e.D.length : Int)) = true := decide_eq_true (by omega)
      (repeat first | (refine And.intro ?_ ?_; first | exact rfl | ((exact fun h => absurd h (by first | decide | (rw [e1]; decide) | (rw [e2]; decide))); intro yy; clear yy) | (rotate_left; (exact fun h => absurd h (by first | decide | (rw [e1]; decide) | (rw [e2]; decide))); intro yy; clear yy) | decide | omega) | (with_reducible refine frc_bytesL (by first | omega | decide) ?_) | (with_reducible refine frc_bytesM (by first | omega | decide) ?_))
      refine ⟨.a (.c (.bool (lightE es))), [[.past W ms]], ⟨[0], ⟨rfl, rfl, rfl⟩, ?_⟩, rfl, rfl⟩
      have : lightE es = false := by
        unfold lightE
        rw [decide_eq_false (fun hc => by have := (hc e (List.mem_of_getElem? he)).2; omega)]; rfl
      rw [this]
      (repeat first | exact trivial | refine ent1 ?_)
    have e2 : decide ((100 : Int) < (e.D.length : Int)) = false := decide_eq_false (by omega)
    (repeat first | (refine And.intro ?_ ?_; first | exact rfl | ((exact fun h => absurd h (by first | decide | (rw [e1]; decide) | (rw [e2]; decide))); intro yy; clear yy) | (rotate_left; (exact fun h => absurd h (by first | decide | (rw [e1]; decide) | (rw [e2]; decide))); intro yy; clear yy) | decide | omega) | (with_reducible refine frc_bytesL (by first | omega | decide) ?_) | (with_reducible refine frc_bytesM (by first | omega | decide) ?_))
    refine ⟨i + 1, [0], ⟨⟨rfl, rfl, rfl⟩, by (repeat first | exact trivial | refine ent1 ?_)⟩, ⟨by omega, fun j e' hj he' => ?_⟩, by dsimp only; omega⟩
    by_cases hji : j = i
    · subst hji; rw [he] at he'; injection he' with he'; subst he'; omega
    · exact hall j e' (by omega) he'
  · have hge : i = n := by have : ¬ (i : Int) < (n : Int) := of_decide_eq_false hge; omega
    subst hge
    have h1 : lightE es = decide (es.length ≤ 60) := by
      unfold lightE
      rw [decide_eq_true (fun e he => by
        obtain ⟨j, hj, rfl⟩ := List.mem_iff_getElem.1 he
        exact hall j _ (by omega) (List.getElem?_eq_getElem hj))]
      rfl
    have h2 : decide (es.length ≤ 60) = decide ((i : Int) ≤ 60) := by
      rw [hl]
      exact decide_eq_decide.2 (by omega)
    (repeat first | (refine And.intro ?_ ?_; first | exact rfl | ((exact fun h => absurd h (by first | decide)); intro yy; clear yy) | (rotate_left; (exact fun h => absurd h (by first | decide)); intro yy; clear yy) | decide | omega) | (with_reducible refine frc_bytesL (by first | omega | decide) ?_) | (with_reducible refine frc_bytesM (by first | omega | decide) ?_))
    refine ⟨.a (.c (.bool (lightE es))), [[.past W ms]], ⟨[0], ⟨rfl, rfl, rfl⟩, ?_⟩, rfl, rfl⟩
    rw [h1, h2]
    (repeat first | exact trivial | refine ent1 ?_)
end Sx
end Go.Proofs.Ytdakmieapdpidaa
end

section
/-
  Events that may be, times rising, of any: binnaclelaw24.Row. No condition.
-/
namespace Go.Proofs.Ytdakmieapdpidaa
set_option linter.unusedVariables false
namespace Ev
def keyE (ks : Sha.Bs) (i : Nat) : BitVec 8 := if i < ks.length then Sha.L ks i else BitVec.ofNat 8 i
def fit2E (e : Ev) (k : BitVec 8) : Ev := if (fitE e k).k = 19#8 then fitE (fitE e k) 0#8 else fitE e k
def atE (t : BitVec 64) (e : Ev) : BitVec 64 := if 1125899906842624#64 < t + e.t % 100000#64 then 1125899906842624#64 else t + e.t % 100000#64
def rowE (ks : Sha.Bs) : List Ev → Nat → BitVec 64 → List Ev
  | [], _, _ => []
  | e :: r, i, t => ⟨(fit2E e (keyE ks i)).k, atE t (fit2E e (keyE ks i)), (fit2E e (keyE ks i)).N, (fit2E e (keyE ks i)).D⟩ :: rowE ks r (i + 1) (atE t (fit2E e (keyE ks i)))
theorem rowE_len (ks : Sha.Bs) : ∀ (l : List Ev) (i : Nat) (t : BitVec 64), (rowE ks l i t).length = l.length
  | [], _, _ => rfl
  | e :: r, i, t => by rw [rowE, List.length_cons, rowE_len ks r]; rfl
theorem fitE_short (e : Ev) (k : BitVec 8) (hd : e.D.length ≤ 1000) : (fitE e k).N.length ≤ 8 ∧ (fitE e k).D.length ≤ 20 := by
  have := many_le (kindE k)
  refine ⟨?_, ?_⟩
  · show (((padE e.N _).take _).map mk62).length ≤ 8
    rw [List.length_map, List.length_take]; omega
  · show (if evData (kindE k) = true then e.D.take 20 else []).length ≤ 20
    split
    · rw [List.length_take]; omega
    · decide
end Ev
namespace Sx
open Go.RowKit Sha Vi Ev

theorem eqC_raw {q : List Nat} : ∀ {x : SC}, x.raw = x → eqC q x x True
  | .any, _ => trivial
  | .int k n, _ => by cases k <;> exact ⟨rfl, trivial⟩
  | .w8 _, _ => ⟨rfl, trivial⟩
  | .w16 _, _ => ⟨rfl, trivial⟩
  | .w32 _, _ => ⟨rfl, trivial⟩
  | .w64 _, _ => ⟨rfl, trivial⟩
  | .bool _, _ => ⟨rfl, trivial⟩
  | .str _, _ => ⟨rfl, trivial⟩
  | .p .., h => by cases h
  | .sl .., h => by cases h
  | .ptr _, _ => ⟨rfl, trivial⟩
  | .slc .., _ => ⟨rfl, trivial⟩
  | .ifc .., _ => ⟨rfl, trivial⟩
  | .nilIfc, _ => trivial
  | .fnv .., _ => ⟨rfl, trivial⟩
  | .clo .., h => by cases h
  | .nilFn, _ => trivial
  | .nilMap, _ => trivial
  | .sn .., h => by cases h
  | .mh _, h => by cases h
  | .cap .., h => by cases h
/-- The cells of events that a row of one's own holds. -/
structure RowAt (W : World) (ms : List Nat) (cs : List SC) (es : List Ev) : Prop where
  len : cs.length = es.length * 4
  raw : ∀ x ∈ cs, x.raw = x
  elt : ∀ k e, es[k]? = some e → ∃ x, (∀ i y, (flat (evS e x))[i]? = some y → cs[k * 4 + i]? = some y) ∧ EvAt W ms x e
theorem RowAt.later {W W' : World} {ms ms' : List Nat} {cs : List SC} {es : List Ev} (h : RowAt W ms cs es) (k : Later W ms W' ms') : RowAt W' ms' cs es :=
  ⟨h.len, h.raw, fun j e he => let ⟨x, h1, h2⟩ := h.elt j e he; ⟨x, h1, h2.later k⟩⟩
theorem RowAt.nil {W : World} {ms : List Nat} : RowAt W ms [] [] := ⟨rfl, (fun x hx => nomatch hx), fun k e h => by simp at h⟩
theorem RowAt.snoc {W : World} {ms : List Nat} {cs : List SC} {es : List Ev} {e : Ev} {x : EvC} (h : RowAt W ms cs es) (hx : EvAt W ms x e) : RowAt W ms (cs ++ flat (evS e x)) (es ++ [e]) := by
  have hl := h.len
  refine ⟨by rw [List.length_append, hl, List.length_append, List.length_singleton]; show _ + 4 = _; omega, fun y hy => ?_, fun k e' he => ?_⟩
  · rcases List.mem_append.1 hy with hy | hy
    · exact h.raw y hy
    · simp only [flat, List.mem_cons, List.not_mem_nil, or_false] at hy
      rcases hy with rfl | rfl | rfl | rfl <;> rfl
  · rcases Nat.lt_or_ge k es.length with hk | hk
    · rw [List.getElem?_append_left hk] at he
      obtain ⟨z, h1, h2⟩ := h.elt k e' he
      refine ⟨z, fun i y hy => ?_, h2⟩
      have hi := (List.getElem?_eq_some_iff.1 hy).1
      have h4 : (flat (evS e' z)).length = 4 := rfl
      rw [List.getElem?_append_left (by omega)]
      exact h1 i y hy
    · rw [List.getElem?_append_right hk] at he
      have hk0 : k - es.length = 0 := by
        rcases Nat.eq_zero_or_pos (k - es.length) with h1 | h1
        · exact h1
        · rw [List.getElem?_eq_none (by simp; omega)] at he; cases he
      rw [hk0] at he
      injection he with he
      subst he
      refine ⟨x, fun i y hy => ?_, hx⟩
      rw [List.getElem?_append_right (by omega), show k * 4 + i - cs.length = i by omega]
      exact hy
theorem sc4 (n : Nat) : scale n (3 + 1) = n * 4 := scale_eq _ _
theorem nthC_app_l {l m : List SC} {j : Nat} (h : j < l.length) : nthC (l ++ m) j = nthC l j := nthC_get? (by
  rw [List.getElem?_append_left h]
  have : ∀ (l : List SC) (j : Nat), j < l.length → l[j]? = some (nthC l j) := by
    intro l
    induction l with
    | nil => intro j h; simp at h
    | cons x l ih => intro j h; cases j with
      | zero => rfl
      | succ j => rw [List.getElem?_cons_succ]; exact ih j (by simpa using h)
  exact this l j h)
theorem nthC_app_r {l m : List SC} {j : Nat} (h : l.length ≤ j) : nthC (l ++ m) j = nthC m (j - l.length) := by
  induction l generalizing j with
  | nil => rfl
  | cons x l ih =>
    cases j with
    | zero => simp at h
    | succ j =>
      show nthC (l ++ m) j = _
      rw [ih (by simpa using h), List.length_cons, show j + 1 - (l.length + 1) = j - l.length by omega]
theorem nthC_out {l : List SC} {j : Nat} (h : l.length ≤ j) : nthC l j = .any := by
  induction l generalizing j with
  | nil => rfl
  | cons x l ih => cases j with
    | zero => simp at h
    | succ j => exact ih (by simpa using h)
theorem nthC_mem {l : List SC} {j : Nat} (h : j < l.length) : nthC l j ∈ l := by
  induction l generalizing j with
  | nil => simp at h
  | cons x l ih => cases j with
    | zero => exact List.mem_cons_self ..
    | succ j => exact List.mem_cons_of_mem _ (ih (by simpa using h))
/-- A row of raw cells. -/
theorem eqC_cs {q : List Nat} {cs : List SC} (h : ∀ x ∈ cs, x.raw = x) {f : Nat → SC} (hf : ∀ j, j < cs.length → f j = nthC cs j) (j : Nat) : eqC q (f j) (nthC cs j) True := by
  rcases Nat.lt_or_ge j cs.length with hj | hj
  · rw [hf j hj]; exact eqC_raw (h _ (nthC_mem hj))
  · rw [nthC_out hj]; trivial
theorem mp_raw {g : Nat → Nat} {x : SC} (h : x.raw = x) : SC.mp g x = x := by
  cases x <;> simp only [SC.raw] at h <;> first | rfl | cases h
theorem app_cs {cs new : List SC} {n : Nat} {f g : Nat → SC} (hn : cs.length = n * 4) (hf : ∀ j, j < cs.length → f j = nthC cs j) (hw : new.length = 4) (hg : ∀ j, j < 4 → g j = nthC new j) (j : Nat) (hj : j < (cs ++ new).length) : appF f 0 (scale n (3 + 1)) (scale 1 (3 + 1)) g j = nthC (cs ++ new) j := by
  rw [List.length_append] at hj
  unfold appF
  rw [sc4, sc4]
  by_cases h : j < n * 4
  · rw [if_pos h, Nat.add_zero, hf j (by omega), nthC_app_l (by omega)]
  · rw [if_neg h, if_pos (by omega), hg _ (by omega), nthC_app_r (by omega), hn]
theorem new_cs {new : List SC} {g : Nat → SC} (hw : new.length = 4) (hg : ∀ j, j < 4 → g j = nthC new j) (j : Nat) (hj : j < new.length) : newF (scale 1 (3 + 1)) g j = nthC new j := by
  rw [newF_lt (by rw [sc4]; omega), hg j (by omega)]
theorem updN_new {f : Nat → SC} {new : List SC} {j : Nat} (hj : j < 4) : updN f 0 4 (nthC new) (j + 0) = nthC new j := by
  unfold updN
  rw [if_pos ⟨Nat.zero_le _, by omega⟩]; rfl
set_option maxRecDepth 20000 in
set_option maxHeartbeats 16000000 in
theorem fn_erow {W : World} {ms : List Nat} {a : Option Addr} {n c : Nat} {es : List Ev} (h : EvsAt W ms a n c es) {aK : Option Addr} {nK cK : Nat} {ks : Bs} (hK : BsAt W ms aK nK cK ks) (hl : ∀ e ∈ es, e.N.length ≤ 30 ∧ e.D.length ≤ 100) (hn60 : n ≤ 60) (hn0 : 0 < n) :
    FnR Try.prog tds 9 1 [[.past W ms]] [.c (.slc a n c), .c (.slc aK nK cK)] (fun _ => True)
    (fun y hs => ∃ W' ms' cs c', Later W ms W' ms' ∧ RowAt W' ms' cs (rowE ks es 0 0#64) ∧ n ≤ c' ∧ y = .a (.c (.sl 1 0 0 n c')) ∧ hs = [[.past W' ms'], [.row (scale c' (3 + 1)) (nthC cs)]]) := by
  have hlen := h.len
  have hkl := hK.n1
  refine fn_of_body tds_ok follows_ Try.func9 rfl (t := .a (.c (.slc a n c)) :: .a (.c (.slc aK nK cK)) :: anys (Try.f9.ntmps - 2)) rfl (fun w r0 hr _ => ?_)
  obtain ⟨x0, rfl⟩ := List.length_eq_one_iff.1 hr
  cases ha : a with
  | none => have := h.nil ha; have := h.le; omega
  | some A =>
  subst ha
  (repeat first | (refine And.intro ?_ ?_; first | exact rfl | ((exact fun h => absurd h (by first | decide)); intro yy; clear yy) | (rotate_left; (exact fun h => absurd h (by first | decide)); intro yy; clear yy) | decide | omega) | (with_reducible refine frc_bytesL (by first | omega | decide) ?_) | (with_reducible refine frc_bytesM (by first | omega | decide) ?_))
  refine .inl ⟨Option (Nat × List Ev × List SC × Nat × BitVec 64 × World × List Nat), fun x => match x with
    | none => ⟨[.a (.c (.slc (some A) n c)), .a (.c (.slc aK nK cK)), .any, .any, .any, .a (.c (.slc none 0 0)), .a (.c (.w64 (0))), .any, .any, .any, .a (.c (.slc (some A) n c)), .a (.c (.int .i64 (↑n))), .a (.c (.int .i64 (0))), .any, .any, .any, .any, .any, .any, .any, .any, .any, .any, .any, .any, .any, .any, .any, .any, .any, .any, .any, .any, .any, .any, .any, .any, .any, .any, .any, .any, .any, .any, .any, .any, .any, .any, .any, .any], [[.past W ms]]⟩
    | some (i, done, cs, c', t, W', ms') => ⟨[.a (.c (.slc (some A) n c)), .a (.c (.slc aK nK cK)), .any, .any, .any, .a (.c (.sl 1 0 0 i c')), .a (.c (.w64 (t))), .any, .any, .any, .a (.c (.slc (some A) n c)), .a (.c (.int .i64 (↑n))), .a (.c (.int .i64 (↑i))), .any, .any, .any, .any, .any, .any, .any, .any, .any, .any, .any, .any, .any, .any, .any, .any, .any, .any, .any, .any, .any, .any, .any, .any, .any, .any, .any, .any, .any, .any, .any, .any, .any, .any, .any, .any], [[.past W' ms'], [.row (scale c' (3 + 1)) (nthC cs)]]⟩,
    fun x => match x with
    | none => True
    | some (i, done, cs, c', t, W', ms') => 1 ≤ i ∧ i ≤ n ∧ i ≤ c' ∧ Later W ms W' ms' ∧ RowAt W' ms' cs done ∧ done.length = i ∧ rowE ks es 0 0#64 = done ++ rowE ks (es.drop i) i t,
    fun x => match x with
    | none => n + 1
    | some (i, _, _, _, _, _, _) => n - i, ⟨none, [0], ⟨⟨rfl, rfl, rfl⟩, by (repeat first | exact trivial | refine ent1 ?_)⟩, trivial⟩, fun x hp => ?_⟩
  rcases x with _ | ⟨i, done, cs, c', t, W', ms'⟩
  · refine And.intro (fun hlt => ?_) (fun hge => absurd (of_decide_eq_false hge) (by omega))
    · have hlt : 0 < n := by have : (0 : Int) < (n : Int) := of_decide_eq_true hlt; omega
      obtain ⟨e, he⟩ : ∃ e, es[0]? = some e := ⟨_, List.getElem?_eq_getElem (by omega)⟩
      have hel := hl e (List.mem_of_getElem? he)
      obtain ⟨x, him, hx⟩ := h.elt A rfl 0 e he
      refine And.intro (show (0 : Int) ≤ (0 : Int) ∧ (0 : Int) < (n : Int) by omega) ?_
      refine ⟨evS e x, ⟨RawAt.past (i := 0) rfl him, rfl⟩, ?_⟩
      refine And.intro rfl ?_
      have rest : ∀ kk : BitVec 8, kk = keyE ks 0 → True := fun _ _ => trivial
      by_cases hk : 0 < ks.length
      · have ek : decide ((0 : Int) < (nK : Int)) = true := decide_eq_true (by omega)
        cases haK : aK with
        | none => subst haK; have := hK.nil_.1; omega
        | some AK =>
        subst haK
        have hKle := hK.le
        (repeat first | (refine And.intro ?_ ?_; first | exact rfl | ((exact fun h => absurd h (by first | decide | (rw [ek]; decide))); intro yy; clear yy) | (rotate_left; (exact fun h => absurd h (by first | decide | (rw [ek]; decide))); intro yy; clear yy) | decide | omega) | (with_reducible refine frc_bytesL (by first | omega | decide) ?_) | (with_reducible refine frc_bytesM (by first | omega | decide) ?_))
        refine loadR (i := 0) rfl ((hK).im AK rfl (by omega)) (j := 0 * 1) (map_get? (show ks[0 * 1]? = some (L ks 0) by rw [Nat.mul_one, List.getElem?_eq_getElem hk, L_lt hk])) ?_
        (repeat first | (refine And.intro ?_ ?_; first | exact rfl | ((exact fun h => absurd h (by first | decide)); intro yy; clear yy) | (rotate_left; (exact fun h => absurd h (by first | decide)); intro yy; clear yy) | decide | omega) | (with_reducible refine frc_bytesL (by first | omega | decide) ?_) | (with_reducible refine frc_bytesM (by first | omega | decide) ?_))
        refine call_past (fn_efit hx (by omega) (by omega) (L ks 0)) 0 [] rfl rfl (by (repeat first | exact trivial | refine ent1 ?_)) (by (repeat first | exact trivial | refine ent1 ?_)) (fun _ _ => trivial) (fun x hs hr => ?_) ?_
        · obtain ⟨W', ms', x', h1, _, _, rfl⟩ := hr
          exact ⟨W', ms', rfl, h1⟩
        rintro y hs' ⟨W1, ms1, x1, hL1, hE1, rfl, rfl⟩
        have hs1 := fitE_short e (L ks 0) (by omega)
        have hkk : (L ks 0) = keyE ks 0 := by unfold keyE; rw [if_pos hk]
        rw [hkk] at hE1 hs1 ⊢
        by_cases h19 : (fitE e (keyE ks 0)).k = 19#8
        · have e19 : decide ((fitE e (keyE ks 0)).k = 19#8) = true := decide_eq_true h19
          (repeat first | (refine And.intro ?_ ?_; first | exact rfl | ((exact fun h => absurd h (by first | decide | (rw [e19]; decide))); intro yy; clear yy) | (rotate_left; (exact fun h => absurd h (by first | decide | (rw [e19]; decide))); intro yy; clear yy) | decide | omega) | (with_reducible refine frc_bytesL (by first | omega | decide) ?_) | (with_reducible refine frc_bytesM (by first | omega | decide) ?_))
          refine call_past (fn_efit hE1 (by omega) (by omega) 0#8) 0 [] rfl rfl (by (repeat first | exact trivial | refine ent1 ?_)) (by (repeat first | exact trivial | refine ent1 ?_)) (fun _ _ => trivial) (fun x hs hr => ?_) ?_
          · obtain ⟨W', ms', x', h1, _, _, rfl⟩ := hr
            exact ⟨W', ms', rfl, h1⟩
          rintro y hs' ⟨W2, ms2, x2, hL2, hE2, rfl, rfl⟩
          have hf2 : fit2E e (keyE ks 0) = fitE (fitE e (keyE ks 0)) 0#8 := by unfold fit2E; rw [if_pos h19]
          obtain ⟨fe, hfe⟩ : ∃ fe, fitE (fitE e (keyE ks 0)) 0#8 = fe := ⟨_, rfl⟩
          rw [hfe] at hE2 hf2 ⊢
          have hnew : EvAt W2 ms2 x2 (⟨fe.k, atE 0#64 fe, fe.N, fe.D⟩ : Ev) := ⟨hE2.N, hE2.D⟩
          (repeat first | (refine And.intro ?_ ?_; first | exact rfl | ((exact fun h => absurd h (by first | decide)); intro yy; clear yy) | (rotate_left; (exact fun h => absurd h (by first | decide)); intro yy; clear yy) | decide | omega) | (with_reducible refine frc_bytesL (by first | omega | decide) ?_) | (with_reducible refine frc_bytesM (by first | omega | decide) ?_))
          refine And.intro (show 0 + 4 ≤ 4 by decide) ?_
          (repeat first | (refine And.intro ?_ ?_; first | exact rfl | ((exact fun h => absurd h (by first | decide)); intro yy; clear yy) | (rotate_left; (exact fun h => absurd h (by first | decide)); intro yy; clear yy) | decide | omega) | (with_reducible refine frc_bytesL (by first | omega | decide) ?_) | (with_reducible refine frc_bytesM (by first | omega | decide) ?_))
          intro c2 hc2
          (repeat first | (refine And.intro ?_ ?_; first | exact rfl | ((exact fun h => absurd h (by first | decide)); intro yy; clear yy) | (rotate_left; (exact fun h => absurd h (by first | decide)); intro yy; clear yy) | decide | omega) | (with_reducible refine frc_bytesL (by first | omega | decide) ?_) | (with_reducible refine frc_bytesM (by first | omega | decide) ?_))
          have hrw : RowAt W2 ms2 (flat (evS ⟨fe.k, atE 0#64 fe, fe.N, fe.D⟩ x2)) [⟨fe.k, atE 0#64 fe, fe.N, fe.D⟩] := RowAt.nil.snoc hnew
          have hstep : rowE ks es 0 0#64 = [⟨fe.k, atE 0#64 fe, fe.N, fe.D⟩] ++ rowE ks (es.drop 1) 1 (atE 0#64 fe) := by
            have hd : es = e :: es.drop 1 := by
              have := List.drop_eq_getElem_cons (l := es) (i := 0) (by omega)
              rw [List.drop_zero] at this
              rw [List.getElem?_eq_getElem (by omega)] at he
              injection he with he
              rw [he] at this
              exact this
            conv => lhs; rw [hd]
            rw [rowE, hf2]
            rfl
          refine ⟨some (1, [⟨fe.k, atE 0#64 fe, fe.N, fe.D⟩], flat (evS ⟨fe.k, atE 0#64 fe, fe.N, fe.D⟩ x2), c2, atE 0#64 fe, W2, ms2), [0, 3], ⟨⟨rfl, rfl, rfl⟩, ?_⟩, ⟨Nat.le_refl _, by omega, hc2, (hL1.trans hL2), hrw, rfl, hstep⟩, by dsimp only; omega⟩
          (repeat first | exact trivial | refine ent1 ?_)
          exact ⟨fun j hj => eqC_cs hrw.raw (new_cs rfl fun j hj => updN_new hj) j, by (repeat first | exact trivial | refine ent1 ?_)⟩
        · have e19 : decide ((fitE e (keyE ks 0)).k = 19#8) = false := decide_eq_false h19
          (repeat first | (refine And.intro ?_ ?_; first | exact rfl | ((exact fun h => absurd h (by first | decide | (rw [e19]; decide))); intro yy; clear yy) | (rotate_left; (exact fun h => absurd h (by first | decide | (rw [e19]; decide))); intro yy; clear yy) | decide | omega) | (with_reducible refine frc_bytesL (by first | omega | decide) ?_) | (with_reducible refine frc_bytesM (by first | omega | decide) ?_))
          have hf2 : fit2E e (keyE ks 0) = fitE e (keyE ks 0) := by unfold fit2E; rw [if_neg h19]
          obtain ⟨fe, hfe⟩ : ∃ fe, fitE e (keyE ks 0) = fe := ⟨_, rfl⟩
          rw [hfe] at hE1 hf2 ⊢
          have hnew : EvAt W1 ms1 x1 (⟨fe.k, atE 0#64 fe, fe.N, fe.D⟩ : Ev) := ⟨hE1.N, hE1.D⟩
          (repeat first | (refine And.intro ?_ ?_; first | exact rfl | ((exact fun h => absurd h (by first | decide)); intro yy; clear yy) | (rotate_left; (exact fun h => absurd h (by first | decide)); intro yy; clear yy) | decide | omega) | (with_reducible refine frc_bytesL (by first | omega | decide) ?_) | (with_reducible refine frc_bytesM (by first | omega | decide) ?_))
          refine And.intro (show 0 + 4 ≤ 4 by decide) ?_
          (repeat first | (refine And.intro ?_ ?_; first | exact rfl | ((exact fun h => absurd h (by first | decide)); intro yy; clear yy) | (rotate_left; (exact fun h => absurd h (by first | decide)); intro yy; clear yy) | decide | omega) | (with_reducible refine frc_bytesL (by first | omega | decide) ?_) | (with_reducible refine frc_bytesM (by first | omega | decide) ?_))
          intro c2 hc2
          (repeat first | (refine And.intro ?_ ?_; first | exact rfl | ((exact fun h => absurd h (by first | decide)); intro yy; clear yy) | (rotate_left; (exact fun h => absurd h (by first | decide)); intro yy; clear yy) | decide | omega) | (with_reducible refine frc_bytesL (by first | omega | decide) ?_) | (with_reducible refine frc_bytesM (by first | omega | decide) ?_))
          have hrw : RowAt W1 ms1 (flat (evS ⟨fe.k, atE 0#64 fe, fe.N, fe.D⟩ x1)) [⟨fe.k, atE 0#64 fe, fe.N, fe.D⟩] := RowAt.nil.snoc hnew
          have hstep : rowE ks es 0 0#64 = [⟨fe.k, atE 0#64 fe, fe.N, fe.D⟩] ++ rowE ks (es.drop 1) 1 (atE 0#64 fe) := by
            have hd : es = e :: es.drop 1 := by
              have := List.drop_eq_getElem_cons (l := es) (i := 0) (by omega)
              rw [List.drop_zero] at this
              rw [List.getElem?_eq_getElem (by omega)] at he
              injection he with he
              rw [he] at this
              exact this
            conv => lhs; rw [hd]
            rw [rowE, hf2]
            rfl
          refine ⟨some (1, [⟨fe.k, atE 0#64 fe, fe.N, fe.D⟩], flat (evS ⟨fe.k, atE 0#64 fe, fe.N, fe.D⟩ x1), c2, atE 0#64 fe, W1, ms1), [0, 3], ⟨⟨rfl, rfl, rfl⟩, ?_⟩, ⟨Nat.le_refl _, by omega, hc2, hL1, hrw, rfl, hstep⟩, by dsimp only; omega⟩
          (repeat first | exact trivial | refine ent1 ?_)
          exact ⟨fun j hj => eqC_cs hrw.raw (new_cs rfl fun j hj => updN_new hj) j, by (repeat first | exact trivial | refine ent1 ?_)⟩
      · have ek : decide ((0 : Int) < (nK : Int)) = false := decide_eq_false (by omega)
        (repeat first | (refine And.intro ?_ ?_; first | exact rfl | ((exact fun h => absurd h (by first | decide | (rw [ek]; decide))); intro yy; clear yy) | (rotate_left; (exact fun h => absurd h (by first | decide | (rw [ek]; decide))); intro yy; clear yy) | decide | omega) | (with_reducible refine frc_bytesL (by first | omega | decide) ?_) | (with_reducible refine frc_bytesM (by first | omega | decide) ?_))
        refine call_past (fn_efit hx (by omega) (by omega) (BitVec.ofInt 8 (0 : Int))) 0 [] rfl rfl (by (repeat first | exact trivial | refine ent1 ?_)) (by (repeat first | exact trivial | refine ent1 ?_)) (fun _ _ => trivial) (fun x hs hr => ?_) ?_
        · obtain ⟨W', ms', x', h1, _, _, rfl⟩ := hr
          exact ⟨W', ms', rfl, h1⟩
        rintro y hs' ⟨W1, ms1, x1, hL1, hE1, rfl, rfl⟩
        have hs1 := fitE_short e (BitVec.ofInt 8 (0 : Int)) (by omega)
        have hkk : (BitVec.ofInt 8 (0 : Int)) = keyE ks 0 := by unfold keyE; rw [if_neg hk]; exact ofIntN 0
        rw [hkk] at hE1 hs1 ⊢
        by_cases h19 : (fitE e (keyE ks 0)).k = 19#8
        · have e19 : decide ((fitE e (keyE ks 0)).k = 19#8) = true := decide_eq_true h19
          (repeat first | (refine And.intro ?_ ?_; first | exact rfl | ((exact fun h => absurd h (by first | decide | (rw [e19]; decide))); intro yy; clear yy) | (rotate_left; (exact fun h => absurd h (by first | decide | (rw [e19]; decide))); intro yy; clear yy) | decide | omega) | (with_reducible refine frc_bytesL (by first | omega | decide) ?_) | (with_reducible refine frc_bytesM (by first | omega | decide) ?_))
          refine call_past (fn_efit hE1 (by omega) (by omega) 0#8) 0 [] rfl rfl (by (repeat first | exact trivial | refine ent1 ?_)) (by (repeat first | exact trivial | refine ent1 ?_)) (fun _ _ => trivial) (fun x hs hr => ?_) ?_
          · obtain ⟨W', ms', x', h1, _, _, rfl⟩ := hr
            exact ⟨W', ms', rfl, h1⟩
          rintro y hs' ⟨W2, ms2, x2, hL2, hE2, rfl, rfl⟩
          have hf2 : fit2E e (keyE ks 0) = fitE (fitE e (keyE ks 0)) 0#8 := by unfold fit2E; rw [if_pos h19]
          obtain ⟨fe, hfe⟩ : ∃ fe, fitE (fitE e (keyE ks 0)) 0#8 = fe := ⟨_, rfl⟩
          rw [hfe] at hE2 hf2 ⊢
          have hnew : EvAt W2 ms2 x2 (⟨fe.k, atE 0#64 fe, fe.N, fe.D⟩ : Ev) := ⟨hE2.N, hE2.D⟩
          (repeat first | (refine And.intro ?_ ?_; first | exact rfl | ((exact fun h => absurd h (by first | decide)); intro yy; clear yy) | (rotate_left; (exact fun h => absurd h (by first | decide)); intro yy; clear yy) | decide | omega) | (with_reducible refine frc_bytesL (by first | omega | decide) ?_) | (with_reducible refine frc_bytesM (by first | omega | decide) ?_))
          refine And.intro (show 0 + 4 ≤ 4 by decide) ?_
          (repeat first | (refine And.intro ?_ ?_; first | exact rfl | ((exact fun h => absurd h (by first | decide)); intro yy; clear yy) | (rotate_left; (exact fun h => absurd h (by first | decide)); intro yy; clear yy) | decide | omega) | (with_reducible refine frc_bytesL (by first | omega | decide) ?_) | (with_reducible refine frc_bytesM (by first | omega | decide) ?_))
          intro c2 hc2
          (repeat first | (refine And.intro ?_ ?_; first | exact rfl | ((exact fun h => absurd h (by first | decide)); intro yy; clear yy) | (rotate_left; (exact fun h => absurd h (by first | decide)); intro yy; clear yy) | decide | omega) | (with_reducible refine frc_bytesL (by first | omega | decide) ?_) | (with_reducible refine frc_bytesM (by first | omega | decide) ?_))
          have hrw : RowAt W2 ms2 (flat (evS ⟨fe.k, atE 0#64 fe, fe.N, fe.D⟩ x2)) [⟨fe.k, atE 0#64 fe, fe.N, fe.D⟩] := RowAt.nil.snoc hnew
          have hstep : rowE ks es 0 0#64 = [⟨fe.k, atE 0#64 fe, fe.N, fe.D⟩] ++ rowE ks (es.drop 1) 1 (atE 0#64 fe) := by
            have hd : es = e :: es.drop 1 := by
              have := List.drop_eq_getElem_cons (l := es) (i := 0) (by omega)
              rw [List.drop_zero] at this
              rw [List.getElem?_eq_getElem (by omega)] at he
              injection he with he
              rw [he] at this
              exact this
            conv => lhs; rw [hd]
            rw [rowE, hf2]
            rfl
          refine ⟨some (1, [⟨fe.k, atE 0#64 fe, fe.N, fe.D⟩], flat (evS ⟨fe.k, atE 0#64 fe, fe.N, fe.D⟩ x2), c2, atE 0#64 fe, W2, ms2), [0, 3], ⟨⟨rfl, rfl, rfl⟩, ?_⟩, ⟨Nat.le_refl _, by omega, hc2, (hL1.trans hL2), hrw, rfl, hstep⟩, by dsimp only; omega⟩
          (repeat first | exact trivial | refine ent1 ?_)
          exact ⟨fun j hj => eqC_cs hrw.raw (new_cs rfl fun j hj => updN_new hj) j, by (repeat first | exact trivial | refine ent1 ?_)⟩
        · have e19 : decide ((fitE e (keyE ks 0)).k = 19#8) = false := decide_eq_false h19
          (repeat first | (refine And.intro ?_ ?_; first | exact rfl | ((exact fun h => absurd h (by first | decide | (rw [e19]; decide))); intro yy; clear yy) | (rotate_left; (exact fun h => absurd h (by first | decide | (rw [e19]; decide))); intro yy; clear yy) | decide | omega) | (with_reducible refine frc_bytesL (by first | omega | decide) ?_) | (with_reducible refine frc_bytesM (by first | omega | decide) ?_))
          have hf2 : fit2E e (keyE ks 0) = fitE e (keyE ks 0) := by unfold fit2E; rw [if_neg h19]
          obtain ⟨fe, hfe⟩ : ∃ fe, fitE e (keyE ks 0) = fe := ⟨_, rfl⟩
          rw [hfe] at hE1 hf2 ⊢
          have hnew : EvAt W1 ms1 x1 (⟨fe.k, atE 0#64 fe, fe.N, fe.D⟩ : Ev) := ⟨hE1.N, hE1.D⟩
          (repeat first | (refine And.intro ?_ ?_; first | exact rfl | ((exact fun h => absurd h (by first | decide)); intro yy; clear yy) | (rotate_left; (exact fun h => absurd h (by first | decide)); intro yy; clear yy) | decide | omega) | (with_reducible refine frc_bytesL (by first | omega | decide) ?_) | (with_reducible refine frc_bytesM (by first | omega | decide) ?_))
          refine And.intro (show 0 + 4 ≤ 4 by decide) ?_
          (repeat first | (refine And.intro ?_ ?_; first | exact rfl | ((exact fun h => absurd h (by first | decide)); intro yy; clear yy) | (rotate_left; (exact fun h => absurd h (by first | decide)); intro yy; clear yy) | decide | omega) | (with_reducible refine frc_bytesL (by first | omega | decide) ?_) | (with_reducible refine frc_bytesM (by first | omega | decide) ?_))
          intro c2 hc2
          (repeat first | (refine And.intro ?_ ?_; first | exact rfl | ((exact fun h => absurd h (by first | decide)); intro yy; clear yy) | (rotate_left; (exact fun h => absurd h (by first | decide)); intro yy; clear yy) | decide | omega) | (with_reducible refine frc_bytesL (by first | omega | decide) ?_) | (with_reducible refine frc_bytesM (by first | omega | decide) ?_))
          have hrw : RowAt W1 ms1 (flat (evS ⟨fe.k, atE 0#64 fe, fe.N, fe.D⟩ x1)) [⟨fe.k, atE 0#64 fe, fe.N, fe.D⟩] := RowAt.nil.snoc hnew
          have hstep : rowE ks es 0 0#64 = [⟨fe.k, atE 0#64 fe, fe.N, fe.D⟩] ++ rowE ks (es.drop 1) 1 (atE 0#64 fe) := by
            have hd : es = e :: es.drop 1 := by
              have := List.drop_eq_getElem_cons (l := es) (i := 0) (by omega)
              rw [List.drop_zero] at this
              rw [List.getElem?_eq_getElem (by omega)] at he
              injection he with he
              rw [he] at this
              exact this
            conv => lhs; rw [hd]
            rw [rowE, hf2]
            rfl
          refine ⟨some (1, [⟨fe.k, atE 0#64 fe, fe.N, fe.D⟩], flat (evS ⟨fe.k, atE 0#64 fe, fe.N, fe.D⟩ x1), c2, atE 0#64 fe, W1, ms1), [0, 3], ⟨⟨rfl, rfl, rfl⟩, ?_⟩, ⟨Nat.le_refl _, by omega, hc2, hL1, hrw, rfl, hstep⟩, by dsimp only; omega⟩
          (repeat first | exact trivial | refine ent1 ?_)
          exact ⟨fun j hj => eqC_cs hrw.raw (new_cs rfl fun j hj => updN_new hj) j, by (repeat first | exact trivial | refine ent1 ?_)⟩
  · obtain ⟨h1, h2, h3, hL, hrow, hdl, heq⟩ := hp
    refine And.intro (fun hlt => ?_) (fun hge => ?_)
    · have hlt : i < n := by have : (i : Int) < (n : Int) := of_decide_eq_true hlt; omega
      obtain ⟨e, he⟩ : ∃ e, es[i]? = some e := ⟨_, List.getElem?_eq_getElem (by omega)⟩
      have hel := hl e (List.mem_of_getElem? he)
      obtain ⟨x, him, hx⟩ := h.elt A rfl i e he
      have him := him.later hL
      have hx := hx.later hL
      refine And.intro (show (0 : Int) ≤ (i : Int) ∧ (i : Int) < (n : Int) by omega) ?_
      refine ⟨evS e x, ⟨RawAt.past (i := 0) rfl him, rfl⟩, ?_⟩
      refine And.intro rfl ?_
      have rest : ∀ kk : BitVec 8, kk = keyE ks i → True := fun _ _ => trivial
      by_cases hk : i < ks.length
      · have ek : decide ((i : Int) < (nK : Int)) = true := decide_eq_true (by omega)
        cases haK : aK with
        | none => subst haK; have := hK.nil_.1; omega
        | some AK =>
        subst haK
        have hKle := hK.le
        (repeat first | (refine And.intro ?_ ?_; first | exact rfl | ((exact fun h => absurd h (by first | decide | (rw [ek]; decide))); intro yy; clear yy) | (rotate_left; (exact fun h => absurd h (by first | decide | (rw [ek]; decide))); intro yy; clear yy) | decide | omega) | (with_reducible refine frc_bytesL (by first | omega | decide) ?_) | (with_reducible refine frc_bytesM (by first | omega | decide) ?_))
        refine loadR (i := 0) rfl ((hK.later hL).im AK rfl (by omega)) (j := i * 1) (map_get? (show ks[i * 1]? = some (L ks i) by rw [Nat.mul_one, List.getElem?_eq_getElem hk, L_lt hk])) ?_
        (repeat first | (refine And.intro ?_ ?_; first | exact rfl | ((exact fun h => absurd h (by first | decide)); intro yy; clear yy) | (rotate_left; (exact fun h => absurd h (by first | decide)); intro yy; clear yy) | decide | omega) | (with_reducible refine frc_bytesL (by first | omega | decide) ?_) | (with_reducible refine frc_bytesM (by first | omega | decide) ?_))
        refine call_past (fn_efit hx (by omega) (by omega) (L ks i)) 0 [] rfl rfl (by (repeat first | exact trivial | refine ent1 ?_)) (by (repeat first | exact trivial | refine ent1 ?_)) (fun _ _ => trivial) (fun x hs hr => ?_) ?_
        · obtain ⟨W', ms', x', h1, _, _, rfl⟩ := hr
          exact ⟨W', ms', rfl, h1⟩
        rintro y hs' ⟨W1, ms1, x1, hL1, hE1, rfl, rfl⟩
        have hs1 := fitE_short e (L ks i) (by omega)
        have hkk : (L ks i) = keyE ks i := by unfold keyE; rw [if_pos hk]
        rw [hkk] at hE1 hs1 ⊢
        by_cases h19 : (fitE e (keyE ks i)).k = 19#8
        · have e19 : decide ((fitE e (keyE ks i)).k = 19#8) = true := decide_eq_true h19
          (repeat first | (refine And.intro ?_ ?_; first | exact rfl | ((exact fun h => absurd h (by first | decide | (rw [e19]; decide))); intro yy; clear yy) | (rotate_left; (exact fun h => absurd h (by first | decide | (rw [e19]; decide))); intro yy; clear yy) | decide | omega) | (with_reducible refine frc_bytesL (by first | omega | decide) ?_) | (with_reducible refine frc_bytesM (by first | omega | decide) ?_))
          refine call_past (fn_efit hE1 (by omega) (by omega) 0#8) 0 [] rfl rfl (by (repeat first | exact trivial | refine ent1 ?_)) (by (repeat first | exact trivial | refine ent1 ?_)) (fun _ _ => trivial) (fun x hs hr => ?_) ?_
          · obtain ⟨W', ms', x', h1, _, _, rfl⟩ := hr
            exact ⟨W', ms', rfl, h1⟩
          rintro y hs' ⟨W2, ms2, x2, hL2, hE2, rfl, rfl⟩
          have hf2 : fit2E e (keyE ks i) = fitE (fitE e (keyE ks i)) 0#8 := by unfold fit2E; rw [if_pos h19]
          obtain ⟨fe, hfe⟩ : ∃ fe, fitE (fitE e (keyE ks i)) 0#8 = fe := ⟨_, rfl⟩
          rw [hfe] at hE2 hf2 ⊢
          have hnew : EvAt W2 ms2 x2 (⟨fe.k, atE t fe, fe.N, fe.D⟩ : Ev) := ⟨hE2.N, hE2.D⟩
          (repeat first | (refine And.intro ?_ ?_; first | exact rfl | ((exact fun h => absurd h (by first | decide)); intro yy; clear yy) | (rotate_left; (exact fun h => absurd h (by first | decide)); intro yy; clear yy) | decide | omega) | (with_reducible refine frc_bytesL (by first | omega | decide) ?_) | (with_reducible refine frc_bytesM (by first | omega | decide) ?_))
          refine And.intro (show 0 + 4 ≤ 4 by decide) ?_
          refine And.intro (show 0 + scale 1 (3 + 1) ≤ 4 by decide) ?_
          refine And.intro ⟨h3, by first | omega | (rw [sc4]; omega), show (i + 1) * 64 ≤ 140737488355328 by omega⟩ ?_
          intro c2 hc2
          (repeat first | (refine And.intro ?_ ?_; first | exact rfl | ((exact fun h => absurd h (by first | decide)); intro yy; clear yy) | (rotate_left; (exact fun h => absurd h (by first | decide)); intro yy; clear yy) | decide | omega) | (with_reducible refine frc_bytesL (by first | omega | decide) ?_) | (with_reducible refine frc_bytesM (by first | omega | decide) ?_))
          have hrw : RowAt W2 ms2 (cs ++ flat (evS ⟨fe.k, atE t fe, fe.N, fe.D⟩ x2)) (done ++ [⟨fe.k, atE t fe, fe.N, fe.D⟩]) := (hrow.later (hL1.trans hL2)).snoc hnew
          have hstep : rowE ks es 0 0#64 = (done ++ [⟨fe.k, atE t fe, fe.N, fe.D⟩]) ++ rowE ks (es.drop (i + 1)) (i + 1) (atE t fe) := by
            have hd := List.drop_eq_getElem_cons (l := es) (i := i) (by omega)
            rw [List.getElem?_eq_getElem (by omega)] at he
            injection he with he
            rw [he] at hd
            rw [heq, hd, rowE, hf2, List.append_assoc]
            rfl
          refine ⟨some (i + 1, done ++ [⟨fe.k, atE t fe, fe.N, fe.D⟩], cs ++ flat (evS ⟨fe.k, atE t fe, fe.N, fe.D⟩ x2), c2, atE t fe, W2, ms2), [0, 4], ⟨⟨rfl, rfl, rfl⟩, ?_⟩, ⟨by omega, by omega, hc2, hL.trans (hL1.trans hL2), hrw, by rw [List.length_append, hdl]; rfl, hstep⟩, by dsimp only; omega⟩
          (repeat first | exact trivial | refine ent1 ?_)
          exact ⟨fun j hj => eqC_cs hrw.raw (app_cs (by rw [hrow.len, hdl]) (fun _ _ => rfl) rfl fun j hj => updN_new hj) j, by (repeat first | exact trivial | refine ent1 ?_)⟩
        · have e19 : decide ((fitE e (keyE ks i)).k = 19#8) = false := decide_eq_false h19
          (repeat first | (refine And.intro ?_ ?_; first | exact rfl | ((exact fun h => absurd h (by first | decide | (rw [e19]; decide))); intro yy; clear yy) | (rotate_left; (exact fun h => absurd h (by first | decide | (rw [e19]; decide))); intro yy; clear yy) | decide | omega) | (with_reducible refine frc_bytesL (by first | omega | decide) ?_) | (with_reducible refine frc_bytesM (by first | omega | decide) ?_))
          have hf2 : fit2E e (keyE ks i) = fitE e (keyE ks i) := by unfold fit2E; rw [if_neg h19]
          obtain ⟨fe, hfe⟩ : ∃ fe, fitE e (keyE ks i) = fe := ⟨_, rfl⟩
          rw [hfe] at hE1 hf2 ⊢
          have hnew : EvAt W1 ms1 x1 (⟨fe.k, atE t fe, fe.N, fe.D⟩ : Ev) := ⟨hE1.N, hE1.D⟩
          (repeat first | (refine And.intro ?_ ?_; first | exact rfl | ((exact fun h => absurd h (by first | decide)); intro yy; clear yy) | (rotate_left; (exact fun h => absurd h (by first | decide)); intro yy; clear yy) | decide | omega) | (with_reducible refine frc_bytesL (by first | omega | decide) ?_) | (with_reducible refine frc_bytesM (by first | omega | decide) ?_))
          refine And.intro (show 0 + 4 ≤ 4 by decide) ?_
          refine And.intro (show 0 + scale 1 (3 + 1) ≤ 4 by decide) ?_
          refine And.intro ⟨h3, by first | omega | (rw [sc4]; omega), show (i + 1) * 64 ≤ 140737488355328 by omega⟩ ?_
          intro c2 hc2
          (repeat first | (refine And.intro ?_ ?_; first | exact rfl | ((exact fun h => absurd h (by first | decide)); intro yy; clear yy) | (rotate_left; (exact fun h => absurd h (by first | decide)); intro yy; clear yy) | decide | omega) | (with_reducible refine frc_bytesL (by first | omega | decide) ?_) | (with_reducible refine frc_bytesM (by first | omega | decide) ?_))
          have hrw : RowAt W1 ms1 (cs ++ flat (evS ⟨fe.k, atE t fe, fe.N, fe.D⟩ x1)) (done ++ [⟨fe.k, atE t fe, fe.N, fe.D⟩]) := (hrow.later hL1).snoc hnew
          have hstep : rowE ks es 0 0#64 = (done ++ [⟨fe.k, atE t fe, fe.N, fe.D⟩]) ++ rowE ks (es.drop (i + 1)) (i + 1) (atE t fe) := by
            have hd := List.drop_eq_getElem_cons (l := es) (i := i) (by omega)
            rw [List.getElem?_eq_getElem (by omega)] at he
            injection he with he
            rw [he] at hd
            rw [heq, hd, rowE, hf2, List.append_assoc]
            rfl
          refine ⟨some (i + 1, done ++ [⟨fe.k, atE t fe, fe.N, fe.D⟩], cs ++ flat (evS ⟨fe.k, atE t fe, fe.N, fe.D⟩ x1), c2, atE t fe, W1, ms1), [0, 4], ⟨⟨rfl, rfl, rfl⟩, ?_⟩, ⟨by omega, by omega, hc2, hL.trans hL1, hrw, by rw [List.length_append, hdl]; rfl, hstep⟩, by dsimp only; omega⟩
          (repeat first | exact trivial | refine ent1 ?_)
          exact ⟨fun j hj => eqC_cs hrw.raw (app_cs (by rw [hrow.len, hdl]) (fun _ _ => rfl) rfl fun j hj => updN_new hj) j, by (repeat first | exact trivial | refine ent1 ?_)⟩
      · have ek : decide ((i : Int) < (nK : Int)) = false := decide_eq_false (by omega)
        (repeat first | (refine And.intro ?_ ?_; first | exact rfl | ((exact fun h => absurd h (by first | decide | (rw [ek]; decide))); intro yy; clear yy) | (rotate_left; (exact fun h => absurd h (by first | decide | (rw [ek]; decide))); intro yy; clear yy) | decide | omega) | (with_reducible refine frc_bytesL (by first | omega | decide) ?_) | (with_reducible refine frc_bytesM (by first | omega | decide) ?_))
        refine call_past (fn_efit hx (by omega) (by omega) (BitVec.ofInt 8 (i : Int))) 0 [] rfl rfl (by (repeat first | exact trivial | refine ent1 ?_)) (by (repeat first | exact trivial | refine ent1 ?_)) (fun _ _ => trivial) (fun x hs hr => ?_) ?_
        · obtain ⟨W', ms', x', h1, _, _, rfl⟩ := hr
          exact ⟨W', ms', rfl, h1⟩
        rintro y hs' ⟨W1, ms1, x1, hL1, hE1, rfl, rfl⟩
        have hs1 := fitE_short e (BitVec.ofInt 8 (i : Int)) (by omega)
        have hkk : (BitVec.ofInt 8 (i : Int)) = keyE ks i := by unfold keyE; rw [if_neg hk]; exact ofIntN i
        rw [hkk] at hE1 hs1 ⊢
        by_cases h19 : (fitE e (keyE ks i)).k = 19#8
        · have e19 : decide ((fitE e (keyE ks i)).k = 19#8) = true := decide_eq_true h19
          (repeat first | (refine And.intro ?_ ?_; first | exact rfl | ((exact fun h => absurd h (by first | decide | (rw [e19]; decide))); intro yy; clear yy) | (rotate_left; (exact fun h => absurd h (by first | decide | (rw [e19]; decide))); intro yy; clear yy) | decide | omega) | (with_reducible refine frc_bytesL (by first | omega | decide) ?_) | (with_reducible refine frc_bytesM (by first | omega | decide) ?_))
          refine call_past (fn_efit hE1 (by omega) (by omega) 0#8) 0 [] rfl rfl (by (repeat first | exact trivial | refine ent1 ?_)) (by (repeat first | exact trivial | refine ent1 ?_)) (fun _ _ => trivial) (fun x hs hr => ?_) ?_
          · obtain ⟨W', ms', x', h1, _, _, rfl⟩ := hr
            exact ⟨W', ms', rfl, h1⟩
          rintro y hs' ⟨W2, ms2, x2, hL2, hE2, rfl, rfl⟩
          have hf2 : fit2E e (keyE ks i) = fitE (fitE e (keyE ks i)) 0#8 := by unfold fit2E; rw [if_pos h19]
          obtain ⟨fe, hfe⟩ : ∃ fe, fitE (fitE e (keyE ks i)) 0#8 = fe := ⟨_, rfl⟩
          rw [hfe] at hE2 hf2 ⊢
          have hnew : EvAt W2 ms2 x2 (⟨fe.k, atE t fe, fe.N, fe.D⟩ : Ev) := ⟨hE2.N, hE2.D⟩
          (repeat first | (refine And.intro ?_ ?_; first | exact rfl | ((exact fun h => absurd h (by first | decide)); intro yy; clear yy) | (rotate_left; (exact fun h => absurd h (by first | decide)); intro yy; clear yy) | decide | omega) | (with_reducible refine frc_bytesL (by first | omega | decide) ?_) | (with_reducible refine frc_bytesM (by first | omega | decide) ?_))
          refine And.intro (show 0 + 4 ≤ 4 by decide) ?_
          refine And.intro (show 0 + scale 1 (3 + 1) ≤ 4 by decide) ?_
          refine And.intro ⟨h3, by first | omega | (rw [sc4]; omega), show (i + 1) * 64 ≤ 140737488355328 by omega⟩ ?_
          intro c2 hc2
          (repeat first | (refine And.intro ?_ ?_; first | exact rfl | ((exact fun h => absurd h (by first | decide)); intro yy; clear yy) | (rotate_left; (exact fun h => absurd h (by first | decide)); intro yy; clear yy) | decide | omega) | (with_reducible refine frc_bytesL (by first | omega | decide) ?_) | (with_reducible refine frc_bytesM (by first | omega | decide) ?_))
          have hrw : RowAt W2 ms2 (cs ++ flat (evS ⟨fe.k, atE t fe, fe.N, fe.D⟩ x2)) (done ++ [⟨fe.k, atE t fe, fe.N, fe.D⟩]) := (hrow.later (hL1.trans hL2)).snoc hnew
          have hstep : rowE ks es 0 0#64 = (done ++ [⟨fe.k, atE t fe, fe.N, fe.D⟩]) ++ rowE ks (es.drop (i + 1)) (i + 1) (atE t fe) := by
            have hd := List.drop_eq_getElem_cons (l := es) (i := i) (by omega)
            rw [List.getElem?_eq_getElem (by omega)] at he
            injection he with he
            rw [he] at hd
            rw [heq, hd, rowE, hf2, List.append_assoc]
            rfl
          refine ⟨some (i + 1, done ++ [⟨fe.k, atE t fe, fe.N, fe.D⟩], cs ++ flat (evS ⟨fe.k, atE t fe, fe.N, fe.D⟩ x2), c2, atE t fe, W2, ms2), [0, 4], ⟨⟨rfl, rfl, rfl⟩, ?_⟩, ⟨by omega, by omega, hc2, hL.trans (hL1.trans hL2), hrw, by rw [List.length_append, hdl]; rfl, hstep⟩, by dsimp only; omega⟩
          (repeat first | exact trivial | refine ent1 ?_)
          exact ⟨fun j hj => eqC_cs hrw.raw (app_cs (by rw [hrow.len, hdl]) (fun _ _ => rfl) rfl fun j hj => updN_new hj) j, by (repeat first | exact trivial | refine ent1 ?_)⟩
        · have e19 : decide ((fitE e (keyE ks i)).k = 19#8) = false := decide_eq_false h19
          (repeat first | (refine And.intro ?_ ?_; first | exact rfl | ((exact fun h => absurd h (by first | decide | (rw [e19]; decide))); intro yy; clear yy) | (rotate_left; (exact fun h => absurd h (by first | decide | (rw [e19]; decide))); intro yy; clear yy) | decide | omega) | (with_reducible refine frc_bytesL (by first | omega | decide) ?_) | (with_reducible refine frc_bytesM (by first | omega | decide) ?_))
          have hf2 : fit2E e (keyE ks i) = fitE e (keyE ks i) := by unfold fit2E; rw [if_neg h19]
          obtain ⟨fe, hfe⟩ : ∃ fe, fitE e (keyE ks i) = fe := ⟨_, rfl⟩
          rw [hfe] at hE1 hf2 ⊢
          have hnew : EvAt W1 ms1 x1 (⟨fe.k, atE t fe, fe.N, fe.D⟩ : Ev) := ⟨hE1.N, hE1.D⟩
          (repeat first | (refine And.intro ?_ ?_; first | exact rfl | ((exact fun h => absurd h (by first | decide)); intro yy; clear yy) | (rotate_left; (exact fun h => absurd h (by first | decide)); intro yy; clear yy) | decide | omega) | (with_reducible refine frc_bytesL (by first | omega | decide) ?_) | (with_reducible refine frc_bytesM (by first | omega | decide) ?_))
          refine And.intro (show 0 + 4 ≤ 4 by decide) ?_
          refine And.intro (show 0 + scale 1 (3 + 1) ≤ 4 by decide) ?_
          refine And.intro ⟨h3, by first | omega | (rw [sc4]; omega), show (i + 1) * 64 ≤ 140737488355328 by omega⟩ ?_
          intro c2 hc2
          (repeat first | (refine And.intro ?_ ?_; first | exact rfl | ((exact fun h => absurd h (by first | decide)); intro yy; clear yy) | (rotate_left; (exact fun h => absurd h (by first | decide)); intro yy; clear yy) | decide | omega) | (with_reducible refine frc_bytesL (by first | omega | decide) ?_) | (with_reducible refine frc_bytesM (by first | omega | decide) ?_))
          have hrw : RowAt W1 ms1 (cs ++ flat (evS ⟨fe.k, atE t fe, fe.N, fe.D⟩ x1)) (done ++ [⟨fe.k, atE t fe, fe.N, fe.D⟩]) := (hrow.later hL1).snoc hnew
          have hstep : rowE ks es 0 0#64 = (done ++ [⟨fe.k, atE t fe, fe.N, fe.D⟩]) ++ rowE ks (es.drop (i + 1)) (i + 1) (atE t fe) := by
            have hd := List.drop_eq_getElem_cons (l := es) (i := i) (by omega)
            rw [List.getElem?_eq_getElem (by omega)] at he
            injection he with he
            rw [he] at hd
            rw [heq, hd, rowE, hf2, List.append_assoc]
            rfl
          refine ⟨some (i + 1, done ++ [⟨fe.k, atE t fe, fe.N, fe.D⟩], cs ++ flat (evS ⟨fe.k, atE t fe, fe.N, fe.D⟩ x1), c2, atE t fe, W1, ms1), [0, 4], ⟨⟨rfl, rfl, rfl⟩, ?_⟩, ⟨by omega, by omega, hc2, hL.trans hL1, hrw, by rw [List.length_append, hdl]; rfl, hstep⟩, by dsimp only; omega⟩
          (repeat first | exact trivial | refine ent1 ?_)
          exact ⟨fun j hj => eqC_cs hrw.raw (app_cs (by rw [hrow.len, hdl]) (fun _ _ => rfl) rfl fun j hj => updN_new hj) j, by (repeat first | exact trivial | refine ent1 ?_)⟩
    · obtain rfl : i = n := by have : ¬ (i : Int) < (n : Int) := of_decide_eq_false hge; omega
      have hfin : rowE ks es 0 0#64 = done := by rw [heq, List.drop_eq_nil_of_le (by omega), rowE, List.append_nil]
      (repeat first | (refine And.intro ?_ ?_; first | exact rfl | ((exact fun h => absurd h (by first | decide)); intro yy; clear yy) | (rotate_left; (exact fun h => absurd h (by first | decide)); intro yy; clear yy) | decide | omega) | (with_reducible refine frc_bytesL (by first | omega | decide) ?_) | (with_reducible refine frc_bytesM (by first | omega | decide) ?_))
      refine ⟨.a (.c (.sl 1 0 0 i c')), [[.past W' ms'], [.row (scale c' (3 + 1)) (nthC cs)]], ⟨[0, 1], ⟨rfl, rfl, rfl⟩, ?_⟩, W', ms', cs, c', hL, by rw [hfin]; exact hrow, h3, rfl, rfl⟩
      (repeat first | exact trivial | refine ent1 ?_)
      exact ⟨fun j hj => eqC_cs hrow.raw (fun _ _ => rfl) j, trivial⟩
end Sx
end Go.Proofs.Ytdakmieapdpidaa
end

section
/-
  Events that nobody turns: whether two are the same. No condition.
-/
namespace Go.Proofs.Ytdakmieapdpidaa
set_option linter.unusedVariables false
namespace Ev
def sameE (a b : Ev) : Prop := a.k = b.k ∧ a.t = b.t ∧ a.N = b.N ∧ a.D = b.D
instance (a b : Ev) : Decidable (sameE a b) := by unfold sameE; infer_instance
end Ev
namespace Sx
open Go.RowKit Sha Vi Ev

end Sx
end Go.Proofs.Ytdakmieapdpidaa
end

section
/-
  The program's reader of numbers and bytes. No condition.
-/
namespace Go.Proofs.Ytdakmieapdpidaa
set_option linter.unusedVariables false
namespace Vi
open Sha
end Vi
namespace Sx
open Sha Vi

/-- A reader: what is left of its bytes, how it ended. -/
structure RS where
  z : Bool
  o : Nat
  n : Nat
  c : Nat
  e : Int
/-- A reader of the bytes A of which l are left, ended by e. -/
structure RdI (A : Sl) (s : RS) (l : Bs) (e : Int) : Prop where
  ok : A.Ok
  o0 : A.o = 0
  len : s.n = l.length
  at_ : ∀ i, i < l.length → s.o + i < A.l.length ∧ L A.l (s.o + i) = L l i
  fit : s.o + l.length ≤ A.l.length
  cap : s.n ≤ s.c
  nil : s.z = true → l = []
  z0 : s.z = false → A.z = false
  err : s.e = e
  ended : e ≠ 0 → l = []
theorem RdI.drop {A : Sl} {s : RS} {l : Bs} {e : Int} (h : RdI A s l e) {k : Nat} (hk : k ≤ l.length) : RdI A ⟨s.z, if s.c = k then s.o else s.o + k, s.n - k, s.c - k, s.e⟩ (l.drop k) e := by
  have hl := h.len
  have hc := h.cap
  have hf := h.fit
  refine ⟨h.ok, h.o0, ?_, fun i hi => ?_, ?_, ?_, fun hz => ?_, h.z0, h.err, fun he => ?_⟩
  · simp [hl]
  · simp at hi
    have h1 := h.at_ (k + i) (by omega)
    have e1 : (if s.c = k then s.o else s.o + k) = s.o + k := if_neg (by omega)
    show (if s.c = k then s.o else s.o + k) + i < _ ∧ L A.l ((if s.c = k then s.o else s.o + k) + i) = _
    rw [e1, L_drop, Nat.add_assoc]
    exact h1
  · show (if s.c = k then s.o else s.o + k) + _ ≤ _
    simp
    split <;> omega
  · show s.n - k ≤ s.c - k
    omega
  · rw [h.nil hz, List.drop_nil]
  · rw [h.ended he, List.drop_nil]
theorem RdI.gone {A : Sl} {s : RS} {l : Bs} {e : Int} (h : RdI A s l e) (x : Int) : RdI A ⟨true, 0, 0, 0, x⟩ [] x :=
  ⟨h.ok, h.o0, rfl, fun i hi => by simp at hi, by simp, Nat.le_refl _, fun _ => rfl, fun h => Bool.noConfusion h, rfl, fun _ => rfl⟩
/-- The bytes that are left, as a slice of their own. -/
theorem RdI.sl {A : Sl} {s : RS} {l : Bs} {e : Int} (h : RdI A s l e) : Sl.Ok ⟨s.z, A.N, s.o, s.c, l⟩ :=
  ⟨by have h1 := h.ok.fit; have h2 := h.fit; have h3 := h.o0; show s.o + l.length ≤ A.N; omega, by have h1 := h.len; have h2 := h.cap; show l.length ≤ s.c; omega, h.nil, by have h1 := h.ok.small; have h2 := h.fit; show l.length ≤ _; omega⟩
theorem RdI.sn {A : Sl} {s : RS} {l : Bs} {e : Int} (h : RdI A s l e) {hp : List (List Seg)} {j m : Nat} {k : (Nat → SC) → Prop} (hj : getH hp j = svB A) (hm : m ≤ l.length)
    (hk : ∀ g : Nat → SC, (∀ i, i < m → g i = .w8 (L l i)) → k g) : ∃ f : Nat → SC, ((s.z = true → m = 0) ∧ (s.z = false → SnAt hp j 0 s.o m 1 f)) ∧ k f := by
  refine ⟨fun i => .w8 (L l i), ⟨fun hz => ?_, fun hz => ?_⟩, hk _ fun _ _ => rfl⟩
  · have := h.nil hz; subst this; simpa using hm
  · have hz' := h.z0 hz
    have hf := h.fit
    have hN := h.ok.fit
    have ho := h.o0
    refine ⟨A.N, winF A.o A.l.length (L A.l), [], by rw [hj]; unfold svB; rw [hz']; rfl, by show s.o + m ≤ A.N; omega, fun q hq => ?_⟩
    have hq : q < m := hq
    have h1 := h.at_ q (by omega)
    show SC.w8 (L l q) = _
    rw [ho, ← h1.2, Nat.add_comm q s.o]
    have := winF_at 0 A.l.length (L A.l) h1.1
    rw [Nat.zero_add] at this
    exact this.symm
end Sx
end Go.Proofs.Ytdakmieapdpidaa
end

section
/-
  The program's reader of numbers and bytes: made; counts, single bytes, its end. No condition.
-/
namespace Go.Proofs.Ytdakmieapdpidaa
set_option linter.unusedVariables false
namespace Vi
open Sha
end Vi
namespace Sx
open Sha Vi

end Sx
end Go.Proofs.Ytdakmieapdpidaa
end

section
/-
  The program's reader: a number that has to have the fewest bytes. No condition.
-/
namespace Go.Proofs.Ytdakmieapdpidaa
set_option linter.unusedVariables false
namespace Vi
open Sha
end Vi
namespace Sx
open Go.RowKit Sha Vi Ev

end Sx
end Go.Proofs.Ytdakmieapdpidaa
end

section
/-
  An event taken by a reader: blog.take. No condition.
-/
namespace Go.Proofs.Ytdakmieapdpidaa
set_option linter.unusedVariables false
namespace Ev
open Vi Sha
end Ev
namespace Sx
open Go.RowKit Sha Vi Ev

end Sx
end Go.Proofs.Ytdakmieapdpidaa
end

section
/-
  Events out of bytes: blog.Decode. No condition.
-/
namespace Go.Proofs.Ytdakmieapdpidaa
set_option linter.unusedVariables false
namespace Ev
open Vi Sha
end Ev
namespace Sx
open Go.RowKit Sha Vi Ev

theorem EvsAt.nul {W : World} {ms : List Nat} : EvsAt W ms none 0 0 [] := ⟨rfl, Nat.le_refl _, by decide, fun _ => rfl, fun A h => by cases h⟩
theorem rz_raw {F : Nat → Bool} {α : Nat → Addr} {x : SC} (h : x.raw = x) : (x.rz F α).raw = x := by
  cases x <;> simp only [SC.raw] at h <;> first | rfl | cases h
theorem nthC_get {l : List SC} {j : Nat} (h : j < l.length) : l[j]? = some (nthC l j) := by
  obtain ⟨x, hx⟩ : ∃ x, l[j]? = some x := ⟨_, List.getElem?_eq_getElem h⟩
  rw [hx, nthC_get? hx]
theorem RowAt.frz {W0 W : World} {ms0 ms : List Nat} {A : Addr} {F : Nat → Bool} {α : Nat → Addr} {n c : Nat} {cs : List SC} {es : List Ev} (k : RowAt W0 ms0 cs es) (hL : Later W0 ms0 W ms)
    (h : flat [.row (scale c (3 + 1)) (nthC cs)] ≠ [] → ImAt W ms A (((flat [.row (scale c (3 + 1)) (nthC cs)]).map (SC.rz F α)).map SC.raw)) (hn : es.length = n) (hc : n ≤ c) (hcap : n ≤ 9223372036854775807) : EvsAt W ms (some (A.add (0 + 0))) n c es := by
  refine ⟨hn, hc, hcap, (fun e => by cases e), fun B hB j e he => ?_⟩
  injection hB with hB
  subst hB
  obtain ⟨x, h1, h2⟩ := k.elt j e he
  have hj : j < n := by rw [← hn]; exact (List.getElem?_eq_some_iff.1 he).1
  have hne : flat [.row (scale c (3 + 1)) (nthC cs)] ≠ [] := by
    intro e
    have := congrArg List.length e
    simp [flat, sc4] at this
    omega
  refine ⟨x, (((h hne).part (0 + 0) (m := ((flat [.row (scale c (3 + 1)) (nthC cs)]).map (SC.rz F α)).map SC.raw) (fun j x hx => by simpa using hx)).part (j * 4) fun i y hy => ?_), h2.later hL⟩
  have hi : i < 4 := (List.getElem?_eq_some_iff.1 hy).1
  have hcs := h1 i y hy
  have hlen := k.len
  have hjn : j * 4 + i < scale c (3 + 1) := by rw [sc4]; omega
  rw [List.getElem?_map, List.getElem?_map]
  simp only [flat, List.append_nil, List.getElem?_map, List.getElem?_range hjn, Option.map_some]
  have hraw := k.raw y (List.mem_of_getElem? hcs)
  rw [nthC_get? hcs, rz_raw hraw]
end Sx
end Go.Proofs.Ytdakmieapdpidaa
end

section
/-
  The program's writer: long ones, all of it; Wide. No condition.
-/
namespace Go.Proofs.Ytdakmieapdpidaa
set_option linter.unusedVariables false
namespace Vi
open Sha
/-- Some bytes, their number ahead. -/
def longL (l : Bs) : Bs := putL (BitVec.ofNat 64 l.length) ++ l
theorem lenN_of {n : Nat} (h : n ≤ 1000000) : lenN (BitVec.ofNat 64 n) ≠ 0 := by
  have := lenN_spec (BitVec.ofNat 64 n)
  rw [BitVec.toNat_ofNat, Nat.mod_eq_of_lt (by omega)] at this
  omega
theorem longL_len (l : Bs) : (longL l).length ≤ 8 + l.length := by
  have := lenN_le (BitVec.ofNat 64 l.length)
  simp only [longL, List.length_append, putL_len]
  omega
end Vi
namespace Sx
open Sha Vi

set_option maxRecDepth 20000 in
theorem fn_wlong (s : Sl) (hs : s.Ok) (b : Bs) (c : Nat) (hb : b.length ≤ 400000) (hc : b.length ≤ c) : FnR Try.prog tds 26 1 [svB s, wrC 2 b c, lsC b c] [.c (.p 1 0 0), .c (svC 0 s)] (fun _ => True)
    (fun y hs => ∃ c', (b ++ longL s.l).length ≤ c' ∧ y = .tup [] ∧ hs = [svB s, wrC 3 (b ++ longL s.l) c', [], lsC (b ++ longL s.l) c']) := by
  refine fn_of_body tds_ok follows_ Try.func26 rfl (t := .a (.c (.p 1 0 0)) :: .a (.c (svC 0 s)) :: anys (Try.f26.ntmps - 2)) rfl (fun w r0 hr0 _ => ?_)
  obtain ⟨x0, x1, x2, rfl⟩ := len3' hr0
  have hsm := hs.small
  have hne := lenN_of hsm
  (repeat first | refine And.intro (by omega) ?_ | refine And.intro (by decide) ?_ | (with_reducible refine frc_parts (by first | omega | decide) ?_) | (with_reducible refine frc_bytesL (by first | omega | decide) ?_) | refine And.intro rfl ?_)
  refine call_same (fn_wint [BitVec.ofNat 64 s.l.length] 1 1 b c (fun n hn => by simp at hn; rw [hn]; exact hne) (Nat.le_refl _) (by simp) (by omega) hc) [3, 1, 2] rfl (by (repeat first | exact trivial | refine ent1 ?_)) ?_ (fun _ _ => trivial) ?_
  · refine ⟨rfl, fun j hj => eqC_nums (fun i x h => ?_) j, ?_⟩
    · have hi : i = 0 := by
        have := (List.getElem?_eq_some_iff.1 h).1
        simp at this
        exact this
      subst hi
      simp at h
      subst h
      show SC.w64 (BitVec.ofInt 64 ((s.l.length : Nat) : Int)) = _
      rw [BitVec.ofInt_natCast]
    (repeat first | exact trivial | refine ent1 ?_)
  rintro x hs' ⟨-, hx⟩
  obtain ⟨c1, hc1, rfl, rfl⟩ := hx (by simp)
  clear hx
  obtain ⟨B, hB⟩ : ∃ B, b ++ putAll [BitVec.ofNat 64 s.l.length] = B := ⟨_, rfl⟩
  have hBl : B.length ≤ 400008 := by
    have := putAll_len [BitVec.ofNat 64 s.l.length]
    rw [← hB, List.length_append]
    simp only [List.length_cons, List.length_nil] at this
    omega
  rw [hB] at hc1 ⊢
  have hf : b ++ longL s.l = B ++ s.l := by rw [← hB]; simp [longL, putAll]
  rw [hf]
  (repeat first | refine And.intro (by omega) ?_ | refine And.intro (by decide) ?_ | (with_reducible refine frc_parts (by first | omega | decide) ?_) | (with_reducible refine frc_bytesL (by first | omega | decide) ?_) | refine And.intro rfl ?_)
  refine call_same (fn_wbytes s hs B c1 (by omega) hc1) [0, 1, 4] rfl (by (repeat first | exact trivial | refine ent1 ?_)) ?_ (fun _ _ => trivial) ?_
  · refine eqC_bts ?_
    (repeat first | exact trivial | refine ent1 ?_)
  rintro x hs' ⟨c2, hc2, rfl, rfl⟩
  refine ⟨.tup [], _, ⟨[0, 1, 2, 5], ⟨rfl, rfl, rfl⟩, ?_⟩, c2, hc2, rfl, rfl⟩
  refine eqC_bts ?_
  (repeat first | exact trivial | refine ent1 ?_)
set_option maxRecDepth 20000 in
theorem fn_wdone (b : Bs) (c : Nat) (hb : b.length ≤ 1000000) (hc : b.length ≤ c) (h0 : 0 < b.length) : FnR Try.prog tds 27 2 [wrC 1 b c, lsC b c] [.c (.p 0 0 0)] (fun _ => True)
    (fun y hs => ∃ c', b.length ≤ c' ∧ y = .tup [.c (.sl 2 0 0 b.length c'), .c (.int .i64 0)] ∧ hs = [wrC 1 b c, lsC b c, lsC b c']) := by
  refine fn_of_body tds_ok follows_ Try.func27 rfl (t := .a (.c (.p 0 0 0)) :: anys (Try.f27.ntmps - 1)) rfl (fun w r0 hr0 _ => ?_)
  obtain ⟨x0, x1, rfl⟩ := len2' hr0
  (repeat first | refine And.intro (by omega) ?_ | refine And.intro (by decide) ?_ | refine And.intro rfl ?_ | refine And.intro (fun _ => ?_) (fun h => Bool.noConfusion h) | refine And.intro (fun h => Bool.noConfusion h) (fun _ => ?_))
  refine ⟨by show 0 + b.length ≤ c; omega, ⟨rfl, rfl⟩, by show b.length * 1 ≤ 140737488355328; omega, fun hm0 => absurd hm0 (by omega), fun hm0 c' hc' => ?_⟩
  refine ⟨.tup [.c (.sl 2 0 0 b.length c'), .c (.int .i64 0)], _, ⟨[0, 1, 2], ⟨rfl, rfl, rfl⟩, ?_⟩, c', hc', rfl, rfl⟩
  (repeat first | exact trivial | refine ent1 ?_)
  exact ⟨fun j hj => eqC_bytes (fun i hi => new_row (m := b) (fun q hq => bytesF_lt hq) i hi) j, trivial⟩
end Sx
end Go.Proofs.Ytdakmieapdpidaa
end

section
/-
  Events as bytes: blog.Encode. No condition.
-/
namespace Go.Proofs.Ytdakmieapdpidaa
set_option linter.unusedVariables false
namespace Ev
open Vi Sha
/-- An event's bytes. -/
def evB (last : BitVec 64) (e : Ev) : Bs := putAll [BitVec.setWidth 64 e.k, e.t - last] ++ putAll e.N ++ (if evData e.k = true then longL e.D else [])
def encL : List Ev → BitVec 64 → Bs → Bs × Int
  | [], _, b => (b, 0)
  | e :: r, last, b => if checkM e ≠ 0 then ([], checkM e) else if e.t < last then ([], 21) else if e.k = 19#8 ∧ r ≠ [] then ([], 10) else encL r e.t (b ++ evB last e)
/-- What blog.Encode answers. -/
def encM (es : List Ev) : Bs × Int := if 2048 < es.length then ([], 7) else encL es 0#64 ([66#8, 73#8, 78#8, 49#8] ++ putAll [BitVec.ofNat 64 es.length])
theorem lenN_lt {n : BitVec 64} (h : n.toNat < 4611686018427387904) : lenN n ≠ 0 := by
  have := lenN_spec n
  omega
structure EvOk (e : Ev) : Prop where
  k : evOk e.k = true
  t : e.t.toNat ≤ 1125899906842624
  N : e.N.length ≤ 8
  D : e.D.length ≤ 20
  n : ∀ n ∈ e.N, lenN n ≠ 0
theorem check_ok {e : Ev} (h : checkM e = 0) : EvOk e := by
  unfold checkM at h
  cases h1 : evOk e.k
  · rw [h1, if_pos rfl] at h; cases h
  rw [h1, if_neg (by decide)] at h
  by_cases h2 : 1125899906842624#64 < e.t
  · rw [if_pos h2] at h; cases h
  rw [if_neg h2] at h
  by_cases h3 : e.N.length ≠ (evNames e.k).length
  · rw [if_pos h3] at h; cases h
  rw [if_neg h3] at h
  by_cases h4 : 20 < e.D.length
  · rw [if_pos h4] at h; cases h
  rw [if_neg h4] at h
  by_cases h5 : 0 < e.D.length ∧ evData e.k = false
  · rw [if_pos h5] at h; cases h
  rw [if_neg h5] at h
  by_cases h6 : ∃ n ∈ e.N, 4611686018427387903#64 < n
  · rw [if_pos h6] at h; cases h
  have hm := many_le e.k
  refine ⟨h1, ?_, by omega, by omega, fun n hn => lenN_lt ?_⟩
  · rw [BitVec.lt_def] at h2
    have : (1125899906842624#64).toNat = 1125899906842624 := rfl
    omega
  · have h7 : ¬ 4611686018427387903#64 < n := fun hc => h6 ⟨n, hn, hc⟩
    rw [BitVec.lt_def] at h7
    have : (4611686018427387903#64).toNat = 4611686018427387903 := rfl
    omega
theorem evB_len {last : BitVec 64} {e : Ev} (h : EvOk e) : (evB last e).length ≤ 140 := by
  have h1 := putAll_len [BitVec.setWidth 64 e.k, e.t - last]
  have h2 := putAll_len e.N
  have h3 := longL_len e.D
  have h4 := h.N
  have h5 := h.D
  unfold evB
  rw [List.length_append, List.length_append]
  simp only [List.length_cons, List.length_nil] at h1
  split
  · omega
  · simp only [List.length_nil]; omega
end Ev
namespace Sx
open Go.RowKit Sha Vi Ev

theorem lit_ok {l : Bs} (h : l.length ≤ 1000000) : Sl.Ok ⟨false, l.length, 0, l.length, l⟩ := ⟨by simp, Nat.le_refl _, fun h => Bool.noConfusion h, h⟩
theorem eqC_lit' {q : List Nat} {l : Bs} {f : Nat → SC} (h : ∀ j, j < l.length → f j = .w8 (L l j)) (j : Nat) : eqC q (f j) (winF 0 l.length (L l) j) True := eqC_win0 h j
theorem own_okE {l : Bs} {c : Nat} (h : l.length ≤ c) (hs : l.length ≤ 1000000) : Sl.Ok ⟨false, c, 0, c, l⟩ := ⟨by simpa using h, h, fun h => Bool.noConfusion h, hs⟩
theorem numsE1 (a : BitVec 64) : ∀ (j : Nat) (x : BitVec 64), [a][j]? = some x → nthC [.w64 a] j = .w64 x
  | 0, x, h => by simp at h; subst h; rfl
  | j + 1, x, h => by simp at h
theorem numsE2 (a b : BitVec 64) : ∀ (j : Nat) (x : BitVec 64), [a, b][j]? = some x → nthC [.w64 a, .w64 b] j = .w64 x
  | 0, x, h => by simp at h; subst h; rfl
  | 1, x, h => by simp at h; subst h; rfl
  | j + 2, x, h => by simp at h
theorem magic_row : ∀ j, j < 4 → nthC [.w8 66#8, .w8 73#8, .w8 78#8, .w8 49#8] j = .w8 (L [66#8, 73#8, 78#8, 49#8] j)
  | 0, _ => rfl
  | 1, _ => rfl
  | 2, _ => rfl
  | 3, _ => rfl
  | j + 4, h => by omega
theorem flat_nums (l : List (BitVec 64)) : flat [.row l.length (numsF l)] = l.map .w64 := by
  refine List.ext_getElem? fun j => ?_
  simp only [flat, List.append_nil, List.getElem?_map]
  by_cases hj : j < l.length
  · rw [List.getElem?_range hj, List.getElem?_eq_getElem hj]
    simp only [Option.map_some]
    rw [nums_get (List.getElem?_eq_getElem hj)]
  · rw [List.getElem?_eq_none (by simpa using hj), List.getElem?_eq_none (by omega)]; rfl
set_option maxRecDepth 20000 in
theorem fn_wintR {W : World} {ms : List Nat} {A : Addr} {cm : Nat} {l : List (BitVec 64)} (h : NsAt W ms (some A) l.length cm l) (hne : l ≠ []) (b : Bs) (c : Nat) (hl : ∀ n ∈ l, lenN n ≠ 0) (hlm : l.length ≤ 1000) (hb : b.length ≤ 500000) (hc : b.length ≤ c) :
    FnR Try.prog tds 25 1 [[.past W ms], wrC 2 b c, lsC b c] [.c (.p 1 0 0), .c (.slc (some A) l.length cm)] (fun _ => True)
    (fun y hs => ∃ c', (b ++ putAll l).length ≤ c' ∧ y = .tup [] ∧ hs = [[.past W ms], wrC 3 (b ++ putAll l) c', [], lsC (b ++ putAll l) c']) := by
  have hpos : 0 < l.length := List.length_pos_iff.2 hne
  have hle := h.le
  have hN := fn_wint l l.length cm b c hl (Nat.le_refl _) hlm hb hc
  refine (hN.unname 0 (by decide) (W := W) (ms := ms) (a := A) rfl (fun W ms h => by cases h) (by rw [flat_nums]; exact h.im A rfl (by omega)) (by rw [flat_nums]; exact map_w64_raw l) (fun i c hi hc => frH.free (k := 0) (j := 0) ?_ i c (by omega) hc) ?_).mono ?_
  · exact ⟨.inl rfl, .inr ⟨rfl, rfl, trivial⟩, .inr ⟨fun i => rz_bytesF _ _ i, trivial⟩, trivial⟩
  · exact ⟨⟨rfl, rfl⟩, ⟨rfl, rfl, rfl, rfl, rfl, rfl⟩, trivial⟩
  · rintro y hs ⟨x', hs', ⟨_, h2⟩, rfl, rfl⟩
    obtain ⟨c', g1, rfl, rfl⟩ := h2 hne
    refine ⟨c', g1, rfl, ?_⟩
    simp only [rzH, rzL, Seg.rz, rz_bytesF, List.set_cons_zero]
    rfl
set_option maxRecDepth 20000 in
theorem fn_wintR0 {W : World} {ms : List Nat} {a : Option Addr} {n cm : Nat} (hn : n = 0) (b : Bs) (c : Nat) :
    FnR Try.prog tds 25 1 [[.past W ms], wrC 2 b c, lsC b c] [.c (.p 1 0 0), .c (.slc a n cm)] (fun _ => True)
    (fun y hs => y = .tup [] ∧ hs = [[.past W ms], wrC 2 b c, lsC b c]) := by
  subst hn
  refine fn_of_body tds_ok follows_ Try.func25 rfl (t := .a (.c (.p 1 0 0)) :: .a (.c (.slc a 0 cm)) :: anys (Try.f25.ntmps - 2)) rfl (fun w r0 hr0 _ => ?_)
  obtain ⟨x0, x1, x2, rfl⟩ := len3' hr0
  (repeat first | (refine And.intro ?_ ?_; first | exact rfl | ((exact fun h => absurd h (by first | decide)); intro yy; clear yy) | (rotate_left; (exact fun h => absurd h (by first | decide)); intro yy; clear yy) | decide | omega) | (with_reducible refine frc_bytesL (by first | omega | decide) ?_) | (with_reducible refine frc_bytesM (by first | omega | decide) ?_))
  refine .inr ⟨1, ?_⟩
  (repeat first | (refine And.intro ?_ ?_; first | exact rfl | ((exact fun h => absurd h (by first | decide)); intro yy; clear yy) | (rotate_left; (exact fun h => absurd h (by first | decide)); intro yy; clear yy) | decide | omega) | (with_reducible refine frc_bytesL (by first | omega | decide) ?_) | (with_reducible refine frc_bytesM (by first | omega | decide) ?_))
  refine ⟨.tup [], _, ⟨[0, 1, 2], ⟨rfl, rfl, rfl⟩, ?_⟩, rfl, rfl⟩
  (repeat first | exact trivial | refine ent1 ?_)
set_option maxRecDepth 20000 in
theorem fn_wlongR {W : World} {ms : List Nat} {a : Option Addr} {n cm : Nat} {l : Bs} (h : BsAt W ms a n cm l) (hs : l.length ≤ 1000000) (b : Bs) (c : Nat) (hb : b.length ≤ 400000) (hc : b.length ≤ c) :
    FnR Try.prog tds 26 1 [[.past W ms], wrC 2 b c, lsC b c] [.c (.p 1 0 0), .c (.slc a n cm)] (fun _ => True)
    (fun y hs => ∃ c', (b ++ longL l).length ≤ c' ∧ y = .tup [] ∧ hs = [[.past W ms], wrC 3 (b ++ longL l) c', [], lsC (b ++ longL l) c']) := by
  have h1 := h.n1
  have h2 := h.le
  have hN := fn_wlong (slR a cm l) (h.okB hs) b c hb hc
  refine (hN.rawB 0 (by decide) h rfl (fun A i c hi hc => frH.free (k := 0) (j := 0) ?_ i c (by omega) hc) (fun A ha => ?_) (fun h0 => ?_) (fun y hs A hr => ?_)).mono ?_
  · exact ⟨.inl rfl, .inr ⟨rfl, rfl, trivial⟩, .inr ⟨fun i => rz_bytesF _ _ i, trivial⟩, trivial⟩
  · subst ha
    exact ⟨⟨rfl, rfl⟩, ⟨rfl, rfl, rfl, rfl, h1.symm, rfl, rfl⟩, trivial⟩
  · have hc : cm = 0 := by
      rcases h0 with rfl | h0
      · exact h.nil rfl
      · exact h0
    have hl : l.length = 0 := by omega
    refine ⟨rfl, ?_, trivial⟩
    cases a with
    | none => exact ⟨rfl, by omega, hc, hl, hc⟩
    | some A => exact ⟨rfl, by omega, hc, hl, hc⟩
  · obtain ⟨c', _, rfl, rfl⟩ := hr
    refine ⟨rfl, ?_⟩
    simp only [rzH, rzL, rzL_bts, Seg.rz, rz_bytesF, List.set_cons_zero]
    rfl
  · rintro y hs ⟨hs', ⟨c', g1, rfl, rfl⟩, rfl⟩
    exact ⟨c', g1, rfl, rfl⟩

set_option maxRecDepth 20000 in
set_option maxHeartbeats 16000000 in
theorem fn_bencode {W : World} {ms : List Nat} {a : Option Addr} {n c : Nat} {es : List Ev} (h : EvsAt W ms a n c es) : FnR Try.prog tds 12 1 [[.past W ms]] [.c (.slc a n c)] (fun _ => True)
    (fun y hs => (2048 < n → y = .tup [.c (.slc none 0 0), .c (.int .i64 7)] ∧ hs = [[.past W ms]]) ∧ (n ≤ 2048 → ∃ (t : Sl) (e : Int), encM es = (t.l, e) ∧ t.Ok ∧ y = .tup [.c (svC 1 t), .c (.int .i64 e)] ∧ hs = [[.past W ms], svB t])) := by
  have hlen := h.len
  have hcap := h.cap
  refine fn_of_body tds_ok follows_ Try.func12 rfl (t := .a (.c (.slc a n c)) :: anys (Try.f12.ntmps - 1)) rfl (fun w r0 hr0 _ => ?_)
  obtain ⟨x0, rfl⟩ := List.length_eq_one_iff.1 hr0
  (repeat first | (refine And.intro ?_ ?_; first | exact rfl | ((exact fun h => absurd h (by first | decide)); intro yy; clear yy) | (rotate_left; (exact fun h => absurd h (by first | decide)); intro yy; clear yy) | decide | omega) | (with_reducible refine frc_bytesL (by first | omega | decide) ?_) | (with_reducible refine frc_bytesM (by first | omega | decide) ?_))
  by_cases h1 : 2048 < n
  · have k1 : decide ((2048 : Int) < (n : Int)) = true := decide_eq_true (by omega)
    (repeat first | (refine And.intro ?_ ?_; first | exact rfl | ((exact fun h => absurd h (by first | decide | (rw [k1]; decide))); intro yy; clear yy) | (rotate_left; (exact fun h => absurd h (by first | decide | (rw [k1]; decide))); intro yy; clear yy) | decide | omega) | (with_reducible refine frc_bytesL (by first | omega | decide) ?_) | (with_reducible refine frc_bytesM (by first | omega | decide) ?_))
    refine ⟨.tup [.c (.slc none 0 0), .c (.int .i64 7)], _, ⟨[0], ⟨rfl, rfl, rfl⟩, ?_⟩, fun _ => ⟨rfl, rfl⟩, fun hc => absurd hc (by omega)⟩
    (repeat first | exact trivial | refine ent1 ?_)
  have k1 : decide ((2048 : Int) < (n : Int)) = false := decide_eq_false (by omega)
  (repeat first | (refine And.intro ?_ ?_; first | exact rfl | ((exact fun h => absurd h (by first | decide | (rw [k1]; decide))); intro yy; clear yy) | (rotate_left; (exact fun h => absurd h (by first | decide | (rw [k1]; decide))); intro yy; clear yy) | decide | omega) | (with_reducible refine frc_bytesL (by first | omega | decide) ?_) | (with_reducible refine frc_bytesM (by first | omega | decide) ?_))
  refine call_same (fn_wbytes0 _ (lit_ok (l := [66#8, 73#8, 78#8, 49#8]) (by simp)) (by simp)) [2, 1] rfl (by (repeat first | exact trivial | refine ent1 ?_)) ?_ (fun _ _ => trivial) ?_
  · refine ⟨rfl, fun j hj => eqC_lit' (l := [66#8, 73#8, 78#8, 49#8]) (fun j hj => magic_row j hj) j, ?_⟩
    (repeat first | exact trivial | refine ent1 ?_)
  rintro x hs' ⟨c1, hc1, rfl, rfl⟩
  (repeat first | (refine And.intro ?_ ?_; first | exact rfl | ((exact fun h => absurd h (by first | decide)); intro yy; clear yy) | (rotate_left; (exact fun h => absurd h (by first | decide)); intro yy; clear yy) | decide | omega) | (with_reducible refine frc_bytesL (by first | omega | decide) ?_) | (with_reducible refine frc_bytesM (by first | omega | decide) ?_))
  refine call_same (fn_wint [BitVec.ofInt 64 (n : Int)] 1 1 _ c1 (by intro x hx; simp at hx; subst hx; exact lenN_of (by omega)) (Nat.le_refl _) (by simp) (by simp) hc1) [4, 1, 3] rfl (by (repeat first | exact trivial | refine ent1 ?_)) ?_ (fun _ _ => trivial) ?_
  · (repeat first | exact trivial | refine ent1 ?_)
    refine ⟨fun j hj => eqC_nums (numsE1 _) j, ?_⟩
    (repeat first | exact trivial | refine ent1 ?_)
  rintro x hs' ⟨-, hk⟩
  obtain ⟨c2, hc2, rfl, rfl⟩ := hk (by simp)
  have hE0 : encM es = encL es 0#64 ([66#8, 73#8, 78#8, 49#8] ++ putAll [BitVec.ofInt 64 (n : Int)]) := by unfold encM; rw [if_neg (by omega), hlen, BitVec.ofInt_natCast]
  have hq := putAll_len [BitVec.ofInt 64 (n : Int)]
  have hq : ([66#8, 73#8, 78#8, 49#8] ++ putAll [BitVec.ofInt 64 (n : Int)]).length ≤ 12 := by rw [List.length_append]; simp only [List.length_cons, List.length_nil] at hq ⊢; omega
  have hq0 : 0 < ([66#8, 73#8, 78#8, 49#8] ++ putAll [BitVec.ofInt 64 (n : Int)]).length := by rw [List.length_append]; simp only [List.length_cons, List.length_nil]; omega
  generalize hB : [66#8, 73#8, 78#8, 49#8] ++ putAll [BitVec.ofInt 64 (n : Int)] = B0 at hE0 hc2 hq hq0 ⊢
  (repeat first | (refine And.intro ?_ ?_; first | exact rfl | ((exact fun h => absurd h (by first | decide)); intro yy; clear yy) | (rotate_left; (exact fun h => absurd h (by first | decide)); intro yy; clear yy) | decide | omega) | (with_reducible refine frc_bytesL (by first | omega | decide) ?_) | (with_reducible refine frc_bytesM (by first | omega | decide) ?_))

  refine .inl ⟨Nat × BitVec 64 × Bs × Nat, fun (i, last, B, cB) => ⟨[.a (.c (.slc a n c)), .any, .any, .any, .a (.c (.p 1 0 0)), .a (.c (.w64 (last))), .any, .any, .any, .any, .any, .any, .any, .any, .any, .any, .any, .any, .any, .any, .any, .any, .a (.c (.slc a n c)), .a (.c (.int .i64 (↑n))), .a (.c (.int .i64 (↑i))), .any, .any, .any, .any, .any, .any, .any, .any, .any, .any, .any, .any, .any, .any, .any, .any, .any, .any, .any, .any, .any, .any, .any, .any, .any, .any, .any, .any, .any, .any, .any, .any, .any, .any, .any, .any, .any, .any, .any, .any, .any, .any, .any, .any, .any, .any, .any, .any, .any, .any, .any, .any], [[.past W ms], wrC 2 B cB, lsC B cB]⟩,
    fun (i, last, B, cB) => (i ≤ n ∧ B.length ≤ 12 + 140 * i ∧ 0 < B.length ∧ B.length ≤ cB) ∧ encM es = encL (es.drop i) last B, fun (i, _, _, _) => n - i, ⟨(0, 0#64, B0, c2), [0, 1, 5], ⟨⟨rfl, rfl, rfl⟩, ?_⟩, ⟨Nat.zero_le _, hq, hq0, hc2⟩, hE0⟩, fun (i, last, B, cB) hp => ?_⟩
  · (repeat first | exact trivial | refine ent1 ?_)
  obtain ⟨⟨g1, g2, g3, g4⟩, hE⟩ := hp
  refine And.intro (fun hlt => ?_) (fun hge => ?_)
  · have hlt : i < n := by have : (i : Int) < (n : Int) := of_decide_eq_true hlt; omega
    obtain ⟨e, he⟩ : ∃ e, es[i]? = some e := ⟨_, List.getElem?_eq_getElem (by omega)⟩
    have hd : es.drop i = e :: es.drop (i + 1) := by
      have := List.drop_eq_getElem_cons (l := es) (i := i) (by omega)
      rw [List.getElem?_eq_getElem (by omega)] at he
      injection he with he
      rw [he] at this
      exact this
    rw [hd, encL] at hE
    cases ha : a with
    | none => have := h.nil ha; have := h.le; omega
    | some A =>
    obtain ⟨x, him, hx⟩ := h.elt A ha i e he
    have hnN := hx.nN
    have hnD := hx.nD
    have hxN := hx.N
    have hxD := hx.D
    have hck := fn_echeck hx
    obtain ⟨aN, nN, cN, aD, nD, cD⟩ := x
    dsimp only at hnN hnD hxN hxD hck
    subst hnN; subst hnD
    subst ha
    refine And.intro (show (0 : Int) ≤ (i : Int) ∧ (i : Int) < (n : Int) by omega) ?_
    refine ⟨evS e ⟨aN, e.N.length, cN, aD, e.D.length, cD⟩, ⟨RawAt.past (i := 0) rfl him, rfl⟩, ?_⟩
    (repeat first | (refine And.intro ?_ ?_; first | exact rfl | ((exact fun h => absurd h (by first | decide)); intro yy; clear yy) | (rotate_left; (exact fun h => absurd h (by first | decide)); intro yy; clear yy) | decide | omega) | (with_reducible refine frc_bytesL (by first | omega | decide) ?_) | (with_reducible refine frc_bytesM (by first | omega | decide) ?_))
    refine call_same hck [0] rfl (by (repeat first | exact trivial | refine ent1 ?_)) (by (repeat first | exact trivial | refine ent1 ?_)) (fun _ _ => trivial) ?_
    rintro y hs' ⟨rfl, rfl⟩
    by_cases h2 : checkM e ≠ 0
    · have k2 : decide (checkM e ≠ 0) = true := decide_eq_true h2
      rw [if_pos h2] at hE
      (repeat first | (refine And.intro ?_ ?_; first | exact rfl | ((exact fun h => absurd h (by first | decide | (rw [k2]; decide))); intro yy; clear yy) | (rotate_left; (exact fun h => absurd h (by first | decide | (rw [k2]; decide))); intro yy; clear yy) | decide | omega) | (with_reducible refine frc_bytesL (by first | omega | decide) ?_) | (with_reducible refine frc_bytesM (by first | omega | decide) ?_))
      refine ⟨.tup [.c (svC 1 ⟨true, 0, 0, 0, []⟩), .c (.int .i64 (checkM e))], _, ⟨[0, 1], ⟨rfl, rfl, rfl⟩, ?_⟩, fun hc => absurd hc h1, fun _ => ⟨⟨true, 0, 0, 0, []⟩, (checkM e), hE, ⟨Nat.le_refl _, Nat.le_refl _, fun _ => rfl, Nat.zero_le _⟩, rfl, rfl⟩⟩
      (repeat first | exact trivial | refine ent1 ?_)
    have k2 : decide (checkM e ≠ 0) = false := decide_eq_false h2
    rw [if_neg h2] at hE
    have hok := check_ok (e := e) (by omega)
    (repeat first | (refine And.intro ?_ ?_; first | exact rfl | ((exact fun h => absurd h (by first | decide | (rw [k2]; decide))); intro yy; clear yy) | (rotate_left; (exact fun h => absurd h (by first | decide | (rw [k2]; decide))); intro yy; clear yy) | decide | omega) | (with_reducible refine frc_bytesL (by first | omega | decide) ?_) | (with_reducible refine frc_bytesM (by first | omega | decide) ?_))
    by_cases h3 : e.t < last
    · have k3 : decide (e.t < last) = true := decide_eq_true h3
      rw [if_pos h3] at hE
      (repeat first | (refine And.intro ?_ ?_; first | exact rfl | ((exact fun h => absurd h (by first | decide | (rw [k3]; decide))); intro yy; clear yy) | (rotate_left; (exact fun h => absurd h (by first | decide | (rw [k3]; decide))); intro yy; clear yy) | decide | omega) | (with_reducible refine frc_bytesL (by first | omega | decide) ?_) | (with_reducible refine frc_bytesM (by first | omega | decide) ?_))
      refine ⟨.tup [.c (svC 1 ⟨true, 0, 0, 0, []⟩), .c (.int .i64 21)], _, ⟨[0, 1], ⟨rfl, rfl, rfl⟩, ?_⟩, fun hc => absurd hc h1, fun _ => ⟨⟨true, 0, 0, 0, []⟩, 21, hE, ⟨Nat.le_refl _, Nat.le_refl _, fun _ => rfl, Nat.zero_le _⟩, rfl, rfl⟩⟩
      (repeat first | exact trivial | refine ent1 ?_)
    have k3 : decide (e.t < last) = false := decide_eq_false h3
    rw [if_neg h3] at hE
    have hdl : (es.drop (i + 1)).length = n - (i + 1) := by rw [List.length_drop, hlen]
    have hwr : ∀ m ∈ [BitVec.setWidth 64 e.k, e.t - last], lenN m ≠ 0 := by
      intro m hm
      simp only [List.mem_cons, List.not_mem_nil, or_false] at hm
      rcases hm with rfl | rfl
      · refine lenN_lt ?_
        rw [BitVec.toNat_setWidth]
        have := e.k.isLt
        omega
      · refine lenN_lt ?_
        have h4 := hok.t
        rw [BitVec.lt_def] at h3
        rw [BitVec.toNat_sub]
        omega
    have hN8 := hok.N
    have hD20 := hok.D
    have hbl := evB_len (last := last) hok
    by_cases h5 : e.k = 19#8
    · have k5 : decide (e.k = 19#8) = true := decide_eq_true h5
      by_cases h6 : i + 1 < n
      · have k6 : decide ((i : Int) + 1 < (n : Int)) = true := decide_eq_true (by omega)
        rw [if_pos ⟨h5, fun hc => by rw [hc] at hdl; simp at hdl; omega⟩] at hE
        (repeat first | (refine And.intro ?_ ?_; first | exact rfl | ((exact fun h => absurd h (by first | decide | (rw [k3]; decide) | (rw [k5]; decide) | (rw [k6]; decide))); intro yy; clear yy) | (rotate_left; (exact fun h => absurd h (by first | decide | (rw [k3]; decide) | (rw [k5]; decide) | (rw [k6]; decide))); intro yy; clear yy) | decide | omega) | (with_reducible refine frc_bytesL (by first | omega | decide) ?_) | (with_reducible refine frc_bytesM (by first | omega | decide) ?_))
        refine ⟨.tup [.c (svC 1 ⟨true, 0, 0, 0, []⟩), .c (.int .i64 10)], _, ⟨[0, 1], ⟨rfl, rfl, rfl⟩, ?_⟩, fun hc => absurd hc h1, fun _ => ⟨⟨true, 0, 0, 0, []⟩, 10, hE, ⟨Nat.le_refl _, Nat.le_refl _, fun _ => rfl, Nat.zero_le _⟩, rfl, rfl⟩⟩
        (repeat first | exact trivial | refine ent1 ?_)
      have k6 : decide ((i : Int) + 1 < (n : Int)) = false := decide_eq_false (by omega)
      rw [if_neg (fun hc => hc.2 (List.eq_nil_of_length_eq_zero (by omega)))] at hE
      (repeat first | (refine And.intro ?_ ?_; first | exact rfl | ((exact fun h => absurd h (by first | decide | (rw [k3]; decide) | (rw [k5]; decide) | (rw [k6]; decide))); intro yy; clear yy) | (rotate_left; (exact fun h => absurd h (by first | decide | (rw [k3]; decide) | (rw [k5]; decide) | (rw [k6]; decide))); intro yy; clear yy) | decide | omega) | (with_reducible refine frc_bytesL (by first | omega | decide) ?_) | (with_reducible refine frc_bytesM (by first | omega | decide) ?_))
      refine call_same (fn_wint [BitVec.setWidth 64 e.k, e.t - last] 2 2 B cB hwr (Nat.le_refl _) (by simp) (by omega) g4) [4, 1, 2] rfl (by (repeat first | exact trivial | refine ent1 ?_)) ?_ (fun _ _ => trivial) ?_
      · (repeat first | exact trivial | refine ent1 ?_)
        refine ⟨fun j hj => eqC_nums (numsE2 _ _) j, ?_⟩
        (repeat first | exact trivial | refine ent1 ?_)
      rintro x hs' ⟨-, hk⟩
      obtain ⟨c3, hc3, rfl, rfl⟩ := hk (by simp)
      have hB1 : B ++ evB last e = (B ++ putAll [BitVec.setWidth 64 e.k, e.t - last]) ++ putAll e.N ++ (if evData e.k = true then longL e.D else []) := by unfold evB; simp only [List.append_assoc]
      have hBl : (B ++ evB last e).length ≤ 12 + 140 * (i + 1) := by rw [List.length_append]; omega
      have hBp : 0 < (B ++ evB last e).length := by rw [List.length_append]; omega
      have hS1 : (B ++ putAll [BitVec.setWidth 64 e.k, e.t - last]).length ≤ 300000 := by
        have := congrArg List.length hB1
        simp only [List.length_append] at this hBl ⊢
        omega
      have hS2 : (B ++ putAll [BitVec.setWidth 64 e.k, e.t - last] ++ putAll e.N).length ≤ 300000 := by
        have := congrArg List.length hB1
        simp only [List.length_append] at this hBl ⊢
        omega
      rw [hB1] at hE hBl hBp
      generalize hG1 : B ++ putAll [BitVec.setWidth 64 e.k, e.t - last] = B1 at hE hBl hBp hS1 hS2 hc3 ⊢
      (repeat first | (refine And.intro ?_ ?_; first | exact rfl | ((exact fun h => absurd h (by first | decide)); intro yy; clear yy) | (rotate_left; (exact fun h => absurd h (by first | decide)); intro yy; clear yy) | decide | omega) | (with_reducible refine frc_bytesL (by first | omega | decide) ?_) | (with_reducible refine frc_bytesM (by first | omega | decide) ?_))
      by_cases hz : e.N = []
      · have hz0 : e.N.length = 0 := by rw [hz]; rfl
        refine call_same (fn_wintR0 (a := aN) (cm := cN) hz0 B1 c3) [0, 1, 5] rfl (by (repeat first | exact trivial | refine ent1 ?_)) (by (repeat first | exact trivial | refine ent1 ?_)) (fun _ _ => trivial) ?_
        rintro x hs' ⟨rfl, rfl⟩
        have hB2 : B1 ++ putAll e.N = B1 := by rw [hz]; show B1 ++ [] = B1; rw [List.append_nil]
        rw [hB2] at hE hBl hBp hS2
        (repeat first | (refine And.intro ?_ ?_; first | exact rfl | ((exact fun h => absurd h (by first | decide)); intro yy; clear yy) | (rotate_left; (exact fun h => absurd h (by first | decide)); intro yy; clear yy) | decide | omega) | (with_reducible refine frc_bytesL (by first | omega | decide) ?_) | (with_reducible refine frc_bytesM (by first | omega | decide) ?_))
        refine call_same (fn_eof e.k) [] rfl (by (repeat first | exact trivial | refine ent1 ?_)) trivial (fun _ _ => trivial) ?_
        rintro y hs' ⟨rfl, rfl⟩
        cases hdt : evData e.k
        · rw [hdt, if_neg (by decide), List.append_nil] at hE hBl hBp
          (repeat first | (refine And.intro ?_ ?_; first | exact rfl | ((exact fun h => absurd h (by first | decide)); intro yy; clear yy) | (rotate_left; (exact fun h => absurd h (by first | decide)); intro yy; clear yy) | decide | omega) | (with_reducible refine frc_bytesL (by first | omega | decide) ?_) | (with_reducible refine frc_bytesM (by first | omega | decide) ?_))
          refine ⟨(i + 1, e.t, B1, c3), [0, 1, 5], ⟨⟨rfl, rfl, rfl⟩, ?_⟩, ⟨⟨by omega, hBl, hBp, hc3⟩, hE⟩, by dsimp only; omega⟩
          (repeat first | exact trivial | refine ent1 ?_)
        · rw [hdt, if_pos rfl] at hE hBl hBp
          (repeat first | (refine And.intro ?_ ?_; first | exact rfl | ((exact fun h => absurd h (by first | decide)); intro yy; clear yy) | (rotate_left; (exact fun h => absurd h (by first | decide)); intro yy; clear yy) | decide | omega) | (with_reducible refine frc_bytesL (by first | omega | decide) ?_) | (with_reducible refine frc_bytesM (by first | omega | decide) ?_))
          refine call_same (fn_wlongR hxD (by omega) B1 c3 (by omega) hc3) [0, 1, 5] rfl (by (repeat first | exact trivial | refine ent1 ?_)) (by (repeat first | exact trivial | refine ent1 ?_)) (fun _ _ => trivial) ?_
          rintro x hs' ⟨c5, hc5, rfl, rfl⟩
          generalize hG3 : B1 ++ longL e.D = B3 at hE hBl hBp hc5 ⊢
          (repeat first | (refine And.intro ?_ ?_; first | exact rfl | ((exact fun h => absurd h (by first | decide)); intro yy; clear yy) | (rotate_left; (exact fun h => absurd h (by first | decide)); intro yy; clear yy) | decide | omega) | (with_reducible refine frc_bytesL (by first | omega | decide) ?_) | (with_reducible refine frc_bytesM (by first | omega | decide) ?_))
          refine ⟨(i + 1, e.t, B3, c5), [0, 1, 8], ⟨⟨rfl, rfl, rfl⟩, ?_⟩, ⟨⟨by omega, hBl, hBp, hc5⟩, hE⟩, by dsimp only; omega⟩
          (repeat first | exact trivial | refine ent1 ?_)
      · cases haN : aN with
        | none => rw [haN] at hxN; exact absurd (List.eq_nil_of_length_eq_zero hxN.nil_.1) hz
        | some AN =>
        subst haN
        refine call_same (fn_wintR hxN hz B1 c3 hok.n (by omega) (by omega) hc3) [0, 1, 5] rfl (by (repeat first | exact trivial | refine ent1 ?_)) (by (repeat first | exact trivial | refine ent1 ?_)) (fun _ _ => trivial) ?_
        rintro x hs' ⟨c4, hc4, rfl, rfl⟩
        generalize hG2 : B1 ++ putAll e.N = B2 at hE hBl hBp hS2 hc4 ⊢
        (repeat first | (refine And.intro ?_ ?_; first | exact rfl | ((exact fun h => absurd h (by first | decide)); intro yy; clear yy) | (rotate_left; (exact fun h => absurd h (by first | decide)); intro yy; clear yy) | decide | omega) | (with_reducible refine frc_bytesL (by first | omega | decide) ?_) | (with_reducible refine frc_bytesM (by first | omega | decide) ?_))
        refine call_same (fn_eof e.k) [] rfl (by (repeat first | exact trivial | refine ent1 ?_)) trivial (fun _ _ => trivial) ?_
        rintro y hs' ⟨rfl, rfl⟩
        cases hdt : evData e.k
        · rw [hdt, if_neg (by decide), List.append_nil] at hE hBl hBp
          (repeat first | (refine And.intro ?_ ?_; first | exact rfl | ((exact fun h => absurd h (by first | decide)); intro yy; clear yy) | (rotate_left; (exact fun h => absurd h (by first | decide)); intro yy; clear yy) | decide | omega) | (with_reducible refine frc_bytesL (by first | omega | decide) ?_) | (with_reducible refine frc_bytesM (by first | omega | decide) ?_))
          refine ⟨(i + 1, e.t, B2, c4), [0, 1, 6], ⟨⟨rfl, rfl, rfl⟩, ?_⟩, ⟨⟨by omega, hBl, hBp, hc4⟩, hE⟩, by dsimp only; omega⟩
          (repeat first | exact trivial | refine ent1 ?_)
        · rw [hdt, if_pos rfl] at hE hBl hBp
          (repeat first | (refine And.intro ?_ ?_; first | exact rfl | ((exact fun h => absurd h (by first | decide)); intro yy; clear yy) | (rotate_left; (exact fun h => absurd h (by first | decide)); intro yy; clear yy) | decide | omega) | (with_reducible refine frc_bytesL (by first | omega | decide) ?_) | (with_reducible refine frc_bytesM (by first | omega | decide) ?_))
          refine call_same (fn_wlongR hxD (by omega) B2 c4 (by omega) hc4) [0, 1, 6] rfl (by (repeat first | exact trivial | refine ent1 ?_)) (by (repeat first | exact trivial | refine ent1 ?_)) (fun _ _ => trivial) ?_
          rintro x hs' ⟨c5, hc5, rfl, rfl⟩
          generalize hG3 : B2 ++ longL e.D = B3 at hE hBl hBp hc5 ⊢
          (repeat first | (refine And.intro ?_ ?_; first | exact rfl | ((exact fun h => absurd h (by first | decide)); intro yy; clear yy) | (rotate_left; (exact fun h => absurd h (by first | decide)); intro yy; clear yy) | decide | omega) | (with_reducible refine frc_bytesL (by first | omega | decide) ?_) | (with_reducible refine frc_bytesM (by first | omega | decide) ?_))
          refine ⟨(i + 1, e.t, B3, c5), [0, 1, 9], ⟨⟨rfl, rfl, rfl⟩, ?_⟩, ⟨⟨by omega, hBl, hBp, hc5⟩, hE⟩, by dsimp only; omega⟩
          (repeat first | exact trivial | refine ent1 ?_)
    · have k5 : decide (e.k = 19#8) = false := decide_eq_false h5
      rw [if_neg (fun hc => h5 hc.1)] at hE
      (repeat first | (refine And.intro ?_ ?_; first | exact rfl | ((exact fun h => absurd h (by first | decide | (rw [k3]; decide) | (rw [k5]; decide))); intro yy; clear yy) | (rotate_left; (exact fun h => absurd h (by first | decide | (rw [k3]; decide) | (rw [k5]; decide))); intro yy; clear yy) | decide | omega) | (with_reducible refine frc_bytesL (by first | omega | decide) ?_) | (with_reducible refine frc_bytesM (by first | omega | decide) ?_))
      refine call_same (fn_wint [BitVec.setWidth 64 e.k, e.t - last] 2 2 B cB hwr (Nat.le_refl _) (by simp) (by omega) g4) [4, 1, 2] rfl (by (repeat first | exact trivial | refine ent1 ?_)) ?_ (fun _ _ => trivial) ?_
      · (repeat first | exact trivial | refine ent1 ?_)
        refine ⟨fun j hj => eqC_nums (numsE2 _ _) j, ?_⟩
        (repeat first | exact trivial | refine ent1 ?_)
      rintro x hs' ⟨-, hk⟩
      obtain ⟨c3, hc3, rfl, rfl⟩ := hk (by simp)
      have hB1 : B ++ evB last e = (B ++ putAll [BitVec.setWidth 64 e.k, e.t - last]) ++ putAll e.N ++ (if evData e.k = true then longL e.D else []) := by unfold evB; simp only [List.append_assoc]
      have hBl : (B ++ evB last e).length ≤ 12 + 140 * (i + 1) := by rw [List.length_append]; omega
      have hBp : 0 < (B ++ evB last e).length := by rw [List.length_append]; omega
      have hS1 : (B ++ putAll [BitVec.setWidth 64 e.k, e.t - last]).length ≤ 300000 := by
        have := congrArg List.length hB1
        simp only [List.length_append] at this hBl ⊢
        omega
      have hS2 : (B ++ putAll [BitVec.setWidth 64 e.k, e.t - last] ++ putAll e.N).length ≤ 300000 := by
        have := congrArg List.length hB1
        simp only [List.length_append] at this hBl ⊢
        omega
      rw [hB1] at hE hBl hBp
      generalize hG1 : B ++ putAll [BitVec.setWidth 64 e.k, e.t - last] = B1 at hE hBl hBp hS1 hS2 hc3 ⊢
      (repeat first | (refine And.intro ?_ ?_; first | exact rfl | ((exact fun h => absurd h (by first | decide)); intro yy; clear yy) | (rotate_left; (exact fun h => absurd h (by first | decide)); intro yy; clear yy) | decide | omega) | (with_reducible refine frc_bytesL (by first | omega | decide) ?_) | (with_reducible refine frc_bytesM (by first | omega | decide) ?_))
      by_cases hz : e.N = []
      · have hz0 : e.N.length = 0 := by rw [hz]; rfl
        refine call_same (fn_wintR0 (a := aN) (cm := cN) hz0 B1 c3) [0, 1, 5] rfl (by (repeat first | exact trivial | refine ent1 ?_)) (by (repeat first | exact trivial | refine ent1 ?_)) (fun _ _ => trivial) ?_
        rintro x hs' ⟨rfl, rfl⟩
        have hB2 : B1 ++ putAll e.N = B1 := by rw [hz]; show B1 ++ [] = B1; rw [List.append_nil]
        rw [hB2] at hE hBl hBp hS2
        (repeat first | (refine And.intro ?_ ?_; first | exact rfl | ((exact fun h => absurd h (by first | decide)); intro yy; clear yy) | (rotate_left; (exact fun h => absurd h (by first | decide)); intro yy; clear yy) | decide | omega) | (with_reducible refine frc_bytesL (by first | omega | decide) ?_) | (with_reducible refine frc_bytesM (by first | omega | decide) ?_))
        refine call_same (fn_eof e.k) [] rfl (by (repeat first | exact trivial | refine ent1 ?_)) trivial (fun _ _ => trivial) ?_
        rintro y hs' ⟨rfl, rfl⟩
        cases hdt : evData e.k
        · rw [hdt, if_neg (by decide), List.append_nil] at hE hBl hBp
          (repeat first | (refine And.intro ?_ ?_; first | exact rfl | ((exact fun h => absurd h (by first | decide)); intro yy; clear yy) | (rotate_left; (exact fun h => absurd h (by first | decide)); intro yy; clear yy) | decide | omega) | (with_reducible refine frc_bytesL (by first | omega | decide) ?_) | (with_reducible refine frc_bytesM (by first | omega | decide) ?_))
          refine ⟨(i + 1, e.t, B1, c3), [0, 1, 5], ⟨⟨rfl, rfl, rfl⟩, ?_⟩, ⟨⟨by omega, hBl, hBp, hc3⟩, hE⟩, by dsimp only; omega⟩
          (repeat first | exact trivial | refine ent1 ?_)
        · rw [hdt, if_pos rfl] at hE hBl hBp
          (repeat first | (refine And.intro ?_ ?_; first | exact rfl | ((exact fun h => absurd h (by first | decide)); intro yy; clear yy) | (rotate_left; (exact fun h => absurd h (by first | decide)); intro yy; clear yy) | decide | omega) | (with_reducible refine frc_bytesL (by first | omega | decide) ?_) | (with_reducible refine frc_bytesM (by first | omega | decide) ?_))
          refine call_same (fn_wlongR hxD (by omega) B1 c3 (by omega) hc3) [0, 1, 5] rfl (by (repeat first | exact trivial | refine ent1 ?_)) (by (repeat first | exact trivial | refine ent1 ?_)) (fun _ _ => trivial) ?_
          rintro x hs' ⟨c5, hc5, rfl, rfl⟩
          generalize hG3 : B1 ++ longL e.D = B3 at hE hBl hBp hc5 ⊢
          (repeat first | (refine And.intro ?_ ?_; first | exact rfl | ((exact fun h => absurd h (by first | decide)); intro yy; clear yy) | (rotate_left; (exact fun h => absurd h (by first | decide)); intro yy; clear yy) | decide | omega) | (with_reducible refine frc_bytesL (by first | omega | decide) ?_) | (with_reducible refine frc_bytesM (by first | omega | decide) ?_))
          refine ⟨(i + 1, e.t, B3, c5), [0, 1, 8], ⟨⟨rfl, rfl, rfl⟩, ?_⟩, ⟨⟨by omega, hBl, hBp, hc5⟩, hE⟩, by dsimp only; omega⟩
          (repeat first | exact trivial | refine ent1 ?_)
      · cases haN : aN with
        | none => rw [haN] at hxN; exact absurd (List.eq_nil_of_length_eq_zero hxN.nil_.1) hz
        | some AN =>
        subst haN
        refine call_same (fn_wintR hxN hz B1 c3 hok.n (by omega) (by omega) hc3) [0, 1, 5] rfl (by (repeat first | exact trivial | refine ent1 ?_)) (by (repeat first | exact trivial | refine ent1 ?_)) (fun _ _ => trivial) ?_
        rintro x hs' ⟨c4, hc4, rfl, rfl⟩
        generalize hG2 : B1 ++ putAll e.N = B2 at hE hBl hBp hS2 hc4 ⊢
        (repeat first | (refine And.intro ?_ ?_; first | exact rfl | ((exact fun h => absurd h (by first | decide)); intro yy; clear yy) | (rotate_left; (exact fun h => absurd h (by first | decide)); intro yy; clear yy) | decide | omega) | (with_reducible refine frc_bytesL (by first | omega | decide) ?_) | (with_reducible refine frc_bytesM (by first | omega | decide) ?_))
        refine call_same (fn_eof e.k) [] rfl (by (repeat first | exact trivial | refine ent1 ?_)) trivial (fun _ _ => trivial) ?_
        rintro y hs' ⟨rfl, rfl⟩
        cases hdt : evData e.k
        · rw [hdt, if_neg (by decide), List.append_nil] at hE hBl hBp
          (repeat first | (refine And.intro ?_ ?_; first | exact rfl | ((exact fun h => absurd h (by first | decide)); intro yy; clear yy) | (rotate_left; (exact fun h => absurd h (by first | decide)); intro yy; clear yy) | decide | omega) | (with_reducible refine frc_bytesL (by first | omega | decide) ?_) | (with_reducible refine frc_bytesM (by first | omega | decide) ?_))
          refine ⟨(i + 1, e.t, B2, c4), [0, 1, 6], ⟨⟨rfl, rfl, rfl⟩, ?_⟩, ⟨⟨by omega, hBl, hBp, hc4⟩, hE⟩, by dsimp only; omega⟩
          (repeat first | exact trivial | refine ent1 ?_)
        · rw [hdt, if_pos rfl] at hE hBl hBp
          (repeat first | (refine And.intro ?_ ?_; first | exact rfl | ((exact fun h => absurd h (by first | decide)); intro yy; clear yy) | (rotate_left; (exact fun h => absurd h (by first | decide)); intro yy; clear yy) | decide | omega) | (with_reducible refine frc_bytesL (by first | omega | decide) ?_) | (with_reducible refine frc_bytesM (by first | omega | decide) ?_))
          refine call_same (fn_wlongR hxD (by omega) B2 c4 (by omega) hc4) [0, 1, 6] rfl (by (repeat first | exact trivial | refine ent1 ?_)) (by (repeat first | exact trivial | refine ent1 ?_)) (fun _ _ => trivial) ?_
          rintro x hs' ⟨c5, hc5, rfl, rfl⟩
          generalize hG3 : B2 ++ longL e.D = B3 at hE hBl hBp hc5 ⊢
          (repeat first | (refine And.intro ?_ ?_; first | exact rfl | ((exact fun h => absurd h (by first | decide)); intro yy; clear yy) | (rotate_left; (exact fun h => absurd h (by first | decide)); intro yy; clear yy) | decide | omega) | (with_reducible refine frc_bytesL (by first | omega | decide) ?_) | (with_reducible refine frc_bytesM (by first | omega | decide) ?_))
          refine ⟨(i + 1, e.t, B3, c5), [0, 1, 9], ⟨⟨rfl, rfl, rfl⟩, ?_⟩, ⟨⟨by omega, hBl, hBp, hc5⟩, hE⟩, by dsimp only; omega⟩
          (repeat first | exact trivial | refine ent1 ?_)
  · obtain rfl : i = n := by have : ¬ (i : Int) < (n : Int) := of_decide_eq_false hge; omega
    rw [List.drop_eq_nil_of_le (by omega), encL] at hE
    (repeat first | (refine And.intro ?_ ?_; first | exact rfl | ((exact fun h => absurd h (by first | decide)); intro yy; clear yy) | (rotate_left; (exact fun h => absurd h (by first | decide)); intro yy; clear yy) | decide | omega) | (with_reducible refine frc_bytesL (by first | omega | decide) ?_) | (with_reducible refine frc_bytesM (by first | omega | decide) ?_))
    refine call_same (fn_wdone B cB (by omega) g4 g3) [1, 2] rfl (by (repeat first | exact trivial | refine ent1 ?_)) (by (repeat first | exact trivial | refine ent1 ?_)) (fun _ _ => trivial) ?_
    rintro x hs' ⟨c9, hc9, rfl, rfl⟩
    (repeat first | (refine And.intro ?_ ?_; first | exact rfl | ((exact fun h => absurd h (by first | decide)); intro yy; clear yy) | (rotate_left; (exact fun h => absurd h (by first | decide)); intro yy; clear yy) | decide | omega) | (with_reducible refine frc_bytesL (by first | omega | decide) ?_) | (with_reducible refine frc_bytesM (by first | omega | decide) ?_))
    refine ⟨.tup [.c (svC 1 ⟨false, c9, 0, c9, B⟩), .c (.int .i64 0)], _, ⟨[0, 3], ⟨rfl, rfl, rfl⟩, ?_⟩, fun hc => absurd hc h1, fun _ => ⟨⟨false, c9, 0, c9, B⟩, 0, hE, own_okE hc9 (by omega), rfl, rfl⟩⟩
    (repeat first | exact trivial | refine ent1 ?_)
    refine ⟨fun j hj => eqC_winBM (Nat.le_refl _), ?_⟩
    (repeat first | exact trivial | refine ent1 ?_)
end Sx
end Go.Proofs.Ytdakmieapdpidaa
end

section
/-
  The statements' own functions: Awake, Same (binnaclelaw25). No condition.
-/
namespace Go.Proofs.Ytdakmieapdpidaa
set_option linter.unusedVariables false
namespace Ev
theorem enc_nil : encM [] = ([66#8, 73#8, 78#8, 49#8, 0#8], 0) := by decide +kernel
end Ev
namespace Sx
open Go.RowKit Sha Vi Ev

set_option maxRecDepth 20000 in
theorem fn_bawake {W : World} {ms : List Nat} : FnR Try.prog tds 7 1 [[.past W ms]] [] (fun _ => True) (fun y hs => y = .a (.c (.bool true)) ∧ hs = [[.past W ms]]) := by
  refine fn_of_body tds_ok follows_ Try.func7 rfl (t := anys Try.f7.ntmps) rfl (fun w r0 hr0 _ => ?_)
  obtain ⟨x0, rfl⟩ := List.length_eq_one_iff.1 hr0
  (repeat first | (refine And.intro ?_ ?_; first | exact rfl | ((exact fun h => absurd h (by first | decide)); intro yy; clear yy) | (rotate_left; (exact fun h => absurd h (by first | decide)); intro yy; clear yy) | decide | omega) | (with_reducible refine frc_bytesL (by first | omega | decide) ?_) | (with_reducible refine frc_bytesM (by first | omega | decide) ?_))
  refine call_same (fn_bencode (W := W) (ms := ms) EvsAt.nul) [0] rfl (by (repeat first | exact trivial | refine ent1 ?_)) (by (repeat first | exact trivial | refine ent1 ?_)) (fun _ _ => trivial) ?_
  rintro x hs' ⟨-, hk⟩
  obtain ⟨t, e, hM, ht, rfl, rfl⟩ := hk (by omega)
  rw [enc_nil] at hM
  obtain ⟨htl, rfl⟩ : t.l = [66#8, 73#8, 78#8, 49#8, 0#8] ∧ 0 = e := by simp only [Prod.mk.injEq] at hM; exact ⟨hM.1.symm, hM.2⟩
  (repeat first | (refine And.intro ?_ ?_; first | exact rfl | ((exact fun h => absurd h (by first | decide)); intro yy; clear yy) | (rotate_left; (exact fun h => absurd h (by first | decide)); intro yy; clear yy) | decide | omega) | (with_reducible refine frc_bytesL (by first | omega | decide) ?_) | (with_reducible refine frc_bytesM (by first | omega | decide) ?_))
  refine sn_btsM rfl ht.fit (fun h => by rw [ht.nil h]; rfl) (fun g hg => ?_)
  refine ⟨U8 t.l, ⟨U8_len _, fun q hq => by rw [hg q hq, U8_get _ _ hq]⟩, ?_⟩
  (repeat first | (refine And.intro ?_ ?_; first | exact rfl | ((exact fun h => absurd h (by first | decide)); intro yy; clear yy) | (rotate_left; (exact fun h => absurd h (by first | decide)); intro yy; clear yy) | decide | omega) | (with_reducible refine frc_bytesL (by first | omega | decide) ?_) | (with_reducible refine frc_bytesM (by first | omega | decide) ?_))
  have hb : decide (U8 t.l = [66, 73, 78, 49, 0]) = true := by rw [htl]; rfl
  refine ⟨.a (.c (.bool true)), [[.past W ms]], ⟨[0], ⟨rfl, rfl, rfl⟩, ?_⟩, rfl, rfl⟩
  refine And.intro hb ?_
  (repeat first | exact trivial | refine ent1 ?_)
end Sx
end Go.Proofs.Ytdakmieapdpidaa
end

section
/-
  Numbers with the fewest bytes, both ways. No condition.
-/
namespace Go.Proofs.Ytdakmieapdpidaa
set_option linter.unusedVariables false
namespace Vi
open Sha
end Vi
end Go.Proofs.Ytdakmieapdpidaa
end

section
/-
  Events as bytes and back: the plain law. No condition.
-/
namespace Go.Proofs.Ytdakmieapdpidaa
set_option linter.unusedVariables false
namespace Ev
open Vi Sha
/-- An event that may be, behind a time. -/
structure GoodE (last : BitVec 64) (e : Ev) : Prop where
  k : evOk e.k = true
  lo : last.toNat ≤ e.t.toNat
  hi : e.t.toNat ≤ 1125899906842624
  N : e.N.length = (evNames e.k).length
  n : ∀ n ∈ e.N, lenN n ≠ 0
  D : e.D.length ≤ 20
  nD : evData e.k = false → e.D = []
end Ev
end Go.Proofs.Ytdakmieapdpidaa
end

section
/-
  Lists of events as bytes and back: the plain law. No condition.
-/
namespace Go.Proofs.Ytdakmieapdpidaa
set_option linter.unusedVariables false
namespace Ev
open Vi Sha
def catE : BitVec 64 → List Ev → Bs
  | _, [] => []
  | last, e :: r => evB last e ++ catE e.t r
def GoodL : BitVec 64 → List Ev → Prop
  | _, [] => True
  | last, e :: r => GoodE last e ∧ (e.k = 19#8 → r = []) ∧ GoodL e.t r
theorem GoodE.check {last : BitVec 64} {e : Ev} (h : GoodE last e) : checkM e = 0 ∧ ¬ e.t < last := by
  have hM : (1125899906842624#64).toNat = 1125899906842624 := rfl
  have hT : (4611686018427387903#64).toNat = 4611686018427387903 := rfl
  have h1 := h.hi
  have h2 := h.lo
  have h3 := h.D
  refine ⟨?_, by rw [BitVec.lt_def]; omega⟩
  unfold checkM
  rw [if_neg (by rw [h.k]; decide), if_neg (by rw [BitVec.lt_def]; omega), if_neg (fun hc => hc h.N), if_neg (by omega), if_neg, if_neg]
  · rintro ⟨n, hn, hb⟩
    have h4 := h.n n hn
    have := lenN_spec n
    rw [BitVec.lt_def] at hb
    omega
  · rintro ⟨hc, hd⟩
    rw [h.nD hd] at hc
    exact absurd hc (by decide)
theorem encL_good : ∀ (es : List Ev) (last : BitVec 64) (b : Bs), GoodL last es → encL es last b = (b ++ catE last es, 0)
  | [], _, b, _ => by rw [encL, catE, List.append_nil]
  | e :: r, last, b, ⟨h1, h2, h3⟩ => by
    obtain ⟨c1, c2⟩ := h1.check
    rw [encL, if_neg (by omega), if_neg c2, if_neg (fun hc => hc.2 (h2 hc.1)), encL_good r e.t _ h3, catE, List.append_assoc]
abbrev magicE : Bs := [66#8, 73#8, 78#8, 49#8]
theorem enc_of {es : List Ev} (h1 : es.length ≤ 2048) (h2 : GoodL 0#64 es) : encM es = (magicE ++ (putL (BitVec.ofNat 64 es.length) ++ catE 0#64 es), 0) := by
  unfold encM
  rw [if_neg (by omega), encL_good es _ _ h2]
  show ((magicE ++ (putL _ ++ [])) ++ _, (0 : Int)) = _
  rw [List.append_nil, List.append_assoc]
end Ev
end Go.Proofs.Ytdakmieapdpidaa
end

section
/-
  Rows of events are good. No condition.
-/
namespace Go.Proofs.Ytdakmieapdpidaa
set_option linter.unusedVariables false
namespace Ev
open Vi Sha
theorem mk62_len (x : BitVec 64) : lenN (mk62 x) ≠ 0 := by
  refine lenN_lt ?_
  show (x &&& 4611686018427387903#64).toNat < _
  rw [BitVec.toNat_and]
  have h1 : (4611686018427387903#64).toNat = 4611686018427387903 := rfl
  have h2 : x.toNat &&& (4611686018427387903#64).toNat ≤ (4611686018427387903#64).toNat := Nat.and_le_right
  omega
theorem fit_shape (e : Ev) (k : BitVec 8) : evOk (fitE e k).k = true ∧ (fitE e k).N.length = (evNames (fitE e k).k).length ∧ (∀ n ∈ (fitE e k).N, lenN n ≠ 0) ∧ (fitE e k).D.length ≤ 20 ∧ (evData (fitE e k).k = false → (fitE e k).D = []) := by
  refine ⟨kindE_ok k, ?_, ?_, ?_, ?_⟩
  · show (((padE e.N ((evNames (kindE k)).length - e.N.length)).take (evNames (kindE k)).length).map mk62).length = (evNames (kindE k)).length
    rw [List.length_map, List.length_take, padE_len]
    omega
  · intro n hn
    obtain ⟨x, _, rfl⟩ := List.mem_map.1 (show n ∈ ((padE e.N ((evNames (kindE k)).length - e.N.length)).take (evNames (kindE k)).length).map mk62 from hn)
    exact mk62_len x
  · show (if evData (kindE k) = true then e.D.take 20 else []).length ≤ 20
    split
    · rw [List.length_take]; omega
    · exact Nat.zero_le _
  · intro h
    show (if evData (kindE k) = true then e.D.take 20 else []) = []
    rw [if_neg (by rw [show evData (kindE k) = false from h]; decide)]
theorem fit2_shape (e : Ev) (k : BitVec 8) : (fit2E e k).k ≠ 19#8 ∧ evOk (fit2E e k).k = true ∧ (fit2E e k).N.length = (evNames (fit2E e k).k).length ∧ (∀ n ∈ (fit2E e k).N, lenN n ≠ 0) ∧ (fit2E e k).D.length ≤ 20 ∧ (evData (fit2E e k).k = false → (fit2E e k).D = []) := by
  unfold fit2E
  split
  · exact ⟨show kindE 0#8 ≠ 19#8 by decide, fit_shape _ _⟩
  · rename_i h
    exact ⟨h, fit_shape _ _⟩
theorem at_ok {t : BitVec 64} (e : Ev) (h : t.toNat ≤ 1125899906842624) : t.toNat ≤ (atE t e).toNat ∧ (atE t e).toNat ≤ 1125899906842624 := by
  have hM : (1125899906842624#64).toNat = 1125899906842624 := rfl
  have h1 : (e.t % 100000#64).toNat < 100000 := by
    rw [BitVec.toNat_umod]
    exact Nat.mod_lt _ (by decide)
  have h2 : (t + e.t % 100000#64).toNat = t.toNat + (e.t % 100000#64).toNat := by rw [BitVec.toNat_add]; omega
  unfold atE
  split
  · rw [hM]; omega
  · rename_i hc
    rw [BitVec.lt_def, h2] at hc
    rw [h2]
    omega
theorem row_good (ks : Bs) : ∀ (es : List Ev) (i : Nat) (t : BitVec 64), t.toNat ≤ 1125899906842624 → GoodL t (rowE ks es i t) ∧ ∀ e ∈ rowE ks es i t, e.k ≠ 19#8
  | [], _, _, _ => ⟨trivial, fun e he => by cases he⟩
  | e :: r, i, t, ht => by
    obtain ⟨a1, a2⟩ := at_ok (fit2E e (keyE ks i)) ht
    obtain ⟨s0, s1, s2, s3, s4, s5⟩ := fit2_shape e (keyE ks i)
    obtain ⟨g1, g2⟩ := row_good ks r (i + 1) (atE t (fit2E e (keyE ks i))) a2
    rw [rowE]
    refine ⟨⟨⟨s1, a1, a2, s2, s3, s4, s5⟩, fun h => absurd h s0, g1⟩, fun x hx => ?_⟩
    rcases List.mem_cons.1 hx with rfl | hx
    · exact s0
    · exact g2 x hx
/-- A last event that says that there were more. -/
theorem GoodL.snoc : ∀ {es : List Ev} {last : BitVec 64} {x : Ev}, GoodL last es → (∀ e ∈ es, e.k ≠ 19#8) → GoodE (match es.getLast? with | some e => e.t | none => last) x → GoodL last (es ++ [x])
  | [], last, x, _, _, h => ⟨h, fun _ => rfl, trivial⟩
  | e :: r, last, x, ⟨h1, h2, h3⟩, hk, hx => by
    refine ⟨h1, fun h => absurd h (hk e (List.mem_cons_self ..)), GoodL.snoc h3 (fun y hy => hk y (List.mem_cons_of_mem _ hy)) ?_⟩
    cases r with
    | nil => exact hx
    | cons y r =>
      rw [List.getLast?_cons_cons] at hx
      cases hl : (y :: r).getLast? with
      | none => simp at hl
      | some z => rw [hl] at hx; exact hx
end Ev
end Go.Proofs.Ytdakmieapdpidaa
end

section
/-
  The document's numbers of one, two, four or eight bytes. No condition.
-/
namespace Go.Proofs.Ytdakmieapdpidaa
set_option linter.unusedVariables false
namespace Vi
open Sha
end Vi
namespace Sx
open Sha Vi

end Sx
end Go.Proofs.Ytdakmieapdpidaa
end

section
/-
  Events' bytes as they are meant: binnaclelaw25.encoded. No condition.
-/
namespace Go.Proofs.Ytdakmieapdpidaa
set_option linter.unusedVariables false
namespace Ev
open Vi Sha
end Ev
namespace Sx
open Go.RowKit Sha Vi Ev

end Sx
end Go.Proofs.Ytdakmieapdpidaa
end

section
/-
  Rows of no events; frozen rows. No condition.
-/
namespace Go.Proofs.Ytdakmieapdpidaa
set_option linter.unusedVariables false
namespace Sx
open Go.RowKit Sha Vi Ev

set_option maxRecDepth 20000 in
theorem fn_erow0 {W : World} {ms : List Nat} {a : Option Addr} {n c : Nat} (hn : n = 0) {aK : Option Addr} {nK cK : Nat} :
    FnR Try.prog tds 9 1 [[.past W ms]] [.c (.slc a n c), .c (.slc aK nK cK)] (fun _ => True)
    (fun y hs => y = .a (.c (.slc none 0 0)) ∧ hs = [[.past W ms]]) := by
  subst hn
  refine fn_of_body tds_ok follows_ Try.func9 rfl (t := .a (.c (.slc a 0 c)) :: .a (.c (.slc aK nK cK)) :: anys (Try.f9.ntmps - 2)) rfl (fun w r0 hr _ => ?_)
  obtain ⟨x0, rfl⟩ := List.length_eq_one_iff.1 hr
  (repeat first | (refine And.intro ?_ ?_; first | exact rfl | ((exact fun h => absurd h (by first | decide)); intro yy; clear yy) | (rotate_left; (exact fun h => absurd h (by first | decide)); intro yy; clear yy) | decide | omega) | (with_reducible refine frc_bytesL (by first | omega | decide) ?_) | (with_reducible refine frc_bytesM (by first | omega | decide) ?_))
  refine .inr ⟨1, ?_⟩
  (repeat first | (refine And.intro ?_ ?_; first | exact rfl | ((exact fun h => absurd h (by first | decide)); intro yy; clear yy) | (rotate_left; (exact fun h => absurd h (by first | decide)); intro yy; clear yy) | decide | omega) | (with_reducible refine frc_bytesL (by first | omega | decide) ?_) | (with_reducible refine frc_bytesM (by first | omega | decide) ?_))
  refine ⟨.a (.c (.slc none 0 0)), [[.past W ms]], ⟨[0], ⟨rfl, rfl, rfl⟩, ?_⟩, rfl, rfl⟩
  (repeat first | exact trivial | refine ent1 ?_)
end Sx
end Go.Proofs.Ytdakmieapdpidaa
end

section
/-
  The law BlogBytes. No condition.
-/
namespace Go.Proofs.Ytdakmieapdpidaa
set_option linter.unusedVariables false
namespace Sx
open Go.RowKit Sha Vi Ev

end Sx
end Go.Proofs.Ytdakmieapdpidaa
end

section
/-
  The law BlogBytes, some events. No condition.
-/
namespace Go.Proofs.Ytdakmieapdpidaa
set_option linter.unusedVariables false
namespace Sx
open Go.RowKit Sha Vi Ev

end Sx
end Go.Proofs.Ytdakmieapdpidaa
end

section
/-
  The law BlogBytes, some events, cut. No condition.
-/
namespace Go.Proofs.Ytdakmieapdpidaa
set_option linter.unusedVariables false
namespace Sx
open Go.RowKit Sha Vi Ev

theorem RowAt.frzF {W0 W : World} {ms0 ms : List Nat} {A : Addr} {F : Nat → Bool} {α : Nat → Addr} {n c : Nat} {cs : List SC} {es : List Ev} (k : RowAt W0 ms0 cs es) (hL : Later W0 ms0 W ms) {f : Nat → SC} (hf : ∀ j, j < cs.length → f j = nthC cs j)
    (h : flat [.row (scale c (3 + 1)) f] ≠ [] → ImAt W ms A (((flat [.row (scale c (3 + 1)) f]).map (SC.rz F α)).map SC.raw)) (hn : es.length = n) (hc : n ≤ c) (hcap : n ≤ 9223372036854775807) : EvsAt W ms (some (A.add (0 + 0))) n c es := by
  refine ⟨hn, hc, hcap, (fun e => by cases e), fun B hB j e he => ?_⟩
  injection hB with hB
  subst hB
  obtain ⟨x, h1, h2⟩ := k.elt j e he
  have hj : j < n := by rw [← hn]; exact (List.getElem?_eq_some_iff.1 he).1
  have hne : flat [.row (scale c (3 + 1)) f] ≠ [] := by
    intro e
    have := congrArg List.length e
    simp [flat, sc4] at this
    omega
  refine ⟨x, (((h hne).part (0 + 0) (m := ((flat [.row (scale c (3 + 1)) f]).map (SC.rz F α)).map SC.raw) (fun j x hx => by simpa using hx)).part (j * 4) fun i y hy => ?_), h2.later hL⟩
  have hi : i < 4 := (List.getElem?_eq_some_iff.1 hy).1
  have hcs := h1 i y hy
  have hlen := k.len
  have hjn : j * 4 + i < scale c (3 + 1) := by rw [sc4]; omega
  rw [List.getElem?_map, List.getElem?_map]
  simp only [flat, List.append_nil, List.getElem?_map, List.getElem?_range hjn, Option.map_some]
  have hraw := k.raw y (List.mem_of_getElem? hcs)
  rw [hf _ (List.getElem?_eq_some_iff.1 hcs).1, nthC_get? hcs, rz_raw hraw]
end Sx
end Go.Proofs.Ytdakmieapdpidaa
end

section
/-
  The law BlogBytes, any events. No condition.
-/
namespace Go.Proofs.Ytdakmieapdpidaa
set_option linter.unusedVariables false
namespace Sx
open Go.RowKit Sha Vi Ev

end Sx
end Go.Proofs.Ytdakmieapdpidaa
end

section
/-
  From a function over blocks to a law's walk: arguments opened. Over any program. No condition of its own.
-/
namespace Go.Proofs.Ytdakmieapdpidaa
set_option linter.unusedVariables false
namespace Sx
open Go.RowKit Go.ChangeShapes Go.WideShapes

section
variable {H : Type} {enc : TypeId × Value → H} {P : Program} {w : World} {base : Nat} {sp : Nat → Bool} {held : Bool}
theorem wf_w8 {a : Int} (h : (Lit.int .u8 a).wf = true) : a = ((BitVec.ofInt 8 a).toNat : Int) := by
  have := bounds_u8 h
  rw [BitVec.toNat_ofInt]
  omega
end
theorem isAs_nil (r : Rho) : IsAs r [] [] := ⟨rfl, fun j x e => by simp at e⟩
theorem isAs_cons {r : Rho} {x : SA} {v : Value} {l : List SA} {vs : List Value} (h : SA.Is r x v) (hs : IsAs r l vs) : IsAs r (x :: l) (v :: vs) :=
  ⟨by simpa using hs.1, fun j y e => by
    cases j with
    | zero => simp at e; subst e; exact ⟨v, rfl, h⟩
    | succ j => exact hs.2 j y e⟩
/-- A law's walk. -/
theorem Fn.law {P : Program} {T : List (Nat × TD)} {f : FuncId} {args : List SA} {raw : World → Prop} (h : Fn P T f [] args raw (fun x hs => x = .a (.c (.bool true)) ∧ hs = [])) {w : World} {vs : List Value} (ha : IsAs [] args vs) (hr : raw w) :
    Calls P f vs.toArray w fun e w' => e = .returned (.bool true) ∧ Below w.heap.size w w' := by
  refine (Fn.calls h ha hr).mono ?_
  rintro e w' ⟨v, x, hs, r', rfl, hx, hok, rfl, rfl⟩
  obtain rfl : v = .bool true := hx
  exact ⟨rfl, hok.ext.below0⟩
end Sx
end Go.Proofs.Ytdakmieapdpidaa
end

section
/-
  Numbers of sixteen bits as arguments. Over any program. No condition of its own.
-/
namespace Go.Proofs.Ytdakmieapdpidaa
set_option linter.unusedVariables false
namespace Sx
open Go.ChangeShapes

theorem wf_w64 {a : Int} (h : (Lit.int .u64 a).wf = true) : a = ((BitVec.ofInt 64 a).toNat : Int) := by
  have := bounds_u64 h
  rw [BitVec.toNat_ofInt]
  omega
end Sx
end Go.Proofs.Ytdakmieapdpidaa
end

section
/-
  From a function over blocks that are only read to a law's walk: slices of bytes that came in. Over any program. No condition of its own.
-/
namespace Go.Proofs.Ytdakmieapdpidaa
set_option linter.unusedVariables false
namespace Sx
open Go.RowKit Go.ChangeShapes Go.WideShapes Sha

theorem okWide_spot {P : Program} {w : World} {r : Reach} {b0 : Nat} {t e : TypeId} {a : Option Addr} {n c : Nat} (ht : P.underlying t = some (.slice e)) (h : Value.okWide P w r b0 t (.slice a n c)) : ∀ x, a = some x → x.spot = none := by
  rintro x rfl
  simp only [Value.okWide, ht, Cell.okWide, Cell.ok] at h
  exact h.2.2.2.1
/-- A slice of bytes that came in: nil (z) or not, its bytes, where they lie. -/
structure InB (w : World) (a : Option Addr) (n c : Nat) (z : Bool) (l : Bs) (B f : Nat) : Prop where
  len : l.length = n
  le : n ≤ c
  cap : c ≤ maxLen
  nil : z = true → l = []
  val : ∀ (r : Rho) (i : Nat), r[i]? = some (B, f) → SC.Is r (.sn z i 0 0 n c) (.slice a n c)
  at_ : ∀ r : Rho, At false r w B f (flat (bts z n 0 n (L l)))
theorem open_b8 {w : World} {a : Option Addr} {len cap : Nat} {zs : List Int} (h : IsRow .u8 w a len cap zs) (hs : ∀ x, a = some x → x.spot = none) : ∃ z l B f, InB w a len cap z l B f := by
  rcases h with ⟨rfl, rfl, rfl, rfl⟩ | ⟨x, rfl, hl, hm, hz, hc, hw⟩
  · exact ⟨true, [], 0, 0, rfl, Nat.le_refl _, by unfold maxLen; omega, fun _ => rfl, fun r i _ => .inl ⟨rfl, rfl, rfl, rfl⟩, fun r j y e => by simp [bts, flat] at e⟩
  · obtain ⟨B, f, spot⟩ := x
    obtain rfl : spot = none := hs _ rfl
    refine ⟨false, (zs.take len).map (BitVec.ofInt 8), B, f, by simp; omega, hl, hm, fun h => Bool.noConfusion h, fun r i hr => .inr (.inl ⟨rfl, B, f, hr, rfl⟩), fun r j y e => ?_⟩
    have hj : j < len := by
      rcases Nat.lt_or_ge j len with h | h
      · exact h
      · rw [List.getElem?_eq_none (by simpa [bts, flat] using h)] at e; cases e
    have e2 : y = .w8 (L ((zs.take len).map (BitVec.ofInt 8)) j) := by
      simp only [bts, flat, List.append_nil, List.getElem?_map, Option.map_eq_some_iff] at e
      obtain ⟨i, hi, rfl⟩ := e
      rw [List.getElem?_range (by omega)] at hi
      injection hi with hi
      subst hi
      have := winF_at 0 len (L ((zs.take len).map (BitVec.ofInt 8))) hj
      rwa [Nat.zero_add] at this
    subst e2
    have hc1 := hc j (by omega)
    have ha : (⟨B, f, none⟩ : Addr).add j = ⟨B, f + j, none⟩ := by unfold Addr.add; simp
    rw [ha] at hc1
    refine ⟨_, hc1, ?_, fun h => Bool.noConfusion h⟩
    show Value.int .u8 _ = Value.int .u8 _
    congr 1
    have hjz : j < zs.length := by omega
    have h3 : zs.getD j 0 = zs[j] := by rw [List.getD_eq_getElem?_getD, List.getElem?_eq_getElem hjz]; rfl
    have h4 : L ((zs.take len).map (BitVec.ofInt 8)) j = BitVec.ofInt 8 zs[j] := by
      rw [L_lt (by simp; omega)]
      simp
    rw [h3, h4]
    exact wf_w8 (hw _ (List.getElem_mem _))
/-- The blocks lie where r says. -/
def AllAt (R : Rho) (w : World) : List (List Seg) → Rho → Prop
  | [], [] => True
  | ch :: h, (B, f) :: r => At false R w B f (flat ch) ∧ AllAt R w h r
  | _, _ => False
theorem AllAt.len {R : Rho} {w : World} : ∀ {h : List (List Seg)} {r : Rho}, AllAt R w h r → r.length = h.length
  | [], [], _ => rfl
  | _ :: h, _ :: r, k => by rw [List.length_cons, List.length_cons, AllAt.len k.2]
  | [], _ :: _, k => k.elim
  | _ :: _, [], k => k.elim
theorem AllAt.get {R : Rho} {w : World} : ∀ {h : List (List Seg)} {r : Rho}, AllAt R w h r → ∀ (i : Nat) (ch : List Seg) (B f : Nat), h[i]? = some ch → r[i]? = some (B, f) → At false R w B f (flat ch)
  | [], [], _, i, _, _, _, e, _ => by simp at e
  | c :: h, (B', f') :: r, k, 0, _, _, _, e1, e2 => by
    simp at e1 e2
    obtain ⟨rfl, rfl⟩ := e2
    subst e1
    exact k.1
  | c :: h, (B', f') :: r, k, i + 1, _, _, _, e1, e2 => k.2.get i _ _ _ (by simpa using e1) (by simpa using e2)
theorem heapOk_ro {P : Program} {T : List (Nat × TD)} {w : World} {r0 : Rho} {h0 : List (List Seg)} (hat : AllAt r0 w h0 r0) (hp : ∀ (i : Nat) (W : World) (ms : List Nat), h0[i]? = some [.past W ms] → W = w) : HeapOk (cx0 P T w r0 h0.length h0) h0 r0 w := by
  have hlen := hat.len
  have hget : ∀ i, h0[i]? = some (getH h0 i) ∨ h0[i]? = none := fun i => by
    rcases Nat.lt_or_ge i h0.length with h | h
    · exact .inl (by rw [List.getElem?_eq_getElem h]; have := getH_eq h0 i; rw [List.getElem?_eq_getElem h] at this; simpa using this.symm)
    · exact .inr (List.getElem?_eq_none h)
  have out : ∀ (i : Nat) (x : Nat × Nat), h0.length ≤ i → r0[i]? = some x → False := fun i x hi e => by
    rw [List.getElem?_eq_none (by omega)] at e; cases e
  refine ⟨Ext.refl _ _, RLe.refl _, Nat.le_of_eq hlen.symm, hlen, fun i ch B f hi hr => ?_, fun i B f ho hr => (out i _ ho hr).elim, fun i B f ho hr => (out i _ ho hr).elim, fun i B f ho hl hr => ?_, fun i ch ho hl hi => ?_, fun i j B f f' ch ch' hij o1 o2 h1 h2 r1 r2 => (out i _ o1 r1).elim, fun i m B f ho _ hr => (out i _ ho hr).elim, fun i W ms hi => ?_⟩
  · have hil : i < h0.length := (List.getElem?_eq_some_iff.1 hi).1
    have : Nat.ble h0.length i = false := by
      cases e : Nat.ble h0.length i
      · rfl
      · have := ble_le e; omega
    show At (Nat.ble h0.length i) _ _ _ _ _
    rw [this]
    exact hat.get i ch B f hi hr
  · refine ⟨?_, ?_⟩
    · show B ∉ (r0.drop h0.length).map (·.1)
      rw [List.drop_eq_nil_of_le (by omega)]
      simp
    · rcases hget i with e | e
      · exact (hat.get i _ B f e hr).lt hl
      · rw [List.getElem?_eq_none_iff] at e
        exact (out i _ e hr).elim
  · have hl : ¬ flat (getH h0 i) ≠ [] := hl
    rcases hget i with e | e
    · rw [hi] at e
      injection e with e
      rw [e]
      exact Classical.not_not.1 hl
    · rw [hi] at e; cases e
  · obtain rfl := hp i W ms hi
    exact ⟨Ext.refl _ _, fun B _ h2 h3 => ⟨i, _, ms, hi, h2, h3⟩, fun j B f ho hr => (out j _ ho hr).elim⟩
def NoPast : List (List Seg) → Prop
  | [] => True
  | l :: r => (∀ W ms, l ≠ [.past W ms]) ∧ NoPast r
theorem NoPast.get {w : World} : ∀ {h : List (List Seg)}, NoPast h → ∀ (i : Nat) (W : World) (ms : List Nat), h[i]? = some [.past W ms] → W = w
  | [], _, i, _, _, e => by simp at e
  | l :: h, k, 0, W, ms, e => by simp at e; exact absurd e (k.1 W ms)
  | l :: h, k, i + 1, W, ms, e => NoPast.get k.2 i W ms (by simpa using e)
theorem bts_np (z : Bool) (N o n : Nat) (b : Nat → BitVec 8) (W : World) (ms : List Nat) : bts z N o n b ≠ [.past W ms] := by
  cases z <;> (intro e; simp [bts] at e)
/-- A law's walk: what came in is only read. -/
theorem FnR.law {P : Program} {T : List (Nat × TD)} {f : FuncId} {n : Nat} {h0 : List (List Seg)} {args : List SA} {raw : World → Prop} {w : World} {vs : List Value} {r0 : Rho} (h : FnR P T f n h0 args raw (fun x _ => x = .a (.c (.bool true)))) (hn : n = h0.length)
    (hat : AllAt r0 w h0 r0) (ha : IsAs r0 args vs) (hr : raw w) (hp : NoPast h0 := by (repeat' first | exact trivial | refine And.intro ?_ ?_ | exact Go.Proofs.Ytdakmieapdpidaa.Sx.bts_np _ _ _ _ _ | (intro W ms e; cases e))) :
    Calls P f vs.toArray w fun e w' => e = .returned (.bool true) ∧ Below w.heap.size w w' := by
  subst hn
  refine (h w r0 vs (heapOk_ro hat hp.get) ha hr).mono ?_
  rintro e w' ⟨v, x, hs, r', rfl, hx, hok, rfl⟩
  obtain rfl : v = .bool true := hx
  refine ⟨rfl, ?_⟩
  have e : Ext ((r0.drop h0.length).map (·.1)) w w' := hok.ext
  rw [List.drop_eq_nil_of_le (by rw [hat.len]; exact Nat.le_refl _)] at e
  exact e.below0
end Sx
end Go.Proofs.Ytdakmieapdpidaa
end
