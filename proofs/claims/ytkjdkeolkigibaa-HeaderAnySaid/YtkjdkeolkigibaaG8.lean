/-
  Texts of this claim, part 8: HdC, VrA, HdD, HdF, Sxw, Sxv, Sxs. No condition of its own.
-/
import Derived.OpenShut
import Derived.ChangeArms
import Derived.Test.YtkjdkeolkigibaaG7
section
/-
  Headers: what they can't be, by the law; short ones. No condition.
-/
namespace Go.Proofs.Ytkjdkeolkigibaa
set_option linter.unusedVariables false
namespace Sx
open Sha Vi

def lightM (h : Hd) : Bool := decide (h.t.l.length ≤ 300 ∧ h.f.l.length ≤ 300 ∧ h.k.l.length ≤ 300 ∧ h.n.l.length ≤ 300)
set_option maxRecDepth 20000 in
set_option maxHeartbeats 4000000 in
theorem fn_llight (h : Hd) : FnR Try.prog tds 13 4 (hdB h) [.agg (hdC 0 1 2 3 h)] (fun _ => True)
    (fun y hs => y = .a (.c (.bool (lightM h))) ∧ hs = hdB h) := by
  refine fn_of_body tds_ok follows_ Try.func13 rfl (t := .a (.agg (hdC 0 1 2 3 h)) :: anys (Try.f13.ntmps - 1)) rfl (fun w r0 hr _ => ?_)
  obtain ⟨x0, x1, x2, x3, rfl⟩ := len4' hr
  (repeat first | refine And.intro (by omega) ?_ | refine And.intro (by decide) ?_ | refine And.intro rfl ?_ | refine And.intro (fun _ => ?_) (fun h => Bool.noConfusion h) | refine And.intro (fun h => Bool.noConfusion h) (fun _ => ?_))
  by_cases ht : h.t.l.length ≤ 300
  · have et : decide ((h.t.l.length : Int) ≤ 300) = true := decide_eq_true (by omega)
    (repeat first | refine And.intro (by omega) ?_ | refine And.intro (by decide) ?_ | refine And.intro rfl ?_ | refine And.intro (fun _ => ?_) (fun h => Bool.noConfusion h) | refine And.intro (fun h => Bool.noConfusion h) (fun _ => ?_) | refine And.intro (fun _ => ?_) (fun h => absurd h (by rw [et]; decide)) | refine And.intro (fun h => absurd h (by rw [et]; decide)) (fun _ => ?_))
    by_cases hf : h.f.l.length ≤ 300
    · have ef : decide ((h.f.l.length : Int) ≤ 300) = true := decide_eq_true (by omega)
      (repeat first | refine And.intro (by omega) ?_ | refine And.intro (by decide) ?_ | refine And.intro rfl ?_ | refine And.intro (fun _ => ?_) (fun h => Bool.noConfusion h) | refine And.intro (fun h => Bool.noConfusion h) (fun _ => ?_) | refine And.intro (fun _ => ?_) (fun h => absurd h (by rw [et]; decide)) | refine And.intro (fun h => absurd h (by rw [et]; decide)) (fun _ => ?_) | refine And.intro (fun _ => ?_) (fun h => absurd h (by rw [ef]; decide)) | refine And.intro (fun h => absurd h (by rw [ef]; decide)) (fun _ => ?_))
      by_cases hk : h.k.l.length ≤ 300
      · have ek : decide ((h.k.l.length : Int) ≤ 300) = true := decide_eq_true (by omega)
        (repeat first | refine And.intro (by omega) ?_ | refine And.intro (by decide) ?_ | refine And.intro rfl ?_ | refine And.intro (fun _ => ?_) (fun h => Bool.noConfusion h) | refine And.intro (fun h => Bool.noConfusion h) (fun _ => ?_) | refine And.intro (fun _ => ?_) (fun h => absurd h (by rw [et]; decide)) | refine And.intro (fun h => absurd h (by rw [et]; decide)) (fun _ => ?_) | refine And.intro (fun _ => ?_) (fun h => absurd h (by rw [ef]; decide)) | refine And.intro (fun h => absurd h (by rw [ef]; decide)) (fun _ => ?_) | refine And.intro (fun _ => ?_) (fun h => absurd h (by rw [ek]; decide)) | refine And.intro (fun h => absurd h (by rw [ek]; decide)) (fun _ => ?_))
        by_cases hn : h.n.l.length ≤ 300
        · have en : decide ((h.n.l.length : Int) ≤ 300) = true := decide_eq_true (by omega)
          (repeat first | refine And.intro (by omega) ?_ | refine And.intro (by decide) ?_ | refine And.intro rfl ?_ | refine And.intro (fun _ => ?_) (fun h => Bool.noConfusion h) | refine And.intro (fun h => Bool.noConfusion h) (fun _ => ?_) | refine And.intro (fun _ => ?_) (fun h => absurd h (by rw [et]; decide)) | refine And.intro (fun h => absurd h (by rw [et]; decide)) (fun _ => ?_) | refine And.intro (fun _ => ?_) (fun h => absurd h (by rw [ef]; decide)) | refine And.intro (fun h => absurd h (by rw [ef]; decide)) (fun _ => ?_) | refine And.intro (fun _ => ?_) (fun h => absurd h (by rw [ek]; decide)) | refine And.intro (fun h => absurd h (by rw [ek]; decide)) (fun _ => ?_) | refine And.intro (fun _ => ?_) (fun h => absurd h (by rw [en]; decide)) | refine And.intro (fun h => absurd h (by rw [en]; decide)) (fun _ => ?_))
          refine ⟨.a (.c (.bool true)), _, ⟨[0, 1, 2, 3], ⟨rfl, rfl, rfl⟩, ?_⟩, by unfold lightM; simp [ht, hf, hk, hn], rfl⟩
          (repeat first | exact trivial | refine ⟨rfl, ?_⟩ | refine ⟨fun _ _ => ⟨rfl, trivial⟩, ?_⟩ | refine ⟨fun _ _ => trivial, ?_⟩ | refine ⟨by omega, ?_⟩ | refine ⟨fun _ _ => eqC_winS, ?_⟩ | refine ⟨fun _ _ => eqC_winM, ?_⟩ | refine ⟨fun _ _ => eqC_winB, ?_⟩ | refine ⟨fun _ _ => eqC_selfB, ?_⟩ | refine ⟨fun _ _ => eqC_mpB, ?_⟩)
          refine eqC_bts (eqC_bts (eqC_bts (eqC_bts ?_)))
          (repeat first | exact trivial | refine ⟨rfl, ?_⟩ | refine ⟨fun _ _ => ⟨rfl, trivial⟩, ?_⟩ | refine ⟨fun _ _ => trivial, ?_⟩ | refine ⟨by omega, ?_⟩ | refine ⟨fun _ _ => eqC_winS, ?_⟩ | refine ⟨fun _ _ => eqC_winM, ?_⟩ | refine ⟨fun _ _ => eqC_winB, ?_⟩ | refine ⟨fun _ _ => eqC_selfB, ?_⟩ | refine ⟨fun _ _ => eqC_mpB, ?_⟩)
        · have en : decide ((h.n.l.length : Int) ≤ 300) = false := decide_eq_false (by omega)
          (repeat first | refine And.intro (by omega) ?_ | refine And.intro (by decide) ?_ | refine And.intro rfl ?_ | refine And.intro (fun _ => ?_) (fun h => Bool.noConfusion h) | refine And.intro (fun h => Bool.noConfusion h) (fun _ => ?_) | refine And.intro (fun _ => ?_) (fun h => absurd h (by rw [et]; decide)) | refine And.intro (fun h => absurd h (by rw [et]; decide)) (fun _ => ?_) | refine And.intro (fun _ => ?_) (fun h => absurd h (by rw [ef]; decide)) | refine And.intro (fun h => absurd h (by rw [ef]; decide)) (fun _ => ?_) | refine And.intro (fun _ => ?_) (fun h => absurd h (by rw [ek]; decide)) | refine And.intro (fun h => absurd h (by rw [ek]; decide)) (fun _ => ?_) | refine And.intro (fun _ => ?_) (fun h => absurd h (by rw [en]; decide)) | refine And.intro (fun h => absurd h (by rw [en]; decide)) (fun _ => ?_))
          refine ⟨.a (.c (.bool false)), _, ⟨[0, 1, 2, 3], ⟨rfl, rfl, rfl⟩, ?_⟩, by unfold lightM; simp [ht, hf, hk, hn], rfl⟩
          (repeat first | exact trivial | refine ⟨rfl, ?_⟩ | refine ⟨fun _ _ => ⟨rfl, trivial⟩, ?_⟩ | refine ⟨fun _ _ => trivial, ?_⟩ | refine ⟨by omega, ?_⟩ | refine ⟨fun _ _ => eqC_winS, ?_⟩ | refine ⟨fun _ _ => eqC_winM, ?_⟩ | refine ⟨fun _ _ => eqC_winB, ?_⟩ | refine ⟨fun _ _ => eqC_selfB, ?_⟩ | refine ⟨fun _ _ => eqC_mpB, ?_⟩)
          refine eqC_bts (eqC_bts (eqC_bts (eqC_bts ?_)))
          (repeat first | exact trivial | refine ⟨rfl, ?_⟩ | refine ⟨fun _ _ => ⟨rfl, trivial⟩, ?_⟩ | refine ⟨fun _ _ => trivial, ?_⟩ | refine ⟨by omega, ?_⟩ | refine ⟨fun _ _ => eqC_winS, ?_⟩ | refine ⟨fun _ _ => eqC_winM, ?_⟩ | refine ⟨fun _ _ => eqC_winB, ?_⟩ | refine ⟨fun _ _ => eqC_selfB, ?_⟩ | refine ⟨fun _ _ => eqC_mpB, ?_⟩)
      · have ek : decide ((h.k.l.length : Int) ≤ 300) = false := decide_eq_false (by omega)
        (repeat first | refine And.intro (by omega) ?_ | refine And.intro (by decide) ?_ | refine And.intro rfl ?_ | refine And.intro (fun _ => ?_) (fun h => Bool.noConfusion h) | refine And.intro (fun h => Bool.noConfusion h) (fun _ => ?_) | refine And.intro (fun _ => ?_) (fun h => absurd h (by rw [et]; decide)) | refine And.intro (fun h => absurd h (by rw [et]; decide)) (fun _ => ?_) | refine And.intro (fun _ => ?_) (fun h => absurd h (by rw [ef]; decide)) | refine And.intro (fun h => absurd h (by rw [ef]; decide)) (fun _ => ?_) | refine And.intro (fun _ => ?_) (fun h => absurd h (by rw [ek]; decide)) | refine And.intro (fun h => absurd h (by rw [ek]; decide)) (fun _ => ?_))
        refine ⟨.a (.c (.bool false)), _, ⟨[0, 1, 2, 3], ⟨rfl, rfl, rfl⟩, ?_⟩, by unfold lightM; simp [ht, hf, hk], rfl⟩
        (repeat first | exact trivial | refine ⟨rfl, ?_⟩ | refine ⟨fun _ _ => ⟨rfl, trivial⟩, ?_⟩ | refine ⟨fun _ _ => trivial, ?_⟩ | refine ⟨by omega, ?_⟩ | refine ⟨fun _ _ => eqC_winS, ?_⟩ | refine ⟨fun _ _ => eqC_winM, ?_⟩ | refine ⟨fun _ _ => eqC_winB, ?_⟩ | refine ⟨fun _ _ => eqC_selfB, ?_⟩ | refine ⟨fun _ _ => eqC_mpB, ?_⟩)
        refine eqC_bts (eqC_bts (eqC_bts (eqC_bts ?_)))
        (repeat first | exact trivial | refine ⟨rfl, ?_⟩ | refine ⟨fun _ _ => ⟨rfl, trivial⟩, ?_⟩ | refine ⟨fun _ _ => trivial, ?_⟩ | refine ⟨by omega, ?_⟩ | refine ⟨fun _ _ => eqC_winS, ?_⟩ | refine ⟨fun _ _ => eqC_winM, ?_⟩ | refine ⟨fun _ _ => eqC_winB, ?_⟩ | refine ⟨fun _ _ => eqC_selfB, ?_⟩ | refine ⟨fun _ _ => eqC_mpB, ?_⟩)
    · have ef : decide ((h.f.l.length : Int) ≤ 300) = false := decide_eq_false (by omega)
      (repeat first | refine And.intro (by omega) ?_ | refine And.intro (by decide) ?_ | refine And.intro rfl ?_ | refine And.intro (fun _ => ?_) (fun h => Bool.noConfusion h) | refine And.intro (fun h => Bool.noConfusion h) (fun _ => ?_) | refine And.intro (fun _ => ?_) (fun h => absurd h (by rw [et]; decide)) | refine And.intro (fun h => absurd h (by rw [et]; decide)) (fun _ => ?_) | refine And.intro (fun _ => ?_) (fun h => absurd h (by rw [ef]; decide)) | refine And.intro (fun h => absurd h (by rw [ef]; decide)) (fun _ => ?_))
      refine ⟨.a (.c (.bool false)), _, ⟨[0, 1, 2, 3], ⟨rfl, rfl, rfl⟩, ?_⟩, by unfold lightM; simp [ht, hf], rfl⟩
      (repeat first | exact trivial | refine ⟨rfl, ?_⟩ | refine ⟨fun _ _ => ⟨rfl, trivial⟩, ?_⟩ | refine ⟨fun _ _ => trivial, ?_⟩ | refine ⟨by omega, ?_⟩ | refine ⟨fun _ _ => eqC_winS, ?_⟩ | refine ⟨fun _ _ => eqC_winM, ?_⟩ | refine ⟨fun _ _ => eqC_winB, ?_⟩ | refine ⟨fun _ _ => eqC_selfB, ?_⟩ | refine ⟨fun _ _ => eqC_mpB, ?_⟩)
      refine eqC_bts (eqC_bts (eqC_bts (eqC_bts ?_)))
      (repeat first | exact trivial | refine ⟨rfl, ?_⟩ | refine ⟨fun _ _ => ⟨rfl, trivial⟩, ?_⟩ | refine ⟨fun _ _ => trivial, ?_⟩ | refine ⟨by omega, ?_⟩ | refine ⟨fun _ _ => eqC_winS, ?_⟩ | refine ⟨fun _ _ => eqC_winM, ?_⟩ | refine ⟨fun _ _ => eqC_winB, ?_⟩ | refine ⟨fun _ _ => eqC_selfB, ?_⟩ | refine ⟨fun _ _ => eqC_mpB, ?_⟩)
  · have et : decide ((h.t.l.length : Int) ≤ 300) = false := decide_eq_false (by omega)
    (repeat first | refine And.intro (by omega) ?_ | refine And.intro (by decide) ?_ | refine And.intro rfl ?_ | refine And.intro (fun _ => ?_) (fun h => Bool.noConfusion h) | refine And.intro (fun h => Bool.noConfusion h) (fun _ => ?_) | refine And.intro (fun _ => ?_) (fun h => absurd h (by rw [et]; decide)) | refine And.intro (fun h => absurd h (by rw [et]; decide)) (fun _ => ?_))
    refine ⟨.a (.c (.bool false)), _, ⟨[0, 1, 2, 3], ⟨rfl, rfl, rfl⟩, ?_⟩, by unfold lightM; simp [ht], rfl⟩
    (repeat first | exact trivial | refine ⟨rfl, ?_⟩ | refine ⟨fun _ _ => ⟨rfl, trivial⟩, ?_⟩ | refine ⟨fun _ _ => trivial, ?_⟩ | refine ⟨by omega, ?_⟩ | refine ⟨fun _ _ => eqC_winS, ?_⟩ | refine ⟨fun _ _ => eqC_winM, ?_⟩ | refine ⟨fun _ _ => eqC_winB, ?_⟩ | refine ⟨fun _ _ => eqC_selfB, ?_⟩ | refine ⟨fun _ _ => eqC_mpB, ?_⟩)
    refine eqC_bts (eqC_bts (eqC_bts (eqC_bts ?_)))
    (repeat first | exact trivial | refine ⟨rfl, ?_⟩ | refine ⟨fun _ _ => ⟨rfl, trivial⟩, ?_⟩ | refine ⟨fun _ _ => trivial, ?_⟩ | refine ⟨by omega, ?_⟩ | refine ⟨fun _ _ => eqC_winS, ?_⟩ | refine ⟨fun _ _ => eqC_winM, ?_⟩ | refine ⟨fun _ _ => eqC_winB, ?_⟩ | refine ⟨fun _ _ => eqC_selfB, ?_⟩ | refine ⟨fun _ _ => eqC_mpB, ?_⟩)
set_option maxRecDepth 20000 in
set_option maxHeartbeats 4000000 in
theorem fn_lcheck (h : Hd) : FnR Try.prog tds 15 4 (hdB h) [.agg (hdC 0 1 2 3 h)] (fun _ => True)
    (fun y hs => y = .a (.c (.int .i64 (checkM h))) ∧ hs = hdB h) := by
  refine fn_of_body tds_ok follows_ Try.func15 rfl (t := .a (.agg (hdC 0 1 2 3 h)) :: anys (Try.f15.ntmps - 1)) rfl (fun w r0 hr _ => ?_)
  obtain ⟨x0, x1, x2, x3, rfl⟩ := len4' hr
  (repeat first | refine And.intro (by omega) ?_ | refine And.intro (by decide) ?_ | refine And.intro rfl ?_ | refine And.intro (fun _ => ?_) (fun h => Bool.noConfusion h) | refine And.intro (fun h => Bool.noConfusion h) (fun _ => ?_))
  by_cases hs2 : 3#8 ≤ h.sp
  · have es2 : decide (2#8 < h.sp) = true := decide_eq_true (by first | exact hs2 | exact (lt2 _).2 hs2 | omega)
    (repeat first | refine And.intro (by omega) ?_ | refine And.intro (by decide) ?_ | refine And.intro rfl ?_ | refine And.intro (fun _ => ?_) (fun h => Bool.noConfusion h) | refine And.intro (fun h => Bool.noConfusion h) (fun _ => ?_) | refine And.intro (fun _ => ?_) (fun h => absurd h (by rw [es2]; decide)) | refine And.intro (fun h => absurd h (by rw [es2]; decide)) (fun _ => ?_))
    refine ⟨.a (.c (.int .i64 5)), _, ⟨[0, 1, 2, 3], ⟨rfl, rfl, rfl⟩, ?_⟩, by unfold checkM; rw [if_pos (by first | exact hs2 | omega)], rfl⟩
    (repeat first | exact trivial | refine ⟨rfl, ?_⟩ | refine ⟨fun _ _ => ⟨rfl, trivial⟩, ?_⟩ | refine ⟨fun _ _ => trivial, ?_⟩ | refine ⟨by omega, ?_⟩ | refine ⟨fun _ _ => eqC_winS, ?_⟩ | refine ⟨fun _ _ => eqC_winM, ?_⟩ | refine ⟨fun _ _ => eqC_winB, ?_⟩ | refine ⟨fun _ _ => eqC_selfB, ?_⟩ | refine ⟨fun _ _ => eqC_mpB, ?_⟩)
    refine eqC_bts (eqC_bts (eqC_bts (eqC_bts ?_)))
    (repeat first | exact trivial | refine ⟨rfl, ?_⟩ | refine ⟨fun _ _ => ⟨rfl, trivial⟩, ?_⟩ | refine ⟨fun _ _ => trivial, ?_⟩ | refine ⟨by omega, ?_⟩ | refine ⟨fun _ _ => eqC_winS, ?_⟩ | refine ⟨fun _ _ => eqC_winM, ?_⟩ | refine ⟨fun _ _ => eqC_winB, ?_⟩ | refine ⟨fun _ _ => eqC_selfB, ?_⟩ | refine ⟨fun _ _ => eqC_mpB, ?_⟩)
  · have es2 : decide (2#8 < h.sp) = false := decide_eq_false (by first | exact hs2 | exact (lt2 _).2 hs2 | omega)
    (repeat first | refine And.intro (by omega) ?_ | refine And.intro (by decide) ?_ | refine And.intro rfl ?_ | refine And.intro (fun _ => ?_) (fun h => Bool.noConfusion h) | refine And.intro (fun h => Bool.noConfusion h) (fun _ => ?_) | refine And.intro (fun _ => ?_) (fun h => absurd h (by rw [es2]; decide)) | refine And.intro (fun h => absurd h (by rw [es2]; decide)) (fun _ => ?_))
    by_cases ht : 20 < h.t.l.length
    · have et : decide ((20 : Int) < (h.t.l.length : Int)) = true := decide_eq_true (by first | exact ht | exact (lt2 _).2 ht | omega)
      (repeat first | refine And.intro (by omega) ?_ | refine And.intro (by decide) ?_ | refine And.intro rfl ?_ | refine And.intro (fun _ => ?_) (fun h => Bool.noConfusion h) | refine And.intro (fun h => Bool.noConfusion h) (fun _ => ?_) | refine And.intro (fun _ => ?_) (fun h => absurd h (by rw [et]; decide)) | refine And.intro (fun h => absurd h (by rw [et]; decide)) (fun _ => ?_))
      refine ⟨.a (.c (.int .i64 6)), _, ⟨[0, 1, 2, 3], ⟨rfl, rfl, rfl⟩, ?_⟩, by unfold checkM; rw [if_neg (by first | exact hs2 | omega), if_pos (by first | exact ht | omega)], rfl⟩
      (repeat first | exact trivial | refine ⟨rfl, ?_⟩ | refine ⟨fun _ _ => ⟨rfl, trivial⟩, ?_⟩ | refine ⟨fun _ _ => trivial, ?_⟩ | refine ⟨by omega, ?_⟩ | refine ⟨fun _ _ => eqC_winS, ?_⟩ | refine ⟨fun _ _ => eqC_winM, ?_⟩ | refine ⟨fun _ _ => eqC_winB, ?_⟩ | refine ⟨fun _ _ => eqC_selfB, ?_⟩ | refine ⟨fun _ _ => eqC_mpB, ?_⟩)
      refine eqC_bts (eqC_bts (eqC_bts (eqC_bts ?_)))
      (repeat first | exact trivial | refine ⟨rfl, ?_⟩ | refine ⟨fun _ _ => ⟨rfl, trivial⟩, ?_⟩ | refine ⟨fun _ _ => trivial, ?_⟩ | refine ⟨by omega, ?_⟩ | refine ⟨fun _ _ => eqC_winS, ?_⟩ | refine ⟨fun _ _ => eqC_winM, ?_⟩ | refine ⟨fun _ _ => eqC_winB, ?_⟩ | refine ⟨fun _ _ => eqC_selfB, ?_⟩ | refine ⟨fun _ _ => eqC_mpB, ?_⟩)
    · have et : decide ((20 : Int) < (h.t.l.length : Int)) = false := decide_eq_false (by first | exact ht | exact (lt2 _).2 ht | omega)
      (repeat first | refine And.intro (by omega) ?_ | refine And.intro (by decide) ?_ | refine And.intro rfl ?_ | refine And.intro (fun _ => ?_) (fun h => Bool.noConfusion h) | refine And.intro (fun h => Bool.noConfusion h) (fun _ => ?_) | refine And.intro (fun _ => ?_) (fun h => absurd h (by rw [et]; decide)) | refine And.intro (fun h => absurd h (by rw [et]; decide)) (fun _ => ?_))
      by_cases hf : 20 < h.f.l.length
      · have ef : decide ((20 : Int) < (h.f.l.length : Int)) = true := decide_eq_true (by first | exact hf | exact (lt2 _).2 hf | omega)
        (repeat first | refine And.intro (by omega) ?_ | refine And.intro (by decide) ?_ | refine And.intro rfl ?_ | refine And.intro (fun _ => ?_) (fun h => Bool.noConfusion h) | refine And.intro (fun h => Bool.noConfusion h) (fun _ => ?_) | refine And.intro (fun _ => ?_) (fun h => absurd h (by rw [et]; decide)) | refine And.intro (fun h => absurd h (by rw [et]; decide)) (fun _ => ?_) | refine And.intro (fun _ => ?_) (fun h => absurd h (by rw [ef]; decide)) | refine And.intro (fun h => absurd h (by rw [ef]; decide)) (fun _ => ?_))
        refine ⟨.a (.c (.int .i64 6)), _, ⟨[0, 1, 2, 3], ⟨rfl, rfl, rfl⟩, ?_⟩, by unfold checkM; rw [if_neg (by first | exact hs2 | omega), if_pos (by first | exact hf | omega)], rfl⟩
        (repeat first | exact trivial | refine ⟨rfl, ?_⟩ | refine ⟨fun _ _ => ⟨rfl, trivial⟩, ?_⟩ | refine ⟨fun _ _ => trivial, ?_⟩ | refine ⟨by omega, ?_⟩ | refine ⟨fun _ _ => eqC_winS, ?_⟩ | refine ⟨fun _ _ => eqC_winM, ?_⟩ | refine ⟨fun _ _ => eqC_winB, ?_⟩ | refine ⟨fun _ _ => eqC_selfB, ?_⟩ | refine ⟨fun _ _ => eqC_mpB, ?_⟩)
        refine eqC_bts (eqC_bts (eqC_bts (eqC_bts ?_)))
        (repeat first | exact trivial | refine ⟨rfl, ?_⟩ | refine ⟨fun _ _ => ⟨rfl, trivial⟩, ?_⟩ | refine ⟨fun _ _ => trivial, ?_⟩ | refine ⟨by omega, ?_⟩ | refine ⟨fun _ _ => eqC_winS, ?_⟩ | refine ⟨fun _ _ => eqC_winM, ?_⟩ | refine ⟨fun _ _ => eqC_winB, ?_⟩ | refine ⟨fun _ _ => eqC_selfB, ?_⟩ | refine ⟨fun _ _ => eqC_mpB, ?_⟩)
      · have ef : decide ((20 : Int) < (h.f.l.length : Int)) = false := decide_eq_false (by first | exact hf | exact (lt2 _).2 hf | omega)
        (repeat first | refine And.intro (by omega) ?_ | refine And.intro (by decide) ?_ | refine And.intro rfl ?_ | refine And.intro (fun _ => ?_) (fun h => Bool.noConfusion h) | refine And.intro (fun h => Bool.noConfusion h) (fun _ => ?_) | refine And.intro (fun _ => ?_) (fun h => absurd h (by rw [et]; decide)) | refine And.intro (fun h => absurd h (by rw [et]; decide)) (fun _ => ?_) | refine And.intro (fun _ => ?_) (fun h => absurd h (by rw [ef]; decide)) | refine And.intro (fun h => absurd h (by rw [ef]; decide)) (fun _ => ?_))
        by_cases hk : 64 < h.k.l.length
        · have ek : decide ((64 : Int) < (h.k.l.length : Int)) = true := decide_eq_true (by first | exact hk | exact (lt2 _).2 hk | omega)
          (repeat first | refine And.intro (by omega) ?_ | refine And.intro (by decide) ?_ | refine And.intro rfl ?_ | refine And.intro (fun _ => ?_) (fun h => Bool.noConfusion h) | refine And.intro (fun h => Bool.noConfusion h) (fun _ => ?_) | refine And.intro (fun _ => ?_) (fun h => absurd h (by rw [et]; decide)) | refine And.intro (fun h => absurd h (by rw [et]; decide)) (fun _ => ?_) | refine And.intro (fun _ => ?_) (fun h => absurd h (by rw [ef]; decide)) | refine And.intro (fun h => absurd h (by rw [ef]; decide)) (fun _ => ?_) | refine And.intro (fun _ => ?_) (fun h => absurd h (by rw [ek]; decide)) | refine And.intro (fun h => absurd h (by rw [ek]; decide)) (fun _ => ?_))
          refine ⟨.a (.c (.int .i64 6)), _, ⟨[0, 1, 2, 3], ⟨rfl, rfl, rfl⟩, ?_⟩, by unfold checkM; rw [if_neg (by first | exact hs2 | omega), if_pos (by first | exact hk | omega)], rfl⟩
          (repeat first | exact trivial | refine ⟨rfl, ?_⟩ | refine ⟨fun _ _ => ⟨rfl, trivial⟩, ?_⟩ | refine ⟨fun _ _ => trivial, ?_⟩ | refine ⟨by omega, ?_⟩ | refine ⟨fun _ _ => eqC_winS, ?_⟩ | refine ⟨fun _ _ => eqC_winM, ?_⟩ | refine ⟨fun _ _ => eqC_winB, ?_⟩ | refine ⟨fun _ _ => eqC_selfB, ?_⟩ | refine ⟨fun _ _ => eqC_mpB, ?_⟩)
          refine eqC_bts (eqC_bts (eqC_bts (eqC_bts ?_)))
          (repeat first | exact trivial | refine ⟨rfl, ?_⟩ | refine ⟨fun _ _ => ⟨rfl, trivial⟩, ?_⟩ | refine ⟨fun _ _ => trivial, ?_⟩ | refine ⟨by omega, ?_⟩ | refine ⟨fun _ _ => eqC_winS, ?_⟩ | refine ⟨fun _ _ => eqC_winM, ?_⟩ | refine ⟨fun _ _ => eqC_winB, ?_⟩ | refine ⟨fun _ _ => eqC_selfB, ?_⟩ | refine ⟨fun _ _ => eqC_mpB, ?_⟩)
        · have ek : decide ((64 : Int) < (h.k.l.length : Int)) = false := decide_eq_false (by first | exact hk | exact (lt2 _).2 hk | omega)
          (repeat first | refine And.intro (by omega) ?_ | refine And.intro (by decide) ?_ | refine And.intro rfl ?_ | refine And.intro (fun _ => ?_) (fun h => Bool.noConfusion h) | refine And.intro (fun h => Bool.noConfusion h) (fun _ => ?_) | refine And.intro (fun _ => ?_) (fun h => absurd h (by rw [et]; decide)) | refine And.intro (fun h => absurd h (by rw [et]; decide)) (fun _ => ?_) | refine And.intro (fun _ => ?_) (fun h => absurd h (by rw [ef]; decide)) | refine And.intro (fun h => absurd h (by rw [ef]; decide)) (fun _ => ?_) | refine And.intro (fun _ => ?_) (fun h => absurd h (by rw [ek]; decide)) | refine And.intro (fun h => absurd h (by rw [ek]; decide)) (fun _ => ?_))
          by_cases hnz : h.n.l.length < 1
          · have enz : decide ((h.n.l.length : Int) = 0) = true := decide_eq_true (by first | exact hnz | exact (lt2 _).2 hnz | omega)
            (repeat first | refine And.intro (by omega) ?_ | refine And.intro (by decide) ?_ | refine And.intro rfl ?_ | refine And.intro (fun _ => ?_) (fun h => Bool.noConfusion h) | refine And.intro (fun h => Bool.noConfusion h) (fun _ => ?_) | refine And.intro (fun _ => ?_) (fun h => absurd h (by rw [enz]; decide)) | refine And.intro (fun h => absurd h (by rw [enz]; decide)) (fun _ => ?_))
            refine ⟨.a (.c (.int .i64 6)), _, ⟨[0, 1, 2, 3], ⟨rfl, rfl, rfl⟩, ?_⟩, by unfold checkM; rw [if_neg (by first | exact hs2 | omega), if_neg (by first | exact hk | omega), if_pos (by first | exact hnz | omega)], rfl⟩
            (repeat first | exact trivial | refine ⟨rfl, ?_⟩ | refine ⟨fun _ _ => ⟨rfl, trivial⟩, ?_⟩ | refine ⟨fun _ _ => trivial, ?_⟩ | refine ⟨by omega, ?_⟩ | refine ⟨fun _ _ => eqC_winS, ?_⟩ | refine ⟨fun _ _ => eqC_winM, ?_⟩ | refine ⟨fun _ _ => eqC_winB, ?_⟩ | refine ⟨fun _ _ => eqC_selfB, ?_⟩ | refine ⟨fun _ _ => eqC_mpB, ?_⟩)
            refine eqC_bts (eqC_bts (eqC_bts (eqC_bts ?_)))
            (repeat first | exact trivial | refine ⟨rfl, ?_⟩ | refine ⟨fun _ _ => ⟨rfl, trivial⟩, ?_⟩ | refine ⟨fun _ _ => trivial, ?_⟩ | refine ⟨by omega, ?_⟩ | refine ⟨fun _ _ => eqC_winS, ?_⟩ | refine ⟨fun _ _ => eqC_winM, ?_⟩ | refine ⟨fun _ _ => eqC_winB, ?_⟩ | refine ⟨fun _ _ => eqC_selfB, ?_⟩ | refine ⟨fun _ _ => eqC_mpB, ?_⟩)
          · have enz : decide ((h.n.l.length : Int) = 0) = false := decide_eq_false (by first | exact hnz | exact (lt2 _).2 hnz | omega)
            (repeat first | refine And.intro (by omega) ?_ | refine And.intro (by decide) ?_ | refine And.intro rfl ?_ | refine And.intro (fun _ => ?_) (fun h => Bool.noConfusion h) | refine And.intro (fun h => Bool.noConfusion h) (fun _ => ?_) | refine And.intro (fun _ => ?_) (fun h => absurd h (by rw [enz]; decide)) | refine And.intro (fun h => absurd h (by rw [enz]; decide)) (fun _ => ?_))
            by_cases hn4 : 4 < h.n.l.length
            · have en4 : decide ((4 : Int) < (h.n.l.length : Int)) = true := decide_eq_true (by first | exact hn4 | exact (lt2 _).2 hn4 | omega)
              (repeat first | refine And.intro (by omega) ?_ | refine And.intro (by decide) ?_ | refine And.intro rfl ?_ | refine And.intro (fun _ => ?_) (fun h => Bool.noConfusion h) | refine And.intro (fun h => Bool.noConfusion h) (fun _ => ?_) | refine And.intro (fun _ => ?_) (fun h => absurd h (by rw [enz]; decide)) | refine And.intro (fun h => absurd h (by rw [enz]; decide)) (fun _ => ?_) | refine And.intro (fun _ => ?_) (fun h => absurd h (by rw [en4]; decide)) | refine And.intro (fun h => absurd h (by rw [en4]; decide)) (fun _ => ?_))
              refine ⟨.a (.c (.int .i64 6)), _, ⟨[0, 1, 2, 3], ⟨rfl, rfl, rfl⟩, ?_⟩, by unfold checkM; rw [if_neg (by first | exact hs2 | omega), if_neg (by first | exact hk | omega), if_pos (by first | exact hn4 | omega)], rfl⟩
              (repeat first | exact trivial | refine ⟨rfl, ?_⟩ | refine ⟨fun _ _ => ⟨rfl, trivial⟩, ?_⟩ | refine ⟨fun _ _ => trivial, ?_⟩ | refine ⟨by omega, ?_⟩ | refine ⟨fun _ _ => eqC_winS, ?_⟩ | refine ⟨fun _ _ => eqC_winM, ?_⟩ | refine ⟨fun _ _ => eqC_winB, ?_⟩ | refine ⟨fun _ _ => eqC_selfB, ?_⟩ | refine ⟨fun _ _ => eqC_mpB, ?_⟩)
              refine eqC_bts (eqC_bts (eqC_bts (eqC_bts ?_)))
              (repeat first | exact trivial | refine ⟨rfl, ?_⟩ | refine ⟨fun _ _ => ⟨rfl, trivial⟩, ?_⟩ | refine ⟨fun _ _ => trivial, ?_⟩ | refine ⟨by omega, ?_⟩ | refine ⟨fun _ _ => eqC_winS, ?_⟩ | refine ⟨fun _ _ => eqC_winM, ?_⟩ | refine ⟨fun _ _ => eqC_winB, ?_⟩ | refine ⟨fun _ _ => eqC_selfB, ?_⟩ | refine ⟨fun _ _ => eqC_mpB, ?_⟩)
            · have en4 : decide ((4 : Int) < (h.n.l.length : Int)) = false := decide_eq_false (by first | exact hn4 | exact (lt2 _).2 hn4 | omega)
              (repeat first | refine And.intro (by omega) ?_ | refine And.intro (by decide) ?_ | refine And.intro rfl ?_ | refine And.intro (fun _ => ?_) (fun h => Bool.noConfusion h) | refine And.intro (fun h => Bool.noConfusion h) (fun _ => ?_) | refine And.intro (fun _ => ?_) (fun h => absurd h (by rw [enz]; decide)) | refine And.intro (fun h => absurd h (by rw [enz]; decide)) (fun _ => ?_) | refine And.intro (fun _ => ?_) (fun h => absurd h (by rw [en4]; decide)) | refine And.intro (fun h => absurd h (by rw [en4]; decide)) (fun _ => ?_))
              by_cases hsn0 : h.sp ≠ 0#8
              · have esn0 : decide (h.sp ≠ 0#8) = true := decide_eq_true (by first | exact hsn0 | exact (lt2 _).2 hsn0 | omega)
                (repeat first | refine And.intro (by omega) ?_ | refine And.intro (by decide) ?_ | refine And.intro rfl ?_ | refine And.intro (fun _ => ?_) (fun h => Bool.noConfusion h) | refine And.intro (fun h => Bool.noConfusion h) (fun _ => ?_) | refine And.intro (fun _ => ?_) (fun h => absurd h (by rw [esn0]; decide)) | refine And.intro (fun h => absurd h (by rw [esn0]; decide)) (fun _ => ?_))
                by_cases hk0 : 0 < h.k.l.length
                · have ek0 : decide ((0 : Int) < (h.k.l.length : Int)) = true := decide_eq_true (by first | exact hk0 | exact (lt2 _).2 hk0 | omega)
                  (repeat first | refine And.intro (by omega) ?_ | refine And.intro (by decide) ?_ | refine And.intro rfl ?_ | refine And.intro (fun _ => ?_) (fun h => Bool.noConfusion h) | refine And.intro (fun h => Bool.noConfusion h) (fun _ => ?_) | refine And.intro (fun _ => ?_) (fun h => absurd h (by rw [esn0]; decide)) | refine And.intro (fun h => absurd h (by rw [esn0]; decide)) (fun _ => ?_) | refine And.intro (fun _ => ?_) (fun h => absurd h (by rw [ek0]; decide)) | refine And.intro (fun h => absurd h (by rw [ek0]; decide)) (fun _ => ?_))
                  refine ⟨.a (.c (.int .i64 4)), _, ⟨[0, 1, 2, 3], ⟨rfl, rfl, rfl⟩, ?_⟩, by unfold checkM; rw [if_neg (by first | exact hs2 | omega), if_neg (by first | exact hk | omega), if_neg (by first | exact hn4 | omega), if_pos (by first | exact ⟨hsn0, hk0⟩ | exact ⟨hk0, hsn0⟩)], rfl⟩
                  (repeat first | exact trivial | refine ⟨rfl, ?_⟩ | refine ⟨fun _ _ => ⟨rfl, trivial⟩, ?_⟩ | refine ⟨fun _ _ => trivial, ?_⟩ | refine ⟨by omega, ?_⟩ | refine ⟨fun _ _ => eqC_winS, ?_⟩ | refine ⟨fun _ _ => eqC_winM, ?_⟩ | refine ⟨fun _ _ => eqC_winB, ?_⟩ | refine ⟨fun _ _ => eqC_selfB, ?_⟩ | refine ⟨fun _ _ => eqC_mpB, ?_⟩)
                  refine eqC_bts (eqC_bts (eqC_bts (eqC_bts ?_)))
                  (repeat first | exact trivial | refine ⟨rfl, ?_⟩ | refine ⟨fun _ _ => ⟨rfl, trivial⟩, ?_⟩ | refine ⟨fun _ _ => trivial, ?_⟩ | refine ⟨by omega, ?_⟩ | refine ⟨fun _ _ => eqC_winS, ?_⟩ | refine ⟨fun _ _ => eqC_winM, ?_⟩ | refine ⟨fun _ _ => eqC_winB, ?_⟩ | refine ⟨fun _ _ => eqC_selfB, ?_⟩ | refine ⟨fun _ _ => eqC_mpB, ?_⟩)
                · have ek0 : decide ((0 : Int) < (h.k.l.length : Int)) = false := decide_eq_false (by first | exact hk0 | exact (lt2 _).2 hk0 | omega)
                  (repeat first | refine And.intro (by omega) ?_ | refine And.intro (by decide) ?_ | refine And.intro rfl ?_ | refine And.intro (fun _ => ?_) (fun h => Bool.noConfusion h) | refine And.intro (fun h => Bool.noConfusion h) (fun _ => ?_) | refine And.intro (fun _ => ?_) (fun h => absurd h (by rw [esn0]; decide)) | refine And.intro (fun h => absurd h (by rw [esn0]; decide)) (fun _ => ?_) | refine And.intro (fun _ => ?_) (fun h => absurd h (by rw [ek0]; decide)) | refine And.intro (fun h => absurd h (by rw [ek0]; decide)) (fun _ => ?_))
                  by_cases hse2 : h.sp = 2#8
                  · have ese2 : decide (h.sp = 2#8) = true := decide_eq_true (by first | exact hse2 | exact (lt2 _).2 hse2 | omega)
                    (repeat first | refine And.intro (by omega) ?_ | refine And.intro (by decide) ?_ | refine And.intro rfl ?_ | refine And.intro (fun _ => ?_) (fun h => Bool.noConfusion h) | refine And.intro (fun h => Bool.noConfusion h) (fun _ => ?_) | refine And.intro (fun _ => ?_) (fun h => absurd h (by rw [ese2]; decide)) | refine And.intro (fun h => absurd h (by rw [ese2]; decide)) (fun _ => ?_))
                    by_cases hf0 : 0 < h.f.l.length
                    · have ef0 : decide ((0 : Int) < (h.f.l.length : Int)) = true := decide_eq_true (by first | exact hf0 | exact (lt2 _).2 hf0 | omega)
                      (repeat first | refine And.intro (by omega) ?_ | refine And.intro (by decide) ?_ | refine And.intro rfl ?_ | refine And.intro (fun _ => ?_) (fun h => Bool.noConfusion h) | refine And.intro (fun h => Bool.noConfusion h) (fun _ => ?_) | refine And.intro (fun _ => ?_) (fun h => absurd h (by rw [ese2]; decide)) | refine And.intro (fun h => absurd h (by rw [ese2]; decide)) (fun _ => ?_) | refine And.intro (fun _ => ?_) (fun h => absurd h (by rw [ef0]; decide)) | refine And.intro (fun h => absurd h (by rw [ef0]; decide)) (fun _ => ?_))
                      refine ⟨.a (.c (.int .i64 4)), _, ⟨[0, 1, 2, 3], ⟨rfl, rfl, rfl⟩, ?_⟩, by unfold checkM; rw [if_neg (by first | exact hs2 | omega), if_neg (by first | exact hk | omega), if_neg (by first | exact hn4 | omega), if_neg (fun e => by first | exact hk0 e.1 | exact hk0 e.2), if_pos (by first | exact ⟨hse2, hf0⟩ | exact ⟨hf0, hse2⟩)], rfl⟩
                      (repeat first | exact trivial | refine ⟨rfl, ?_⟩ | refine ⟨fun _ _ => ⟨rfl, trivial⟩, ?_⟩ | refine ⟨fun _ _ => trivial, ?_⟩ | refine ⟨by omega, ?_⟩ | refine ⟨fun _ _ => eqC_winS, ?_⟩ | refine ⟨fun _ _ => eqC_winM, ?_⟩ | refine ⟨fun _ _ => eqC_winB, ?_⟩ | refine ⟨fun _ _ => eqC_selfB, ?_⟩ | refine ⟨fun _ _ => eqC_mpB, ?_⟩)
                      refine eqC_bts (eqC_bts (eqC_bts (eqC_bts ?_)))
                      (repeat first | exact trivial | refine ⟨rfl, ?_⟩ | refine ⟨fun _ _ => ⟨rfl, trivial⟩, ?_⟩ | refine ⟨fun _ _ => trivial, ?_⟩ | refine ⟨by omega, ?_⟩ | refine ⟨fun _ _ => eqC_winS, ?_⟩ | refine ⟨fun _ _ => eqC_winM, ?_⟩ | refine ⟨fun _ _ => eqC_winB, ?_⟩ | refine ⟨fun _ _ => eqC_selfB, ?_⟩ | refine ⟨fun _ _ => eqC_mpB, ?_⟩)
                    · have ef0 : decide ((0 : Int) < (h.f.l.length : Int)) = false := decide_eq_false (by first | exact hf0 | exact (lt2 _).2 hf0 | omega)
                      (repeat first | refine And.intro (by omega) ?_ | refine And.intro (by decide) ?_ | refine And.intro rfl ?_ | refine And.intro (fun _ => ?_) (fun h => Bool.noConfusion h) | refine And.intro (fun h => Bool.noConfusion h) (fun _ => ?_) | refine And.intro (fun _ => ?_) (fun h => absurd h (by rw [ese2]; decide)) | refine And.intro (fun h => absurd h (by rw [ese2]; decide)) (fun _ => ?_) | refine And.intro (fun _ => ?_) (fun h => absurd h (by rw [ef0]; decide)) | refine And.intro (fun h => absurd h (by rw [ef0]; decide)) (fun _ => ?_))
                      by_cases hsn2 : h.sp ≠ 2#8
                      · have esn2 : decide (h.sp ≠ 2#8) = true := decide_eq_true (by first | exact hsn2 | exact (lt2 _).2 hsn2 | omega)
                        (repeat first | refine And.intro (by omega) ?_ | refine And.intro (by decide) ?_ | refine And.intro rfl ?_ | refine And.intro (fun _ => ?_) (fun h => Bool.noConfusion h) | refine And.intro (fun h => Bool.noConfusion h) (fun _ => ?_) | refine And.intro (fun _ => ?_) (fun h => absurd h (by rw [esn2]; decide)) | refine And.intro (fun h => absurd h (by rw [esn2]; decide)) (fun _ => ?_))
                        by_cases hu : h.turn = true
                        · have eu : h.turn = true := hu
                          (repeat first | refine And.intro (by omega) ?_ | refine And.intro (by decide) ?_ | refine And.intro rfl ?_ | refine And.intro (fun _ => ?_) (fun h => Bool.noConfusion h) | refine And.intro (fun h => Bool.noConfusion h) (fun _ => ?_) | refine And.intro (fun _ => ?_) (fun h => absurd h (by rw [esn2]; decide)) | refine And.intro (fun h => absurd h (by rw [esn2]; decide)) (fun _ => ?_) | refine And.intro (fun _ => ?_) (fun h => absurd h (by rw [eu]; decide)) | refine And.intro (fun h => absurd h (by rw [eu]; decide)) (fun _ => ?_))
                          refine ⟨.a (.c (.int .i64 4)), _, ⟨[0, 1, 2, 3], ⟨rfl, rfl, rfl⟩, ?_⟩, by unfold checkM; rw [if_neg (by first | exact hs2 | omega), if_neg (by first | exact hk | omega), if_neg (by first | exact hn4 | omega), if_neg (fun e => by first | exact hk0 e.1 | exact hk0 e.2), if_neg (fun e => by first | exact hf0 e.1 | exact hf0 e.2), if_pos (by first | exact ⟨hsn2, hu⟩ | exact ⟨hu, hsn2⟩)], rfl⟩
                          (repeat first | exact trivial | refine ⟨rfl, ?_⟩ | refine ⟨fun _ _ => ⟨rfl, trivial⟩, ?_⟩ | refine ⟨fun _ _ => trivial, ?_⟩ | refine ⟨by omega, ?_⟩ | refine ⟨fun _ _ => eqC_winS, ?_⟩ | refine ⟨fun _ _ => eqC_winM, ?_⟩ | refine ⟨fun _ _ => eqC_winB, ?_⟩ | refine ⟨fun _ _ => eqC_selfB, ?_⟩ | refine ⟨fun _ _ => eqC_mpB, ?_⟩)
                          refine eqC_bts (eqC_bts (eqC_bts (eqC_bts ?_)))
                          (repeat first | exact trivial | refine ⟨rfl, ?_⟩ | refine ⟨fun _ _ => ⟨rfl, trivial⟩, ?_⟩ | refine ⟨fun _ _ => trivial, ?_⟩ | refine ⟨by omega, ?_⟩ | refine ⟨fun _ _ => eqC_winS, ?_⟩ | refine ⟨fun _ _ => eqC_winM, ?_⟩ | refine ⟨fun _ _ => eqC_winB, ?_⟩ | refine ⟨fun _ _ => eqC_selfB, ?_⟩ | refine ⟨fun _ _ => eqC_mpB, ?_⟩)
                        · have eu : h.turn = false := by simpa using hu
                          (repeat first | refine And.intro (by omega) ?_ | refine And.intro (by decide) ?_ | refine And.intro rfl ?_ | refine And.intro (fun _ => ?_) (fun h => Bool.noConfusion h) | refine And.intro (fun h => Bool.noConfusion h) (fun _ => ?_) | refine And.intro (fun _ => ?_) (fun h => absurd h (by rw [esn2]; decide)) | refine And.intro (fun h => absurd h (by rw [esn2]; decide)) (fun _ => ?_) | refine And.intro (fun _ => ?_) (fun h => absurd h (by rw [eu]; decide)) | refine And.intro (fun h => absurd h (by rw [eu]; decide)) (fun _ => ?_))
                          refine ⟨.a (.c (.int .i64 0)), _, ⟨[0, 1, 2, 3], ⟨rfl, rfl, rfl⟩, ?_⟩, by unfold checkM; rw [if_neg (by first | exact hs2 | omega), if_neg (by first | exact hk | omega), if_neg (by first | exact hn4 | omega), if_neg (fun e => by first | exact hk0 e.1 | exact hk0 e.2), if_neg (fun e => by first | exact hf0 e.1 | exact hf0 e.2), if_neg (fun e => by first | exact hu e.1 | exact hu e.2)], rfl⟩
                          (repeat first | exact trivial | refine ⟨rfl, ?_⟩ | refine ⟨fun _ _ => ⟨rfl, trivial⟩, ?_⟩ | refine ⟨fun _ _ => trivial, ?_⟩ | refine ⟨by omega, ?_⟩ | refine ⟨fun _ _ => eqC_winS, ?_⟩ | refine ⟨fun _ _ => eqC_winM, ?_⟩ | refine ⟨fun _ _ => eqC_winB, ?_⟩ | refine ⟨fun _ _ => eqC_selfB, ?_⟩ | refine ⟨fun _ _ => eqC_mpB, ?_⟩)
                          refine eqC_bts (eqC_bts (eqC_bts (eqC_bts ?_)))
                          (repeat first | exact trivial | refine ⟨rfl, ?_⟩ | refine ⟨fun _ _ => ⟨rfl, trivial⟩, ?_⟩ | refine ⟨fun _ _ => trivial, ?_⟩ | refine ⟨by omega, ?_⟩ | refine ⟨fun _ _ => eqC_winS, ?_⟩ | refine ⟨fun _ _ => eqC_winM, ?_⟩ | refine ⟨fun _ _ => eqC_winB, ?_⟩ | refine ⟨fun _ _ => eqC_selfB, ?_⟩ | refine ⟨fun _ _ => eqC_mpB, ?_⟩)
                      · have esn2 : decide (h.sp ≠ 2#8) = false := decide_eq_false (by first | exact hsn2 | exact (lt2 _).2 hsn2 | omega)
                        (repeat first | refine And.intro (by omega) ?_ | refine And.intro (by decide) ?_ | refine And.intro rfl ?_ | refine And.intro (fun _ => ?_) (fun h => Bool.noConfusion h) | refine And.intro (fun h => Bool.noConfusion h) (fun _ => ?_) | refine And.intro (fun _ => ?_) (fun h => absurd h (by rw [esn2]; decide)) | refine And.intro (fun h => absurd h (by rw [esn2]; decide)) (fun _ => ?_))
                        refine ⟨.a (.c (.int .i64 0)), _, ⟨[0, 1, 2, 3], ⟨rfl, rfl, rfl⟩, ?_⟩, by unfold checkM; rw [if_neg (by first | exact hs2 | omega), if_neg (by first | exact hk | omega), if_neg (by first | exact hn4 | omega), if_neg (fun e => by first | exact hk0 e.1 | exact hk0 e.2), if_neg (fun e => by first | exact hf0 e.1 | exact hf0 e.2), if_neg (fun e => by first | exact hsn2 e.1 | exact hsn2 e.2)], rfl⟩
                        (repeat first | exact trivial | refine ⟨rfl, ?_⟩ | refine ⟨fun _ _ => ⟨rfl, trivial⟩, ?_⟩ | refine ⟨fun _ _ => trivial, ?_⟩ | refine ⟨by omega, ?_⟩ | refine ⟨fun _ _ => eqC_winS, ?_⟩ | refine ⟨fun _ _ => eqC_winM, ?_⟩ | refine ⟨fun _ _ => eqC_winB, ?_⟩ | refine ⟨fun _ _ => eqC_selfB, ?_⟩ | refine ⟨fun _ _ => eqC_mpB, ?_⟩)
                        refine eqC_bts (eqC_bts (eqC_bts (eqC_bts ?_)))
                        (repeat first | exact trivial | refine ⟨rfl, ?_⟩ | refine ⟨fun _ _ => ⟨rfl, trivial⟩, ?_⟩ | refine ⟨fun _ _ => trivial, ?_⟩ | refine ⟨by omega, ?_⟩ | refine ⟨fun _ _ => eqC_winS, ?_⟩ | refine ⟨fun _ _ => eqC_winM, ?_⟩ | refine ⟨fun _ _ => eqC_winB, ?_⟩ | refine ⟨fun _ _ => eqC_selfB, ?_⟩ | refine ⟨fun _ _ => eqC_mpB, ?_⟩)
                  · have ese2 : decide (h.sp = 2#8) = false := decide_eq_false (by first | exact hse2 | exact (lt2 _).2 hse2 | omega)
                    (repeat first | refine And.intro (by omega) ?_ | refine And.intro (by decide) ?_ | refine And.intro rfl ?_ | refine And.intro (fun _ => ?_) (fun h => Bool.noConfusion h) | refine And.intro (fun h => Bool.noConfusion h) (fun _ => ?_) | refine And.intro (fun _ => ?_) (fun h => absurd h (by rw [ese2]; decide)) | refine And.intro (fun h => absurd h (by rw [ese2]; decide)) (fun _ => ?_))
                    by_cases hsn2 : h.sp ≠ 2#8
                    · have esn2 : decide (h.sp ≠ 2#8) = true := decide_eq_true (by first | exact hsn2 | exact (lt2 _).2 hsn2 | omega)
                      (repeat first | refine And.intro (by omega) ?_ | refine And.intro (by decide) ?_ | refine And.intro rfl ?_ | refine And.intro (fun _ => ?_) (fun h => Bool.noConfusion h) | refine And.intro (fun h => Bool.noConfusion h) (fun _ => ?_) | refine And.intro (fun _ => ?_) (fun h => absurd h (by rw [esn2]; decide)) | refine And.intro (fun h => absurd h (by rw [esn2]; decide)) (fun _ => ?_))
                      by_cases hu : h.turn = true
                      · have eu : h.turn = true := hu
                        (repeat first | refine And.intro (by omega) ?_ | refine And.intro (by decide) ?_ | refine And.intro rfl ?_ | refine And.intro (fun _ => ?_) (fun h => Bool.noConfusion h) | refine And.intro (fun h => Bool.noConfusion h) (fun _ => ?_) | refine And.intro (fun _ => ?_) (fun h => absurd h (by rw [esn2]; decide)) | refine And.intro (fun h => absurd h (by rw [esn2]; decide)) (fun _ => ?_) | refine And.intro (fun _ => ?_) (fun h => absurd h (by rw [eu]; decide)) | refine And.intro (fun h => absurd h (by rw [eu]; decide)) (fun _ => ?_))
                        refine ⟨.a (.c (.int .i64 4)), _, ⟨[0, 1, 2, 3], ⟨rfl, rfl, rfl⟩, ?_⟩, by unfold checkM; rw [if_neg (by first | exact hs2 | omega), if_neg (by first | exact hk | omega), if_neg (by first | exact hn4 | omega), if_neg (fun e => by first | exact hk0 e.1 | exact hk0 e.2), if_neg (fun e => by first | exact hse2 e.1 | exact hse2 e.2), if_pos (by first | exact ⟨hsn2, hu⟩ | exact ⟨hu, hsn2⟩)], rfl⟩
                        (repeat first | exact trivial | refine ⟨rfl, ?_⟩ | refine ⟨fun _ _ => ⟨rfl, trivial⟩, ?_⟩ | refine ⟨fun _ _ => trivial, ?_⟩ | refine ⟨by omega, ?_⟩ | refine ⟨fun _ _ => eqC_winS, ?_⟩ | refine ⟨fun _ _ => eqC_winM, ?_⟩ | refine ⟨fun _ _ => eqC_winB, ?_⟩ | refine ⟨fun _ _ => eqC_selfB, ?_⟩ | refine ⟨fun _ _ => eqC_mpB, ?_⟩)
                        refine eqC_bts (eqC_bts (eqC_bts (eqC_bts ?_)))
                        (repeat first | exact trivial | refine ⟨rfl, ?_⟩ | refine ⟨fun _ _ => ⟨rfl, trivial⟩, ?_⟩ | refine ⟨fun _ _ => trivial, ?_⟩ | refine ⟨by omega, ?_⟩ | refine ⟨fun _ _ => eqC_winS, ?_⟩ | refine ⟨fun _ _ => eqC_winM, ?_⟩ | refine ⟨fun _ _ => eqC_winB, ?_⟩ | refine ⟨fun _ _ => eqC_selfB, ?_⟩ | refine ⟨fun _ _ => eqC_mpB, ?_⟩)
                      · have eu : h.turn = false := by simpa using hu
                        (repeat first | refine And.intro (by omega) ?_ | refine And.intro (by decide) ?_ | refine And.intro rfl ?_ | refine And.intro (fun _ => ?_) (fun h => Bool.noConfusion h) | refine And.intro (fun h => Bool.noConfusion h) (fun _ => ?_) | refine And.intro (fun _ => ?_) (fun h => absurd h (by rw [esn2]; decide)) | refine And.intro (fun h => absurd h (by rw [esn2]; decide)) (fun _ => ?_) | refine And.intro (fun _ => ?_) (fun h => absurd h (by rw [eu]; decide)) | refine And.intro (fun h => absurd h (by rw [eu]; decide)) (fun _ => ?_))
                        refine ⟨.a (.c (.int .i64 0)), _, ⟨[0, 1, 2, 3], ⟨rfl, rfl, rfl⟩, ?_⟩, by unfold checkM; rw [if_neg (by first | exact hs2 | omega), if_neg (by first | exact hk | omega), if_neg (by first | exact hn4 | omega), if_neg (fun e => by first | exact hk0 e.1 | exact hk0 e.2), if_neg (fun e => by first | exact hse2 e.1 | exact hse2 e.2), if_neg (fun e => by first | exact hu e.1 | exact hu e.2)], rfl⟩
                        (repeat first | exact trivial | refine ⟨rfl, ?_⟩ | refine ⟨fun _ _ => ⟨rfl, trivial⟩, ?_⟩ | refine ⟨fun _ _ => trivial, ?_⟩ | refine ⟨by omega, ?_⟩ | refine ⟨fun _ _ => eqC_winS, ?_⟩ | refine ⟨fun _ _ => eqC_winM, ?_⟩ | refine ⟨fun _ _ => eqC_winB, ?_⟩ | refine ⟨fun _ _ => eqC_selfB, ?_⟩ | refine ⟨fun _ _ => eqC_mpB, ?_⟩)
                        refine eqC_bts (eqC_bts (eqC_bts (eqC_bts ?_)))
                        (repeat first | exact trivial | refine ⟨rfl, ?_⟩ | refine ⟨fun _ _ => ⟨rfl, trivial⟩, ?_⟩ | refine ⟨fun _ _ => trivial, ?_⟩ | refine ⟨by omega, ?_⟩ | refine ⟨fun _ _ => eqC_winS, ?_⟩ | refine ⟨fun _ _ => eqC_winM, ?_⟩ | refine ⟨fun _ _ => eqC_winB, ?_⟩ | refine ⟨fun _ _ => eqC_selfB, ?_⟩ | refine ⟨fun _ _ => eqC_mpB, ?_⟩)
                    · have esn2 : decide (h.sp ≠ 2#8) = false := decide_eq_false (by first | exact hsn2 | exact (lt2 _).2 hsn2 | omega)
                      (repeat first | refine And.intro (by omega) ?_ | refine And.intro (by decide) ?_ | refine And.intro rfl ?_ | refine And.intro (fun _ => ?_) (fun h => Bool.noConfusion h) | refine And.intro (fun h => Bool.noConfusion h) (fun _ => ?_) | refine And.intro (fun _ => ?_) (fun h => absurd h (by rw [esn2]; decide)) | refine And.intro (fun h => absurd h (by rw [esn2]; decide)) (fun _ => ?_))
                      refine ⟨.a (.c (.int .i64 0)), _, ⟨[0, 1, 2, 3], ⟨rfl, rfl, rfl⟩, ?_⟩, by unfold checkM; rw [if_neg (by first | exact hs2 | omega), if_neg (by first | exact hk | omega), if_neg (by first | exact hn4 | omega), if_neg (fun e => by first | exact hk0 e.1 | exact hk0 e.2), if_neg (fun e => by first | exact hse2 e.1 | exact hse2 e.2), if_neg (fun e => by first | exact hsn2 e.1 | exact hsn2 e.2)], rfl⟩
                      (repeat first | exact trivial | refine ⟨rfl, ?_⟩ | refine ⟨fun _ _ => ⟨rfl, trivial⟩, ?_⟩ | refine ⟨fun _ _ => trivial, ?_⟩ | refine ⟨by omega, ?_⟩ | refine ⟨fun _ _ => eqC_winS, ?_⟩ | refine ⟨fun _ _ => eqC_winM, ?_⟩ | refine ⟨fun _ _ => eqC_winB, ?_⟩ | refine ⟨fun _ _ => eqC_selfB, ?_⟩ | refine ⟨fun _ _ => eqC_mpB, ?_⟩)
                      refine eqC_bts (eqC_bts (eqC_bts (eqC_bts ?_)))
                      (repeat first | exact trivial | refine ⟨rfl, ?_⟩ | refine ⟨fun _ _ => ⟨rfl, trivial⟩, ?_⟩ | refine ⟨fun _ _ => trivial, ?_⟩ | refine ⟨by omega, ?_⟩ | refine ⟨fun _ _ => eqC_winS, ?_⟩ | refine ⟨fun _ _ => eqC_winM, ?_⟩ | refine ⟨fun _ _ => eqC_winB, ?_⟩ | refine ⟨fun _ _ => eqC_selfB, ?_⟩ | refine ⟨fun _ _ => eqC_mpB, ?_⟩)
              · have esn0 : decide (h.sp ≠ 0#8) = false := decide_eq_false (by first | exact hsn0 | exact (lt2 _).2 hsn0 | omega)
                (repeat first | refine And.intro (by omega) ?_ | refine And.intro (by decide) ?_ | refine And.intro rfl ?_ | refine And.intro (fun _ => ?_) (fun h => Bool.noConfusion h) | refine And.intro (fun h => Bool.noConfusion h) (fun _ => ?_) | refine And.intro (fun _ => ?_) (fun h => absurd h (by rw [esn0]; decide)) | refine And.intro (fun h => absurd h (by rw [esn0]; decide)) (fun _ => ?_))
                by_cases hse2 : h.sp = 2#8
                · have ese2 : decide (h.sp = 2#8) = true := decide_eq_true (by first | exact hse2 | exact (lt2 _).2 hse2 | omega)
                  (repeat first | refine And.intro (by omega) ?_ | refine And.intro (by decide) ?_ | refine And.intro rfl ?_ | refine And.intro (fun _ => ?_) (fun h => Bool.noConfusion h) | refine And.intro (fun h => Bool.noConfusion h) (fun _ => ?_) | refine And.intro (fun _ => ?_) (fun h => absurd h (by rw [ese2]; decide)) | refine And.intro (fun h => absurd h (by rw [ese2]; decide)) (fun _ => ?_))
                  by_cases hf0 : 0 < h.f.l.length
                  · have ef0 : decide ((0 : Int) < (h.f.l.length : Int)) = true := decide_eq_true (by first | exact hf0 | exact (lt2 _).2 hf0 | omega)
                    (repeat first | refine And.intro (by omega) ?_ | refine And.intro (by decide) ?_ | refine And.intro rfl ?_ | refine And.intro (fun _ => ?_) (fun h => Bool.noConfusion h) | refine And.intro (fun h => Bool.noConfusion h) (fun _ => ?_) | refine And.intro (fun _ => ?_) (fun h => absurd h (by rw [ese2]; decide)) | refine And.intro (fun h => absurd h (by rw [ese2]; decide)) (fun _ => ?_) | refine And.intro (fun _ => ?_) (fun h => absurd h (by rw [ef0]; decide)) | refine And.intro (fun h => absurd h (by rw [ef0]; decide)) (fun _ => ?_))
                    refine ⟨.a (.c (.int .i64 4)), _, ⟨[0, 1, 2, 3], ⟨rfl, rfl, rfl⟩, ?_⟩, by unfold checkM; rw [if_neg (by first | exact hs2 | omega), if_neg (by first | exact hk | omega), if_neg (by first | exact hn4 | omega), if_neg (fun e => by first | exact hsn0 e.1 | exact hsn0 e.2), if_pos (by first | exact ⟨hse2, hf0⟩ | exact ⟨hf0, hse2⟩)], rfl⟩
                    (repeat first | exact trivial | refine ⟨rfl, ?_⟩ | refine ⟨fun _ _ => ⟨rfl, trivial⟩, ?_⟩ | refine ⟨fun _ _ => trivial, ?_⟩ | refine ⟨by omega, ?_⟩ | refine ⟨fun _ _ => eqC_winS, ?_⟩ | refine ⟨fun _ _ => eqC_winM, ?_⟩ | refine ⟨fun _ _ => eqC_winB, ?_⟩ | refine ⟨fun _ _ => eqC_selfB, ?_⟩ | refine ⟨fun _ _ => eqC_mpB, ?_⟩)
                    refine eqC_bts (eqC_bts (eqC_bts (eqC_bts ?_)))
                    (repeat first | exact trivial | refine ⟨rfl, ?_⟩ | refine ⟨fun _ _ => ⟨rfl, trivial⟩, ?_⟩ | refine ⟨fun _ _ => trivial, ?_⟩ | refine ⟨by omega, ?_⟩ | refine ⟨fun _ _ => eqC_winS, ?_⟩ | refine ⟨fun _ _ => eqC_winM, ?_⟩ | refine ⟨fun _ _ => eqC_winB, ?_⟩ | refine ⟨fun _ _ => eqC_selfB, ?_⟩ | refine ⟨fun _ _ => eqC_mpB, ?_⟩)
                  · have ef0 : decide ((0 : Int) < (h.f.l.length : Int)) = false := decide_eq_false (by first | exact hf0 | exact (lt2 _).2 hf0 | omega)
                    (repeat first | refine And.intro (by omega) ?_ | refine And.intro (by decide) ?_ | refine And.intro rfl ?_ | refine And.intro (fun _ => ?_) (fun h => Bool.noConfusion h) | refine And.intro (fun h => Bool.noConfusion h) (fun _ => ?_) | refine And.intro (fun _ => ?_) (fun h => absurd h (by rw [ese2]; decide)) | refine And.intro (fun h => absurd h (by rw [ese2]; decide)) (fun _ => ?_) | refine And.intro (fun _ => ?_) (fun h => absurd h (by rw [ef0]; decide)) | refine And.intro (fun h => absurd h (by rw [ef0]; decide)) (fun _ => ?_))
                    by_cases hsn2 : h.sp ≠ 2#8
                    · have esn2 : decide (h.sp ≠ 2#8) = true := decide_eq_true (by first | exact hsn2 | exact (lt2 _).2 hsn2 | omega)
                      (repeat first | refine And.intro (by omega) ?_ | refine And.intro (by decide) ?_ | refine And.intro rfl ?_ | refine And.intro (fun _ => ?_) (fun h => Bool.noConfusion h) | refine And.intro (fun h => Bool.noConfusion h) (fun _ => ?_) | refine And.intro (fun _ => ?_) (fun h => absurd h (by rw [esn2]; decide)) | refine And.intro (fun h => absurd h (by rw [esn2]; decide)) (fun _ => ?_))
                      by_cases hu : h.turn = true
                      · have eu : h.turn = true := hu
                        (repeat first | refine And.intro (by omega) ?_ | refine And.intro (by decide) ?_ | refine And.intro rfl ?_ | refine And.intro (fun _ => ?_) (fun h => Bool.noConfusion h) | refine And.intro (fun h => Bool.noConfusion h) (fun _ => ?_) | refine And.intro (fun _ => ?_) (fun h => absurd h (by rw [esn2]; decide)) | refine And.intro (fun h => absurd h (by rw [esn2]; decide)) (fun _ => ?_) | refine And.intro (fun _ => ?_) (fun h => absurd h (by rw [eu]; decide)) | refine And.intro (fun h => absurd h (by rw [eu]; decide)) (fun _ => ?_))
                        refine ⟨.a (.c (.int .i64 4)), _, ⟨[0, 1, 2, 3], ⟨rfl, rfl, rfl⟩, ?_⟩, by unfold checkM; rw [if_neg (by first | exact hs2 | omega), if_neg (by first | exact hk | omega), if_neg (by first | exact hn4 | omega), if_neg (fun e => by first | exact hsn0 e.1 | exact hsn0 e.2), if_neg (fun e => by first | exact hf0 e.1 | exact hf0 e.2), if_pos (by first | exact ⟨hsn2, hu⟩ | exact ⟨hu, hsn2⟩)], rfl⟩
                        (repeat first | exact trivial | refine ⟨rfl, ?_⟩ | refine ⟨fun _ _ => ⟨rfl, trivial⟩, ?_⟩ | refine ⟨fun _ _ => trivial, ?_⟩ | refine ⟨by omega, ?_⟩ | refine ⟨fun _ _ => eqC_winS, ?_⟩ | refine ⟨fun _ _ => eqC_winM, ?_⟩ | refine ⟨fun _ _ => eqC_winB, ?_⟩ | refine ⟨fun _ _ => eqC_selfB, ?_⟩ | refine ⟨fun _ _ => eqC_mpB, ?_⟩)
                        refine eqC_bts (eqC_bts (eqC_bts (eqC_bts ?_)))
                        (repeat first | exact trivial | refine ⟨rfl, ?_⟩ | refine ⟨fun _ _ => ⟨rfl, trivial⟩, ?_⟩ | refine ⟨fun _ _ => trivial, ?_⟩ | refine ⟨by omega, ?_⟩ | refine ⟨fun _ _ => eqC_winS, ?_⟩ | refine ⟨fun _ _ => eqC_winM, ?_⟩ | refine ⟨fun _ _ => eqC_winB, ?_⟩ | refine ⟨fun _ _ => eqC_selfB, ?_⟩ | refine ⟨fun _ _ => eqC_mpB, ?_⟩)
                      · have eu : h.turn = false := by simpa using hu
                        (repeat first | refine And.intro (by omega) ?_ | refine And.intro (by decide) ?_ | refine And.intro rfl ?_ | refine And.intro (fun _ => ?_) (fun h => Bool.noConfusion h) | refine And.intro (fun h => Bool.noConfusion h) (fun _ => ?_) | refine And.intro (fun _ => ?_) (fun h => absurd h (by rw [esn2]; decide)) | refine And.intro (fun h => absurd h (by rw [esn2]; decide)) (fun _ => ?_) | refine And.intro (fun _ => ?_) (fun h => absurd h (by rw [eu]; decide)) | refine And.intro (fun h => absurd h (by rw [eu]; decide)) (fun _ => ?_))
                        refine ⟨.a (.c (.int .i64 0)), _, ⟨[0, 1, 2, 3], ⟨rfl, rfl, rfl⟩, ?_⟩, by unfold checkM; rw [if_neg (by first | exact hs2 | omega), if_neg (by first | exact hk | omega), if_neg (by first | exact hn4 | omega), if_neg (fun e => by first | exact hsn0 e.1 | exact hsn0 e.2), if_neg (fun e => by first | exact hf0 e.1 | exact hf0 e.2), if_neg (fun e => by first | exact hu e.1 | exact hu e.2)], rfl⟩
                        (repeat first | exact trivial | refine ⟨rfl, ?_⟩ | refine ⟨fun _ _ => ⟨rfl, trivial⟩, ?_⟩ | refine ⟨fun _ _ => trivial, ?_⟩ | refine ⟨by omega, ?_⟩ | refine ⟨fun _ _ => eqC_winS, ?_⟩ | refine ⟨fun _ _ => eqC_winM, ?_⟩ | refine ⟨fun _ _ => eqC_winB, ?_⟩ | refine ⟨fun _ _ => eqC_selfB, ?_⟩ | refine ⟨fun _ _ => eqC_mpB, ?_⟩)
                        refine eqC_bts (eqC_bts (eqC_bts (eqC_bts ?_)))
                        (repeat first | exact trivial | refine ⟨rfl, ?_⟩ | refine ⟨fun _ _ => ⟨rfl, trivial⟩, ?_⟩ | refine ⟨fun _ _ => trivial, ?_⟩ | refine ⟨by omega, ?_⟩ | refine ⟨fun _ _ => eqC_winS, ?_⟩ | refine ⟨fun _ _ => eqC_winM, ?_⟩ | refine ⟨fun _ _ => eqC_winB, ?_⟩ | refine ⟨fun _ _ => eqC_selfB, ?_⟩ | refine ⟨fun _ _ => eqC_mpB, ?_⟩)
                    · have esn2 : decide (h.sp ≠ 2#8) = false := decide_eq_false (by first | exact hsn2 | exact (lt2 _).2 hsn2 | omega)
                      (repeat first | refine And.intro (by omega) ?_ | refine And.intro (by decide) ?_ | refine And.intro rfl ?_ | refine And.intro (fun _ => ?_) (fun h => Bool.noConfusion h) | refine And.intro (fun h => Bool.noConfusion h) (fun _ => ?_) | refine And.intro (fun _ => ?_) (fun h => absurd h (by rw [esn2]; decide)) | refine And.intro (fun h => absurd h (by rw [esn2]; decide)) (fun _ => ?_))
                      refine ⟨.a (.c (.int .i64 0)), _, ⟨[0, 1, 2, 3], ⟨rfl, rfl, rfl⟩, ?_⟩, by unfold checkM; rw [if_neg (by first | exact hs2 | omega), if_neg (by first | exact hk | omega), if_neg (by first | exact hn4 | omega), if_neg (fun e => by first | exact hsn0 e.1 | exact hsn0 e.2), if_neg (fun e => by first | exact hf0 e.1 | exact hf0 e.2), if_neg (fun e => by first | exact hsn2 e.1 | exact hsn2 e.2)], rfl⟩
                      (repeat first | exact trivial | refine ⟨rfl, ?_⟩ | refine ⟨fun _ _ => ⟨rfl, trivial⟩, ?_⟩ | refine ⟨fun _ _ => trivial, ?_⟩ | refine ⟨by omega, ?_⟩ | refine ⟨fun _ _ => eqC_winS, ?_⟩ | refine ⟨fun _ _ => eqC_winM, ?_⟩ | refine ⟨fun _ _ => eqC_winB, ?_⟩ | refine ⟨fun _ _ => eqC_selfB, ?_⟩ | refine ⟨fun _ _ => eqC_mpB, ?_⟩)
                      refine eqC_bts (eqC_bts (eqC_bts (eqC_bts ?_)))
                      (repeat first | exact trivial | refine ⟨rfl, ?_⟩ | refine ⟨fun _ _ => ⟨rfl, trivial⟩, ?_⟩ | refine ⟨fun _ _ => trivial, ?_⟩ | refine ⟨by omega, ?_⟩ | refine ⟨fun _ _ => eqC_winS, ?_⟩ | refine ⟨fun _ _ => eqC_winM, ?_⟩ | refine ⟨fun _ _ => eqC_winB, ?_⟩ | refine ⟨fun _ _ => eqC_selfB, ?_⟩ | refine ⟨fun _ _ => eqC_mpB, ?_⟩)
                · have ese2 : decide (h.sp = 2#8) = false := decide_eq_false (by first | exact hse2 | exact (lt2 _).2 hse2 | omega)
                  (repeat first | refine And.intro (by omega) ?_ | refine And.intro (by decide) ?_ | refine And.intro rfl ?_ | refine And.intro (fun _ => ?_) (fun h => Bool.noConfusion h) | refine And.intro (fun h => Bool.noConfusion h) (fun _ => ?_) | refine And.intro (fun _ => ?_) (fun h => absurd h (by rw [ese2]; decide)) | refine And.intro (fun h => absurd h (by rw [ese2]; decide)) (fun _ => ?_))
                  by_cases hsn2 : h.sp ≠ 2#8
                  · have esn2 : decide (h.sp ≠ 2#8) = true := decide_eq_true (by first | exact hsn2 | exact (lt2 _).2 hsn2 | omega)
                    (repeat first | refine And.intro (by omega) ?_ | refine And.intro (by decide) ?_ | refine And.intro rfl ?_ | refine And.intro (fun _ => ?_) (fun h => Bool.noConfusion h) | refine And.intro (fun h => Bool.noConfusion h) (fun _ => ?_) | refine And.intro (fun _ => ?_) (fun h => absurd h (by rw [esn2]; decide)) | refine And.intro (fun h => absurd h (by rw [esn2]; decide)) (fun _ => ?_))
                    by_cases hu : h.turn = true
                    · have eu : h.turn = true := hu
                      (repeat first | refine And.intro (by omega) ?_ | refine And.intro (by decide) ?_ | refine And.intro rfl ?_ | refine And.intro (fun _ => ?_) (fun h => Bool.noConfusion h) | refine And.intro (fun h => Bool.noConfusion h) (fun _ => ?_) | refine And.intro (fun _ => ?_) (fun h => absurd h (by rw [esn2]; decide)) | refine And.intro (fun h => absurd h (by rw [esn2]; decide)) (fun _ => ?_) | refine And.intro (fun _ => ?_) (fun h => absurd h (by rw [eu]; decide)) | refine And.intro (fun h => absurd h (by rw [eu]; decide)) (fun _ => ?_))
                      refine ⟨.a (.c (.int .i64 4)), _, ⟨[0, 1, 2, 3], ⟨rfl, rfl, rfl⟩, ?_⟩, by unfold checkM; rw [if_neg (by first | exact hs2 | omega), if_neg (by first | exact hk | omega), if_neg (by first | exact hn4 | omega), if_neg (fun e => by first | exact hsn0 e.1 | exact hsn0 e.2), if_neg (fun e => by first | exact hse2 e.1 | exact hse2 e.2), if_pos (by first | exact ⟨hsn2, hu⟩ | exact ⟨hu, hsn2⟩)], rfl⟩
                      (repeat first | exact trivial | refine ⟨rfl, ?_⟩ | refine ⟨fun _ _ => ⟨rfl, trivial⟩, ?_⟩ | refine ⟨fun _ _ => trivial, ?_⟩ | refine ⟨by omega, ?_⟩ | refine ⟨fun _ _ => eqC_winS, ?_⟩ | refine ⟨fun _ _ => eqC_winM, ?_⟩ | refine ⟨fun _ _ => eqC_winB, ?_⟩ | refine ⟨fun _ _ => eqC_selfB, ?_⟩ | refine ⟨fun _ _ => eqC_mpB, ?_⟩)
                      refine eqC_bts (eqC_bts (eqC_bts (eqC_bts ?_)))
                      (repeat first | exact trivial | refine ⟨rfl, ?_⟩ | refine ⟨fun _ _ => ⟨rfl, trivial⟩, ?_⟩ | refine ⟨fun _ _ => trivial, ?_⟩ | refine ⟨by omega, ?_⟩ | refine ⟨fun _ _ => eqC_winS, ?_⟩ | refine ⟨fun _ _ => eqC_winM, ?_⟩ | refine ⟨fun _ _ => eqC_winB, ?_⟩ | refine ⟨fun _ _ => eqC_selfB, ?_⟩ | refine ⟨fun _ _ => eqC_mpB, ?_⟩)
                    · have eu : h.turn = false := by simpa using hu
                      (repeat first | refine And.intro (by omega) ?_ | refine And.intro (by decide) ?_ | refine And.intro rfl ?_ | refine And.intro (fun _ => ?_) (fun h => Bool.noConfusion h) | refine And.intro (fun h => Bool.noConfusion h) (fun _ => ?_) | refine And.intro (fun _ => ?_) (fun h => absurd h (by rw [esn2]; decide)) | refine And.intro (fun h => absurd h (by rw [esn2]; decide)) (fun _ => ?_) | refine And.intro (fun _ => ?_) (fun h => absurd h (by rw [eu]; decide)) | refine And.intro (fun h => absurd h (by rw [eu]; decide)) (fun _ => ?_))
                      refine ⟨.a (.c (.int .i64 0)), _, ⟨[0, 1, 2, 3], ⟨rfl, rfl, rfl⟩, ?_⟩, by unfold checkM; rw [if_neg (by first | exact hs2 | omega), if_neg (by first | exact hk | omega), if_neg (by first | exact hn4 | omega), if_neg (fun e => by first | exact hsn0 e.1 | exact hsn0 e.2), if_neg (fun e => by first | exact hse2 e.1 | exact hse2 e.2), if_neg (fun e => by first | exact hu e.1 | exact hu e.2)], rfl⟩
                      (repeat first | exact trivial | refine ⟨rfl, ?_⟩ | refine ⟨fun _ _ => ⟨rfl, trivial⟩, ?_⟩ | refine ⟨fun _ _ => trivial, ?_⟩ | refine ⟨by omega, ?_⟩ | refine ⟨fun _ _ => eqC_winS, ?_⟩ | refine ⟨fun _ _ => eqC_winM, ?_⟩ | refine ⟨fun _ _ => eqC_winB, ?_⟩ | refine ⟨fun _ _ => eqC_selfB, ?_⟩ | refine ⟨fun _ _ => eqC_mpB, ?_⟩)
                      refine eqC_bts (eqC_bts (eqC_bts (eqC_bts ?_)))
                      (repeat first | exact trivial | refine ⟨rfl, ?_⟩ | refine ⟨fun _ _ => ⟨rfl, trivial⟩, ?_⟩ | refine ⟨fun _ _ => trivial, ?_⟩ | refine ⟨by omega, ?_⟩ | refine ⟨fun _ _ => eqC_winS, ?_⟩ | refine ⟨fun _ _ => eqC_winM, ?_⟩ | refine ⟨fun _ _ => eqC_winB, ?_⟩ | refine ⟨fun _ _ => eqC_selfB, ?_⟩ | refine ⟨fun _ _ => eqC_mpB, ?_⟩)
                  · have esn2 : decide (h.sp ≠ 2#8) = false := decide_eq_false (by first | exact hsn2 | exact (lt2 _).2 hsn2 | omega)
                    (repeat first | refine And.intro (by omega) ?_ | refine And.intro (by decide) ?_ | refine And.intro rfl ?_ | refine And.intro (fun _ => ?_) (fun h => Bool.noConfusion h) | refine And.intro (fun h => Bool.noConfusion h) (fun _ => ?_) | refine And.intro (fun _ => ?_) (fun h => absurd h (by rw [esn2]; decide)) | refine And.intro (fun h => absurd h (by rw [esn2]; decide)) (fun _ => ?_))
                    refine ⟨.a (.c (.int .i64 0)), _, ⟨[0, 1, 2, 3], ⟨rfl, rfl, rfl⟩, ?_⟩, by unfold checkM; rw [if_neg (by first | exact hs2 | omega), if_neg (by first | exact hk | omega), if_neg (by first | exact hn4 | omega), if_neg (fun e => by first | exact hsn0 e.1 | exact hsn0 e.2), if_neg (fun e => by first | exact hse2 e.1 | exact hse2 e.2), if_neg (fun e => by first | exact hsn2 e.1 | exact hsn2 e.2)], rfl⟩
                    (repeat first | exact trivial | refine ⟨rfl, ?_⟩ | refine ⟨fun _ _ => ⟨rfl, trivial⟩, ?_⟩ | refine ⟨fun _ _ => trivial, ?_⟩ | refine ⟨by omega, ?_⟩ | refine ⟨fun _ _ => eqC_winS, ?_⟩ | refine ⟨fun _ _ => eqC_winM, ?_⟩ | refine ⟨fun _ _ => eqC_winB, ?_⟩ | refine ⟨fun _ _ => eqC_selfB, ?_⟩ | refine ⟨fun _ _ => eqC_mpB, ?_⟩)
                    refine eqC_bts (eqC_bts (eqC_bts (eqC_bts ?_)))
                    (repeat first | exact trivial | refine ⟨rfl, ?_⟩ | refine ⟨fun _ _ => ⟨rfl, trivial⟩, ?_⟩ | refine ⟨fun _ _ => trivial, ?_⟩ | refine ⟨by omega, ?_⟩ | refine ⟨fun _ _ => eqC_winS, ?_⟩ | refine ⟨fun _ _ => eqC_winM, ?_⟩ | refine ⟨fun _ _ => eqC_winB, ?_⟩ | refine ⟨fun _ _ => eqC_selfB, ?_⟩ | refine ⟨fun _ _ => eqC_mpB, ?_⟩)
end Sx
end Go.Proofs.Ytkjdkeolkigibaa
end

section
/-
  The document's numbers of one, two, four or eight bytes. No condition.
-/
namespace Go.Proofs.Ytkjdkeolkigibaa
set_option linter.unusedVariables false
namespace Vi
open Sha
theorem shr_div (n : BitVec 64) (j : Nat) : (n >>> (8 * j)) / 256#64 = n >>> (8 * (j + 1)) := by
  apply BitVec.eq_of_toNat_eq
  rw [BitVec.toNat_udiv, BitVec.toNat_ushiftRight, BitVec.toNat_ushiftRight, Nat.shiftRight_eq_div_pow, Nat.shiftRight_eq_div_pow, Nat.mul_add, Nat.pow_add, ← Nat.div_div_eq_div_mul]
  rfl
theorem shr_mod (n : BitVec 64) (j : Nat) : ((n >>> (8 * j)) % 256#64).setWidth 8 = byteN n j := by
  apply BitVec.eq_of_toNat_eq
  rw [byteN_toNat, BitVec.toNat_setWidth, BitVec.toNat_umod, BitVec.toNat_ushiftRight, Nat.shiftRight_eq_div_pow, Nat.pow_mul]
  show n.toNat / 256 ^ j % 256 % 256 = _
  omega
end Vi
namespace Sx
open Sha Vi

theorem fn_qlen (n : BitVec 64) : Fn Try.prog tds 66 [] [.c (.w64 n)] (fun _ => True) (fun x hs => x = .a (.c (.int .i64 (lenN n : Nat))) ∧ hs = []) := by
  refine fn_of_body tds_ok follows_ Try.func66 rfl (t := .a (.c (.w64 n)) :: anys (Try.f66.ntmps - 1)) rfl (fun w r0 hr _ => ?_)
  obtain rfl : r0 = [] := List.eq_nil_of_length_eq_zero hr
  have hs := lenN_spec n
  refine ⟨fun h => ?_, fun h0 => ?_⟩
  · have h : 4611686018427387903#64 < n := of_decide_eq_true h
    rw [BitVec.lt_def] at h
    have e : lenN n = 0 := by simp at h; omega
    rw [e]
    exact ⟨.a (.c (.int .i64 0)), [], ⟨[], ⟨rfl, rfl, rfl⟩, rfl, trivial⟩, rfl, rfl⟩
  have h0 : ¬ 4611686018427387903#64 < n := of_decide_eq_false h0
  rw [BitVec.lt_def] at h0
  simp at h0
  refine ⟨fun h => ?_, fun h1 => ?_⟩
  · have h : n < 64#64 := of_decide_eq_true h
    rw [BitVec.lt_def] at h
    have e : lenN n = 1 := by simp at h; omega
    rw [e]
    exact ⟨.a (.c (.int .i64 1)), [], ⟨[], ⟨rfl, rfl, rfl⟩, rfl, trivial⟩, rfl, rfl⟩
  have h1 : ¬ n < 64#64 := of_decide_eq_false h1
  rw [BitVec.lt_def] at h1
  simp at h1
  refine ⟨fun h => ?_, fun h2 => ?_⟩
  · have h : n < 16384#64 := of_decide_eq_true h
    rw [BitVec.lt_def] at h
    have e : lenN n = 2 := by simp at h; omega
    rw [e]
    exact ⟨.a (.c (.int .i64 2)), [], ⟨[], ⟨rfl, rfl, rfl⟩, rfl, trivial⟩, rfl, rfl⟩
  have h2 : ¬ n < 16384#64 := of_decide_eq_false h2
  rw [BitVec.lt_def] at h2
  simp at h2
  refine ⟨fun h => ?_, fun h3 => ?_⟩
  · have h : n < 1073741824#64 := of_decide_eq_true h
    rw [BitVec.lt_def] at h
    have e : lenN n = 4 := by simp at h; omega
    rw [e]
    exact ⟨.a (.c (.int .i64 4)), [], ⟨[], ⟨rfl, rfl, rfl⟩, rfl, trivial⟩, rfl, rfl⟩
  have h3 : ¬ n < 1073741824#64 := of_decide_eq_false h3
  rw [BitVec.lt_def] at h3
  simp at h3
  have e : lenN n = 8 := by omega
  rw [e]
  exact ⟨.a (.c (.int .i64 8)), [], ⟨[], ⟨rfl, rfl, rfl⟩, rfl, trivial⟩, rfl, rfl⟩
theorem fn_qtop (k : Nat) (hk : okSz k) : Fn Try.prog tds 79 [] [.c (.int .i64 (k : Nat))] (fun _ => True) (fun x hs => x = .a (.c (.int .i64 ((markB k).toNat : Nat))) ∧ hs = []) := by
  refine fn_of_body tds_ok follows_ Try.func79 rfl (t := .a (.c (.int .i64 (k : Nat))) :: anys (Try.f79.ntmps - 1)) rfl (fun w r0 hr _ => ?_)
  obtain rfl : r0 = [] := List.eq_nil_of_length_eq_zero hr
  rcases hk with rfl | rfl | rfl | rfl
  · refine ⟨fun h => ?_, fun h => absurd h (by decide)⟩
    exact ⟨.a (.c (.int .i64 0)), [], ⟨[], ⟨rfl, rfl, rfl⟩, rfl, trivial⟩, rfl, rfl⟩
  · refine ⟨fun h => absurd h (by decide), fun _ => ⟨fun h => ?_, fun h => absurd h (by decide)⟩⟩
    exact ⟨.a (.c (.int .i64 64)), [], ⟨[], ⟨rfl, rfl, rfl⟩, rfl, trivial⟩, rfl, rfl⟩
  · refine ⟨fun h => absurd h (by decide), fun _ => ⟨fun h => absurd h (by decide), fun _ => ⟨fun h => ?_, fun h => absurd h (by decide)⟩⟩⟩
    exact ⟨.a (.c (.int .i64 128)), [], ⟨[], ⟨rfl, rfl, rfl⟩, rfl, trivial⟩, rfl, rfl⟩
  · refine ⟨fun h => absurd h (by decide), fun _ => ⟨fun h => absurd h (by decide), fun _ => ⟨fun h => absurd h (by decide), fun _ => ⟨fun h => ?_, fun h => absurd h (by decide)⟩⟩⟩⟩
    exact ⟨.a (.c (.int .i64 192)), [], ⟨[], ⟨rfl, rfl, rfl⟩, rfl, trivial⟩, rfl, rfl⟩
theorem mark_add' {n : BitVec 64} {k : Nat} (hk : okSz k) (h0 : lenN n ≠ 0) (h1 : lenN n ≤ k) : byteN n (k - 1) + markB k = byteN n (k - 1) ||| markB k := by
  have := mark_add _ (head_lt hk h0 h1).1
  rcases hk with rfl | rfl | rfl | rfl
  · exact this.1.symm
  · exact this.2.1.symm
  · exact this.2.2.1.symm
  · exact this.2.2.2.symm
set_option maxRecDepth 20000 in
theorem fn_qwide (n : BitVec 64) (k : Nat) (hk : okSz k) (h0 : lenN n ≠ 0) (h1 : lenN n ≤ k) : Fn Try.prog tds 54 [] [.c (.w64 n), .c (.int .i64 (k : Nat))] (fun _ => True)
    (fun y hs => ∃ c', k ≤ c' ∧ y = .a (.c (.sl 0 0 0 (wideL n k).length c')) ∧ hs = [lsC (wideL n k) c']) := by
  refine fn_of_body tds_ok follows_ Try.func54 rfl (t := [.a (.c (.w64 (n))), .a (.c (.int .i64 ((k : Nat)))), .any, .any, .any, .any, .any, .any, .any, .any, .any, .any, .any, .any, .any, .any, .any, .any, .any, .any, .any, .any, .any, .any, .any, .any, .any, .any, .any, .any, .any, .any, .any, .any, .any, .any, .any, .any, .any, .any, .any, .any, .any, .any, .any]) rfl (fun w r0 hr _ => ?_)
  obtain rfl : r0 = [] := List.eq_nil_of_length_eq_zero hr
  have hk8 : 1 ≤ k ∧ k ≤ 8 := by rcases hk with rfl | rfl | rfl | rfl <;> omega
  (repeat first | refine And.intro (by omega) ?_ | refine And.intro (by decide) ?_ | (with_reducible refine frc_parts (by first | omega | decide) ?_) | (with_reducible refine frc_bytesL (by first | omega | decide) ?_) | refine And.intro rfl ?_)
  refine call_same (fn_qlen n) [] rfl (by (repeat first | exact trivial | refine ⟨rfl, ?_⟩ | refine ⟨fun _ _ => ⟨rfl, trivial⟩, ?_⟩ | refine ⟨fun _ _ => trivial, ?_⟩ | refine ⟨by omega, ?_⟩ | refine ⟨fun _ _ => eqC_winS, ?_⟩ | refine ⟨fun _ _ => eqC_winM, ?_⟩ | refine ⟨fun _ _ => eqC_winB, ?_⟩ | refine ⟨fun _ _ => eqC_selfB, ?_⟩ | refine ⟨fun _ _ => eqC_mpB, ?_⟩)) trivial (fun _ _ => trivial) ?_
  rintro x hs ⟨rfl, rfl⟩
  have e1 : decide ((lenN n : Int) = 0) = false := decide_eq_false (by omega)
  (repeat first | refine And.intro (by omega) ?_ | refine And.intro (by decide) ?_ | refine And.intro rfl ?_ | refine And.intro (fun _ => ?_) (fun h => Bool.noConfusion h) | refine And.intro (fun h => Bool.noConfusion h) (fun _ => ?_) | refine And.intro (fun _ => ?_) (fun h => absurd h (by rw [e1]; decide)) | refine And.intro (fun h => absurd h (by rw [e1]; decide)) (fun _ => ?_))
  refine call_same (fn_qlen n) [] rfl (by (repeat first | exact trivial | refine ⟨rfl, ?_⟩ | refine ⟨fun _ _ => ⟨rfl, trivial⟩, ?_⟩ | refine ⟨fun _ _ => trivial, ?_⟩ | refine ⟨by omega, ?_⟩ | refine ⟨fun _ _ => eqC_winS, ?_⟩ | refine ⟨fun _ _ => eqC_winM, ?_⟩ | refine ⟨fun _ _ => eqC_winB, ?_⟩ | refine ⟨fun _ _ => eqC_selfB, ?_⟩ | refine ⟨fun _ _ => eqC_mpB, ?_⟩)) trivial (fun _ _ => trivial) ?_
  rintro x hs ⟨rfl, rfl⟩
  have e2 : decide ((k : Int) < (lenN n : Int)) = false := decide_eq_false (by omega)
  (repeat first | refine And.intro (by omega) ?_ | refine And.intro (by decide) ?_ | refine And.intro rfl ?_ | refine And.intro (fun _ => ?_) (fun h => Bool.noConfusion h) | refine And.intro (fun h => Bool.noConfusion h) (fun _ => ?_) | refine And.intro (fun _ => ?_) (fun h => absurd h (by rw [e1]; decide)) | refine And.intro (fun h => absurd h (by rw [e1]; decide)) (fun _ => ?_) | refine And.intro (fun _ => ?_) (fun h => absurd h (by rw [e2]; decide)) | refine And.intro (fun h => absurd h (by rw [e2]; decide)) (fun _ => ?_))
  refine call_same (fn_qtop k hk) [] rfl (by (repeat first | exact trivial | refine ⟨rfl, ?_⟩ | refine ⟨fun _ _ => ⟨rfl, trivial⟩, ?_⟩ | refine ⟨fun _ _ => trivial, ?_⟩ | refine ⟨by omega, ?_⟩ | refine ⟨fun _ _ => eqC_winS, ?_⟩ | refine ⟨fun _ _ => eqC_winM, ?_⟩ | refine ⟨fun _ _ => eqC_winB, ?_⟩ | refine ⟨fun _ _ => eqC_selfB, ?_⟩ | refine ⟨fun _ _ => eqC_mpB, ?_⟩)) trivial (fun _ _ => trivial) ?_
  rintro x hs ⟨rfl, rfl⟩
  have e3 : decide (((markB k).toNat : Int) < 0) = false := decide_eq_false (by omega)
  (repeat first | refine And.intro (by omega) ?_ | refine And.intro (by decide) ?_ | refine And.intro rfl ?_ | refine And.intro (fun _ => ?_) (fun h => Bool.noConfusion h) | refine And.intro (fun h => Bool.noConfusion h) (fun _ => ?_) | refine And.intro (fun _ => ?_) (fun h => absurd h (by rw [e1]; decide)) | refine And.intro (fun h => absurd h (by rw [e1]; decide)) (fun _ => ?_) | refine And.intro (fun _ => ?_) (fun h => absurd h (by rw [e2]; decide)) | refine And.intro (fun h => absurd h (by rw [e2]; decide)) (fun _ => ?_) | refine And.intro (fun _ => ?_) (fun h => absurd h (by rw [e3]; decide)) | refine And.intro (fun h => absurd h (by rw [e3]; decide)) (fun _ => ?_))
  refine .inl ⟨Nat, fun j => ⟨[.a (.c (.w64 (n >>> (8 * j)))), .a (.c (.int .i64 ((k : Nat)))), .any, .any, .any, .a (.c (.p 0 0 0)), .a (.c (.int .i64 ((k : Int) - 1 - (j : Int)))), .any, .any, .any, .any, .any, .any, .any, .any, .any, .any, .any, .any, .any, .any, .any, .any, .any, .any, .any, .any, .any, .any, .any, .any, .any, .any, .any, .any, .any, .any, .any, .any, .any, .any, .any, .any, .any, .any], [[.row 8 fun i => .w8 (if k ≤ i + j ∧ i < k then byteN n (k - 1 - i) else 0#8)]]⟩, fun j => j ≤ k, fun j => 9 - j, ⟨0, [0], ⟨⟨rfl, rfl, rfl⟩, ?_⟩, by omega⟩, fun j hj => ?_⟩
  · (repeat first | exact trivial | refine ⟨rfl, ?_⟩ | refine ⟨fun _ _ => ⟨rfl, trivial⟩, ?_⟩ | refine ⟨fun _ _ => trivial, ?_⟩ | refine ⟨by omega, ?_⟩ | refine ⟨fun _ _ => eqC_winS, ?_⟩ | refine ⟨fun _ _ => eqC_winM, ?_⟩ | refine ⟨fun _ _ => eqC_winB, ?_⟩ | refine ⟨fun _ _ => eqC_selfB, ?_⟩ | refine ⟨fun _ _ => eqC_mpB, ?_⟩)
    refine ⟨fun i hi => ⟨(if_neg (by omega)).symm, trivial⟩, ?_⟩
    (repeat first | exact trivial | refine ⟨rfl, ?_⟩ | refine ⟨fun _ _ => ⟨rfl, trivial⟩, ?_⟩ | refine ⟨fun _ _ => trivial, ?_⟩ | refine ⟨by omega, ?_⟩ | refine ⟨fun _ _ => eqC_winS, ?_⟩ | refine ⟨fun _ _ => eqC_winM, ?_⟩ | refine ⟨fun _ _ => eqC_winB, ?_⟩ | refine ⟨fun _ _ => eqC_selfB, ?_⟩ | refine ⟨fun _ _ => eqC_mpB, ?_⟩)
  refine ⟨fun h => ?_, fun h => ?_⟩
  · have hlt : j < k := by have : (0 : Int) ≤ (k : Int) - 1 - j := of_decide_eq_true h; omega
    (repeat first | refine And.intro (by omega) ?_ | refine And.intro (by decide) ?_ | (with_reducible refine frc_parts (by first | omega | decide) ?_) | (with_reducible refine frc_bytesL (by first | omega | decide) ?_) | refine And.intro rfl ?_)
    refine ⟨j + 1, [0], ⟨⟨rfl, rfl, rfl⟩, ?_⟩, by omega, by dsimp only; omega⟩
    refine ⟨shr_div n j, ?_⟩
    (repeat first | exact trivial | refine ⟨rfl, ?_⟩ | refine ⟨fun _ _ => ⟨rfl, trivial⟩, ?_⟩ | refine ⟨fun _ _ => trivial, ?_⟩ | refine ⟨by omega, ?_⟩ | refine ⟨fun _ _ => eqC_winS, ?_⟩ | refine ⟨fun _ _ => eqC_winM, ?_⟩ | refine ⟨fun _ _ => eqC_winB, ?_⟩ | refine ⟨fun _ _ => eqC_selfB, ?_⟩ | refine ⟨fun _ _ => eqC_mpB, ?_⟩)
    refine ⟨fun i hi => eqC_w8 ?_, ?_⟩
    · have ei : ((k : Int) - 1 - (j : Int)).toNat + 0 = k - 1 - j := by omega
      rw [ei]
      refine upd_w8 (g := fun i => .w8 (if k ≤ i + (j + 1) ∧ i < k then byteN n (k - 1 - i) else 0#8)) ?_ (fun q hq => ?_) i
      · show SC.w8 _ = SC.w8 _
        rw [if_pos (by omega), shr_mod, show k - 1 - (k - 1 - j) = j by omega]
      · show SC.w8 _ = SC.w8 _
        have : (k ≤ q + j ∧ q < k) ↔ (k ≤ q + (j + 1) ∧ q < k) := by omega
        simp only [this]
    (repeat first | exact trivial | refine ⟨rfl, ?_⟩ | refine ⟨fun _ _ => ⟨rfl, trivial⟩, ?_⟩ | refine ⟨fun _ _ => trivial, ?_⟩ | refine ⟨by omega, ?_⟩ | refine ⟨fun _ _ => eqC_winS, ?_⟩ | refine ⟨fun _ _ => eqC_winM, ?_⟩ | refine ⟨fun _ _ => eqC_winB, ?_⟩ | refine ⟨fun _ _ => eqC_selfB, ?_⟩ | refine ⟨fun _ _ => eqC_mpB, ?_⟩)
  · obtain rfl : j = k := by have : ¬ (0 : Int) ≤ (k : Int) - 1 - j := of_decide_eq_false h; have hj : j ≤ k := hj; omega
    refine ⟨none, [], [(0, true), (1, true), (2, true), (3, false), (4, true), (5, true), (6, true)], [7], by kernel_rfl, ?_⟩
    (repeat first | refine And.intro (by omega) ?_ | refine And.intro (by decide) ?_ | (with_reducible refine frc_parts (by first | omega | decide) ?_) | (with_reducible refine frc_bytesL (by first | omega | decide) ?_) | refine And.intro rfl ?_)
    refine call_same (fn_qtop j hk) [] rfl (by (repeat first | exact trivial | refine ⟨rfl, ?_⟩ | refine ⟨fun _ _ => ⟨rfl, trivial⟩, ?_⟩ | refine ⟨fun _ _ => trivial, ?_⟩ | refine ⟨by omega, ?_⟩ | refine ⟨fun _ _ => eqC_winS, ?_⟩ | refine ⟨fun _ _ => eqC_winM, ?_⟩ | refine ⟨fun _ _ => eqC_winB, ?_⟩ | refine ⟨fun _ _ => eqC_selfB, ?_⟩ | refine ⟨fun _ _ => eqC_mpB, ?_⟩)) trivial (fun _ _ => trivial) ?_
    rintro x hs ⟨rfl, rfl⟩
    (repeat first | refine And.intro (by omega) ?_ | refine And.intro (by decide) ?_ | (with_reducible refine frc_parts (by first | omega | decide) ?_) | (with_reducible refine frc_bytesL (by first | omega | decide) ?_) | refine And.intro rfl ?_)
    refine frcN_of (m := 0) rfl ?_
    refine frcN_of (m := j) rfl ?_
    refine frcN_of (m := 0) rfl ?_
    refine frcN_of (m := j) rfl ?_
    refine frcN_of (m := 8) rfl ?_
    refine ⟨by show 0 + j ≤ 8; omega, ?_⟩
    refine ⟨⟨Nat.le_refl _, Nat.le_refl _, by show (0 + j) * 1 ≤ 140737488355328; omega⟩, fun c' hc' => ?_⟩
    refine ⟨.a (.c (.sl 0 0 0 (wideL n j).length c')), _, ⟨[2], ⟨rfl, rfl, rfl⟩, ?_⟩, c', by omega, rfl, rfl⟩
    refine ⟨rfl, by simp, rfl, ?_⟩
    refine ⟨rfl, fun i hi => eqC_bytes (fun i hi => ?_) i, trivial⟩
    have hi : i < j := by simpa using hi
    refine app_row (l := []) (m := wideL n j) (f := nthC []) rfl (wideL_len _ _) (fun i hi => absurd hi (by simp)) (fun i hi => ?_) i (by simpa using hi)
    have ht : BitVec.ofInt 8 ((markB j).toNat : Int) = markB j := by rw [BitVec.ofInt_natCast, BitVec.ofNat_toNat, BitVec.setWidth_eq]
    show upd _ 0 _ (i + 0) = _
    rw [L_wide hi]
    unfold upd
    by_cases hz : i = 0
    · rw [if_pos (show i + 0 = 0 from hz), if_pos hz]
      show SC.w8 ((if j ≤ 0 + j ∧ 0 < j then byteN n (j - 1 - 0) else 0#8) + BitVec.ofInt 8 ((markB j).toNat : Int)) = _
      rw [ht, if_pos (by omega), Nat.sub_zero, mark_add' hk h0 h1]
    · rw [if_neg (show ¬ i + 0 = 0 from hz), if_neg hz]
      show SC.w8 (if j ≤ i + j ∧ i < j then byteN n (j - 1 - i) else 0#8) = _
      rw [if_pos (by omega)]
set_option maxRecDepth 20000 in
theorem fn_qput (n : BitVec 64) (h0 : lenN n ≠ 0) : Fn Try.prog tds 29 [] [.c (.w64 n)] (fun _ => True)
    (fun y hs => ∃ c', lenN n ≤ c' ∧ y = .a (.c (.sl 0 0 0 (putL n).length c')) ∧ hs = [lsC (putL n) c']) := by
  refine fn_of_body tds_ok follows_ Try.func29 rfl (t := .a (.c (.w64 n)) :: anys (Try.f29.ntmps - 1)) rfl (fun w r0 hr _ => ?_)
  obtain rfl : r0 = [] := List.eq_nil_of_length_eq_zero hr
  (repeat first | refine And.intro (by omega) ?_ | refine And.intro (by decide) ?_ | (with_reducible refine frc_parts (by first | omega | decide) ?_) | (with_reducible refine frc_bytesL (by first | omega | decide) ?_) | refine And.intro rfl ?_)
  refine call_same (fn_qlen n) [] rfl (by (repeat first | exact trivial | refine ⟨rfl, ?_⟩ | refine ⟨fun _ _ => ⟨rfl, trivial⟩, ?_⟩ | refine ⟨fun _ _ => trivial, ?_⟩ | refine ⟨by omega, ?_⟩ | refine ⟨fun _ _ => eqC_winS, ?_⟩ | refine ⟨fun _ _ => eqC_winM, ?_⟩ | refine ⟨fun _ _ => eqC_winB, ?_⟩ | refine ⟨fun _ _ => eqC_selfB, ?_⟩ | refine ⟨fun _ _ => eqC_mpB, ?_⟩)) trivial (fun _ _ => trivial) ?_
  rintro x hs ⟨rfl, rfl⟩
  (repeat first | refine And.intro (by omega) ?_ | refine And.intro (by decide) ?_ | (with_reducible refine frc_parts (by first | omega | decide) ?_) | (with_reducible refine frc_bytesL (by first | omega | decide) ?_) | refine And.intro rfl ?_)
  refine call_same (fn_qwide n (lenN n) (lenN_ok h0) h0 (Nat.le_refl _)) [] rfl (by (repeat first | exact trivial | refine ⟨rfl, ?_⟩ | refine ⟨fun _ _ => ⟨rfl, trivial⟩, ?_⟩ | refine ⟨fun _ _ => trivial, ?_⟩ | refine ⟨by omega, ?_⟩ | refine ⟨fun _ _ => eqC_winS, ?_⟩ | refine ⟨fun _ _ => eqC_winM, ?_⟩ | refine ⟨fun _ _ => eqC_winB, ?_⟩ | refine ⟨fun _ _ => eqC_selfB, ?_⟩ | refine ⟨fun _ _ => eqC_mpB, ?_⟩)) trivial (fun _ _ => trivial) ?_
  rintro x hs ⟨c', hc', rfl, rfl⟩
  refine ⟨.a (.c (.sl 0 0 0 (putL n).length c')), _, ⟨[0], ⟨rfl, rfl, rfl⟩, ?_⟩, c', hc', rfl, rfl⟩
  (repeat first | exact trivial | refine ⟨rfl, ?_⟩ | refine ⟨fun _ _ => ⟨rfl, trivial⟩, ?_⟩ | refine ⟨fun _ _ => trivial, ?_⟩ | refine ⟨by omega, ?_⟩ | refine ⟨fun _ _ => eqC_winS, ?_⟩ | refine ⟨fun _ _ => eqC_winM, ?_⟩ | refine ⟨fun _ _ => eqC_winB, ?_⟩ | refine ⟨fun _ _ => eqC_selfB, ?_⟩ | refine ⟨fun _ _ => eqC_mpB, ?_⟩)
set_option maxRecDepth 20000 in
theorem fn_qlong (s : Sl) (hs : s.Ok) (b : Bs) (c : Nat) (hb : b.length ≤ 400000) (hc : b.length ≤ c) : FnR Try.prog tds 53 1 [svB s, lsC b c] [.c (.sl 1 0 0 b.length c), .c (svC 0 s)] (fun _ => True)
    (fun y hs => ∃ c', (b ++ longL s.l).length ≤ c' ∧ y = .a (.c (.sl 2 0 0 (b ++ longL s.l).length c')) ∧ hs = [svB s, [], lsC (b ++ longL s.l) c']) := by
  refine fn_of_body tds_ok follows_ Try.func53 rfl (t := .a (.c (.sl 1 0 0 b.length c)) :: .a (.c (svC 0 s)) :: anys (Try.f53.ntmps - 2)) rfl (fun w r0 hr0 _ => ?_)
  obtain ⟨x0, x1, rfl⟩ := len2' hr0
  have hsm := hs.small
  have hne := lenN_of hsm
  have hw : BitVec.ofInt 64 ((s.l.length : Nat) : Int) = BitVec.ofNat 64 s.l.length := BitVec.ofInt_natCast _ _
  have hll := longL_len s.l
  have hpl := putL_len (BitVec.ofNat 64 s.l.length)
  have hpl8 := lenN_le (BitVec.ofNat 64 s.l.length)
  (repeat first | refine And.intro (by omega) ?_ | refine And.intro (by decide) ?_ | (with_reducible refine frc_parts (by first | omega | decide) ?_) | (with_reducible refine frc_bytesL (by first | omega | decide) ?_) | refine And.intro rfl ?_)
  rw [hw]
  refine call_same (fn_qput (BitVec.ofNat 64 s.l.length) hne) [] rfl (by (repeat first | exact trivial | refine ⟨rfl, ?_⟩ | refine ⟨fun _ _ => ⟨rfl, trivial⟩, ?_⟩ | refine ⟨fun _ _ => trivial, ?_⟩ | refine ⟨by omega, ?_⟩ | refine ⟨fun _ _ => eqC_winS, ?_⟩ | refine ⟨fun _ _ => eqC_winM, ?_⟩ | refine ⟨fun _ _ => eqC_winB, ?_⟩ | refine ⟨fun _ _ => eqC_selfB, ?_⟩ | refine ⟨fun _ _ => eqC_mpB, ?_⟩)) trivial (fun _ _ => trivial) ?_
  rintro x hs' ⟨c1, hc1, rfl, rfl⟩
  refine ⟨by show 0 + (putL (BitVec.ofNat 64 s.l.length)).length ≤ c1; omega, ?_⟩
  refine ⟨⟨hc, by show 0 + c ≤ c; omega, by show (b.length + (putL (BitVec.ofNat 64 s.l.length)).length) * 1 ≤ 140737488355328; omega⟩, fun c2 hc2 => ?_⟩
  refine sn_bts rfl hs.fit (fun h => by rw [hs.nil h]; rfl) (fun g hg => ?_)
  refine ⟨⟨hc2, by show 0 + c2 ≤ c2; omega, by show (b.length + (putL (BitVec.ofNat 64 s.l.length)).length + s.l.length) * 1 ≤ 140737488355328; omega⟩, fun c3 hc3 => ?_⟩
  refine ⟨.a (.c (.sl 2 0 0 (b ++ longL s.l).length c3)), _, ⟨[0, 1, 4], ⟨rfl, rfl, rfl⟩, ?_⟩, c3, by simp only [longL, List.length_append]; omega, rfl, rfl⟩
  refine ⟨rfl, by simp only [longL, List.length_append]; omega, rfl, ?_⟩
  refine eqC_bts ?_
  (repeat first | exact trivial | refine ⟨rfl, ?_⟩ | refine ⟨fun _ _ => ⟨rfl, trivial⟩, ?_⟩ | refine ⟨fun _ _ => trivial, ?_⟩ | refine ⟨by omega, ?_⟩ | refine ⟨fun _ _ => eqC_winS, ?_⟩ | refine ⟨fun _ _ => eqC_winM, ?_⟩ | refine ⟨fun _ _ => eqC_winB, ?_⟩ | refine ⟨fun _ _ => eqC_selfB, ?_⟩ | refine ⟨fun _ _ => eqC_mpB, ?_⟩)
  refine ⟨fun i hi => eqC_bytes (fun i hi => ?_) i, trivial⟩
  rw [show b ++ longL s.l = (b ++ putL (BitVec.ofNat 64 s.l.length)) ++ s.l by simp [longL]]
  refine app_row (by simp) rfl (fun i hi => ?_) hg i (by simpa [longL, Nat.add_assoc] using hi)
  exact app_row rfl rfl (fun i hi => bytesF_lt hi) (fun i hi => by show SC.mp _ (bytesF _ _ i) = _; rw [bytesF_lt hi]; rfl) i hi
end Sx
end Go.Proofs.Ytkjdkeolkigibaa
end

section
/-
  The document's headers as bytes. No condition.
-/
namespace Go.Proofs.Ytkjdkeolkigibaa
set_option linter.unusedVariables false
namespace Sx
open Sha Vi
set_option linter.unusedSimpArgs false

theorem first8 : ∀ n : Nat, n < 5 → 1 ≤ n → 64#8 + BitVec.ofInt 8 ((n : Int) - 1) = BitVec.ofNat 8 (63 + n) ∧ 192#8 + BitVec.ofInt 8 ((n : Int) - 1) = BitVec.ofNat 8 (63 + n) + 128#8 := by decide +kernel
theorem mp_row {g : Nat → Nat} {l : Bs} (i : Nat) (hi : i < l.length) : SC.mp g (bytesF l.length (L l) i) = .w8 (L l i) := by rw [bytesF_lt hi]; rfl
set_option maxRecDepth 20000 in
set_option maxHeartbeats 8000000 in
theorem fn_qheader (h : Hd) (ho : h.Ok) (h0 : checkM h = 0) (p : Nat) (hp : p ≤ 1200) : FnR Try.prog tds 18 4 (hdB h)
    [.c (.int .i64 (h.sp.toNat : Nat)), .c (svC 0 h.t), .c (svC 1 h.f), .c (svC 2 h.k), .c (.bool h.turn), .c (svC 3 h.n), .c (.int .i64 (p : Nat))] (fun _ => True)
    (fun y hs => ∃ c, (putH h p).length ≤ c ∧ y = .a (.c (.sl 4 0 0 (putH h p).length c)) ∧ hs = hdB h ++ [lsC (putH h p) c]) := by
  refine fn_of_body tds_ok follows_ Try.func18 rfl (t := .a (.c (.int .i64 (h.sp.toNat : Nat))) :: .a (.c (svC 0 h.t)) :: .a (.c (svC 1 h.f)) :: .a (.c (svC 2 h.k)) :: .a (.c (.bool h.turn)) :: .a (.c (svC 3 h.n)) :: .a (.c (.int .i64 (p : Nat))) :: anys (Try.f18.ntmps - 7)) rfl (fun w r0 hr _ => ?_)
  obtain ⟨x0, x1, x2, x3, rfl⟩ := len4' hr
  obtain ⟨g1, g2, g3, g4, g5, g6⟩ := checkM_0 h0
  obtain ⟨f1, f2⟩ := first8 h.n.l.length (by omega) g5
  have st := ho.t.small
  have sf := ho.f.small
  have sk := ho.k.small
  have sn := ho.n.small
  by_cases h5 : h.sp = 2#8
  · have e5 : decide ((h.sp.toNat : Int) = 2) = true := decide_eq_true (by rw [h5]; rfl)
    by_cases h6 : h.turn = true
    · have e6 : h.turn = true := h6
      (repeat first | refine And.intro (by omega) ?_ | refine And.intro (by decide) ?_ | refine And.intro rfl ?_ | refine And.intro (fun _ => ?_) (fun h => Bool.noConfusion h) | refine And.intro (fun h => Bool.noConfusion h) (fun _ => ?_) | refine And.intro (fun _ => ?_) (fun h => absurd h (by rw [e5]; decide)) | refine And.intro (fun h => absurd h (by rw [e5]; decide)) (fun _ => ?_) | refine And.intro (fun _ => ?_) (fun h => absurd h (by rw [e6]; decide)) | refine And.intro (fun h => absurd h (by rw [e6]; decide)) (fun _ => ?_))
      rw [f1]
      refine sn_bts rfl ho.t.fit (fun h => by rw [ho.t.nil h]; rfl) (fun g101 hg101 => ?_)
      refine ⟨⟨by omega, by simp only [scale]; omega, by show (1 + h.t.l.length) * 1 ≤ 140737488355328; omega⟩, fun c2 hc2 => ?_⟩
      (repeat first | refine And.intro (by omega) ?_ | refine And.intro (by decide) ?_ | refine And.intro rfl ?_ | refine And.intro (fun _ => ?_) (fun h => Bool.noConfusion h) | refine And.intro (fun h => Bool.noConfusion h) (fun _ => ?_) | refine And.intro (fun _ => ?_) (fun h => absurd h (by rw [e5]; decide)) | refine And.intro (fun h => absurd h (by rw [e5]; decide)) (fun _ => ?_) | refine And.intro (fun _ => ?_) (fun h => absurd h (by rw [e6]; decide)) | refine And.intro (fun h => absurd h (by rw [e6]; decide)) (fun _ => ?_))
      refine sn_bts rfl ho.n.fit (fun h => by rw [ho.n.nil h]; rfl) (fun g103 hg103 => ?_)
      refine ⟨⟨by omega, by simp only [scale]; omega, by show ((1 + h.t.l.length) + h.n.l.length) * 1 ≤ 140737488355328; omega⟩, fun c4 hc4 => ?_⟩
      have hP : (([BitVec.ofNat 8 (63 + h.n.l.length) + 4#8] ++ h.t.l) ++ h.n.l) = putH h p := by unfold putH fstB; simp [h5, h6]
      have hPl : (putH h p).length = ((1 + h.t.l.length) + h.n.l.length) := by rw [← hP]; simp; try omega
      refine ⟨.a (.c (.sl 4 0 0 (putH h p).length c4)), _, ⟨[0, 1, 2, 3, 6], ⟨rfl, rfl, rfl⟩, ?_⟩, c4, by omega, rfl, rfl⟩
      refine ⟨rfl, hPl.symm, rfl, ?_⟩
      refine eqC_bts (eqC_bts (eqC_bts (eqC_bts ?_)))
      refine ⟨rfl, fun i hi => eqC_bytes (fun i hi => ?_) i, trivial⟩
      rw [hPl] at hi
      rw [← hP]
      exact (fun i hi => app_row (l := ([BitVec.ofNat 8 (63 + h.n.l.length) + 4#8] ++ h.t.l)) (m := h.n.l) (by simp only [List.length_append, List.length_cons, List.length_nil, wideL_len]; try omega) (by simp only [List.length_append, List.length_cons, List.length_nil, wideL_len]; try omega) (fun i hi => app_row (l := [BitVec.ofNat 8 (63 + h.n.l.length) + 4#8]) (m := h.t.l) (by simp only [List.length_append, List.length_cons, List.length_nil, wideL_len]; try omega) (by simp only [List.length_append, List.length_cons, List.length_nil, wideL_len]; try omega) (fun i hi => nthC_w8 [_] i hi) hg101 i hi) hg103 i hi) i hi
    · have e6 : h.turn = false := by simpa using h6
      (repeat first | refine And.intro (by omega) ?_ | refine And.intro (by decide) ?_ | refine And.intro rfl ?_ | refine And.intro (fun _ => ?_) (fun h => Bool.noConfusion h) | refine And.intro (fun h => Bool.noConfusion h) (fun _ => ?_) | refine And.intro (fun _ => ?_) (fun h => absurd h (by rw [e5]; decide)) | refine And.intro (fun h => absurd h (by rw [e5]; decide)) (fun _ => ?_) | refine And.intro (fun _ => ?_) (fun h => absurd h (by rw [e6]; decide)) | refine And.intro (fun h => absurd h (by rw [e6]; decide)) (fun _ => ?_))
      rw [f1]
      refine sn_bts rfl ho.t.fit (fun h => by rw [ho.t.nil h]; rfl) (fun g105 hg105 => ?_)
      refine ⟨⟨by omega, by simp only [scale]; omega, by show (1 + h.t.l.length) * 1 ≤ 140737488355328; omega⟩, fun c6 hc6 => ?_⟩
      (repeat first | refine And.intro (by omega) ?_ | refine And.intro (by decide) ?_ | refine And.intro rfl ?_ | refine And.intro (fun _ => ?_) (fun h => Bool.noConfusion h) | refine And.intro (fun h => Bool.noConfusion h) (fun _ => ?_) | refine And.intro (fun _ => ?_) (fun h => absurd h (by rw [e5]; decide)) | refine And.intro (fun h => absurd h (by rw [e5]; decide)) (fun _ => ?_) | refine And.intro (fun _ => ?_) (fun h => absurd h (by rw [e6]; decide)) | refine And.intro (fun h => absurd h (by rw [e6]; decide)) (fun _ => ?_))
      refine sn_bts rfl ho.n.fit (fun h => by rw [ho.n.nil h]; rfl) (fun g107 hg107 => ?_)
      refine ⟨⟨by omega, by simp only [scale]; omega, by show ((1 + h.t.l.length) + h.n.l.length) * 1 ≤ 140737488355328; omega⟩, fun c8 hc8 => ?_⟩
      have hP : (([BitVec.ofNat 8 (63 + h.n.l.length)] ++ h.t.l) ++ h.n.l) = putH h p := by unfold putH fstB; simp [h5, h6]
      have hPl : (putH h p).length = ((1 + h.t.l.length) + h.n.l.length) := by rw [← hP]; simp; try omega
      refine ⟨.a (.c (.sl 4 0 0 (putH h p).length c8)), _, ⟨[0, 1, 2, 3, 6], ⟨rfl, rfl, rfl⟩, ?_⟩, c8, by omega, rfl, rfl⟩
      refine ⟨rfl, hPl.symm, rfl, ?_⟩
      refine eqC_bts (eqC_bts (eqC_bts (eqC_bts ?_)))
      refine ⟨rfl, fun i hi => eqC_bytes (fun i hi => ?_) i, trivial⟩
      rw [hPl] at hi
      rw [← hP]
      exact (fun i hi => app_row (l := ([BitVec.ofNat 8 (63 + h.n.l.length)] ++ h.t.l)) (m := h.n.l) (by simp only [List.length_append, List.length_cons, List.length_nil, wideL_len]; try omega) (by simp only [List.length_append, List.length_cons, List.length_nil, wideL_len]; try omega) (fun i hi => app_row (l := [BitVec.ofNat 8 (63 + h.n.l.length)]) (m := h.t.l) (by simp only [List.length_append, List.length_cons, List.length_nil, wideL_len]; try omega) (by simp only [List.length_append, List.length_cons, List.length_nil, wideL_len]; try omega) (fun i hi => nthC_w8 [_] i hi) hg105 i hi) hg107 i hi) i hi
  have e5 : decide ((h.sp.toNat : Int) = 2) = false := decide_eq_false (fun e => h5 (BitVec.eq_of_toNat_eq (by show h.sp.toNat = 2; omega)))
  by_cases h6 : h.sp = 1#8
  · have e6 : decide ((h.sp.toNat : Int) = 1) = true := decide_eq_true (by rw [h6]; rfl)
    have e7 : decide ((h.sp.toNat : Int) = 0) = false := decide_eq_false (by rw [h6]; decide)
    (repeat first | refine And.intro (by omega) ?_ | refine And.intro (by decide) ?_ | refine And.intro rfl ?_ | refine And.intro (fun _ => ?_) (fun h => Bool.noConfusion h) | refine And.intro (fun h => Bool.noConfusion h) (fun _ => ?_) | refine And.intro (fun _ => ?_) (fun h => absurd h (by rw [e5]; decide)) | refine And.intro (fun h => absurd h (by rw [e5]; decide)) (fun _ => ?_) | refine And.intro (fun _ => ?_) (fun h => absurd h (by rw [e6]; decide)) | refine And.intro (fun h => absurd h (by rw [e6]; decide)) (fun _ => ?_) | refine And.intro (fun _ => ?_) (fun h => absurd h (by rw [e7]; decide)) | refine And.intro (fun h => absurd h (by rw [e7]; decide)) (fun _ => ?_))
    rw [f2]
    have lt8 : BitVec.ofInt 8 ((h.t.l.length : Nat) : Int) = BitVec.ofNat 8 h.t.l.length := BitVec.ofInt_natCast _ _
    have lf8 : BitVec.ofInt 8 ((h.f.l.length : Nat) : Int) = BitVec.ofNat 8 h.f.l.length := BitVec.ofInt_natCast _ _
    refine sn_bts rfl ho.t.fit (fun h => by rw [ho.t.nil h]; rfl) (fun g109 hg109 => ?_)
    refine ⟨⟨by omega, by simp only [scale]; omega, by show (6 + h.t.l.length) * 1 ≤ 140737488355328; omega⟩, fun c10 hc10 => ?_⟩
    (repeat first | refine And.intro (by omega) ?_ | refine And.intro (by decide) ?_ | refine And.intro rfl ?_ | refine And.intro (fun _ => ?_) (fun h => Bool.noConfusion h) | refine And.intro (fun h => Bool.noConfusion h) (fun _ => ?_) | refine And.intro (fun _ => ?_) (fun h => absurd h (by rw [e5]; decide)) | refine And.intro (fun h => absurd h (by rw [e5]; decide)) (fun _ => ?_) | refine And.intro (fun _ => ?_) (fun h => absurd h (by rw [e6]; decide)) | refine And.intro (fun h => absurd h (by rw [e6]; decide)) (fun _ => ?_) | refine And.intro (fun _ => ?_) (fun h => absurd h (by rw [e7]; decide)) | refine And.intro (fun h => absurd h (by rw [e7]; decide)) (fun _ => ?_))
    refine ⟨⟨by omega, by simp only [scale]; omega, by show ((6 + h.t.l.length) + 1) * 1 ≤ 140737488355328; omega⟩, fun c11 hc11 => ?_⟩
    (repeat first | refine And.intro (by omega) ?_ | refine And.intro (by decide) ?_ | refine And.intro rfl ?_ | refine And.intro (fun _ => ?_) (fun h => Bool.noConfusion h) | refine And.intro (fun h => Bool.noConfusion h) (fun _ => ?_) | refine And.intro (fun _ => ?_) (fun h => absurd h (by rw [e5]; decide)) | refine And.intro (fun h => absurd h (by rw [e5]; decide)) (fun _ => ?_) | refine And.intro (fun _ => ?_) (fun h => absurd h (by rw [e6]; decide)) | refine And.intro (fun h => absurd h (by rw [e6]; decide)) (fun _ => ?_) | refine And.intro (fun _ => ?_) (fun h => absurd h (by rw [e7]; decide)) | refine And.intro (fun h => absurd h (by rw [e7]; decide)) (fun _ => ?_))
    refine sn_bts rfl ho.f.fit (fun h => by rw [ho.f.nil h]; rfl) (fun g112 hg112 => ?_)
    refine ⟨⟨by omega, by simp only [scale]; omega, by show (((6 + h.t.l.length) + 1) + h.f.l.length) * 1 ≤ 140737488355328; omega⟩, fun c13 hc13 => ?_⟩
    (repeat first | refine And.intro (by omega) ?_ | refine And.intro (by decide) ?_ | refine And.intro rfl ?_ | refine And.intro (fun _ => ?_) (fun h => Bool.noConfusion h) | refine And.intro (fun h => Bool.noConfusion h) (fun _ => ?_) | refine And.intro (fun _ => ?_) (fun h => absurd h (by rw [e5]; decide)) | refine And.intro (fun h => absurd h (by rw [e5]; decide)) (fun _ => ?_) | refine And.intro (fun _ => ?_) (fun h => absurd h (by rw [e6]; decide)) | refine And.intro (fun h => absurd h (by rw [e6]; decide)) (fun _ => ?_) | refine And.intro (fun _ => ?_) (fun h => absurd h (by rw [e7]; decide)) | refine And.intro (fun h => absurd h (by rw [e7]; decide)) (fun _ => ?_))
    have hw : BitVec.ofInt 64 ((h.n.l.length : Int) + (p : Int)) = BitVec.ofNat 64 (h.n.l.length + p) := by
      rw [show (h.n.l.length : Int) + (p : Int) = ((h.n.l.length + p : Nat) : Int) by omega, BitVec.ofInt_natCast]
    have hw2 := lenN2 (n := h.n.l.length + p) (by omega)
    rw [hw]
    refine call_same (fn_qwide (BitVec.ofNat 64 (h.n.l.length + p)) 2 (.inr (.inl rfl)) hw2.1 hw2.2) [] rfl (by (repeat first | exact trivial | refine ⟨rfl, ?_⟩ | refine ⟨fun _ _ => ⟨rfl, trivial⟩, ?_⟩ | refine ⟨fun _ _ => trivial, ?_⟩ | refine ⟨by omega, ?_⟩ | refine ⟨fun _ _ => eqC_winS, ?_⟩ | refine ⟨fun _ _ => eqC_winM, ?_⟩ | refine ⟨fun _ _ => eqC_winB, ?_⟩ | refine ⟨fun _ _ => eqC_selfB, ?_⟩ | refine ⟨fun _ _ => eqC_mpB, ?_⟩)) trivial (fun _ _ => trivial) ?_
    rintro x hs' ⟨cw, hcw, rfl, rfl⟩
    refine ⟨by show 0 + (wideL (BitVec.ofNat 64 (h.n.l.length + p)) 2).length ≤ cw; rw [wideL_len]; omega, ?_⟩
    have wl2 : (wideL (BitVec.ofNat 64 (h.n.l.length + p)) 2).length = 2 := wideL_len _ _
    refine ⟨⟨by omega, by simp only [scale]; omega, by show ((((6 + h.t.l.length) + 1) + h.f.l.length) + (wideL (BitVec.ofNat 64 (h.n.l.length + p)) 2).length) * 1 ≤ 140737488355328; omega⟩, fun c14 hc14 => ?_⟩
    (repeat first | refine And.intro (by omega) ?_ | refine And.intro (by decide) ?_ | refine And.intro rfl ?_ | refine And.intro (fun _ => ?_) (fun h => Bool.noConfusion h) | refine And.intro (fun h => Bool.noConfusion h) (fun _ => ?_) | refine And.intro (fun _ => ?_) (fun h => absurd h (by rw [e5]; decide)) | refine And.intro (fun h => absurd h (by rw [e5]; decide)) (fun _ => ?_) | refine And.intro (fun _ => ?_) (fun h => absurd h (by rw [e6]; decide)) | refine And.intro (fun h => absurd h (by rw [e6]; decide)) (fun _ => ?_) | refine And.intro (fun _ => ?_) (fun h => absurd h (by rw [e7]; decide)) | refine And.intro (fun h => absurd h (by rw [e7]; decide)) (fun _ => ?_))
    refine sn_bts rfl ho.n.fit (fun h => by rw [ho.n.nil h]; rfl) (fun g115 hg115 => ?_)
    refine ⟨⟨by omega, by simp only [scale]; omega, by show (((((6 + h.t.l.length) + 1) + h.f.l.length) + (wideL (BitVec.ofNat 64 (h.n.l.length + p)) 2).length) + h.n.l.length) * 1 ≤ 140737488355328; omega⟩, fun c16 hc16 => ?_⟩
    have hP : ((((([BitVec.ofNat 8 (63 + h.n.l.length) + 128#8 + 32#8, 0#8, 0#8, 0#8, 1#8, BitVec.ofNat 8 h.t.l.length] ++ h.t.l) ++ [BitVec.ofNat 8 h.f.l.length]) ++ h.f.l) ++ wideL (BitVec.ofNat 64 (h.n.l.length + p)) 2) ++ h.n.l) = putH h p := by unfold putH fstB; simp [h5, h6]
    have hPl : (putH h p).length = (((((6 + h.t.l.length) + 1) + h.f.l.length) + (wideL (BitVec.ofNat 64 (h.n.l.length + p)) 2).length) + h.n.l.length) := by rw [← hP]; simp; try omega
    refine ⟨.a (.c (.sl 4 0 0 (putH h p).length c16)), _, ⟨[0, 1, 2, 3, 11], ⟨rfl, rfl, rfl⟩, ?_⟩, c16, by omega, rfl, rfl⟩
    refine ⟨rfl, hPl.symm, rfl, ?_⟩
    refine eqC_bts (eqC_bts (eqC_bts (eqC_bts ?_)))
    refine ⟨rfl, fun i hi => eqC_bytes (fun i hi => ?_) i, trivial⟩
    rw [hPl] at hi
    rw [← hP]
    exact (fun i hi => app_row (l := (((([BitVec.ofNat 8 (63 + h.n.l.length) + 128#8 + 32#8, 0#8, 0#8, 0#8, 1#8, BitVec.ofNat 8 h.t.l.length] ++ h.t.l) ++ [BitVec.ofNat 8 h.f.l.length]) ++ h.f.l) ++ wideL (BitVec.ofNat 64 (h.n.l.length + p)) 2)) (m := h.n.l) (by simp only [List.length_append, List.length_cons, List.length_nil, wideL_len]; try omega) (by simp only [List.length_append, List.length_cons, List.length_nil, wideL_len]; try omega) (fun i hi => app_row (l := ((([BitVec.ofNat 8 (63 + h.n.l.length) + 128#8 + 32#8, 0#8, 0#8, 0#8, 1#8, BitVec.ofNat 8 h.t.l.length] ++ h.t.l) ++ [BitVec.ofNat 8 h.f.l.length]) ++ h.f.l)) (m := wideL (BitVec.ofNat 64 (h.n.l.length + p)) 2) (by simp only [List.length_append, List.length_cons, List.length_nil, wideL_len]; try omega) (by simp only [List.length_append, List.length_cons, List.length_nil, wideL_len]; try omega) (fun i hi => app_row (l := (([BitVec.ofNat 8 (63 + h.n.l.length) + 128#8 + 32#8, 0#8, 0#8, 0#8, 1#8, BitVec.ofNat 8 h.t.l.length] ++ h.t.l) ++ [BitVec.ofNat 8 h.f.l.length])) (m := h.f.l) (by simp only [List.length_append, List.length_cons, List.length_nil, wideL_len]; try omega) (by simp only [List.length_append, List.length_cons, List.length_nil, wideL_len]; try omega) (fun i hi => app_row (l := ([BitVec.ofNat 8 (63 + h.n.l.length) + 128#8 + 32#8, 0#8, 0#8, 0#8, 1#8, BitVec.ofNat 8 h.t.l.length] ++ h.t.l)) (m := [BitVec.ofNat 8 h.f.l.length]) (by simp only [List.length_append, List.length_cons, List.length_nil, wideL_len]; try omega) (by simp only [List.length_append, List.length_cons, List.length_nil, wideL_len]; try omega) (fun i hi => app_row (l := [BitVec.ofNat 8 (63 + h.n.l.length) + 128#8 + 32#8, 0#8, 0#8, 0#8, 1#8, BitVec.ofNat 8 h.t.l.length]) (m := h.t.l) (by simp only [List.length_append, List.length_cons, List.length_nil, wideL_len]; try omega) (by simp only [List.length_append, List.length_cons, List.length_nil, wideL_len]; try omega) (fun i hi => by rw [← lt8]; exact nthC_w8 [_, 0#8, 0#8, 0#8, 1#8, _] i hi) hg109 i hi) (fun i hi => one_row lf8 i hi) i hi) hg112 i hi) (fun i hi => by show SC.mp _ (bytesF _ _ i) = _; rw [bytesF_lt hi]; rfl) i hi) hg115 i hi) i hi
  · have e6 : decide ((h.sp.toNat : Int) = 1) = false := decide_eq_false (fun e => h6 (BitVec.eq_of_toNat_eq (by show h.sp.toNat = 1; omega)))
    have h7 : h.sp = 0#8 := by
      apply BitVec.eq_of_toNat_eq
      have a1 : h.sp.toNat ≠ 1 := fun e => h6 (BitVec.eq_of_toNat_eq e)
      have a2 : h.sp.toNat ≠ 2 := fun e => h5 (BitVec.eq_of_toNat_eq e)
      show h.sp.toNat = 0
      omega
    have e7 : decide ((h.sp.toNat : Int) = 0) = true := decide_eq_true (by rw [h7]; rfl)
    (repeat first | refine And.intro (by omega) ?_ | refine And.intro (by decide) ?_ | refine And.intro rfl ?_ | refine And.intro (fun _ => ?_) (fun h => Bool.noConfusion h) | refine And.intro (fun h => Bool.noConfusion h) (fun _ => ?_) | refine And.intro (fun _ => ?_) (fun h => absurd h (by rw [e5]; decide)) | refine And.intro (fun h => absurd h (by rw [e5]; decide)) (fun _ => ?_) | refine And.intro (fun _ => ?_) (fun h => absurd h (by rw [e6]; decide)) | refine And.intro (fun h => absurd h (by rw [e6]; decide)) (fun _ => ?_) | refine And.intro (fun _ => ?_) (fun h => absurd h (by rw [e7]; decide)) | refine And.intro (fun h => absurd h (by rw [e7]; decide)) (fun _ => ?_))
    rw [f2]
    have lt8 : BitVec.ofInt 8 ((h.t.l.length : Nat) : Int) = BitVec.ofNat 8 h.t.l.length := BitVec.ofInt_natCast _ _
    have lf8 : BitVec.ofInt 8 ((h.f.l.length : Nat) : Int) = BitVec.ofNat 8 h.f.l.length := BitVec.ofInt_natCast _ _
    refine sn_bts rfl ho.t.fit (fun h => by rw [ho.t.nil h]; rfl) (fun g117 hg117 => ?_)
    refine ⟨⟨by omega, by simp only [scale]; omega, by show (6 + h.t.l.length) * 1 ≤ 140737488355328; omega⟩, fun c18 hc18 => ?_⟩
    (repeat first | refine And.intro (by omega) ?_ | refine And.intro (by decide) ?_ | refine And.intro rfl ?_ | refine And.intro (fun _ => ?_) (fun h => Bool.noConfusion h) | refine And.intro (fun h => Bool.noConfusion h) (fun _ => ?_) | refine And.intro (fun _ => ?_) (fun h => absurd h (by rw [e5]; decide)) | refine And.intro (fun h => absurd h (by rw [e5]; decide)) (fun _ => ?_) | refine And.intro (fun _ => ?_) (fun h => absurd h (by rw [e6]; decide)) | refine And.intro (fun h => absurd h (by rw [e6]; decide)) (fun _ => ?_) | refine And.intro (fun _ => ?_) (fun h => absurd h (by rw [e7]; decide)) | refine And.intro (fun h => absurd h (by rw [e7]; decide)) (fun _ => ?_))
    refine ⟨⟨by omega, by simp only [scale]; omega, by show ((6 + h.t.l.length) + 1) * 1 ≤ 140737488355328; omega⟩, fun c19 hc19 => ?_⟩
    (repeat first | refine And.intro (by omega) ?_ | refine And.intro (by decide) ?_ | refine And.intro rfl ?_ | refine And.intro (fun _ => ?_) (fun h => Bool.noConfusion h) | refine And.intro (fun h => Bool.noConfusion h) (fun _ => ?_) | refine And.intro (fun _ => ?_) (fun h => absurd h (by rw [e5]; decide)) | refine And.intro (fun h => absurd h (by rw [e5]; decide)) (fun _ => ?_) | refine And.intro (fun _ => ?_) (fun h => absurd h (by rw [e6]; decide)) | refine And.intro (fun h => absurd h (by rw [e6]; decide)) (fun _ => ?_) | refine And.intro (fun _ => ?_) (fun h => absurd h (by rw [e7]; decide)) | refine And.intro (fun h => absurd h (by rw [e7]; decide)) (fun _ => ?_))
    refine sn_bts rfl ho.f.fit (fun h => by rw [ho.f.nil h]; rfl) (fun g120 hg120 => ?_)
    refine ⟨⟨by omega, by simp only [scale]; omega, by show (((6 + h.t.l.length) + 1) + h.f.l.length) * 1 ≤ 140737488355328; omega⟩, fun c21 hc21 => ?_⟩
    (repeat first | refine And.intro (by omega) ?_ | refine And.intro (by decide) ?_ | refine And.intro rfl ?_ | refine And.intro (fun _ => ?_) (fun h => Bool.noConfusion h) | refine And.intro (fun h => Bool.noConfusion h) (fun _ => ?_) | refine And.intro (fun _ => ?_) (fun h => absurd h (by rw [e5]; decide)) | refine And.intro (fun h => absurd h (by rw [e5]; decide)) (fun _ => ?_) | refine And.intro (fun _ => ?_) (fun h => absurd h (by rw [e6]; decide)) | refine And.intro (fun h => absurd h (by rw [e6]; decide)) (fun _ => ?_) | refine And.intro (fun _ => ?_) (fun h => absurd h (by rw [e7]; decide)) | refine And.intro (fun h => absurd h (by rw [e7]; decide)) (fun _ => ?_))
    obtain ⟨B, hB⟩ : ∃ B, ((([BitVec.ofNat 8 (63 + h.n.l.length) + 128#8, 0#8, 0#8, 0#8, 1#8, BitVec.ofNat 8 h.t.l.length] ++ h.t.l) ++ [BitVec.ofNat 8 h.f.l.length]) ++ h.f.l) = B := ⟨_, rfl⟩
    have hBl : B.length = (((6 + h.t.l.length) + 1) + h.f.l.length) := by rw [← hB]; simp; try omega
    have hll := longL_len h.k.l
    refine call_same (fn_qlong h.k ho.k B c21 (by omega) (by omega)) [2, 8] rfl ?_ ?_ (fun _ _ => trivial) ?_
    · exact ⟨rfl, by rw [hBl], rfl, rfl, rfl, rfl, rfl, trivial⟩
    · refine eqC_bts ?_
      refine ⟨rfl, fun i hi => eqC_bytes (fun i hi => ?_) i, trivial⟩
      rw [hBl] at hi
      rw [← hB]
      exact (fun i hi => app_row (l := (([BitVec.ofNat 8 (63 + h.n.l.length) + 128#8, 0#8, 0#8, 0#8, 1#8, BitVec.ofNat 8 h.t.l.length] ++ h.t.l) ++ [BitVec.ofNat 8 h.f.l.length])) (m := h.f.l) (by simp only [List.length_append, List.length_cons, List.length_nil, wideL_len]; try omega) (by simp only [List.length_append, List.length_cons, List.length_nil, wideL_len]; try omega) (fun i hi => app_row (l := ([BitVec.ofNat 8 (63 + h.n.l.length) + 128#8, 0#8, 0#8, 0#8, 1#8, BitVec.ofNat 8 h.t.l.length] ++ h.t.l)) (m := [BitVec.ofNat 8 h.f.l.length]) (by simp only [List.length_append, List.length_cons, List.length_nil, wideL_len]; try omega) (by simp only [List.length_append, List.length_cons, List.length_nil, wideL_len]; try omega) (fun i hi => app_row (l := [BitVec.ofNat 8 (63 + h.n.l.length) + 128#8, 0#8, 0#8, 0#8, 1#8, BitVec.ofNat 8 h.t.l.length]) (m := h.t.l) (by simp only [List.length_append, List.length_cons, List.length_nil, wideL_len]; try omega) (by simp only [List.length_append, List.length_cons, List.length_nil, wideL_len]; try omega) (fun i hi => by rw [← lt8]; exact nthC_w8 [_, 0#8, 0#8, 0#8, 1#8, _] i hi) hg117 i hi) (fun i hi => one_row lf8 i hi) i hi) hg120 i hi) i hi
    rintro x hs' ⟨cl, hcl, rfl, rfl⟩
    rw [List.length_append] at hcl ⊢
    (repeat first | refine And.intro (by omega) ?_ | refine And.intro (by decide) ?_ | refine And.intro rfl ?_ | refine And.intro (fun _ => ?_) (fun h => Bool.noConfusion h) | refine And.intro (fun h => Bool.noConfusion h) (fun _ => ?_) | refine And.intro (fun _ => ?_) (fun h => absurd h (by rw [e5]; decide)) | refine And.intro (fun h => absurd h (by rw [e5]; decide)) (fun _ => ?_) | refine And.intro (fun _ => ?_) (fun h => absurd h (by rw [e6]; decide)) | refine And.intro (fun h => absurd h (by rw [e6]; decide)) (fun _ => ?_) | refine And.intro (fun _ => ?_) (fun h => absurd h (by rw [e7]; decide)) | refine And.intro (fun h => absurd h (by rw [e7]; decide)) (fun _ => ?_))
    have hw : BitVec.ofInt 64 ((h.n.l.length : Int) + (p : Int)) = BitVec.ofNat 64 (h.n.l.length + p) := by
      rw [show (h.n.l.length : Int) + (p : Int) = ((h.n.l.length + p : Nat) : Int) by omega, BitVec.ofInt_natCast]
    have hw2 := lenN2 (n := h.n.l.length + p) (by omega)
    rw [hw]
    refine call_same (fn_qwide (BitVec.ofNat 64 (h.n.l.length + p)) 2 (.inr (.inl rfl)) hw2.1 hw2.2) [] rfl (by (repeat first | exact trivial | refine ⟨rfl, ?_⟩ | refine ⟨fun _ _ => ⟨rfl, trivial⟩, ?_⟩ | refine ⟨fun _ _ => trivial, ?_⟩ | refine ⟨by omega, ?_⟩ | refine ⟨fun _ _ => eqC_winS, ?_⟩ | refine ⟨fun _ _ => eqC_winM, ?_⟩ | refine ⟨fun _ _ => eqC_winB, ?_⟩ | refine ⟨fun _ _ => eqC_selfB, ?_⟩ | refine ⟨fun _ _ => eqC_mpB, ?_⟩)) trivial (fun _ _ => trivial) ?_
    rintro x hs' ⟨cw, hcw, rfl, rfl⟩
    refine ⟨by show 0 + (wideL (BitVec.ofNat 64 (h.n.l.length + p)) 2).length ≤ cw; rw [wideL_len]; omega, ?_⟩
    have wl2 : (wideL (BitVec.ofNat 64 (h.n.l.length + p)) 2).length = 2 := wideL_len _ _
    refine ⟨⟨by omega, by simp only [scale]; omega, by show ((B.length + (longL h.k.l).length) + (wideL (BitVec.ofNat 64 (h.n.l.length + p)) 2).length) * 1 ≤ 140737488355328; omega⟩, fun c22 hc22 => ?_⟩
    (repeat first | refine And.intro (by omega) ?_ | refine And.intro (by decide) ?_ | refine And.intro rfl ?_ | refine And.intro (fun _ => ?_) (fun h => Bool.noConfusion h) | refine And.intro (fun h => Bool.noConfusion h) (fun _ => ?_) | refine And.intro (fun _ => ?_) (fun h => absurd h (by rw [e5]; decide)) | refine And.intro (fun h => absurd h (by rw [e5]; decide)) (fun _ => ?_) | refine And.intro (fun _ => ?_) (fun h => absurd h (by rw [e6]; decide)) | refine And.intro (fun h => absurd h (by rw [e6]; decide)) (fun _ => ?_) | refine And.intro (fun _ => ?_) (fun h => absurd h (by rw [e7]; decide)) | refine And.intro (fun h => absurd h (by rw [e7]; decide)) (fun _ => ?_))
    refine sn_bts rfl ho.n.fit (fun h => by rw [ho.n.nil h]; rfl) (fun g123 hg123 => ?_)
    refine ⟨⟨by omega, by simp only [scale]; omega, by show (((B.length + (longL h.k.l).length) + (wideL (BitVec.ofNat 64 (h.n.l.length + p)) 2).length) + h.n.l.length) * 1 ≤ 140737488355328; omega⟩, fun c24 hc24 => ?_⟩
    have hP : (((B ++ longL h.k.l) ++ wideL (BitVec.ofNat 64 (h.n.l.length + p)) 2) ++ h.n.l) = putH h p := by rw [← hB]; unfold putH fstB; simp [h7]
    have hPl : (putH h p).length = (((B.length + (longL h.k.l).length) + (wideL (BitVec.ofNat 64 (h.n.l.length + p)) 2).length) + h.n.l.length) := by rw [← hP]; simp; try omega
    refine ⟨.a (.c (.sl 4 0 0 (putH h p).length c24)), _, ⟨[0, 1, 2, 3, 12], ⟨rfl, rfl, rfl⟩, ?_⟩, c24, by omega, rfl, rfl⟩
    refine ⟨rfl, hPl.symm, rfl, ?_⟩
    refine eqC_bts (eqC_bts (eqC_bts (eqC_bts ?_)))
    refine ⟨rfl, fun i hi => eqC_bytes (fun i hi => ?_) i, trivial⟩
    rw [hPl] at hi
    rw [← hP]
    exact (fun i hi => app_row (l := ((B ++ longL h.k.l) ++ wideL (BitVec.ofNat 64 (h.n.l.length + p)) 2)) (m := h.n.l) (by simp only [List.length_append, List.length_cons, List.length_nil, wideL_len]; try omega) (by simp only [List.length_append, List.length_cons, List.length_nil, wideL_len]; try omega) (fun i hi => app_row (l := (B ++ longL h.k.l)) (m := wideL (BitVec.ofNat 64 (h.n.l.length + p)) 2) (by simp only [List.length_append, List.length_cons, List.length_nil, wideL_len]; try omega) (by simp only [List.length_append, List.length_cons, List.length_nil, wideL_len]; try omega) (fun i hi => by show SC.mp _ (bytesF _ _ i) = _; rw [bytesF_lt (by simpa using hi)]; rfl) (fun i hi => by show SC.mp _ (bytesF _ _ i) = _; rw [bytesF_lt hi]; rfl) i hi) hg123 i hi) i hi
end Sx
end Go.Proofs.Ytkjdkeolkigibaa
end

section
/-
  Headers: the law's fixed fact. No condition.
-/
namespace Go.Proofs.Ytkjdkeolkigibaa
set_option linter.unusedVariables false
namespace Sx
open Sha Vi

def awH : Hd := ⟨2#8, ⟨false, 1, 0, 1, [120#8]⟩, nilS, nilS, true, ⟨false, 1, 0, 1, [7#8]⟩⟩
theorem awH_ok : awH.Ok := ⟨lit_ok (l := [120#8]) (by decide), nil_ok, nil_ok, lit_ok (l := [7#8]) (by decide)⟩
theorem awH_put : putE awH 5 = 0 ∧ putH awH 5 = [68#8, 120#8, 7#8] := by decide
set_option maxRecDepth 20000 in
theorem fn_awake9 : Fn Try.prog tds 12 [] [] (fun _ => True) (fun x hs => x = .a (.c (.bool true)) ∧ hs = []) := by
  refine fn_of_body tds_ok follows_ Try.func12 rfl (t := anys (Try.f12.ntmps)) rfl (fun w r0 hr _ => ?_)
  obtain rfl : r0 = [] := List.eq_nil_of_length_eq_zero hr
  (repeat first | refine And.intro (by omega) ?_ | refine And.intro (by decide) ?_ | (with_reducible refine frc_parts (by first | omega | decide) ?_) | (with_reducible refine frc_bytesL (by first | omega | decide) ?_) | refine And.intro rfl ?_)
  refine call_same (fn_hput awH awH_ok 5) [0, 0, 0, 1] rfl (by (repeat first | exact trivial | refine ⟨rfl, ?_⟩ | refine ⟨fun _ _ => ⟨rfl, trivial⟩, ?_⟩ | refine ⟨fun _ _ => trivial, ?_⟩ | refine ⟨by omega, ?_⟩ | refine ⟨fun _ _ => eqC_winS, ?_⟩ | refine ⟨fun _ _ => eqC_winM, ?_⟩ | refine ⟨fun _ _ => eqC_winB, ?_⟩ | refine ⟨fun _ _ => eqC_selfB, ?_⟩ | refine ⟨fun _ _ => eqC_mpB, ?_⟩)) ?_ (fun _ _ => trivial) ?_
  · refine ⟨rfl, fun j hj => eqC_lit [120#8] hj, ?_⟩
    (repeat first | exact trivial | refine ⟨rfl, ?_⟩ | refine ⟨fun _ _ => ⟨rfl, trivial⟩, ?_⟩ | refine ⟨fun _ _ => trivial, ?_⟩ | refine ⟨by omega, ?_⟩ | refine ⟨fun _ _ => eqC_winS, ?_⟩ | refine ⟨fun _ _ => eqC_winM, ?_⟩ | refine ⟨fun _ _ => eqC_winB, ?_⟩ | refine ⟨fun _ _ => eqC_selfB, ?_⟩ | refine ⟨fun _ _ => eqC_mpB, ?_⟩)
    refine ⟨fun j hj => eqC_lit [7#8] hj, ?_⟩
    (repeat first | exact trivial | refine ⟨rfl, ?_⟩ | refine ⟨fun _ _ => ⟨rfl, trivial⟩, ?_⟩ | refine ⟨fun _ _ => trivial, ?_⟩ | refine ⟨by omega, ?_⟩ | refine ⟨fun _ _ => eqC_winS, ?_⟩ | refine ⟨fun _ _ => eqC_winM, ?_⟩ | refine ⟨fun _ _ => eqC_winB, ?_⟩ | refine ⟨fun _ _ => eqC_selfB, ?_⟩ | refine ⟨fun _ _ => eqC_mpB, ?_⟩)
  rintro x hs ⟨-, hx⟩
  obtain ⟨c, hc, rfl, rfl⟩ := hx awH_put.1
  clear hx
  have e5 : putH awH (Int.toNat 5) = [68#8, 120#8, 7#8] := awH_put.2
  rw [e5] at hc ⊢
  (repeat first | refine And.intro (by omega) ?_ | refine And.intro (by decide) ?_ | refine And.intro rfl ?_ | refine And.intro (fun _ => ?_) (fun h => Bool.noConfusion h) | refine And.intro (fun h => Bool.noConfusion h) (fun _ => ?_))
  refine ⟨by show 0 + 3 ≤ c; exact hc, U8 [68#8, 120#8, 7#8], str_of rfl (fun q hq => mp_row (l := [68#8, 120#8, 7#8]) q hq), ?_⟩
  (repeat first | refine And.intro (by omega) ?_ | refine And.intro (by decide) ?_ | refine And.intro rfl ?_ | refine And.intro (fun _ => ?_) (fun h => Bool.noConfusion h) | refine And.intro (fun h => Bool.noConfusion h) (fun _ => ?_))
  refine ⟨.a (.c (.bool true)), [], ⟨[], ⟨rfl, rfl, rfl⟩, ?_⟩, rfl, rfl⟩
  exact ⟨by decide, trivial⟩
end Sx
end Go.Proofs.Ytkjdkeolkigibaa
end

section
/-
  From a function over blocks to a law's walk: arguments opened. Over any program. No condition of its own.
-/
namespace Go.Proofs.Ytkjdkeolkigibaa
set_option linter.unusedVariables false
namespace Sx
open Go.RowKit Go.ChangeShapes Go.WideShapes

section
variable {H : Type} {enc : TypeId × Value → H} {P : Program} {w : World} {base : Nat} {sp : Nat → Bool} {held : Bool}
theorem wf_w8 {a : Int} (h : (Lit.int .u8 a).wf = true) : a = ((BitVec.ofInt 8 a).toNat : Int) := by
  have := bounds_u8 h
  rw [BitVec.toNat_ofInt]
  omega
/-- An array of bytes as an argument. -/
theorem open_arr8 {n : Nat} {t e : TypeId} (ht : P.underlying t = some (.array n e)) (he : P.underlying e = some (.int .u8)) (hc : P.cellsOf e = 1) (hn : P.cellsOf t = n) {r : Reach} {b0 : Nat} {v : Value} {d : DataW H} {p : List MemPlace}
    (hval : Value.okWide P w r b0 t v) (h : DataW.Trod enc P w base sp held t v d p) : ∃ f : Nat → BitVec 8, v = .agg ((List.range n).map fun i => Value.int .u8 ((f i).toNat : Int)).toArray := by
  obtain ⟨cs, rfl, hsz⟩ : ∃ cs, v = .agg cs ∧ cs.size = P.cellsOf t := by
    simp only [Value.okWide, ht] at hval
    obtain ⟨cs, h1, h2, _⟩ := hval
    exact ⟨cs, h1, h2⟩
  obtain ⟨fuel, hf⟩ := h
  obtain ⟨xs, m, _, _, hl, hx, hel⟩ := DataW.trod_array ht hf
  have cell : ∀ i, i < n → ∃ x : Int, cs[i]? = some (.int .u8 x) ∧ (Lit.int .u8 x).wf = true := by
    intro i hi
    have h1 := hel i hi
    rw [hc, Nat.mul_one, List.getElem?_eq_getElem (by omega)] at h1
    obtain ⟨x, e1, _, wx⟩ := DataW.trod_int he h1
    refine ⟨x, ?_, wx⟩
    have hi2 : i < cs.size := by omega
    have h2 : ((Value.agg cs).cells.toList.drop i).take 1 = [cs[i]] := by
      show (cs.toList.drop i).take 1 = _
      rw [List.drop_eq_getElem_cons (by simpa using hi2)]
      rfl
    rw [h2] at e1
    simp at e1
    rw [Array.getElem?_eq_getElem hi2, e1]
  refine ⟨fun i => match cs[i]? with | some (.int .u8 x) => BitVec.ofInt 8 x | _ => 0#8, ?_⟩
  congr 1
  apply Array.ext
  · simp; omega
  · intro i h1 h2
    obtain ⟨x, e, wx⟩ := cell i (by omega)
    rw [Array.getElem?_eq_getElem h1] at e
    simp only [List.getElem_toArray, List.getElem_map, List.getElem_range, Array.getElem?_eq_getElem h1]
    simp only [Option.some.injEq] at e
    rw [e]
    simp only
    exact congrArg _ (wf_w8 wx)
end
theorem isAs_nil (r : Rho) : IsAs r [] [] := ⟨rfl, fun j x e => by simp at e⟩
theorem isAs_cons {r : Rho} {x : SA} {v : Value} {l : List SA} {vs : List Value} (h : SA.Is r x v) (hs : IsAs r l vs) : IsAs r (x :: l) (v :: vs) :=
  ⟨by simpa using hs.1, fun j y e => by
    cases j with
    | zero => simp at e; subst e; exact ⟨v, rfl, h⟩
    | succ j => exact hs.2 j y e⟩
theorem is_row {r : Rho} {n : Nat} {f : Nat → BitVec 8} : SA.Is r (.agg [.row n fun i => .w8 (f i)]) (.agg ((List.range n).map fun i => Value.int .u8 ((f i).toNat : Int)).toArray) := by
  refine ⟨_, rfl, by simp [flat], fun j x e => ?_⟩
  simp only [flat, List.append_nil, List.getElem?_map, Option.map_eq_some_iff] at e ⊢
  obtain ⟨i, hi, rfl⟩ := e
  exact ⟨_, ⟨i, hi, rfl⟩, rfl⟩
/-- A law's walk. -/
theorem Fn.law {P : Program} {T : List (Nat × TD)} {f : FuncId} {args : List SA} {raw : World → Prop} (h : Fn P T f [] args raw (fun x hs => x = .a (.c (.bool true)) ∧ hs = [])) {w : World} {vs : List Value} (ha : IsAs [] args vs) (hr : raw w) :
    Calls P f vs.toArray w fun e w' => e = .returned (.bool true) ∧ Below w.heap.size w w' := by
  refine (Fn.calls h ha hr).mono ?_
  rintro e w' ⟨v, x, hs, r', rfl, hx, hok, rfl, rfl⟩
  obtain rfl : v = .bool true := hx
  exact ⟨rfl, hok.ext.below0⟩
end Sx
end Go.Proofs.Ytkjdkeolkigibaa
end

section
/-
  From a function over blocks that are only read to a law's walk: slices of bytes that came in. Over any program. No condition of its own.
-/
namespace Go.Proofs.Ytkjdkeolkigibaa
set_option linter.unusedVariables false
namespace Sx
open Go.RowKit Go.ChangeShapes Go.WideShapes Sha

theorem okWide_spot {P : Program} {w : World} {r : Reach} {b0 : Nat} {t e : TypeId} {a : Option Addr} {n c : Nat} (ht : P.underlying t = some (.slice e)) (h : Value.okWide P w r b0 t (.slice a n c)) : ∀ x, a = some x → x.spot = none := by
  rintro x rfl
  simp only [Value.okWide, ht, Cell.okWide, Cell.ok] at h
  exact h.2.2.2.1
/-- A slice of bytes that came in: nil (z) or not, its bytes, where they lie. -/
structure InB (w : World) (a : Option Addr) (n c : Nat) (z : Bool) (l : Bs) (B f : Nat) : Prop where
  len : l.length = n
  le : n ≤ c
  cap : c ≤ maxLen
  nil : z = true → l = []
  val : ∀ (r : Rho) (i : Nat), r[i]? = some (B, f) → SC.Is r (.sn z i 0 0 n c) (.slice a n c)
  at_ : ∀ r : Rho, At false r w B f (flat (bts z n 0 n (L l)))
theorem open_b8 {w : World} {a : Option Addr} {len cap : Nat} {zs : List Int} (h : IsRow .u8 w a len cap zs) (hs : ∀ x, a = some x → x.spot = none) : ∃ z l B f, InB w a len cap z l B f := by
  rcases h with ⟨rfl, rfl, rfl, rfl⟩ | ⟨x, rfl, hl, hm, hz, hc, hw⟩
  · exact ⟨true, [], 0, 0, rfl, Nat.le_refl _, by unfold maxLen; omega, fun _ => rfl, fun r i _ => .inl ⟨rfl, rfl, rfl, rfl⟩, fun r j y e => by simp [bts, flat] at e⟩
  · obtain ⟨B, f, spot⟩ := x
    obtain rfl : spot = none := hs _ rfl
    refine ⟨false, (zs.take len).map (BitVec.ofInt 8), B, f, by simp; omega, hl, hm, fun h => Bool.noConfusion h, fun r i hr => .inr (.inl ⟨rfl, B, f, hr, rfl⟩), fun r j y e => ?_⟩
    have hj : j < len := by
      rcases Nat.lt_or_ge j len with h | h
      · exact h
      · rw [List.getElem?_eq_none (by simpa [bts, flat] using h)] at e; cases e
    have e2 : y = .w8 (L ((zs.take len).map (BitVec.ofInt 8)) j) := by
      simp only [bts, flat, List.append_nil, List.getElem?_map, Option.map_eq_some_iff] at e
      obtain ⟨i, hi, rfl⟩ := e
      rw [List.getElem?_range (by omega)] at hi
      injection hi with hi
      subst hi
      have := winF_at 0 len (L ((zs.take len).map (BitVec.ofInt 8))) hj
      rwa [Nat.zero_add] at this
    subst e2
    have hc1 := hc j (by omega)
    have ha : (⟨B, f, none⟩ : Addr).add j = ⟨B, f + j, none⟩ := by unfold Addr.add; simp
    rw [ha] at hc1
    refine ⟨_, hc1, ?_, fun h => Bool.noConfusion h⟩
    show Value.int .u8 _ = Value.int .u8 _
    congr 1
    have hjz : j < zs.length := by omega
    have h3 : zs.getD j 0 = zs[j] := by rw [List.getD_eq_getElem?_getD, List.getElem?_eq_getElem hjz]; rfl
    have h4 : L ((zs.take len).map (BitVec.ofInt 8)) j = BitVec.ofInt 8 zs[j] := by
      rw [L_lt (by simp; omega)]
      simp
    rw [h3, h4]
    exact wf_w8 (hw _ (List.getElem_mem _))
/-- The blocks lie where r says. -/
def AllAt (R : Rho) (w : World) : List (List Seg) → Rho → Prop
  | [], [] => True
  | ch :: h, (B, f) :: r => At false R w B f (flat ch) ∧ AllAt R w h r
  | _, _ => False
theorem AllAt.len {R : Rho} {w : World} : ∀ {h : List (List Seg)} {r : Rho}, AllAt R w h r → r.length = h.length
  | [], [], _ => rfl
  | _ :: h, _ :: r, k => by rw [List.length_cons, List.length_cons, AllAt.len k.2]
  | [], _ :: _, k => k.elim
  | _ :: _, [], k => k.elim
theorem AllAt.get {R : Rho} {w : World} : ∀ {h : List (List Seg)} {r : Rho}, AllAt R w h r → ∀ (i : Nat) (ch : List Seg) (B f : Nat), h[i]? = some ch → r[i]? = some (B, f) → At false R w B f (flat ch)
  | [], [], _, i, _, _, _, e, _ => by simp at e
  | c :: h, (B', f') :: r, k, 0, _, _, _, e1, e2 => by
    simp at e1 e2
    obtain ⟨rfl, rfl⟩ := e2
    subst e1
    exact k.1
  | c :: h, (B', f') :: r, k, i + 1, _, _, _, e1, e2 => k.2.get i _ _ _ (by simpa using e1) (by simpa using e2)
theorem heapOk_ro {P : Program} {T : List (Nat × TD)} {w : World} {r0 : Rho} {h0 : List (List Seg)} (hat : AllAt r0 w h0 r0) : HeapOk (cx0 P T w r0 h0.length h0) h0 r0 w := by
  have hlen := hat.len
  have hget : ∀ i, h0[i]? = some (getH h0 i) ∨ h0[i]? = none := fun i => by
    rcases Nat.lt_or_ge i h0.length with h | h
    · exact .inl (by rw [List.getElem?_eq_getElem h]; have := getH_eq h0 i; rw [List.getElem?_eq_getElem h] at this; simpa using this.symm)
    · exact .inr (List.getElem?_eq_none h)
  have out : ∀ (i : Nat) (x : Nat × Nat), h0.length ≤ i → r0[i]? = some x → False := fun i x hi e => by
    rw [List.getElem?_eq_none (by omega)] at e; cases e
  refine ⟨Ext.refl _ _, RLe.refl _, Nat.le_of_eq hlen.symm, hlen, fun i ch B f hi hr => ?_, fun i B f ho hr => (out i _ ho hr).elim, fun i B f ho hr => (out i _ ho hr).elim, fun i B f ho hl hr => ?_, fun i ch ho hl hi => ?_, fun i j B f f' ch ch' hij o1 o2 h1 h2 r1 r2 => (out i _ o1 r1).elim⟩
  · have hil : i < h0.length := (List.getElem?_eq_some_iff.1 hi).1
    have : Nat.ble h0.length i = false := by
      cases e : Nat.ble h0.length i
      · rfl
      · have := ble_le e; omega
    show At (Nat.ble h0.length i) _ _ _ _ _
    rw [this]
    exact hat.get i ch B f hi hr
  · refine ⟨?_, ?_⟩
    · show B ∉ (r0.drop h0.length).map (·.1)
      rw [List.drop_eq_nil_of_le (by omega)]
      simp
    · rcases hget i with e | e
      · exact (hat.get i _ B f e hr).lt hl
      · rw [List.getElem?_eq_none_iff] at e
        exact (out i _ e hr).elim
  · have hl : ¬ flat (getH h0 i) ≠ [] := hl
    rcases hget i with e | e
    · rw [hi] at e
      injection e with e
      rw [e]
      exact Classical.not_not.1 hl
    · rw [hi] at e; cases e
/-- A law's walk: what came in is only read. -/
theorem FnR.law {P : Program} {T : List (Nat × TD)} {f : FuncId} {n : Nat} {h0 : List (List Seg)} {args : List SA} {raw : World → Prop} {w : World} {vs : List Value} {r0 : Rho} (h : FnR P T f n h0 args raw (fun x _ => x = .a (.c (.bool true)))) (hn : n = h0.length)
    (hat : AllAt r0 w h0 r0) (ha : IsAs r0 args vs) (hr : raw w) :
    Calls P f vs.toArray w fun e w' => e = .returned (.bool true) ∧ Below w.heap.size w w' := by
  subst hn
  refine (h w r0 vs (heapOk_ro hat) ha hr).mono ?_
  rintro e w' ⟨v, x, hs, r', rfl, hx, hok, rfl⟩
  obtain rfl : v = .bool true := hx
  refine ⟨rfl, ?_⟩
  have e : Ext ((r0.drop h0.length).map (·.1)) w w' := hok.ext
  rw [List.drop_eq_nil_of_le (by rw [hat.len]; exact Nat.le_refl _)] at e
  exact e.below0
end Sx
end Go.Proofs.Ytkjdkeolkigibaa
end

section
/-
  From a function over blocks to a law's walk: structs with slices of bytes that came in. Over any program. No condition of its own.
-/
namespace Go.Proofs.Ytkjdkeolkigibaa
set_option linter.unusedVariables false
namespace Sx
open Go.RowKit Go.ChangeShapes Go.WideShapes Sha Vi

theorem cell_spot {P : Program} {w : World} {r : Reach} {b0 : Nat} {u : TypeId} {x : Addr} {n c : Nat} (hk : Cell.okWide P w r b0 u (.slice (some x) n c)) : x.spot = none := by
  cases hu : P.underlying u with
  | none => simp only [Cell.okWide, Cell.ok, hu] at hk
  | some d =>
    cases d <;> simp only [Cell.okWide, Cell.ok, hu] at hk
    exact hk.2.2.2.1
theorem okWide_cells {P : Program} {w : World} {r : Reach} {b0 : Nat} {t : TypeId} {fs : Array Field} {cs : Array Value} (ht : P.underlying t = some (.struct fs)) (h : Value.okWide P w r b0 t (.agg cs)) {i : Nat} {a : Option Addr} {n c : Nat} (hc : cs[i]? = some (.slice a n c)) : ∀ x, a = some x → x.spot = none := by
  rintro x rfl
  simp only [Value.okWide, ht] at h
  obtain ⟨cs', e, _, ts, _, _, hcell⟩ := h
  injection e with e
  subst e
  obtain ⟨u, _, hk⟩ := hcell i _ hc
  exact cell_spot hk
theorem isL_nil (r : Rho) : IsL r [] [] := ⟨rfl, fun j x e => by simp at e⟩
theorem isL_cons {r : Rho} {x : SC} {v : Value} {l : List SC} {vs : List Value} (h : x.Is r v) (hs : IsL r l vs) : IsL r (x :: l) (v :: vs) :=
  ⟨by simpa using hs.1, fun j y e => by
    cases j with
    | zero => simp at e; subst e; exact ⟨v, rfl, h⟩
    | succ j => exact hs.2 j y e⟩
/-- What slices of bytes keep to, however long. -/
structure Sl.Fit (s : Sl) : Prop where
  fit : s.o + s.l.length ≤ s.N
  cap : s.l.length ≤ s.c
  nil : s.z = true → s.l = []
theorem Sl.Fit.ok {s : Sl} (h : s.Fit) (hs : s.l.length ≤ 1000000) : s.Ok := ⟨h.fit, h.cap, h.nil, hs⟩
/-- A slice that came in. -/
abbrev slI (z : Bool) (c : Nat) (l : Bs) : Sl := ⟨z, l.length, 0, c, l⟩
theorem InB.fit {w : World} {a : Option Addr} {n c : Nat} {z : Bool} {l : Bs} {B f : Nat} (h : InB w a n c z l B f) : (slI z c l).Fit :=
  ⟨by simp, by have := h.len; have := h.le; show l.length ≤ c; omega, h.nil⟩
theorem InB.val' {w : World} {a : Option Addr} {n c : Nat} {z : Bool} {l : Bs} {B f : Nat} (h : InB w a n c z l B f) {r : Rho} {i : Nat} (hr : r[i]? = some (B, f)) : (svC i (slI z c l)).Is r (.slice a n c) := by
  have := h.val r i hr
  rw [← h.len] at this ⊢
  exact this
theorem InB.at' {w : World} {a : Option Addr} {n c : Nat} {z : Bool} {l : Bs} {B f : Nat} (h : InB w a n c z l B f) (r : Rho) : At false r w B f (flat (svB (slI z c l))) := by
  have := h.at_ r
  rw [← h.len] at this
  exact this
end Sx
end Go.Proofs.Ytkjdkeolkigibaa
end
